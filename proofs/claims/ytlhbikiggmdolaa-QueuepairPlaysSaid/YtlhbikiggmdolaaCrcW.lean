/- The walks of the checksum's functions: the program's (by a table) and the reference's (bit by bit). -/
import Derived.Test.YtlhbikiggmdolaaCrc
import Derived.Test.YtlhbikiggmdolaaHeap2
import Derived.Test.YtlhbikiggmdolaaProg
import Derived.BigQuiet
import Derived.Deep.QuietTactic
import Derived.StillTactics
import Derived.RegionTactic
namespace Go.Proofs.Ytlhbikiggmdolaa
open Go.RowKit

theorem and_one (r : Nat) (h : r < 2 ^ 64) : bits .and .u64 (r : Int) 1 = ((r % 2 : Nat) : Int) := by
  have := u64_and_nat r 1 (by omega) (by decide)
  rw [show ((1 : Nat) : Int) = 1 from rfl] at this
  rw [this, Nat.and_one_is_mod]
theorem step_odd (r : Nat) (h : r < 2 ^ 64) (e : r % 2 = 1) : bits .xor .u64 ((r : Int) / 2) 14514072000185962306 = ((stepR r : Nat) : Int) := by
  have := u64_xor_nat (r / 2) 14514072000185962306 (by omega) (by decide)
  unfold stepR
  rw [if_pos e]
  exact this
theorem step_even (r : Nat) (e : ¬ r % 2 = 1) : ((r : Int) / 2) = ((stepR r : Nat) : Int) := by
  unfold stepR
  rw [if_neg e]; rfl

def tabC (k : Nat) : List Value := (List.range 256).map fun i => Value.int .u64 (if i < k then (stepN 8 i : Nat) else 0)
theorem tabC_length (k : Nat) : (tabC k).length = 256 := by simp [tabC]
theorem tabC_get (k i : Nat) (h : i < 256) : (tabC k)[i]? = some (.int .u64 (if i < k then (stepN 8 i : Nat) else 0)) := by simp [tabC, h]
theorem tabC_set (k : Nat) (h : k < 256) : (tabC k).set k (.int .u64 (stepN 8 k : Nat)) = tabC (k + 1) := by
  apply List.ext_getElem?
  intro i
  rw [List.getElem?_set]
  by_cases e : k = i
  · subst e
    rw [if_pos rfl, if_pos (by rw [tabC_length]; exact h), tabC_get _ _ h, if_pos (by omega)]
  · rw [if_neg e]
    by_cases hi : i < 256
    · rw [tabC_get _ _ hi, tabC_get _ _ hi]
      by_cases h2 : i < k
      · rw [if_pos h2, if_pos (by omega)]
      · rw [if_neg h2, if_neg (by omega)]
    · rw [List.getElem?_eq_none (by rw [tabC_length]; omega), List.getElem?_eq_none (by rw [tabC_length]; omega)]
noncomputable def tabZ : Array Value := Array.replicate 256 (.int .u64 0)
theorem tabZ_list : tabZ.toList = tabC 0 := by
  unfold tabZ tabC
  rw [Array.toList_replicate]
  apply List.ext_getElem?
  intro i
  rw [List.getElem?_replicate, List.getElem?_map]
  by_cases h : i < 256
  · rw [if_pos h, List.getElem?_range h]; rfl
  · rw [if_neg h, List.getElem?_eq_none (by rw [List.length_range]; omega), Option.map_none]
theorem zero_tab (w : World) : (zeroValue 211).run Try.prog w = .ok (.agg tabZ) w := by kernel_rfl

theorem info_tab (c : Array Value) (h : c.size = 256) : (Try.prog.info? 211).map (·.size) = some c.size := by rw [h]; kernel_rfl
theorem tab_one (k : Nat) : (tabC k).toArray.all (·.oneCell') = true := by
  rw [Array.all_eq_true_iff_forall_mem]
  intro v hv
  simp only [List.mem_toArray, tabC, List.mem_map] at hv
  obtain ⟨i, _, rfl⟩ := hv
  rfl

def TabIn (k : Nat) (W : World) (j v : Value) (wr : World) : Prop := ∃ i r : Nat, i ≤ 8 ∧ j = .int .i64 i ∧ v = .int .u64 r ∧ r = stepN i k ∧ wr = W
def TabOut (W : World) (b : Nat) (j : Value) (wr : World) : Prop := ∃ k : Nat, k ≤ 256 ∧ j = .int .i64 k ∧ Row wr b 211 (tabC k) ∧ Upd (One b) W wr

set_option maxRecDepth 100000 in
theorem table_calls (w : World) : Calls Try.prog 183 #[] w fun e w' => e = .returned (.agg (tabC 256).toArray) ∧ Upd Non w w' := by
  have HZ := zero_tab
  go_enter Try.func183, Try.ntmps183
  go_wp2_with fail
  have hr0 : Row (w.alloc (.cells tabZ 211)) w.heap.size 211 (tabC 0) := by
    have := Row.new w tabZ 211
    rw [tabZ_list] at this; exact this
  have hu0 : Upd Non w (w.alloc (.cells tabZ 211)) := (Upd.refl _ _).alloc _
  have hb : w.heap.size < (w.alloc (.cells tabZ 211)).heap.size := hr0.lt
  generalize w.alloc (.cells tabZ 211) = W at *
  have HU0 := Lib.hid hu0
  have HR0 := Lib.hid hr0
  generalize hbb : w.heap.size = b at *
  have HBB := Lib.hid hbb
  clear hu0 hr0 HZ hbb
  go_loopw [3] (fun j wr => TabOut W b j wr) (fun j _ => 256 - (intOf j).toNat)
  case atStart => exact ⟨0, by omega, rfl, HR0.out, Upd.refl _ _⟩
  case round =>
    obtain ⟨k, hk, rfl, hrow, hupd⟩ := hrel
    have HR := Lib.hid hrow
    have HU := Lib.hid hupd
    clear hrow hupd HR0
    by_cases hlt : k < 256
    · have hk0 : 0 ≤ (k : Int) := by omega
      have hk1 : (k : Int) < 256 := by omega
      go_wp2_with fail
      go_loopw [8, 2] (fun j v wl => TabIn k wr j v wl) (fun j _ _ => 8 - (intOf j).toNat)
      case atStart => exact ⟨0, k, by omega, rfl, by simp <;> omega, rfl, rfl⟩
      case round =>
        obtain ⟨i, r, hi, rfl, rfl, hrk, rfl⟩ := hrel
        have hrl : r < 2 ^ 64 := by rw [hrk]; exact stepN_lt i (by omega)
        have HRK := Lib.hid hrk
        clear hrk
        by_cases hi8 : i < 8
        · by_cases hodd : r % 2 = 1
          · have h1 := and_one r hrl
            rw [hodd] at h1
            have h2 := step_odd r hrl hodd
            have hs : stepR r = stepN (i + 1) k := by rw [stepN_succ, ← HRK.out]
            have HS := Lib.hid hs
            clear hs hodd hrl
            go_wp2_with fail
            go_round
            case rel => exact ⟨i + 1, stepR r, by omega, by go_num, rfl, HS.out, rfl⟩
            case measure => simp [intOf]; omega
          · have h1 := and_one r hrl
            have h0 : r % 2 = 0 := by omega
            rw [h0] at h1
            have h2 := step_even r hodd
            have hs : stepR r = stepN (i + 1) k := by rw [stepN_succ, ← HRK.out]
            have HS := Lib.hid hs
            clear hs hodd hrl h0
            go_wp2_with fail
            go_round
            case rel => exact ⟨i + 1, stepR r, by omega, by go_num, rfl, HS.out, rfl⟩
            case measure => simp [intOf]; omega
        · have hi' : i = 8 := by omega
          subst hi'
          have hz0 := HR.out.frozen k
          have hc0 := HR.out.cell k (tabC_get k k hlt)
          have hr2 := HR.out.set k (.int .u64 (stepN 8 k : Nat))
          rw [tabC_set k hlt] at hr2
          have HR2 := Lib.hid hr2
          have HU2 := Lib.hid (HU.out.setCell (p := ⟨b, k, none⟩) (.inl rfl) (.int .u64 r))
          clear hr2 HR HU hrl
          go_wp2_with fail
          go_round
          case rel => exact ⟨k + 1, by omega, by go_num, by rw [HRK.out]; exact HR2.out, HU2.out⟩
          case measure => simp [intOf]; omega
    · have hk' : k = 256 := by omega
      subst hk'
      have hi := info_tab (tabC 256).toArray (by simp [tabC_length])
      have hone := tab_one 256
      have hr2 := setRow_row HR.out (tabC 256)
      have HR2 := Lib.hid hr2
      have HU2 := Lib.hid (HU.out.tr (setRow_upd wr b (tabC 256).toArray))
      have HI := Lib.hid hi
      have HO := Lib.hid hone
      clear hi hone hr2 hb
      go_wp2_with (first
        | (refine wpList_load_row rfl 211 _ rfl b rfl 211 _ (0, 0) _ HR.out Try.underlying211 rfl HI.out ?_)
        | (refine wpList_store_row rfl 211 _ _ rfl b _ rfl rfl 211 _ HR.out HI.out rfl HO.out ?_))
      refine bodyPost_ret (v := .agg (tabC 256).toArray) (results_cell_row rfl _ _ b 211 _ (0, 0) _ rfl HR2.out Try.underlying211 rfl HI.out) rfl ?_
      exact ⟨rfl, HU0.out.trans HU2.out fun i hi h => by have h : i = b := h; have := HBB.out; omega⟩

def u8s (l : List Nat) : List Value := l.map fun x : Nat => Value.int .u8 x
theorem u8s_length (l : List Nat) : (u8s l).length = l.length := by simp [u8s]
theorem u8s_get (l : List Nat) (i : Nat) : (u8s l)[i]? = (l[i]?).map fun x : Nat => Value.int .u8 x := by simp [u8s]
theorem u8s_append (l m : List Nat) : u8s (l ++ m) = u8s l ++ u8s m := by simp [u8s]
/-- All are bytes. -/
def Byt (l : List Nat) : Prop := ∀ x ∈ l, x < 256
theorem Byt.app {l m : List Nat} (h : Byt l) (g : Byt m) : Byt (l ++ m) := fun x hx => by
  rcases List.mem_append.1 hx with hx | hx
  · exact h x hx
  · exact g x hx
theorem Byt.get {l : List Nat} (h : Byt l) {i : Nat} (hi : i < l.length) : l[i] < 256 := h _ (List.getElem_mem hi)
theorem Byt.take {l : List Nat} (h : Byt l) (k : Nat) : Byt (l.take k) := fun x hx => h x (List.mem_of_mem_take hx)

theorem shr_pow8 (x : Int) : x / 2 ^ (Int.toNat 8) = x / 256 := rfl

def AddRel (r0 : Nat) (bs : List Nat) (W : World) (r i : Value) (wr : World) : Prop :=
  ∃ k s : Nat, k ≤ bs.length ∧ i = .int .i64 k ∧ r = .int .u64 s ∧ s = crcR r0 (bs.take k) ∧ wr = W

theorem crcadd_calls {w : World} {F : Blk} {A : Option Addr} {n cap bt r0 : Nat} {bs : List Nat} (hT : Row w bt 211 (tabC 256)) (hV : View w F 1 A n (u8s bs)) (hb : Byt bs) (hr : r0 < 2 ^ 64) (hn : n ≤ 140737488355328) :
    Calls Try.prog 184 #[.int .u64 r0, .pointer (some ⟨bt, 0, none⟩), .slice A n cap] w fun e w' => e = .returned (.int .u64 (crcR r0 bs : Nat)) ∧ w = w' := by
  have hl : bs.length = n := by have := hV.1; simpa [u8s] using this
  have HT := Lib.hid hT
  have HV := Lib.hid hV
  have HB := Lib.hid hb
  have HR := Lib.hid hr
  clear hT hV hb hr
  go_enter Try.func184, Try.ntmps184
  go_wp2_with fail
  go_loopw [0, 11] (fun r i wr => AddRel r0 bs w r i wr) (fun _ i _ => n - (intOf i).toNat)
  case atStart => exact ⟨0, r0, by omega, rfl, rfl, by simp [crcR], rfl⟩
  case round =>
    obtain ⟨k, s, hk, rfl, rfl, hs, rfl⟩ := hrel
    have hsl : s < 2 ^ 64 := by rw [hs]; exact crcR_lt HR.out (HB.out.take k)
    have HS := Lib.hid hs
    clear hs
    by_cases hlt : k < n
    · have hkb : k < bs.length := by omega
      obtain ⟨b, off, rfl, _, _, hc⟩ := HV.out.cell (i := k) (v := .int .u8 (bs[k] : Nat)) (by rw [u8s_get, List.getElem?_eq_getElem hkb]; rfl)
      have hx := HB.out.get hkb
      have hst : crcStep s bs[k] = crcR r0 (bs.take (k + 1)) := by
        rw [List.take_succ_eq_append_getElem hkb, crcR_snoc, ← HS.out]
      have HST := Lib.hid hst
      have hcl := crcStep_lt hsl hx
      have hj : bits .xor .u8 ((s : Int) % 256) ((bs[k] : Nat) : Int) = ((s % 256 ^^^ bs[k] : Nat) : Int) := u8_xor_nat (s % 256) bs[k] (by omega) hx
      have hjl : s % 256 ^^^ bs[k] < 256 := Nat.xor_lt_two_pow (n := 8) (by omega) (by omega)
      have hq : bits .xor .u64 ((s : Int) / 256) ((stepN 8 (s % 256 ^^^ bs[k]) : Nat) : Int) = ((crcStep s bs[k] : Nat) : Int) := u64_xor_nat (s / 256) _ (by omega) (stepN_lt 8 (by omega))
      have hcj := HT.out.cell _ (tabC_get 256 _ hjl)
      rw [if_pos hjl] at hcj
      generalize hgj : s % 256 ^^^ bs[k] = j at *
      generalize crcStep s bs[k] = s2 at *
      generalize bs[k] = x at *
      have hj0 : 0 ≤ (j : Int) := by omega
      have hj1 : (j : Int) < 256 := by omega
      generalize stepN 8 j = t at *
      clear hst hgj hcl hsl hx
      go_wp2_with fail
      go_round
      case rel => exact ⟨k + 1, s2, by omega, by go_num, by go_num, HST.out, rfl⟩
      case measure => simp [intOf]; omega
    · have hk' : k = n := by omega
      subst hk'
      go_wp2_with fail
      go_ret
      rw [List.take_of_length_le (by omega)] at HS
      exact ⟨by rw [HS.out]; rfl, rfl⟩

theorem not_bits (r : Nat) (h : r < 2 ^ 64) : bits .xor .u64 18446744073709551615 (r : Int) = ((not64 r : Nat) : Int) := by
  have := u64_xor_nat 18446744073709551615 r (by decide) (by omega)
  rw [show ((18446744073709551615 : Nat) : Int) = 18446744073709551615 from rfl] at this
  unfold not64
  exact this
theorem u64_signed : IntKind.u64.signed = false := rfl
theorem u64_max : IntKind.u64.max = 18446744073709551615 := rfl
theorem not64_0 : not64 0 < 2 ^ 64 := not64_lt (Nat.pow_pos (by decide))

set_option maxRecDepth 100000 in
theorem extend_calls {w : World} {F : Blk} {A : Option Addr} {n cap : Nat} {bs : List Nat} (hV : View w F 1 A n (u8s bs)) (hb : Byt bs) (hn : n ≤ 140737488355328) :
    Calls Try.prog 169 #[.int .u64 0, .slice A n cap] w fun e w' => e = .returned (.int .u64 (crcN bs : Nat)) ∧ Upd Non w w' := by
  have HZ := zero_tab
  have HV := Lib.hid hV.bound
  have HB := Lib.hid hb
  have hq := not_bits 0 (Nat.pow_pos (by decide))
  have hq : bits .xor .u64 18446744073709551615 0 = ((not64 0 : Nat) : Int) := hq
  have h64 := not64_0
  have H64 := Lib.hid h64
  have hnr := not_bits (crcR (not64 0) bs) (crcR_lt h64 hb)
  have hnr : bits .xor .u64 18446744073709551615 ((crcR (not64 0) bs : Nat) : Int) = ((crcN bs : Nat) : Int) := hnr
  have HI := Lib.hid (info_tab (tabC 256).toArray (by simp [tabC_length]))
  have HO := Lib.hid (tab_one 256)
  have hsz : tabZ.size = (tabC 256).toArray.size := by
    have := congrArg List.length tabZ_list
    simp [tabC_length] at this ⊢
    exact this
  have HSZ := Lib.hid hsz
  clear hV hb h64 hsz
  have HYY : Hid (not64 (crcR (not64 0) bs) = crcN bs) := Lib.hid rfl
  generalize not64 0 = z at *
  generalize crcN bs = y at *
  have hsg := u64_signed
  have hmx := u64_max
  go_enter Try.func169, Try.ntmps169
  go_wp2_with fail
  refine (table_calls _).mono ?_
  rintro e w1 ⟨rfl, hu1⟩
  have HU1 := Lib.hid hu1
  have hr0 : Row (w1.alloc (.cells tabZ 211)) w1.heap.size 211 tabZ.toList := Row.new w1 tabZ 211
  have HR0 := Lib.hid hr0
  have hr1 : Row ((w1.alloc (.cells tabZ 211)).setRow w1.heap.size (tabC 256).toArray) w1.heap.size 211 (tabC 256) := setRow_row hr0 (tabC 256)
  have HR1 := Lib.hid hr1
  have hu2 : Upd Non w1 ((w1.alloc (.cells tabZ 211)).setRow w1.heap.size (tabC 256).toArray) := by
    refine ((Upd.refl Non w1).alloc (.cells tabZ 211)).trans (setRow_upd _ w1.heap.size (tabC 256).toArray) fun i hi h => ?_
    have h : i = w1.heap.size := h
    omega
  have HU2 := Lib.hid hu2
  clear hu1 hr0 hr1 hu2
  go_wp2_with (refine wpList_store_row rfl 211 _ _ rfl w1.heap.size _ rfl rfl 211 _ HR0.out HI.out HSZ.out HO.out ?_)
  refine (crcadd_calls HR1.out ((HV.out.keep HU1.out (fun _ _ h => h)).keep HU2.out (fun _ _ h => h)) HB.out H64.out hn).mono ?_
  rintro e w' ⟨rfl, rfl⟩
  go_wp2_with fail
  go_ret
  exact ⟨ret_int (by rw [HYY.out]), HU1.out.tr HU2.out⟩

theorem crcbytes_calls {w : World} {F : Blk} {A : Option Addr} {n cap : Nat} {bs : List Nat} (hV : View w F 1 A n (u8s bs)) (hb : Byt bs) (hn : n ≤ 140737488355328) :
    Calls Try.prog 137 #[.slice A n cap] w fun e w' => e = .returned (.int .u64 (crcN bs : Nat)) ∧ Upd Non w w' := by
  have H := Lib.hid (extend_calls (cap := cap) hV hb hn)
  clear hV hb
  generalize crcN bs = y at *
  go_enter Try.func137, Try.ntmps137
  go_wp2_with fail
  refine H.out.mono ?_
  rintro e w' ⟨rfl, hu⟩
  have HU := Lib.hid hu
  clear hu
  go_wp2_with fail
  go_ret
  exact ⟨rfl, HU.out⟩

def RefIn (s0 : Nat) (W : World) (r j : Value) (wr : World) : Prop := ∃ i s : Nat, i ≤ 8 ∧ j = .int .i64 i ∧ r = .int .u64 s ∧ s = stepN i s0 ∧ wr = W

theorem refextend_calls {w : World} {F : Blk} {A : Option Addr} {n cap : Nat} {bs : List Nat} (hV : View w F 1 A n (u8s bs)) (hb : Byt bs) (hn : n ≤ 140737488355328) :
    Calls Try.prog 182 #[.int .u64 0, .slice A n cap] w fun e w' => e = .returned (.int .u64 (crcN bs : Nat)) ∧ w = w' := by
  have hl : bs.length = n := by have := hV.1; simpa [u8s] using this
  have HV := Lib.hid hV
  have HB := Lib.hid hb
  have hq : bits .xor .u64 18446744073709551615 0 = ((not64 0 : Nat) : Int) := not_bits 0 (Nat.pow_pos (by decide))
  have h64 := not64_0
  have H64 := Lib.hid h64
  have hnr := not_bits (crcR (not64 0) bs) (crcR_lt h64 hb)
  have HYY : Hid (not64 (crcR (not64 0) bs) = crcN bs) := Lib.hid rfl
  clear hV hb h64
  generalize not64 0 = z at *
  generalize crcN bs = y at *
  have hsg := u64_signed
  have hmx := u64_max
  go_enter Try.func182, Try.ntmps182
  go_wp2_with fail
  go_loopw [5, 6] (fun r i wr => AddRel z bs w r i wr) (fun _ i _ => n - (intOf i).toNat)
  case atStart => exact ⟨0, z, by omega, rfl, by first | rfl | (rw [← hq]; rfl), by simp [crcR], rfl⟩
  case round =>
    obtain ⟨k, s, hk, rfl, rfl, hs, rfl⟩ := hrel
    have hsl : s < 2 ^ 64 := by rw [hs]; exact crcR_lt H64.out (HB.out.take k)
    have HS := Lib.hid hs
    clear hs
    by_cases hlt : k < n
    · have hkb : k < bs.length := by omega
      obtain ⟨b, off, rfl, _, _, hc⟩ := HV.out.cell (i := k) (v := .int .u8 (bs[k] : Nat)) (by rw [u8s_get, List.getElem?_eq_getElem hkb]; rfl)
      have hx := HB.out.get hkb
      have hst : stepN 8 (s ^^^ bs[k]) = crcR z (bs.take (k + 1)) := by
        rw [stepN_byte, List.take_succ_eq_append_getElem hkb, crcR_snoc, ← HS.out]
      have HST := Lib.hid hst
      have hxo : bits .xor .u64 (s : Int) ((bs[k] : Nat) : Int) = ((s ^^^ bs[k] : Nat) : Int) := u64_xor_nat s _ (by omega) (by omega)
      have h0l : s ^^^ bs[k] < 2 ^ 64 := Nat.xor_lt_two_pow hsl (by omega)
      have H0L := Lib.hid h0l
      generalize s ^^^ bs[k] = s0 at *
      generalize bs[k] = x at *
      clear hst hsl h0l
      go_wp2_with fail
      go_loopw [5, 7] (fun r j wl => RefIn s0 wr r j wl) (fun _ j _ => 8 - (intOf j).toNat)
      case atStart => exact ⟨0, s0, by omega, rfl, by first | rfl | (rw [← hxo]; simp; done), rfl, rfl⟩
      case round =>
        obtain ⟨i, r, hi, rfl, rfl, hrk, rfl⟩ := hrel
        have hrl : r < 2 ^ 64 := by rw [hrk]; exact stepN_lt i H0L.out
        have HRK := Lib.hid hrk
        clear hrk
        by_cases hi8 : i < 8
        · by_cases hodd : r % 2 = 1
          · have h1 := and_one r hrl
            rw [hodd] at h1
            have h2 := step_odd r hrl hodd
            have hs : stepR r = stepN (i + 1) s0 := by rw [stepN_succ, ← HRK.out]
            have HSR := Lib.hid hs
            clear hs hodd hrl
            go_wp2_with fail
            go_round
            case rel => exact ⟨i + 1, stepR r, by omega, by go_num, by go_num, HSR.out, rfl⟩
            case measure => simp [intOf]; omega
          · have h1 := and_one r hrl
            have h0 : r % 2 = 0 := by omega
            rw [h0] at h1
            have h2 := step_even r hodd
            have hs : stepR r = stepN (i + 1) s0 := by rw [stepN_succ, ← HRK.out]
            have HSR := Lib.hid hs
            clear hs hodd hrl h0
            go_wp2_with fail
            go_round
            case rel => exact ⟨i + 1, stepR r, by omega, by go_num, by go_num, HSR.out, rfl⟩
            case measure => simp [intOf]; omega
        · have hi' : i = 8 := by omega
          subst hi'
          go_wp2_with fail
          go_round
          case rel => exact ⟨k + 1, r, by omega, by go_num, rfl, HRK.out.trans HST.out, rfl⟩
          case measure => simp [intOf]; omega
    · have hk' : k = n := by omega
      subst hk'
      have hsz : s = crcR z bs := by rw [HS.out, List.take_of_length_le (by omega)]
      subst hsz
      go_wp2_with fail
      go_ret
      exact ⟨ret_int (by rw [HYY.out]), rfl⟩

theorem refbytes_calls {w : World} {F : Blk} {A : Option Addr} {n cap : Nat} {bs : List Nat} (hV : View w F 1 A n (u8s bs)) (hb : Byt bs) (hn : n ≤ 140737488355328) :
    Calls Try.prog 168 #[.slice A n cap] w fun e w' => e = .returned (.int .u64 (crcN bs : Nat)) ∧ w = w' := by
  have H := Lib.hid (refextend_calls (cap := cap) hV hb hn)
  clear hV hb
  generalize crcN bs = y at *
  go_enter Try.func168, Try.ntmps168
  go_wp2_with fail
  refine H.out.mono ?_
  rintro e w' ⟨rfl, rfl⟩
  go_wp2_with fail
  go_ret
  exact ⟨rfl, rfl⟩
end Go.Proofs.Ytlhbikiggmdolaa
