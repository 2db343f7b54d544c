/- bodegaref6.Load and what it calls. -/
import Derived.Test.YtlhbikiggmdolaaLoad
namespace Go.Proofs.Ytlhbikiggmdolaa
open Go.RowKit

def RwRel (w : World) (cs : List Nat) (x i : Value) (wr : World) : Prop := ∃ k : Nat, k ≤ 8 ∧ i = .int .i64 k ∧ x = .int .u64 (leN (cs.take k) : Nat) ∧ w = wr

theorem leN_snoc (cs : List Nat) (k : Nat) (hk : k < cs.length) : leN (cs.take (k + 1)) = leN (cs.take k) + 256 ^ k * cs.getD k 0 := by
  rw [List.take_succ_eq_append_getElem hk, leN_append, List.length_take, Nat.min_eq_left (by omega), List.getD_eq_getElem?_getD, List.getElem?_eq_getElem hk]; simp [leN]

theorem pow_bound {k y : Nat} (hk : k < 8) (hy : y < 256) : 256 ^ k * y < 18446744073709551616 := by
  have h1 : 256 ^ k ≤ 256 ^ 7 := Nat.pow_le_pow_right (by decide) (by omega)
  have h2 : 256 ^ k * y ≤ 256 ^ 7 * 255 := Nat.mul_le_mul h1 (by omega)
  exact Nat.lt_of_le_of_lt h2 (by decide)
theorem or_shl {x y k : Nat} (hx : x < 256 ^ k) (hy : y < 256) (hk : k < 8) : bits .or .u64 (x : Int) (IntKind.u64.wrap ((y : Int) * 2 ^ (8 * k))) = ((x + 256 ^ k * y : Nat) : Int) := by
  have h1 := pow_bound hk hy
  have e : (256 : Nat) ^ k = 2 ^ (8 * k) := by rw [Nat.pow_mul]
  have h2 : ((y : Int) * 2 ^ (8 * k)) = ((256 ^ k * y : Nat) : Int) := by rw [e, Int.natCast_mul, Int.natCast_pow]; exact Int.mul_comm _ _
  have h3 : x < 18446744073709551616 := Nat.lt_of_lt_of_le hx (Nat.le_trans (Nat.pow_le_pow_right (by decide) (show k ≤ 8 by omega)) (by decide))
  rw [h2, IntKind.wrap_u64, Int.emod_eq_of_lt (by omega) (by omega), u64_or_nat x _ h3 h1]
  rw [e] at hx ⊢
  rw [Nat.or_comm, ← Nat.two_pow_add_eq_or_of_lt hx, Nat.add_comm]
theorem refword_calls {w : World} {F : Blk} {A : Option Addr} {n cap : Nat} {cs : List Nat} (hV : View w F 1 A n (u8s cs)) (hb : Byt cs) (h8 : 8 ≤ n) (hn : n ≤ 140737488355328) :
    Calls Try.prog 140 #[.slice A n cap] w fun e w' => e = .returned (.int .u64 (leN (cs.take 8) : Nat)) ∧ w = w' := by
  have hl : cs.length = n := by have := hV.1; simpa [u8s] using this
  have HV := Lib.hid hV
  have HB := Lib.hid hb
  have HL := Lib.hid hl
  clear hV hb hl
  go_enter Try.func140, Try.ntmps140
  go_wp2_with fail
  go_loopw [3, 4] (fun x i wr => RwRel w cs x i wr) (fun _ i _ => 8 - (intOf i).toNat)
  case atStart => exact ⟨0, by omega, rfl, rfl, rfl⟩
  case round =>
    obtain ⟨k, hk, rfl, rfl, rfl⟩ := hrel
    by_cases hlt : k < 8
    · have hlen := HL.out
      obtain ⟨b, off, rfl, _, hc⟩ := HV.out.byte (i := k) (by omega)
      have hy : cs.getD k 0 < 256 := by
        rw [List.getD_eq_getElem?_getD, List.getElem?_eq_getElem (by omega)]; exact HB.out.get (by omega)
      have hx : leN (cs.take k) < 256 ^ k := by
        have h1 := leN_lt (HB.out.take k)
        rw [List.length_take, Nat.min_eq_left (by omega)] at h1
        exact h1
      have HST := Lib.hid (leN_snoc cs k (by omega))
      have hor := or_shl hx hy hlt
      clear hlen
      generalize cs.getD k 0 = y at *
      generalize leN (cs.take k) = x at *
      go_wp2_with fail
      go_round
      case rel => exact ⟨k + 1, by omega, by go_num, congrArg (Value.int .u64) (by rw [HST.out, Int.natCast_add, Int.natCast_mul, Int.natCast_pow]; rfl), rfl⟩
      case measure => simp [intOf]; omega
    · have hk8 : k = 8 := by omega
      subst hk8
      go_wp2_with fail
      go_ret
      exact ⟨rfl, rfl⟩

theorem View.dropB {w : World} {F : Blk} {b off n : Nat} {bs : List Nat} (h : View w F 1 (some ⟨b, off, none⟩) n (u8s bs)) (m : Nat) (hm : m ≤ n) : View w F 1 (some ⟨b, off + m, none⟩) (n - m) (u8s (bs.drop m)) := by
  have hl : bs.length = n := by have := h.1; simpa [u8s] using this
  refine ⟨by simp [u8s]; omega, fun hne => ?_⟩
  have hne' : u8s bs ≠ [] := by intro e; apply hne; have := congrArg List.length e; simp [u8s] at this; simp [u8s, this]
  obtain ⟨b', o', e, hF, hlt, hc⟩ := h.2 hne'
  simp only [Option.some.injEq, Addr.mk.injEq, and_true] at e
  obtain ⟨rfl, rfl⟩ := e
  refine ⟨b, off + m, rfl, hF, hlt, fun i v hv => ?_⟩
  rw [Nat.add_assoc]
  refine hc (m + i) v ?_
  rw [u8s_get] at hv ⊢
  rw [List.getElem?_drop] at hv
  exact hv
theorem strB_inj {l m : List Nat} (hl : Byt l) (hm : Byt m) (h : strB l = strB m) : l = m := by
  have h1 : l.map UInt8.ofNat = m.map UInt8.ofNat := by
    have := congrArg (fun b : ByteArray => b.data.toList) h
    simpa [strB] using this
  have h2 : ∀ k : List Nat, Byt k → (k.map UInt8.ofNat).map UInt8.toNat = k := fun k hk => by
    rw [List.map_map]
    conv => rhs; rw [← List.map_id k]
    apply List.map_congr_left
    intro x hx
    simp [Nat.mod_eq_of_lt (hk x hx)]
  rw [← h2 l hl, ← h2 m hm, h1]

theorem rl_arm {w wx w5 : World} {F : Blk} {b off n cap m q B : Nat} {bs img : List Nat} {v x y S U : Value} {ws : List Int} (hux : Upd Non w wx) (hV : View w F 1 (some ⟨b, off, none⟩) n (u8s bs)) (hb : Byt bs) (hne : bs ≠ []) (hbi : Byt img) (hni : img ≠ [])
    (hq : Row wx q 36 (u64s ws)) (hB : Row wx B 46 [S, U]) (hz : Row wx w.heap.size 46 [x, y]) (hO : Own w5 (Past wx) 5 1 v m (u8s img)) (hU : Upd Non wx w5) :
    ∃ A2 cp2, v = .slice A2 m cp2 ∧ (convert 89 9 (.slice A2 m cp2)).run Try.prog w5 = .ok (.string (strB img)) w5 ∧ (convert 89 9 (.slice (some ⟨b, off, none⟩) n cap)).run Try.prog w5 = .ok (.string (strB bs)) w5 ∧
      (∀ x y, (convert 89 9 (.slice A2 m cp2)).run Try.prog ((w5.setCell ⟨w.heap.size, 0, none⟩ x).setCell ⟨w.heap.size, 1, none⟩ y) = .ok (.string (strB img)) ((w5.setCell ⟨w.heap.size, 0, none⟩ x).setCell ⟨w.heap.size, 1, none⟩ y)) ∧
      (∀ x y, (convert 89 9 (.slice (some ⟨b, off, none⟩) n cap)).run Try.prog ((w5.setCell ⟨w.heap.size, 0, none⟩ x).setCell ⟨w.heap.size, 1, none⟩ y) = .ok (.string (strB bs)) ((w5.setCell ⟨w.heap.size, 0, none⟩ x).setCell ⟨w.heap.size, 1, none⟩ y)) ∧
      w5.cell? ⟨B, 0, none⟩ = some S ∧ w5.cell? ⟨B, 1, none⟩ = some U ∧ w5.cell? ⟨w.heap.size, 0, none⟩ = some x ∧ w5.cell? ⟨w.heap.size, 1, none⟩ = some y ∧ w5.frozen? ⟨w.heap.size, 0, none⟩ = false ∧ w5.frozen? ⟨w.heap.size, 1, none⟩ = false ∧
      Hid (Row w5 q 36 (u64s ws)) ∧ Hid (Row w5 w.heap.size 46 [x, y]) ∧ Hid (Upd Non w w5) := by
  obtain ⟨A2, cp2, rfl, _, hV2⟩ := hO.shape
  have hz5 := hU.rowN hz
  have hB5 := hU.rowN hB
  have hu5 := hux.tr hU
  have hzl := hz.lt
  have hs : ∀ x y, Upd (One w.heap.size) w5 ((w5.setCell ⟨w.heap.size, 0, none⟩ x).setCell ⟨w.heap.size, 1, none⟩ y) := fun x y =>
    ((Upd.refl (One w.heap.size) w5).setCell (p := ⟨w.heap.size, 0, none⟩) (.inl rfl) x).setCell (p := ⟨w.heap.size, 1, none⟩) (.inl rfl) y
  have hs2 : ∀ x y, Upd Non w ((w5.setCell ⟨w.heap.size, 0, none⟩ x).setCell ⟨w.heap.size, 1, none⟩ y) := fun x y =>
    (hu5.setCell (p := ⟨w.heap.size, 0, none⟩) (.inr (Nat.le_refl _)) x).setCell (p := ⟨w.heap.size, 1, none⟩) (.inr (Nat.le_refl _)) y
  refine ⟨A2, cp2, rfl, conv_str hV2 hbi hni, conv_str (hV.keep hu5 (fun _ _ h => h)) hb hne, fun x y => conv_str (hV2.keep (hs x y) (fun k hk e => by
      have h1 : wx.heap.size ≤ k := hk; have h2 : k = w.heap.size := e; omega)) hbi hni, fun x y => conv_str (hV.keep (hs2 x y) (fun _ _ h => h)) hb hne,
    hB5.cell 0 rfl, hB5.cell 1 rfl, hz5.cell 0 rfl, hz5.cell 1 rfl, hz5.frozen 0, hz5.frozen 1, Lib.hid (hU.rowN hq), Lib.hid hz5, Lib.hid hu5⟩
def RLoadPost (bs : List Nat) (w : World) (e : Ending) (w' : World) : Prop :=
  Upd Non w w' ∧ ((∃ (q L : Nat) (ws : List Int) (up : Bool), 1 ≤ L ∧ L ≤ 256 ∧ ws.length = L * 8 ∧ W64 ws ∧ bs = imgB ws up ∧ e = .returned (.tuple #[.agg #[.slice (some ⟨q, 0, none⟩) (L * 8) (L * 8), .bool up], .bool true]) ∧ w.heap.size ≤ q ∧ Row w' q 36 (u64s ws)) ∨
    (¬ IsImg bs ∧ ∃ A n c u, e = .returned (.tuple #[.agg #[.slice A n c, .bool u], .bool false])))
theorem rload_no {bs : List Nat} {w w' : World} {e : Ending} {A : Option Addr} {n c : Nat} {u : Bool} (hu : Upd Non w w') (h : ¬ IsImg bs) (he : e = .returned (.tuple #[.agg #[.slice A n c, .bool u], .bool false])) : RLoadPost bs w e w' := ⟨hu, .inr ⟨h, A, n, c, u, he⟩⟩

theorem rl_done {w wf : World} {bs : List Nat} {L q : Nat} {up : Bool} (hb : Byt bs) (hL1 : 1 ≤ L) (hL2 : L ≤ 256) (hwI : W64 (wordsI bs (L * 8))) (himg : IsImg bs ↔ imgB (wordsI bs (L * 8)) up = bs) (hwq : w.heap.size ≤ q)
    (hu : Upd Non w wf) (hq : Row wf q 36 (u64s (wordsI bs (L * 8)))) :
    RLoadPost bs w (.returned (.tuple #[.agg #[.slice (some ⟨q, 0, none⟩) (L * 8) (L * 8), .bool up], .bool ((strB (imgB (wordsI bs (L * 8)) up)).toList == (strB bs).toList)])) wf := by
  refine ⟨hu, ?_⟩
  by_cases h : imgB (wordsI bs (L * 8)) up = bs
  · left
    refine ⟨q, L, _, up, hL1, hL2, wordsI_length _ _, hwI, h.symm, ?_, hwq, hq⟩
    rw [h]; simp
  · right
    refine ⟨fun hi => h (himg.1 hi), some ⟨q, 0, none⟩, L * 8, L * 8, up, ?_⟩
    have : ((strB (imgB (wordsI bs (L * 8)) up)).toList == (strB bs).toList) = false := by
      rw [beq_eq_false_iff_ne]
      intro e
      refine h (strB_inj (imgB_byt _ _) hb ?_)
      have e2 := congrArg List.toArray e
      rw [ByteArray.toList_eq, ByteArray.toList_eq] at e2
      cases ha : strB (imgB (wordsI bs (L * 8)) up); cases hc : strB bs
      simp_all
    rw [this]

def RLoadRel (w w2 : World) (q B : Nat) (bs : List Nat) (n : Nat) (up : Bool) (i : Value) (wr : World) : Prop :=
  ∃ k : Nat, k ≤ n ∧ i = .int .i64 k ∧ Row wr q 36 (u64s (fillI bs n k)) ∧ Row wr B 46 [.slice (some ⟨q, 0, none⟩) n n, .bool up] ∧ Row wr w.heap.size 46 [.slice none 0 0, .bool false] ∧ Upd Non w wr ∧ Nat.le w2.heap.size wr.heap.size

set_option maxRecDepth 100000 in
set_option maxHeartbeats 2000000 in
theorem refload_calls {w : World} {F : Blk} {A : Option Addr} {n cap : Nat} {bs : List Nat} (hV : View w F 1 A n (u8s bs)) (hb : Byt bs) (hn : n ≤ 140737488355328) (hcap : n ≤ cap) :
    Calls Try.prog 82 #[.slice A n cap] w (RLoadPost bs w) := by
  have hl : bs.length = n := by have := hV.1; simpa [u8s] using this
  by_cases hg : ∃ L, 1 ≤ L ∧ L ≤ 256 ∧ n = 15 + 64 * L
  · obtain ⟨L, hL1, hL2, hnL⟩ := hg
    obtain ⟨b, off, rfl, hbl, c6⟩ := hV.byte (i := 6) (by omega)
    have y6 : bs.getD 6 0 < 256 := by rw [List.getD_eq_getElem?_getD, List.getElem?_eq_getElem (by omega)]; exact hb.get (by omega)
    have HIMG := Lib.hid (isImg_ref hb L (by omega) hL1 hL2)
    have hm : ((n : Int) - 15) % 64 = 0 := by omega
    have hq : ((n : Int) - 15) / 64 = (L : Int) := by omega
    have hn1 : 79 ≤ n := by omega
    have hn2 : n ≤ 16399 := by omega
    have i6 : (6 : Int) < (n : Int) := by omega
    have HNL := Lib.hid hnL
    have HV := Lib.hid hV
    have HB := Lib.hid hb
    have HLN := Lib.hid hl
    have HK := Lib.hid (fun w' (hu : Upd Non w w') => ((World.cell?_of_block (a := ⟨b, off + 6, none⟩) (hu.block b hbl (fun h => h))).trans c6 : w'.cell? ⟨b, off + 6, none⟩ = _))
    clear hV hb hl hnL c6
    generalize bs.getD 6 0 = b6 at *
    go_enter Try.func82, Try.ntmps82
    go_wp2_with fail
    refine (newnode_calls L hL1 hL2).mono ?_
    rintro e w2 ⟨q, rfl, hq2, hr2, hu2⟩
    have s2 := hu2.size
    rw [World.size_alloc] at s2 hq2
    have hrz : Row w2 w.heap.size 46 [.slice none 0 0, .bool false] := hu2.rowN (Row.new w _ _)
    have HRZ := Lib.hid hrz
    have HR2 := Lib.hid hr2
    have HU2 := Lib.hid (((Upd.refl Non w).alloc _).tr hu2)
    have d6 := HK.out _ HU2.out
    have hqw := hr2.lt
    have hwq : w.heap.size ≤ q := by omega
    clear hq2 hr2 hu2 hrz hm hq hn1 hn2
    have d7 := HK.out _ (HU2.out.alloc (.cells #[.slice (some ⟨q, 0, none⟩) (L * 8) (L * 8), .bool true] 46))
    obtain ⟨up, hup, hbb⟩ : ∃ up : Bool, up = decide (b6 = 1) ∧ ((b6 : Int) == 1) = up := ⟨decide (b6 = 1), rfl, by
      by_cases h : b6 = 1
      · subst h; rfl
      · simp [h]; omega⟩
    rw [← hup] at HIMG
    clear hup
    go_wp2_with fail
    clear d6 d7 hbb
    have hnw : Row (w2.alloc (.cells #[.slice (some ⟨q, 0, none⟩) (L * 8) (L * 8), .bool up] 46)) w2.heap.size 46 [.slice (some ⟨q, 0, none⟩) (L * 8) (L * 8), .bool up] := Row.new _ _ _
    have hr0 : Row (w2.alloc (.cells #[.slice (some ⟨q, 0, none⟩) (L * 8) (L * 8), .bool up] 46)) q 36 (u64s (fillI bs (L * 8) 0)) := by
      have := HR2.out.alloc (.cells #[.slice (some ⟨q, 0, none⟩) (L * 8) (L * 8), .bool up] 46)
      simpa [fillI] using this
    have hrz := HRZ.out.alloc (.cells #[.slice (some ⟨q, 0, none⟩) (L * 8) (L * 8), .bool up] 46)
    have HU3 := Lib.hid (HU2.out.alloc (.cells #[.slice (some ⟨q, 0, none⟩) (L * 8) (L * 8), .bool up] 46))
    have HS3 := Lib.hid ((Upd.refl Non w2).alloc (.cells #[.slice (some ⟨q, 0, none⟩) (L * 8) (L * 8), .bool up] 46)).size
    have H1 := Lib.hid hnw
    have H2 := Lib.hid hr0
    have H3 := Lib.hid hrz
    clear hnw hr0 hrz
    generalize hBB : w2.heap.size = B at *
    have hqB : q ≠ B := by omega
    have hzq : w.heap.size ≠ q := by have := H3.out.ne H2.out (by decide); exact this
    have hzB : w.heap.size ≠ B := by omega
    have HBB := Lib.hid hBB
    generalize w2.alloc (.cells #[.slice (some ⟨q, 0, none⟩) (L * 8) (L * 8), .bool up] 46) = w3 at *
    clear hBB HRZ HR2 HU2
    go_loopw [5] (fun i wr => RLoadRel w w2 q B bs (L * 8) up i wr) (fun i _ => L * 8 - (intOf i).toNat)
    case atStart => exact ⟨0, Nat.zero_le _, rfl, H2.out, H1.out, H3.out, HU3.out, by rw [HBB.out]; exact HS3.out⟩
    case round =>
      obtain ⟨k, hk, rfl, hr, hB, hz, hu, hs⟩ := hrel
      have HR := Lib.hid hr
      have HRB := Lib.hid hB
      have HRZ := Lib.hid hz
      have HU := Lib.hid hu
      have HSZ := Lib.hid hs
      have c0 := hB.cell 0 rfl
      clear hr hB hz hu hs H1 H2 H3 HU3
      by_cases hlt : k < L * 8
      · have hfl := fillI_length bs (L * 8) k hk
        have x0 : wr.cell? ⟨q, k, none⟩ = some (.int .u64 ((fillI bs (L * 8) k).getD k 0)) := HR.out.cell k (by have := u64s_at (ws := fillI bs (L * 8) k) (spare := []) (i := k) (by omega); simpa using this)
        have z0 := HR.out.frozen k
        have cB := cell_far c0 hqB.symm
        have e2 : IntKind.i64.wrap ((8 : Int) * (k : Int)) = 8 * (k : Int) := by rw [IntKind.wrap_i64]; omega
        have e3 : IntKind.i64.wrap (7 + (8 : Int) * (k : Int)) = 7 + 8 * (k : Int) := by rw [IntKind.wrap_i64]; omega
        have i0 : (0 : Int) ≤ (k : Int) := by omega
        have i1 : (k : Int) < (L : Int) * 8 := by omega
        have i2 : (k : Int) < ((L * 8 : Nat) : Int) := by omega
        have i3 : (7 : Int) + 8 * (k : Int) ≤ n := by have := HNL.out; omega
        have i4 : (7 : Int) + 8 * (k : Int) ≤ cap := by omega
        have i5 : (7 + 8 * (k : Int)).toNat = 7 + 8 * k := by omega
        have i8 : (n : Int) ≤ (cap : Int) := by omega
        have i9 : (0 : Int) ≤ 7 + 8 * (k : Int) := by omega
        have i10 : 7 + 8 * k ≤ n := by omega
        have i7 : ¬ cap = 7 + 8 * k := by have := HNL.out; omega
        have hVr := HV.out.keep HU.out (fun _ _ h => h)
        have HVD : Hid (View wr.drew F 1 (some ⟨b, off + (7 + 8 * k), none⟩) (n - (7 + 8 * k)) (u8s (bs.drop (7 + 8 * k)))) := hVr.dropB (7 + 8 * k) (by have := HNL.out; omega)
        clear hVr hfl
        go_wp2_with fail
        go_region_held3 (fun w' => w'.cell? ⟨B, 0, none⟩ = some (.slice (some ⟨q, 0, none⟩) (L * 8) (L * 8))) (go_keep)
          ((go_at_call 140; (with_reducible refine (refword_calls (F := F) (HVD.out) (HB.out.drop _) (by have := HNL.out; omega) (by omega)).mono ?_); rintro e w' ⟨rfl, rfl⟩))
        clear e2 e3 x0 z0 cB c0 i5
        all_goals go_wp2_with fail
        all_goals go_roundw
        case rel =>
          have h := HR.out.set k (.int .u64 ((wordI bs k : Nat) : Int))
          have e : (u64s (fillI bs (L * 8) k)).set k (.int .u64 ((wordI bs k : Nat) : Int)) = u64s (fillI bs (L * 8) (k + 1)) := by
            rw [← fillI_set bs (L * 8) k hlt]; simp [u64s, List.map_set]
          rw [e] at h
          exact ⟨k + 1, by omega, by go_num, h, HRB.out.setOther hqB.symm _ _, HRZ.out.setOther hzq _ _, (HU.out.setCell (p := ⟨q, k, none⟩) (.inr hwq) _).drew, Nat.le_trans HSZ.out (Nat.le_of_eq (by simp [World.setCell]))⟩
        case measure => simp [intOf]; omega
      · have hk' : k = L * 8 := by omega
        subst hk'
        have hwI := wordsI_wf HB.out (L * 8)
        have hrq : Row wr q 36 (u64s (wordsI bs (L * 8))) := by have := HR.out; rw [fillI_done] at this; exact this
        have HRQ := Lib.hid hrq
        have HWI := Lib.hid hwI
        have c1 := HRB.out.cell 1 rfl
        have hrn : RefN wr (fun k => k = B ∨ k = q) B 0 46 [.slice (some ⟨q, 0, none⟩) (L * 8) (L * 8), .bool up] (wordsI bs (L * 8)) up :=
          ⟨HRB.out, q, 0, by simp [wordsI_length], rfl, ⟨[], rfl, by simpa using hrq⟩, .inl rfl, .inr rfl, hqB, by rw [wordsI_length]; omega⟩
        have HRN := Lib.hid hrn
        clear hwI hrq hrn HR
        have hne : bs ≠ [] := by intro e; have := HLN.out; have := HNL.out; rw [e] at *; simp at *; omega
        have HNE := Lib.hid hne
        have hz0 := HRZ.out.cell 0 rfl
        have hz1 := HRZ.out.cell 1 rfl
        have hf0 := HRZ.out.frozen 0
        have hf1 := HRZ.out.frozen 1
        have hcv : (convert 89 9 (.slice (some ⟨b, off, none⟩) n cap)).run Try.prog wr.drew = .ok (.string (strB bs)) wr.drew := conv_str (w := wr.drew) (HV.out.keep HU.out.drew (fun _ _ h => h)) HB.out hne
        have hux : Upd Non w ((wr.setCell ⟨w.heap.size, 0, none⟩ (.slice (some ⟨q, 0, none⟩) (L * 8) (L * 8))).setCell ⟨w.heap.size, 1, none⟩ (.bool up)) :=
          (HU.out.setCell (p := ⟨w.heap.size, 0, none⟩) (.inr (Nat.le_refl _)) _).setCell (p := ⟨w.heap.size, 1, none⟩) (.inr (Nat.le_refl _)) _
        have HUX := Lib.hid hux.drew
        have hcx : (convert 89 9 (.slice (some ⟨b, off, none⟩) n cap)).run Try.prog ((wr.setCell ⟨w.heap.size, 0, none⟩ (.slice (some ⟨q, 0, none⟩) (L * 8) (L * 8))).setCell ⟨w.heap.size, 1, none⟩ (.bool up)).drew = .ok (.string (strB bs)) ((wr.setCell ⟨w.heap.size, 0, none⟩ (.slice (some ⟨q, 0, none⟩) (L * 8) (L * 8))).setCell ⟨w.heap.size, 1, none⟩ (.bool up)).drew := conv_str (HV.out.keep HUX.out (fun _ _ h => h)) HB.out hne
        have hzo : Upd (One w.heap.size) wr ((wr.setCell ⟨w.heap.size, 0, none⟩ (.slice (some ⟨q, 0, none⟩) (L * 8) (L * 8))).setCell ⟨w.heap.size, 1, none⟩ (.bool up)) :=
          ((Upd.refl (One w.heap.size) wr).setCell (p := ⟨w.heap.size, 0, none⟩) (.inl rfl) _).setCell (p := ⟨w.heap.size, 1, none⟩) (.inl rfl) _
        have HRX : Hid (RefN ((wr.setCell ⟨w.heap.size, 0, none⟩ (.slice (some ⟨q, 0, none⟩) (L * 8) (L * 8))).setCell ⟨w.heap.size, 1, none⟩ (.bool up)).drew (fun k => k = B ∨ k = q) B 0 46 [.slice (some ⟨q, 0, none⟩) (L * 8) (L * 8), .bool up] (wordsI bs (L * 8)) up) :=
          HRN.out.keep hzo.drew (fun k hk e => by have h2 : k = w.heap.size := e; rcases hk with h | h <;> omega)
        have HRD : Hid (RefN wr.drew (fun k => k = B ∨ k = q) B 0 46 [.slice (some ⟨q, 0, none⟩) (L * 8) (L * 8), .bool up] (wordsI bs (L * 8)) up) := HRN.out
        have HZX : Hid (Row ((wr.setCell ⟨w.heap.size, 0, none⟩ (.slice (some ⟨q, 0, none⟩) (L * 8) (L * 8))).setCell ⟨w.heap.size, 1, none⟩ (.bool up)).drew w.heap.size 46 [.slice (some ⟨q, 0, none⟩) (L * 8) (L * 8), .bool up]) := (HRZ.out.set 0 _).set 1 _
        have HQX : Hid (Row ((wr.setCell ⟨w.heap.size, 0, none⟩ (.slice (some ⟨q, 0, none⟩) (L * 8) (L * 8))).setCell ⟨w.heap.size, 1, none⟩ (.bool up)).drew q 36 (u64s (wordsI bs (L * 8)))) := (HRQ.out.setOther hzq.symm _ _).setOther hzq.symm _ _
        have HBX : Hid (Row ((wr.setCell ⟨w.heap.size, 0, none⟩ (.slice (some ⟨q, 0, none⟩) (L * 8) (L * 8))).setCell ⟨w.heap.size, 1, none⟩ (.bool up)).drew B 46 [.slice (some ⟨q, 0, none⟩) (L * 8) (L * 8), .bool up]) := (HRB.out.setOther hzB.symm _ _).setOther hzB.symm _ _
        have HBI := Lib.hid (imgB_byt (wordsI bs (L * 8)) up)
        have HNI := Lib.hid (imgB_ne (wordsI bs (L * 8)) up)
        clear hne hux hzo
        go_wp2_with fail
        go_region_with (go_at_call 135; first
          | ((with_reducible refine (refimage_calls HRD.out HWI.out.wf).mono ?_); rintro e w5 ⟨v, rfl, hO, hU⟩; obtain ⟨A2, cp2, rfl, g0, g1, g2, g3, g4, g5, g6, g7, g8, g9, HQ5, HZ5, HU5⟩ := rl_arm (cap := cap) HU.out.drew HV.out HB.out HNE.out HBI.out HNI.out (HRQ.out.drew) (HRB.out.drew) (HRZ.out.drew) hO hU; clear hO hU)
          | ((with_reducible refine (refimage_calls HRX.out HWI.out.wf).mono ?_); rintro e w5 ⟨v, rfl, hO, hU⟩; obtain ⟨A2, cp2, rfl, g0, g1, g2, g3, g4, g5, g6, g7, g8, g9, HQ5, HZ5, HU5⟩ := rl_arm (cap := cap) HUX.out HV.out HB.out HNE.out HBI.out HNI.out HQX.out HBX.out HZX.out hO hU; clear hO hU))
        all_goals (go_wp2_with fail)
        all_goals clear g0 g1 g2 g3 hcv hcx
        all_goals refine bodyPost_ret (v := .tuple #[.agg #[.slice (some ⟨q, 0, none⟩) (L * 8) (L * 8), .bool up], .bool ((strB (imgB (wordsI bs (L * 8)) up)).toList == (strB bs).toList)]) (by simp [results, Try.results82, go_sem, g6, g7]) rfl ?_
        all_goals first
          | exact rl_done HB.out hL1 hL2 HWI.out HIMG.out hwq HU5.out HQ5.out
          | exact rl_done HB.out hL1 hL2 HWI.out HIMG.out hwq ((HU5.out.setCell (p := ⟨w.heap.size, 0, none⟩) (.inr (Nat.le_refl _)) _).setCell (p := ⟨w.heap.size, 1, none⟩) (.inr (Nat.le_refl _)) _) ((HQ5.out.setOther hzq.symm _ _).setOther hzq.symm _ _)
  · have HNO := Lib.hid (show ¬ IsImg bs from fun h => by obtain ⟨L, h1, h2, h3⟩ := isImg_length h; exact hg ⟨L, h1, h2, by omega⟩)
    clear hV hb hl
    by_cases h15 : n < 15
    · clear hg
      go_enter Try.func82, Try.ntmps82
      go_wp2_with fail
      exact bodyPost_ret (v := .tuple #[.agg #[.slice none 0 0, .bool false], .bool false]) (by simp [results, Try.results82, go_sem]) rfl (rload_no ((Upd.refl _ _).alloc _) HNO.out rfl)
    · have h15' : 15 ≤ n := by omega
      have hrem : ((n : Int) - 15) % 64 = (((n - 15) % 64 : Nat) : Int) := by omega
      by_cases h64 : (n - 15) % 64 = 0
      · have hm : ((n : Int) - 15) % 64 = 0 := by omega
        by_cases hbig : 16399 < n
        · clear hg h15 hrem h64
          go_enter Try.func82, Try.ntmps82
          go_wp2_with fail
          exact bodyPost_ret (v := .tuple #[.agg #[.slice none 0 0, .bool false], .bool false]) (by simp [results, Try.results82, go_sem]) rfl (rload_no ((Upd.refl _ _).alloc _) HNO.out rfl)
        · have hsm : n < 79 := by
            refine Nat.lt_of_not_le fun h79 => hg ⟨(n - 15) / 64, by omega, by omega, by omega⟩
          have hbig' : n ≤ 16399 := by omega
          clear hg h15 hrem h64 hbig
          go_enter Try.func82, Try.ntmps82
          go_wp2_with fail
          exact bodyPost_ret (v := .tuple #[.agg #[.slice none 0 0, .bool false], .bool false]) (by simp [results, Try.results82, go_sem]) rfl (rload_no ((Upd.refl _ _).alloc _) HNO.out rfl)
      · have hm : ¬ ((n : Int) - 15) % 64 = 0 := by omega
        have hm1 : (((n : Int) - 15) % 64 == 0) = false := by rw [beq_eq_false_iff_ne]; exact hm
        have hm2 : (((n : Int) - 15) % 64 != 0) = true := by rw [bne_iff_ne]; exact hm
        clear hg h15 hrem h64 hm
        go_enter Try.func82, Try.ntmps82
        go_wp2_with fail
        exact bodyPost_ret (v := .tuple #[.agg #[.slice none 0 0, .bool false], .bool false]) (by simp [results, Try.results82, go_sem]) rfl (rload_no ((Upd.refl _ _).alloc _) HNO.out rfl)
end Go.Proofs.Ytlhbikiggmdolaa
