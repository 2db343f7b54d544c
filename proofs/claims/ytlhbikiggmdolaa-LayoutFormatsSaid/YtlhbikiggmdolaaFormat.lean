/- Formatting a memory node: the program's and the reference's words. -/
import Derived.Test.YtlhbikiggmdolaaLayout
import Derived.Test.YtlhbikiggmdolaaSame
import Derived.Lib.EndianBits
namespace Go.Proofs.Ytlhbikiggmdolaa
open Go.RowKit

def withinB (x a b : Int) : Bool := decide (a ≤ x ∧ x ≤ b)
theorem within_int (x a b : Int) (w : World) : Calls Try.prog 170 #[.int .i64 x, .int .i64 a, .int .i64 b] w fun e w' => e = .returned (.bool (withinB x a b)) ∧ w = w' := by
  by_cases h1 : a ≤ x
  · by_cases h2 : x ≤ b
    · have h : withinB x a b = true := by simp [withinB, h1, h2]
      have H := Lib.hid h
      clear h
      go_enter Try.func170, Try.ntmps170
      go_wp2
      go_ret
      exact ⟨ret_bool H.out.symm, rfl⟩
    · have h : withinB x a b = false := by simp [withinB, h2]
      have H := Lib.hid h
      clear h
      go_enter Try.func170, Try.ntmps170
      go_wp2
      go_ret
      exact ⟨ret_bool H.out.symm, rfl⟩
  · have h : withinB x a b = false := by simp [withinB, h1]
    have H := Lib.hid h
    clear h
    go_enter Try.func170, Try.ntmps170
    go_wp2
    go_ret
    exact ⟨ret_bool H.out.symm, rfl⟩
theorem within_u64 (x a b : Int) (w : World) : Calls Try.prog 171 #[.int .u64 x, .int .u64 a, .int .u64 b] w fun e w' => e = .returned (.bool (withinB x a b)) ∧ w = w' := by
  by_cases h1 : a ≤ x
  · by_cases h2 : x ≤ b
    · have h : withinB x a b = true := by simp [withinB, h1, h2]
      have H := Lib.hid h
      clear h
      go_enter Try.func171, Try.ntmps171
      go_wp2
      go_ret
      exact ⟨ret_bool H.out.symm, rfl⟩
    · have h : withinB x a b = false := by simp [withinB, h2]
      have H := Lib.hid h
      clear h
      go_enter Try.func171, Try.ntmps171
      go_wp2
      go_ret
      exact ⟨ret_bool H.out.symm, rfl⟩
  · have h : withinB x a b = false := by simp [withinB, h1]
    have H := Lib.hid h
    clear h
    go_enter Try.func171, Try.ntmps171
    go_wp2
    go_ret
    exact ⟨ret_bool H.out.symm, rfl⟩

theorem key_calls (w : World) : Calls Try.prog 141 #[.int .i64 0, .bool true] w fun e w' => e = .returned (.tuple #[.int .u64 1, .int .i64 0]) ∧ w = w' := by
  go_enter Try.func141, Try.ntmps141
  go_wp2_with (go_at_call 170; refine (within_int 0 0 15 _).mono ?_; rw [show withinB 0 0 15 = true from rfl]; rintro e w' ⟨rfl, rfl⟩)
  go_ret2
  exact ⟨rfl, rfl⟩
theorem header_calls (w : World) : Calls Try.prog 143 #[.int .u64 1, .int .i64 0] w fun e w' => e = .returned (.tuple #[.int .u64 256, .int .i64 0]) ∧ w = w' := by
  go_enter Try.func143, Try.ntmps143
  go_wp2_with (first
    | (go_at_call 170; refine (within_int 0 0 6 _).mono ?_; rw [show withinB 0 0 6 = true from rfl]; rintro e w' ⟨rfl, rfl⟩)
    | (go_at_call 171; refine (within_u64 1 1 281474976710655 _).mono ?_; rw [show withinB 1 1 281474976710655 = true by decide]; rintro e w' ⟨rfl, rfl⟩))
  go_ret2
  exact ⟨rfl, rfl⟩
theorem join_v (v : Int) (h0 : 0 ≤ v) (h1 : v < 1099511627776) : bits .or .u64 4504699138998272 v = 4504699138998272 + v :=
  bits_join .u64 64 (by decide) (fun n h0 h1 => by rw [IntKind.wrap_u64]; omega) 40 _ _ (by decide) (by decide) (by decide) h0 (by omega) (by omega)
theorem consW_calls (v : Int) (h0 : 0 ≤ v) (h1 : v < 1099511627776) (w : World) : Calls Try.prog 142 #[.int .u64 1, .int .u64 1, .int .u64 v] w fun e w' => e = .returned (.tuple #[.int .u64 (4504699138998272 + v), .int .i64 0]) ∧ w = w' := by
  have hj := join_v v h0 h1
  have hk : bits .or .u64 4503599627370496 1099511627776 = 4504699138998272 := by decide
  have h2 : ¬ v ≥ 1099511627776 := by omega
  go_enter Try.func142, Try.ntmps142
  go_wp2_with fail
  go_ret2
  exact ⟨rfl, rfl⟩

/-- The formatted words, step by step. -/
def fmt0 (n : Nat) (V : Int) : List Int := (((List.replicate n (0 : Int)).set 0 1).set 1 1).set 8 V
def fmtD (ws : List Int) : Nat → List Int
  | 0 => ws
  | k + 1 => (fmtD ws k).set (24 + k) 1
def fmtH (ws : List Int) : Nat → List Int
  | 0 => ws
  | k + 1 => (fmtH ws k).set ((96 + k) * 8) 256
def fmtW (lines : Nat) (V : Int) : List Int := fmtH (fmtD (fmt0 (lines * 8) V) 6) (lines - 96)
theorem fmt0_length (n : Nat) (V : Int) : (fmt0 n V).length = n := by simp [fmt0]
theorem fmtD_length (ws : List Int) (k : Nat) : (fmtD ws k).length = ws.length := by
  induction k with
  | zero => rfl
  | succ k ih => rw [fmtD, List.length_set, ih]
theorem fmtH_length (ws : List Int) (k : Nat) : (fmtH ws k).length = ws.length := by
  induction k with
  | zero => rfl
  | succ k ih => rw [fmtH, List.length_set, ih]
theorem fmtW_length (l : Nat) (V : Int) : (fmtW l V).length = l * 8 := by unfold fmtW; rw [fmtH_length, fmtD_length, fmt0_length]
theorem fmtW_wf (l : Nat) (V : Int) (hV : 0 ≤ V) : Wf (fmtW l V) := by
  have h1 : Wf (fmt0 (l * 8) V) := (((wf_zeros _).set 0 (by decide)).set 1 (by decide)).set 8 hV
  have h2 : ∀ k, Wf (fmtD (fmt0 (l * 8) V) k) := fun k => by
    induction k with
    | zero => exact h1
    | succ k ih => exact ih.set _ (by decide)
  have h3 : ∀ k, Wf (fmtH (fmtD (fmt0 (l * 8) V) 6) k) := fun k => by
    induction k with
    | zero => exact h2 6
    | succ k ih => exact ih.set _ (by decide)
  exact h3 _
theorem initV_lt (c : Int) : 0 ≤ initV c ∧ initV c < 1099511627776 := by
  unfold initV
  split <;> (try split) <;> (try split) <;> (try split) <;> omega

/-- A row of words: its cells, and what a store makes of it. -/
theorem Row.word {w : World} {b : Nat} {ws : List Int} (h : Row w b 36 (u64s ws)) {i : Nat} (hi : i < ws.length) :
    w.cell? ⟨b, i, none⟩ = some (.int .u64 (ws.getD i 0)) ∧ w.frozen? ⟨b, i, none⟩ = false ∧ ∀ x, Row (w.setCell ⟨b, i, none⟩ (.int .u64 x)) b 36 (u64s (ws.set i x)) := by
  refine ⟨h.cell i (by have := u64s_at (ws := ws) (spare := []) hi; simpa using this), h.frozen i, fun x => ?_⟩
  have := h.set i (.int .u64 x)
  have e : (u64s ws).set i (.int .u64 x) = u64s (ws.set i x) := by simp [u64s, List.map_set]
  rw [e] at this; exact this

def FmRel (wb : Nat) (W1 : World) (f : Nat → List Int) (n o : Nat) (i : Value) (wr : World) : Prop :=
  ∃ k : Nat, k ≤ n ∧ i = .int .i64 ((o + k : Nat) : Int) ∧ Row wr wb 36 (u64s (f k)) ∧ Upd (One wb) W1 wr

set_option maxRecDepth 100000 in
set_option maxHeartbeats 2000000 in
theorem formatted_calls (c : Int) (h1 : 1 ≤ c) (h2 : c ≤ 5) (lines : Nat) (hl : 98 ≤ lines) (hl2 : lines ≤ 256) (w : World) :
    Calls Try.prog 84 #[.int .i64 c, .int .i64 lines] w fun e w' => ∃ q, e = .returned (.slice (some ⟨q, 0, none⟩) (lines * 8) (lines * 8)) ∧ w.heap.size ≤ q ∧ Row w' q 36 (u64s (fmtW lines (4504699138998272 + initV c))) ∧ Upd Non w w' := by
  have hmk := run_make_row' (P := Try.prog) 33 36 (.int .u64 0) 8 Try.underlying33 info_u64 rfl .i64 .i64 (lines * 8) (by omega) (by omega)
  have hmk : (Instr.makeSlice 33 (.int .i64 ((lines : Int) * 8)) (.int .i64 ((lines : Int) * 8))).run Try.prog w = .ok (.slice (some ⟨w.heap.size, 0, none⟩) (lines * 8) (lines * 8)) (w.alloc (.cells (madeCells #[.int .u64 0] (lines * 8)) 36)) := hmk w
  have hrow : Row (w.alloc (.cells (madeCells #[.int .u64 0] (lines * 8)) 36)) w.heap.size 36 (u64s (List.replicate (lines * 8) 0)) := by
    have := Row.new w (madeCells #[.int .u64 0] (lines * 8)) 36
    rw [toList_made] at this; exact this
  have hu1 : Upd Non w (w.alloc (.cells (madeCells #[.int .u64 0] (lines * 8)) 36)) := (Upd.refl _ _).alloc _
  generalize w.alloc (.cells (madeCells #[.int .u64 0] (lines * 8)) 36) = W1 at *
  have hbq : w.heap.size ≤ w.heap.size := Nat.le_refl _
  generalize hq : w.heap.size = q at hmk hrow hbq
  have HU1 := Lib.hid hu1
  have HBQ : Hid (∀ k, One q k → w.heap.size ≤ k) := fun k h => by cases h; exact Nat.le_of_eq hq
  have HQ : Hid (w.heap.size ≤ q) := Nat.le_of_eq hq
  obtain ⟨x0, z0, s0⟩ := hrow.word (i := 0) (by simp; omega)
  obtain ⟨x1, z1, s1⟩ := (s0 1).word (i := 1) (by simp; omega)
  have HR2 := Lib.hid (s1 1)
  have hj := join_v (initV c) (initV_lt c).1 (initV_lt c).2
  have i0 : (0 : Int) < (lines : Int) * 8 := by omega
  have i1 : (1 : Int) < (lines : Int) * 8 := by omega
  have i8 : (8 : Int) < (lines : Int) * 8 := by omega
  clear hrow hu1 hbq hq s0 s1
  go_enter Try.func84, Try.ntmps84
  go_wp2_with fail
  refine (refInitial_calls c h1 h2 _).mono ?_
  rintro e w' ⟨rfl, rfl⟩
  go_wp2_with fail
  refine (refCons_calls 0 _).mono ?_
  rintro e w2 ⟨rfl, hu2⟩
  obtain ⟨x8, z8, s8⟩ := (hu2.rowN HR2.out).word (i := 8) (by simp; omega)
  have HR3 : Hid (∀ V, Row (w2.setCell ⟨q, 8, none⟩ (.int .u64 V)) q 36 (u64s (fmt0 (lines * 8) V))) := s8
  have HU2 := Lib.hid ((((HU1.out.setCell (p := ⟨q, 0, none⟩) (.inr HQ.out) (.int .u64 1)).setCell (p := ⟨q, 1, none⟩) (.inr HQ.out) (.int .u64 1)).tr hu2).setCell (p := ⟨q, 8, none⟩) (.inr HQ.out) (.int .u64 (4504699138998272 + initV c)))
  rw [show regF 1 16 0 = 8 from rfl]
  clear hu2 s8 x0 z0 x1 z1
  go_wp2_with fail
  have HR4 := Lib.hid (HR3.out (4504699138998272 + initV c))
  have HU2b := HU2
  clear HU2
  generalize hVV : 4504699138998272 + initV c = V at *
  have HVV := Lib.hid hVV
  clear hVV
  generalize w2.setCell ⟨q, 8, none⟩ (.int .u64 V) = W3 at *
  clear hj x8 z8
  go_loopw [8] (fun i wr => FmRel q W3 (fmtD (fmt0 (lines * 8) V)) 6 0 i wr) (fun i _ => 6 - (intOf i).toNat)
  case atStart => exact ⟨0, by omega, rfl, HR4.out, Upd.refl _ _⟩
  case round =>
    obtain ⟨k, hk, rfl, hr, hu⟩ := hrel
    rw [Nat.zero_add]
    have HR := Lib.hid hr
    have HU := Lib.hid hu
    clear hr hu HR4 HR3
    by_cases hlt : k < 6
    · go_wp2_with fail
      refine (refDoor_calls (k : Int) _).mono ?_
      rintro e w4 ⟨rfl, hu4⟩
      rw [show regF 3 6 (k : Int) = ((24 + k : Nat) : Int) by unfold regF; rw [if_neg (by omega)]; omega]
      obtain ⟨x, z, s⟩ := (hu4.rowN HR.out).word (i := 24 + k) (by rw [fmtD_length, fmt0_length]; omega)
      have HS := Lib.hid (s 1)
      have HU4 := Lib.hid ((HU.out.tr hu4.of_non).setCell (p := ⟨q, 24 + k, none⟩) (.inl rfl) (.int .u64 1))
      have i2 : ((24 + k : Nat) : Int) < (lines : Int) * 8 := by omega
      have i3 : (24 : Int) + (k : Int) < (lines : Int) * 8 := by omega
      clear hu4 s
      go_wp2_with fail
      go_round
      case rel => exact ⟨k + 1, by omega, by go_num, HS.out, HU4.out⟩
      case measure => simp [intOf]; omega
    · have hk6 : k = 6 := by omega
      subst hk6
      go_wp2_with fail
      go_loopw [9] (fun i wl => FmRel q W3 (fmtH (fmtD (fmt0 (lines * 8) V) 6)) (lines - 96) 96 i wl) (fun i _ => 256 - (intOf i).toNat)
      case atStart => exact ⟨0, by omega, rfl, HR.out, HU.out⟩
      case round =>
        obtain ⟨j, hj, rfl, hr, hu⟩ := hrel
        have HR2 := Lib.hid hr
        have HU2 := Lib.hid hu
        clear hr hu HR
        by_cases hlt : 96 + j < lines
        · obtain ⟨x, z, s⟩ := HR2.out.word (i := (96 + j) * 8) (by rw [fmtH_length, fmtD_length, fmt0_length]; omega)
          have HS := Lib.hid (s 256)
          have HU4 := Lib.hid (HU2.out.setCell (p := ⟨q, (96 + j) * 8, none⟩) (.inl rfl) (.int .u64 256))
          have i2 : ((96 : Int) + (j : Int)) * 8 < (lines : Int) * 8 := by omega
          have i3 : (96 : Int) + (j : Int) < (lines : Int) := by omega
          clear s
          go_wp2_with fail
          go_round
          case rel => exact ⟨j + 1, by omega, by go_num, HS.out, HU4.out⟩
          case measure => simp [intOf]; omega
        · have hj' : j = lines - 96 := by omega
          subst hj'
          have hge : ¬ ((96 : Int) + ((lines - 96 : Nat) : Int) < (lines : Int)) := by omega
          go_wp2_with fail
          go_ret
          refine ⟨q, rfl, ?_, ?_, ?_⟩
          · first | exact HQ.out | exact Nat.le_refl _
          · rw [HVV.out]; exact HR2.out
          · exact HU2b.out.trans HU2.out fun i hi h => absurd hi (by have := HBQ.out i h; omega)

set_option maxRecDepth 100000 in
set_option maxHeartbeats 2000000 in
/-- layout.Format on a node that is large enough and up. -/
theorem format_ok {w : World} {F : Blk} {p : Nat} {ws : List Int} (h : NodeR w F p ws true) (c : Int) (h1 : 1 ≤ c) (h2 : c ≤ 5) (lines : Nat) (hws : ws.length = lines * 8) (hl : 98 ≤ lines) (hl2 : lines ≤ 256) :
    Calls Try.prog 83 #[.pointer (some ⟨p, 0, none⟩), .int .i64 c] w fun e w' => e = .returned (.int .i64 0) ∧ NodeR w' F p (fmtW lines (4504699138998272 + initV c)) true ∧ Upd F w w' := by
  have hmk := run_make_row' (P := Try.prog) 33 36 (.int .u64 0) 8 Try.underlying33 info_u64 rfl .i64 .i64 (lines * 8) (by omega) (by omega)
  have HMK := Lib.hid hmk
  have HN := Lib.hid (h.mono (F' := fun k => F k ∧ k < w.heap.size) fun k h1 h2 => ⟨h1, h2⟩)
  have hdiv : ws.length / 8 = lines := by omega
  have HDIV := Lib.hid hdiv
  have HLW := Lib.hid hws
  have HV := Lib.hid (initV_lt c)
  clear hmk h hdiv hws
  go_enter Try.func83, Try.ntmps83
  go_wp2_with fail
  refine (initial_calls c h1 h2 _).mono ?_
  rintro e w' ⟨rfl, rfl⟩
  go_wp2_with fail
  refine (lines_calls HN.out).mono ?_
  rw [HDIV.out]
  rintro e w' ⟨rfl, rfl⟩
  go_wp2_with fail
  refine (up_calls HN.out).mono ?_
  rintro e w' ⟨rfl, rfl⟩
  go_wp2_with fail
  refine (lines_calls HN.out).mono ?_
  rw [HDIV.out]
  rintro e w' ⟨rfl, rfl⟩
  go_wp2_with fail
  refine (words_calls (lines : Int) _).mono ?_
  rw [show wordsF (lines : Int) = (lines : Int) * 8 by unfold wordsF; rw [if_neg (by omega)]]
  rintro e w2 ⟨rfl, hu2⟩
  have hmk : (Instr.makeSlice 33 (.int .i64 ((lines : Int) * 8)) (.int .i64 ((lines : Int) * 8))).run Try.prog w2 = .ok (.slice (some ⟨w2.heap.size, 0, none⟩) (lines * 8) (lines * 8)) (w2.alloc (.cells (madeCells #[.int .u64 0] (lines * 8)) 36)) := HMK.out w2
  have hrow : Row (w2.alloc (.cells (madeCells #[.int .u64 0] (lines * 8)) 36)) w2.heap.size 36 (u64s (List.replicate (lines * 8) 0)) := by
    have := Row.new w2 (madeCells #[.int .u64 0] (lines * 8)) 36
    rw [toList_made] at this; exact this
  have hu1 : Upd Non w (w2.alloc (.cells (madeCells #[.int .u64 0] (lines * 8)) 36)) := hu2.alloc _
  have s2 := hu2.size
  generalize w2.alloc (.cells (madeCells #[.int .u64 0] (lines * 8)) 36) = W1 at *
  generalize hq : w2.heap.size = q at *
  have HU1 := Lib.hid hu1
  have HQ := Lib.hid s2
  have HR1 := Lib.hid hrow
  clear hrow hu1 hq s2 hu2
  have i0 : (0 : Int) < (lines : Int) * 8 := by omega
  have i1 : (1 : Int) < (lines : Int) * 8 := by omega
  have i8 : (8 : Int) < (lines : Int) * 8 := by omega
  go_wp2_with fail
  refine (key_calls _).mono ?_
  rintro e w' ⟨rfl, rfl⟩
  obtain ⟨x0, z0, s0⟩ := HR1.out.word (i := 0) (by simp; omega)
  obtain ⟨x1, z1, s1⟩ := (s0 1).word (i := 1) (by simp; omega)
  have HR2 := Lib.hid (s1 1)
  clear s0 s1 hmk
  go_wp2_with fail
  refine (cons_calls 0 _).mono ?_
  rintro e w3 ⟨rfl, hu3⟩
  have HR3 := Lib.hid (hu3.rowN HR2.out)
  have HU3 := Lib.hid (((HU1.out.setCell (p := ⟨q, 0, none⟩) (.inr HQ.out) (.int .u64 1)).setCell (p := ⟨q, 1, none⟩) (.inr HQ.out) (.int .u64 1)).tr hu3)
  rw [show regF 1 16 0 = 8 from rfl]
  clear hu3 x0 z0 x1 z1
  go_wp2_with fail
  refine (consW_calls _ HV.out.1 HV.out.2 _).mono ?_
  rintro e w' ⟨rfl, rfl⟩
  obtain ⟨x8, z8, s8⟩ := HR3.out.word (i := 8) (by simp; omega)
  have HR4 : Hid (Row (w3.setCell ⟨q, 8, none⟩ (.int .u64 (4504699138998272 + initV c))) q 36 (u64s (fmt0 (lines * 8) (4504699138998272 + initV c)))) := s8 _
  have HU4 := Lib.hid (HU3.out.setCell (p := ⟨q, 8, none⟩) (.inr HQ.out) (.int .u64 (4504699138998272 + initV c)))
  clear s8
  generalize hVV : 4504699138998272 + initV c = V at *
  have HVV := Lib.hid hVV
  clear hVV
  go_wp2_with fail
  generalize w3.setCell ⟨q, 8, none⟩ (.int .u64 V) = W3 at *
  clear x8 z8
  have hF : ∀ k, F k ∧ k < w.heap.size → ¬ One q k := fun k h e => by cases e; have := HQ.out; omega
  have HF := Lib.hid hF
  clear hF
  go_loopw [46] (fun i wr => FmRel q W3 (fmtD (fmt0 (lines * 8) V)) 6 0 i wr) (fun i _ => 6 - (intOf i).toNat)
  case atStart => exact ⟨0, by omega, rfl, HR4.out, Upd.refl _ _⟩
  case round =>
    obtain ⟨k, hk, rfl, hr, hu⟩ := hrel
    rw [Nat.zero_add]
    have HR := Lib.hid hr
    have HU := Lib.hid hu
    clear hr hu HR4 HR3
    by_cases hlt : k < 6
    · go_wp2_with fail
      refine (door_calls (k : Int) _).mono ?_
      rintro e w4 ⟨rfl, hu4⟩
      rw [show regF 3 6 (k : Int) = ((24 + k : Nat) : Int) by unfold regF; rw [if_neg (by omega)]; omega]
      obtain ⟨x, z, s⟩ := (hu4.rowN HR.out).word (i := 24 + k) (by rw [fmtD_length, fmt0_length]; omega)
      have HS := Lib.hid (s 1)
      have HU5 := Lib.hid ((HU.out.tr hu4.of_non).setCell (p := ⟨q, 24 + k, none⟩) (.inl rfl) (.int .u64 1))
      have i3 : (24 : Int) + (k : Int) < (lines : Int) * 8 := by omega
      clear hu4 s
      go_wp2_with fail
      go_round
      case rel => exact ⟨k + 1, by omega, by go_num, HS.out, HU5.out⟩
      case measure => simp [intOf]; omega
    · have hk6 : k = 6 := by omega
      subst hk6
      rw [show ((6 : Nat) : Int) = (6 : Int) from rfl]
      go_wp2_with fail
      go_loopw [9] (fun i wl => FmRel q W3 (fmtH (fmtD (fmt0 (lines * 8) V) 6)) (lines - 96) 96 i wl) (fun i _ => 256 - (intOf i).toNat)
      case atStart => exact ⟨0, by omega, rfl, HR.out, HU.out⟩
      case round =>
        obtain ⟨j, hj, rfl, hr, hu⟩ := hrel
        have HR2 := Lib.hid hr
        have HU2 := Lib.hid hu
        have HNj := Lib.hid ((HN.out.keep HU4.out (fun _ _ h => h)).keep hu HF.out)
        clear hr hu HR
        by_cases hlt : 96 + j < lines
        · have i3 : (96 : Int) + (j : Int) < (lines : Int) := by omega
          go_wp2_with fail
          refine (lines_calls HNj.out).mono ?_
          rw [HDIV.out]
          rintro e w' ⟨rfl, rfl⟩
          go_wp2_with fail
          refine (page_calls _ _).mono ?_
          rintro e w4 ⟨rfl, hu4⟩
          rw [show pageF ((96 : Int) + (j : Int)) = (((96 + j) * 8 : Nat) : Int) by unfold pageF; rw [if_neg (by omega)]; omega]
          have HR5 := Lib.hid (hu4.rowN HR2.out)
          have HU5 := Lib.hid (HU2.out.tr hu4.of_non)
          clear hu4
          go_wp2_with fail
          refine (header_calls _).mono ?_
          rintro e w' ⟨rfl, rfl⟩
          obtain ⟨x, z, s⟩ := HR5.out.word (i := (96 + j) * 8) (by rw [fmtH_length, fmtD_length, fmt0_length]; omega)
          have HS := Lib.hid (s 256)
          have HU6 := Lib.hid (HU5.out.setCell (p := ⟨q, (96 + j) * 8, none⟩) (.inl rfl) (.int .u64 256))
          have i2 : ((96 : Int) + (j : Int)) * 8 < (lines : Int) * 8 := by omega
          clear s
          go_wp2_with fail
          go_round
          case rel => exact ⟨j + 1, by omega, by go_num, HS.out, HU6.out⟩
          case measure => simp [intOf]; omega
        · have hj' : j = lines - 96 := by omega
          subst hj'
          have hge : ¬ ((96 : Int) + ((lines - 96 : Nat) : Int) < (lines : Int)) := by omega
          have hacc : accE ws.length true 0 ((lines * 8 : Nat) : Int) = 0 := by rw [HLW.out]; unfold accE; rw [if_neg (by omega)]; rfl
          have HACC := Lib.hid hacc
          have hV : View wr (One q) 1 (some ⟨q, 0, none⟩) (lines * 8) (u64s (fmtW lines V)) := View.ofRow HR2.out (One q) rfl 1 _ 0 (u64s (fmtW lines V)) (by rw [u64s_length, fmtW_length]; omega) (by rw [List.drop_zero]; exact List.take_length)
          have HVW := Lib.hid hV
          clear hacc hV
          go_wp2_with fail
          refine (lines_calls HNj.out).mono ?_
          rw [HDIV.out]
          rintro e w' ⟨rfl, rfl⟩
          go_wp2_with fail
          refine (write_okI HNj.out 0 _ (lines * 8) (lines * 8) (fmtW lines V) HVW.out HACC.out).mono ?_
          rintro e w9 ⟨rfl, hN9, hu9⟩
          have hput : putW ws (Int.toNat 0) (fmtW lines V) = fmtW lines V := by
            unfold putW
            rw [show Int.toNat 0 = 0 from rfl, List.take_zero, List.drop_of_length_le (by rw [fmtW_length, HLW.out]; omega)]; simp
          rw [hput] at hN9
          have HN9 := Lib.hid hN9
          have HU9 := Lib.hid hu9
          clear hput hN9 hu9
          go_wp2_with fail
          go_ret
          refine ⟨rfl, by rw [HVV.out]; exact HN9.out.mono fun k h _ => h.1, ?_⟩
          refine (HU4.out.of_non).trans (N := fun k => One q k ∨ F k) ?_ ?_
          · exact (HU2.out.mono fun _ _ h => .inl h).tr (HU9.out.mono fun _ _ h => .inr h.1)
          · intro i hi h
            rcases h with h | h
            · cases h; have := HQ.out; omega
            · exact h
end Go.Proofs.Ytlhbikiggmdolaa
