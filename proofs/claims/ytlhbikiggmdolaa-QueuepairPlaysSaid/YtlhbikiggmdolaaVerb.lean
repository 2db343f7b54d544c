/- Verbs: their numbers of words, their lines, which are valid. -/
import Derived.Test.YtlhbikiggmdolaaLaw3
import Derived.Test.YtlhbikiggmdolaaHeap3
import Derived.Deep.RegionHeld3
namespace Go.Proofs.Ytlhbikiggmdolaa
open Go.RowKit

/-- A verb. -/
structure Vb where
  kind : Int
  node : Int
  at_ : Int
  n : Int
  old : Int
  new_ : Int
  words : List Int
  key : Int
  boot : Int

/-- A verb's cells; s is its slice of words. -/
def vbC (v : Vb) (s : Value) : Array Value := #[.int .i64 v.kind, .int .i64 v.node, .int .i64 v.at_, .int .i64 v.n, .int .u64 v.old, .int .u64 v.new_, s, .int .u64 v.key, .int .i64 v.boot]
def vbO (v : Vb) (s : Value) : Obj := .cells (vbC v s) 62

/-- How many words a verb touches. -/
def cntV (v : Vb) : Int := if v.kind = 1 then v.n else if v.kind = 2 then v.words.length else if v.kind = 3 ∨ v.kind = 4 then 1 else 0
def refCntV (v : Vb) : Int := if v.kind = 1 then v.n else if v.kind = 2 then v.words.length else 1
def lastL (v : Vb) : Int := if v.kind = 1 then 3 else 2

theorem count_calls (v : Vb) (A : Option Addr) (cap : Nat) (w : World) :
    Calls Try.prog 125 #[.agg (vbC v (.slice A v.words.length cap))] w fun e w' => e = .returned (.int .i64 (cntV v)) ∧ w' = w.alloc (vbO v (.slice A v.words.length cap)) := by
  unfold vbO vbC
  have HC := Lib.hid (show cntV v = if v.kind = 1 then v.n else if v.kind = 2 then v.words.length else if v.kind = 3 ∨ v.kind = 4 then 1 else 0 from rfl)
  generalize cntV v = cn at *
  obtain ⟨kind, node, at_, n, old, new_, words, key, boot⟩ := v
  dsimp only at *
  generalize words.length = len at *
  by_cases h1 : kind = 1
  · subst h1
    go_enter Try.func125, Try.ntmps125
    go_wp2
    go_ret
    exact ⟨ret_int (by have := HC.out; simpa using this.symm), rfl⟩
  by_cases h2 : kind = 2
  · subst h2
    go_enter Try.func125, Try.ntmps125
    go_wp2
    go_ret
    exact ⟨ret_int (by have := HC.out; simpa using this.symm), rfl⟩
  by_cases h3 : kind = 3
  · subst h3
    go_enter Try.func125, Try.ntmps125
    go_wp2
    go_ret
    exact ⟨ret_int (by have := HC.out; simpa using this.symm), rfl⟩
  by_cases h4 : kind = 4
  · subst h4
    go_enter Try.func125, Try.ntmps125
    go_wp2
    go_ret
    exact ⟨ret_int (by have := HC.out; simpa using this.symm), rfl⟩
  have b1 : (kind == 1) = false := by simpa using h1
  have b2 : (kind == 2) = false := by simpa using h2
  have b3 : (kind == 3) = false := by simpa using h3
  have b4 : (kind == 4) = false := by simpa using h4
  have HZ : Hid (cn = 0) := by have := HC.out; simp [h1, h2, h3, h4] at this; exact this
  clear h1 h2 h3 h4
  go_enter Try.func125, Try.ntmps125
  go_wp2
  go_ret
  exact ⟨ret_int HZ.out.symm, rfl⟩
theorem refcount_calls (v : Vb) (A : Option Addr) (cap : Nat) (w : World) :
    Calls Try.prog 121 #[.agg (vbC v (.slice A v.words.length cap))] w fun e w' => e = .returned (.int .i64 (refCntV v)) ∧ w' = w.alloc (vbO v (.slice A v.words.length cap)) := by
  unfold vbO vbC
  have HC := Lib.hid (show refCntV v = if v.kind = 1 then v.n else if v.kind = 2 then v.words.length else 1 from rfl)
  generalize refCntV v = cn at *
  obtain ⟨kind, node, at_, n, old, new_, words, key, boot⟩ := v
  dsimp only at *
  generalize words.length = len at *
  by_cases h1 : kind = 1
  · subst h1
    go_enter Try.func121, Try.ntmps121
    go_wp2
    go_ret
    exact ⟨ret_int (by have := HC.out; simpa using this.symm), rfl⟩
  by_cases h2 : kind = 2
  · subst h2
    go_enter Try.func121, Try.ntmps121
    go_wp2
    go_ret
    exact ⟨ret_int (by have := HC.out; simpa using this.symm), rfl⟩
  have b1 : (kind == 1) = false := by simpa using h1
  have b2 : (kind == 2) = false := by simpa using h2
  have HZ : Hid (cn = 1) := by have := HC.out; simp [h1, h2] at this; exact this
  clear h1 h2
  go_enter Try.func121, Try.ntmps121
  go_wp2
  go_ret
  exact ⟨ret_int HZ.out.symm, rfl⟩
theorem lastline_calls (v : Vb) (s : Value) (w : World) (hs : ∃ A n c, s = .slice A n c) :
    Calls Try.prog 163 #[.agg (vbC v s)] w fun e w' => e = .returned (.int .i64 (lastL v)) ∧ w' = w.alloc (vbO v s) := by
  obtain ⟨A, len, cap, rfl⟩ := hs
  unfold vbO vbC
  have HC := Lib.hid (show lastL v = if v.kind = 1 then 3 else 2 from rfl)
  generalize lastL v = cn at *
  obtain ⟨kind, node, at_, n, old, new_, words, key, boot⟩ := v
  dsimp only at *
  by_cases h1 : kind = 1
  · subst h1
    go_enter Try.func163, Try.ntmps163
    go_wp2
    go_ret
    exact ⟨ret_int (by have := HC.out; simpa using this.symm), rfl⟩
  have b1 : (kind == 1) = false := by simpa using h1
  have HZ : Hid (cn = 2) := by have := HC.out; simp [h1] at this; exact this
  clear h1
  go_enter Try.func163, Try.ntmps163
  go_wp2
  go_ret
  exact ⟨ret_int HZ.out.symm, rfl⟩

theorem wrapI (x : Int) (h0 : -9223372036854775808 ≤ x) (h1 : x < 9223372036854775808) : IntKind.i64.wrap x = x := by rw [IntKind.wrap_i64]; omega
theorem wrapD (x : Int) (h0 : 0 ≤ x) (h1 : x < 9223372036854775808) : IntKind.i64.wrap (x.tdiv 8) = x / 8 := by rw [Int.tdiv_eq_ediv_of_nonneg h0]; exact wrapI _ (by omega) (by omega)
/-- The first and the last line that a verb touches. -/
def fstL (v : Vb) : Int := v.at_ / 8
def lstL (v : Vb) : Int := (v.at_ + cntV v - 1) / 8

set_option maxHeartbeats 1000000 in
theorem span_calls (v : Vb) (A : Option Addr) (cap : Nat) (w : World) (h0 : 0 ≤ v.at_) (h1 : v.at_ ≤ 4096) (h2 : 1 ≤ cntV v) (h3 : cntV v ≤ 4096) :
    Calls Try.prog 162 #[.agg (vbC v (.slice A v.words.length cap))] w fun e w' => e = .returned (.tuple #[.int .i64 (fstL v), .int .i64 (lstL v)]) ∧ Upd Non w w' := by
  have HC := Lib.hid (fun w => count_calls v A cap w)
  unfold fstL lstL
  unfold vbC
  unfold vbO vbC at HC
  generalize cntV v = cn at *
  obtain ⟨kind, node, at_, n, old, new_, words, key, boot⟩ := v
  dsimp only at *
  generalize words.length = len at *
  have k1 := wrapI (at_ + cn) (by omega) (by omega)
  have k2 := wrapI (at_ + cn - 1) (by omega) (by omega)
  have k4 := wrapD at_ h0 (by omega)
  have k5 := wrapD (at_ + cn - 1) (by omega) (by omega)
  go_enter Try.func162, Try.ntmps162
  go_wp2_with fail
  go_region_held3 (fun w' => w'.cell? ⟨w.heap.size, 0, none⟩ = some (.int .i64 kind) ∧ w'.cell? ⟨w.heap.size, 1, none⟩ = some (.int .i64 node) ∧ w'.cell? ⟨w.heap.size, 2, none⟩ = some (.int .i64 at_) ∧ w'.cell? ⟨w.heap.size, 3, none⟩ = some (.int .i64 n) ∧ w'.cell? ⟨w.heap.size, 4, none⟩ = some (.int .u64 old) ∧ w'.cell? ⟨w.heap.size, 5, none⟩ = some (.int .u64 new_) ∧ w'.cell? ⟨w.heap.size, 6, none⟩ = some (.slice A len cap) ∧ w'.cell? ⟨w.heap.size, 7, none⟩ = some (.int .u64 key) ∧ w'.cell? ⟨w.heap.size, 8, none⟩ = some (.int .i64 boot)) (go_keep)
    ((go_at_call 125; (with_reducible refine (HC.out _).mono ?_); rintro e w' ⟨rfl, rfl⟩))
  clear k1 k2 k4 k5
  go_wp2_with fail
  go_ret2
  exact ⟨rfl, (((Upd.refl _ _).alloc _).alloc _).drew⟩

/-- Lies within the memory (but for the lines), as the program asks. -/
def insideP (v : Vb) (nodes lines : Int) : Prop := (1 ≤ nodes ∧ nodes ≤ 5 ∧ 1 ≤ lines ∧ lines ≤ 256) ∧ (0 ≤ v.node ∧ v.node < nodes ∧ 0 ≤ v.at_ ∧ v.at_ < lines * 8 ∧ cntV v ≤ 1024) ∧ lstL v < lines ∧ lstL v - fstL v < 128
instance (v : Vb) (nodes lines : Int) : Decidable (insideP v nodes lines) := by unfold insideP; infer_instance
def insideB (v : Vb) (nodes lines : Int) : Bool := decide (insideP v nodes lines)

set_option maxHeartbeats 1000000 in
theorem inside_calls (v : Vb) (A : Option Addr) (cap : Nat) (nodes lines : Int) (w : World) (h2 : 1 ≤ cntV v) :
    Calls Try.prog 161 #[.agg (vbC v (.slice A v.words.length cap)), .int .i64 nodes, .int .i64 lines] w fun e w' => e = .returned (.bool (insideB v nodes lines)) ∧ Upd Non w w' := by
  have HC := Lib.hid (fun w => count_calls v A cap w)
  have HS := Lib.hid (fun w h0 h1 h3 => span_calls v A cap w h0 h1 h2 h3)
  have HI : Hid (insideB v nodes lines = decide ((1 ≤ nodes ∧ nodes ≤ 5 ∧ 1 ≤ lines ∧ lines ≤ 256) ∧ (0 ≤ v.node ∧ v.node < nodes ∧ 0 ≤ v.at_ ∧ v.at_ < lines * 8 ∧ cntV v ≤ 1024) ∧ lstL v < lines ∧ lstL v - fstL v < 128)) := Lib.hid (by unfold insideB insideP; rfl)
  have hf : fstL v = v.at_ / 8 := rfl
  have hl : lstL v = (v.at_ + cntV v - 1) / 8 := rfl
  have HF := Lib.hid hf
  have HL := Lib.hid hl
  clear hf hl
  unfold vbC
  unfold vbO at HC
  unfold vbC at HC HS
  generalize insideB v nodes lines = ib at *
  generalize cntV v = cn at *
  generalize fstL v = fl at *
  generalize lstL v = ll at *
  obtain ⟨kind, node, at_, n, old, new_, words, key, boot⟩ := v
  dsimp only at *
  generalize words.length = len at *
  by_cases g1 : nodes < 1 ∨ 5 < nodes ∨ lines < 1 ∨ 256 < lines
  · have HZ : Hid (ib = false) := by rw [HI.out]; exact decide_eq_false (by omega)
    by_cases a1 : nodes < 1
    · go_enter Try.func161, Try.ntmps161
      go_wp2_with fail
      go_ret
      exact ⟨ret_bool HZ.out.symm, (Upd.refl _ _).alloc _⟩
    by_cases a2 : 5 < nodes
    · go_enter Try.func161, Try.ntmps161
      go_wp2_with fail
      go_ret
      exact ⟨ret_bool HZ.out.symm, (Upd.refl _ _).alloc _⟩
    by_cases a3 : lines < 1
    · go_enter Try.func161, Try.ntmps161
      go_wp2_with fail
      go_ret
      exact ⟨ret_bool HZ.out.symm, (Upd.refl _ _).alloc _⟩
    have a4 : 256 < lines := by omega
    go_enter Try.func161, Try.ntmps161
    go_wp2_with fail
    go_ret
    exact ⟨ret_bool HZ.out.symm, (Upd.refl _ _).alloc _⟩
  · have b1 : 1 ≤ nodes := by omega
    have b2 : nodes ≤ 5 := by omega
    have b3 : 1 ≤ lines := by omega
    have b4 : lines ≤ 256 := by omega
    clear g1
    by_cases g2 : node < 0 ∨ nodes ≤ node ∨ at_ < 0 ∨ lines * 8 ≤ at_
    · have HZ : Hid (ib = false) := by rw [HI.out]; exact decide_eq_false (by omega)
      by_cases a1 : node < 0
      · go_enter Try.func161, Try.ntmps161
        go_wp2_with fail
        go_ret
        exact ⟨ret_bool HZ.out.symm, (Upd.refl _ _).alloc _⟩
      by_cases a2 : nodes ≤ node
      · go_enter Try.func161, Try.ntmps161
        go_wp2_with fail
        go_ret
        exact ⟨ret_bool HZ.out.symm, (Upd.refl _ _).alloc _⟩
      by_cases a3 : at_ < 0
      · go_enter Try.func161, Try.ntmps161
        go_wp2_with fail
        go_ret
        exact ⟨ret_bool HZ.out.symm, (Upd.refl _ _).alloc _⟩
      have a4 : lines * 8 ≤ at_ := by omega
      go_enter Try.func161, Try.ntmps161
      go_wp2_with fail
      go_ret
      exact ⟨ret_bool HZ.out.symm, (Upd.refl _ _).alloc _⟩
    · have c1 : 0 ≤ node := by omega
      have c2 : node < nodes := by omega
      have c3 : 0 ≤ at_ := by omega
      have c4 : at_ < lines * 8 := by omega
      clear g2
      by_cases g3 : 1024 < cn
      · have HZ : Hid (ib = false) := by rw [HI.out]; exact decide_eq_false (by omega)
        go_enter Try.func161, Try.ntmps161
        go_wp2_with (go_at_call 125; (with_reducible refine (HC.out _).mono ?_); rintro e w' ⟨rfl, rfl⟩)
        go_ret
        exact ⟨ret_bool HZ.out.symm, ((Upd.refl _ _).alloc _).alloc _⟩
      · have g3' : cn ≤ 1024 := by omega
        clear g3
        have hll : 0 ≤ ll := by rw [HL.out]; omega
        have hll2 : ll ≤ 4096 := by rw [HL.out]; omega
        have hfl : 0 ≤ fl := by rw [HF.out]; omega
        have hfl2 : fl ≤ 4096 := by rw [HF.out]; omega
        have HSP := Lib.hid (fun w => HS.out w c3 (by omega) (by omega))
        clear HS HF HL
        by_cases g4 : ll < lines
        · by_cases g5 : ll - fl < 128
          · have HZ : Hid (ib = true) := by rw [HI.out]; exact decide_eq_true (by omega)
            go_enter Try.func161, Try.ntmps161
            go_wp2_with (first
              | (go_at_call 125; (with_reducible refine (HC.out _).mono ?_); rintro e w' ⟨rfl, rfl⟩)
              | (go_at_call 162; (with_reducible refine (HSP.out _).mono ?_); rintro e w' ⟨rfl, hu⟩))
            go_ret
            exact ⟨ret_bool HZ.out.symm, (((Upd.refl _ _).alloc _).alloc _).tr hu⟩
          · have HZ : Hid (ib = false) := by rw [HI.out]; exact decide_eq_false (by omega)
            have g5' : ¬ ll - fl < 128 := g5
            have g6 : decide (ll - fl < 128) = false := decide_eq_false g5
            go_enter Try.func161, Try.ntmps161
            go_wp2_with (first
              | (go_at_call 125; (with_reducible refine (HC.out _).mono ?_); rintro e w' ⟨rfl, rfl⟩)
              | (go_at_call 162; (with_reducible refine (HSP.out _).mono ?_); rintro e w' ⟨rfl, hu⟩))
            go_ret
            exact ⟨ret_bool HZ.out.symm, (((Upd.refl _ _).alloc _).alloc _).tr hu⟩
        · have HZ : Hid (ib = false) := by rw [HI.out]; exact decide_eq_false (by omega)
          go_enter Try.func161, Try.ntmps161
          go_wp2_with (first
            | (go_at_call 125; (with_reducible refine (HC.out _).mono ?_); rintro e w' ⟨rfl, rfl⟩)
            | (go_at_call 162; (with_reducible refine (HSP.out _).mono ?_); rintro e w' ⟨rfl, hu⟩))
          go_ret
          exact ⟨ret_bool HZ.out.symm, (((Upd.refl _ _).alloc _).alloc _).tr hu⟩

theorem vb_cells {w : World} {b : Nat} {kind node at_ n old new_ key boot : Int} {s : Value} (h : Row w b 62 [.int .i64 kind, .int .i64 node, .int .i64 at_, .int .i64 n, .int .u64 old, .int .u64 new_, s, .int .u64 key, .int .i64 boot]) :
    w.cell? ⟨b, 0, none⟩ = some (.int .i64 kind) ∧ w.cell? ⟨b, 1, none⟩ = some (.int .i64 node) ∧ w.cell? ⟨b, 2, none⟩ = some (.int .i64 at_) ∧ w.cell? ⟨b, 3, none⟩ = some (.int .i64 n) ∧ w.cell? ⟨b, 4, none⟩ = some (.int .u64 old) ∧ w.cell? ⟨b, 5, none⟩ = some (.int .u64 new_) ∧ w.cell? ⟨b, 6, none⟩ = some s ∧ w.cell? ⟨b, 7, none⟩ = some (.int .u64 key) ∧ w.cell? ⟨b, 8, none⟩ = some (.int .i64 boot) :=
  ⟨h.cell 0 rfl, h.cell 1 rfl, h.cell 2 rfl, h.cell 3 rfl, h.cell 4 rfl, h.cell 5 rfl, h.cell 6 rfl, h.cell 7 rfl, h.cell 8 rfl⟩

/-- Why a verb cannot be posted. -/
def validE (v : Vb) (nodes lines : Int) : Int := if cntV v < 1 then 1 else if insideB v nodes lines = false then 2 else if fstL v ≤ lastL v ∧ lastL v < lstL v then 2 else 0

set_option maxHeartbeats 2000000 in
theorem valid_calls (v : Vb) (A : Option Addr) (cap : Nat) (nodes lines : Int) (w : World) :
    Calls Try.prog 123 #[.agg (vbC v (.slice A v.words.length cap)), .int .i64 nodes, .int .i64 lines] w fun e w' => e = .returned (.int .i64 (validE v nodes lines)) ∧ Upd Non w w' := by
  have HC := Lib.hid (fun w => count_calls v A cap w)
  have HI := Lib.hid (fun w h => inside_calls v A cap nodes lines w h)
  have HS := Lib.hid (fun w h0 h1 h2 h3 => span_calls v A cap w h0 h1 h2 h3)
  have HLL := Lib.hid (fun w => (lastline_calls v (.slice A v.words.length cap) w ⟨_, _, _, rfl⟩).mono (R' := fun e w' => e = .returned (.int .i64 (lastL v)) ∧ Upd Non w w') (by rintro e w' ⟨rfl, rfl⟩; exact ⟨rfl, (Upd.refl _ _).alloc _⟩))
  have HE : Hid (validE v nodes lines = if cntV v < 1 then 1 else if insideB v nodes lines = false then 2 else if fstL v ≤ lastL v ∧ lastL v < lstL v then 2 else 0) := Lib.hid rfl
  have HIB : Hid (insideB v nodes lines = true → 0 ≤ v.at_ ∧ v.at_ < 2048 ∧ cntV v ≤ 1024) := Lib.hid fun h => by
    have h := of_decide_eq_true h
    obtain ⟨⟨_, _, _, h4⟩, ⟨_, _, h5, h6, h7⟩, _, _⟩ := h
    omega
  unfold vbC
  unfold vbO at HC
  unfold vbC at HC HI HS HLL
  generalize validE v nodes lines = ev at *
  generalize insideB v nodes lines = ib at *
  generalize cntV v = cn at *
  generalize fstL v = fl at *
  generalize lstL v = ll at *
  generalize lastL v = la at *
  obtain ⟨kind, node, at_, n, old, new_, words, key, boot⟩ := v
  dsimp only at *
  generalize words.length = len at *
  by_cases g1 : cn < 1
  · have HZ : Hid (ev = 1) := Lib.hid (by rw [HE.out, if_pos g1])
    go_enter Try.func123, Try.ntmps123
    go_wp2_with (go_at_call 125; (with_reducible refine (HC.out _).mono ?_); rintro e w' ⟨rfl, rfl⟩)
    go_ret
    exact ⟨ret_int HZ.out.symm, ((Upd.refl _ _).alloc _).alloc _⟩
  · have g1' : 1 ≤ cn := by omega
    have HE2 : Hid (ev = if ib = false then 2 else if fl ≤ la ∧ la < ll then 2 else 0) := Lib.hid (by rw [HE.out, if_neg g1])
    clear HE g1
    have HI2 := Lib.hid (fun w => HI.out w g1')
    clear HI
    cases ib
    · have HZ : Hid (ev = 2) := Lib.hid (by rw [HE2.out]; rfl)
      go_enter Try.func123, Try.ntmps123
      go_wp2_with (first
        | (go_at_call 125; (with_reducible refine (HC.out _).mono ?_); rintro e w' ⟨rfl, rfl⟩)
        | (go_at_call 161; (with_reducible refine (HI2.out _).mono ?_); rintro e w' ⟨rfl, hu⟩))
      go_ret
      exact ⟨ret_int HZ.out.symm, (((Upd.refl _ _).alloc _).alloc _).tr hu⟩
    · obtain ⟨i1, i2, i3⟩ := HIB.out rfl
      have HS2 := Lib.hid (fun w => HS.out w i1 (by omega) g1' (by omega))
      have HE3 : Hid (ev = if fl ≤ la ∧ la < ll then 2 else 0) := Lib.hid (by rw [HE2.out]; rfl)
      clear HS HE2
      have hend : ∀ (W : World), Upd Non w W → True := fun _ _ => trivial
      clear hend
      go_enter Try.func123, Try.ntmps123
      go_wp2_with (go_at_call 125; (with_reducible refine (HC.out _).mono ?_); rintro e w' ⟨rfl, rfl⟩)
      have hrow : Row ((w.alloc (.cells #[.int .i64 kind, .int .i64 node, .int .i64 at_, .int .i64 n, .int .u64 old, .int .u64 new_, .slice A len cap, .int .u64 key, .int .i64 boot] 62)).alloc (.cells #[.int .i64 kind, .int .i64 node, .int .i64 at_, .int .i64 n, .int .u64 old, .int .u64 new_, .slice A len cap, .int .u64 key, .int .i64 boot] 62)) w.heap.size 62 [.int .i64 kind, .int .i64 node, .int .i64 at_, .int .i64 n, .int .u64 old, .int .u64 new_, .slice A len cap, .int .u64 key, .int .i64 boot] := (Row.new w _ _).alloc _
      have HROW := Lib.hid hrow
      have HU0 : Hid (Upd Non w ((w.alloc (.cells #[.int .i64 kind, .int .i64 node, .int .i64 at_, .int .i64 n, .int .u64 old, .int .u64 new_, .slice A len cap, .int .u64 key, .int .i64 boot] 62)).alloc (.cells #[.int .i64 kind, .int .i64 node, .int .i64 at_, .int .i64 n, .int .u64 old, .int .u64 new_, .slice A len cap, .int .u64 key, .int .i64 boot] 62))) := ((Upd.refl _ _).alloc _).alloc _
      clear hrow
      go_at_call 161
      refine (HI2.out _).mono ?_
      rintro e w1 ⟨rfl, hu1⟩
      have HROW1 := Lib.hid (hu1.rowN HROW.out)
      have HU1 := Lib.hid (HU0.out.tr hu1)
      obtain ⟨d0, d1, d2, d3, d4, d5, d6, d7, d8⟩ := vb_cells HROW1.out
      clear hu1 HROW HU0
      go_wp2_with fail
      refine (HS2.out _).mono ?_
      rintro e w2 ⟨rfl, hu2⟩
      have HROW2 := Lib.hid (hu2.rowN HROW1.out)
      have HU2 := Lib.hid (HU1.out.tr hu2)
      clear hu2 d0 d1 d2 d3 d4 d5 d6 d7 d8
      obtain ⟨d0, d1, d2, d3, d4, d5, d6, d7, d8⟩ := vb_cells HROW2.out
      by_cases g2 : fl ≤ la
      · go_wp2_with fail
        refine (HLL.out _).mono ?_
        rintro e w3 ⟨rfl, hu3⟩
        have HROW3 := Lib.hid (hu3.rowN HROW2.out)
        have HU3 := Lib.hid (HU2.out.tr hu3)
        clear hu3 d0 d1 d2 d3 d4 d5 d6 d7 d8
        obtain ⟨d0, d1, d2, d3, d4, d5, d6, d7, d8⟩ := vb_cells HROW3.out
        go_wp2_with fail
        refine (HLL.out _).mono ?_
        rintro e w4 ⟨rfl, hu4⟩
        have HU4 := Lib.hid (HU3.out.tr hu4)
        clear hu4
        by_cases g3 : la < ll
        · have HZ : Hid (ev = 2) := Lib.hid (by rw [HE3.out, if_pos ⟨g2, g3⟩])
          go_wp2_with fail
          go_ret
          exact ⟨ret_int HZ.out.symm, HU4.out⟩
        · have HZ : Hid (ev = 0) := Lib.hid (by rw [HE3.out, if_neg (fun h => g3 h.2)])
          go_wp2_with fail
          go_ret
          exact ⟨ret_int HZ.out.symm, HU4.out⟩
      · have HZ : Hid (ev = 0) := Lib.hid (by rw [HE3.out, if_neg (fun h => g2 h.1)])
        go_wp2_with fail
        refine (HLL.out _).mono ?_
        rintro e w3 ⟨rfl, hu3⟩
        have HU3 := Lib.hid (HU2.out.tr hu3)
        clear hu3
        go_wp2_with fail
        go_ret
        exact ⟨ret_int HZ.out.symm, HU3.out⟩
end Go.Proofs.Ytlhbikiggmdolaa
