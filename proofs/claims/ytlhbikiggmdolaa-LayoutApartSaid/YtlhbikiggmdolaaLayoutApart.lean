/- The walk of LayoutApart: no two regions overlap, all lie within the memory. -/
import Derived.Test.YtlhbikiggmdolaaApart
import Derived.Test.YtlhbikiggmdolaaHeap2
import Derived.Laws.OwnMore
namespace Go.Proofs.Ytlhbikiggmdolaa
open Go.RowKit

/-- The marks behind k steps of a region that begins at a. -/
def mkK (U a : Nat) : Nat → Nat
  | 0 => U
  | k + 1 => mkK U a k ||| 2 ^ (a + k)
def mkL (U : Nat) : List (Nat × Nat) → Nat
  | [] => U
  | x :: l => mkL (mkK U x.1 x.2) l
def okK (U a : Nat) : Nat → Bool
  | 0 => true
  | k + 1 => okK U a k && decide (a + k < 2048) && !(mkK U a k).testBit (a + k)
def okL (U : Nat) : List (Nat × Nat) → Bool
  | [] => U.testBit 2047
  | x :: l => okK U x.1 x.2 && decide (x.2 ≤ 112) && okL (mkK U x.1 x.2) l
theorem ok_exts : okL 0 exts = true := by decide +kernel
theorem okK_at {U a n k : Nat} (h : okK U a n = true) (hk : k < n) : a + k < 2048 ∧ (mkK U a k).testBit (a + k) = false := by
  induction n with
  | zero => omega
  | succ n ih =>
    simp only [okK, Bool.and_eq_true, decide_eq_true_eq, Bool.not_eq_true'] at h
    by_cases e : k = n
    · subst e; exact ⟨h.1.2, h.2⟩
    · exact ih h.1.1 (by omega)
def bits (U : Nat) : List Value := (List.range 2048).map fun j => .bool (U.testBit j)
theorem bits_get (U j : Nat) (h : j < 2048) : (bits U)[j]? = some (.bool (U.testBit j)) := by simp [bits, h]
theorem bits_set (U j : Nat) (_h : j < 2048) : (bits U).set j (.bool true) = bits (U ||| 2 ^ j) := by
  apply List.ext_getElem?
  intro i
  rw [List.getElem?_set]
  by_cases e : j = i
  · subst e; simp [bits]; split <;> simp_all
  · simp only [e, if_false, bits, List.getElem?_map]
    cases h2 : (List.range 2048)[i]? with
    | none => rfl
    | some x =>
      have hx : x = i := by rw [List.getElem?_eq_some_iff] at h2; obtain ⟨_, h2⟩ := h2; simpa using h2.symm
      subst hx
      simp [Nat.testBit_or, Nat.testBit_two_pow, e]
noncomputable def usedC : Array Value := Array.replicate 2048 (.bool false)
theorem usedC_list : usedC.toList = bits 0 := by
  unfold usedC bits
  rw [Array.toList_replicate]
  apply List.ext_getElem?
  intro i
  rw [List.getElem?_replicate, List.getElem?_map]
  by_cases h : i < 2048
  · rw [if_pos h, List.getElem?_range h, Option.map_some, Nat.zero_testBit]
  · rw [if_neg h, List.getElem?_eq_none (by rw [List.length_range]; omega), Option.map_none]
theorem zero_used (w : World) : (zeroValue 24).run Try.prog w = .ok (.agg usedC) w := by kernel_rfl

theorem exs_at (pre : List (Nat × Nat)) (x : Nat × Nat) (post : List (Nat × Nat)) : (exs (pre ++ x :: post))[pre.length * 2]? = some (.int .i64 x.1) ∧ (exs (pre ++ x :: post))[pre.length * 2 + 1]? = some (.int .i64 x.2) := by
  rw [exs_append]
  have h := exs_length pre
  constructor
  · rw [List.getElem?_append_right (by omega), h]; simp [exs]
  · rw [List.getElem?_append_right (by omega), h]; simp [exs]

/-- What holds at the head of each round of the two loops. -/
def InRel (W : World) (b n U a : Nat) (j : Value) (wr : World) : Prop := ∃ k : Nat, k ≤ n ∧ j = .int .i64 k ∧ Row wr b 24 (bits (mkK U a k)) ∧ Upd (One b) W wr
def OutRel (W : World) (b : Nat) (i : Value) (wr : World) : Prop := ∃ pre rest, exts = pre ++ rest ∧ i = .int .i64 pre.length ∧ okL (mkL 0 pre) rest = true ∧ Row wr b 24 (bits (mkL 0 pre)) ∧ Upd (One b) W wr
theorem mkL_snoc (pre : List (Nat × Nat)) (U a n : Nat) : mkL U (pre ++ [(a, n)]) = mkK (mkL U pre) a n := by
  induction pre generalizing U with
  | nil => rfl
  | cons x l ih => exact ih _

set_option maxRecDepth 100000 in
theorem layoutApart_any (w : World) : Calls Try.prog 3 #[] w fun e w' => e = .returned (.bool true) ∧ Upd Non w w' := by
  have HZ := zero_used
  go_enter Try.func3, Try.ntmps3
  go_wp2_with fail
  refine (regions_calls _).mono ?_
  rintro e w1 ⟨v, rfl, hO, hU⟩
  obtain ⟨A, cap, rfl, hA, hV⟩ := hO.shape
  clear hA
  have HV := Lib.hid hV
  have HU := Lib.hid hU
  have hlen : exts.length = 213 := rfl
  rw [hlen]
  clear hO hV hU hlen
  go_wp2_with fail
  obtain ⟨b0, off, rfl, ⟨hb1, hb2⟩, hx1, hx2⟩ := HV.out.bound.open (by intro h; simp [exts, exA, exs] at h)
  clear hx1 hx2
  have hcell : ∀ wr, Upd (One w1.heap.size) (w1.alloc (.cells usedC 24)) wr → ∀ i v, (exs exts)[i]? = some v → wr.cell? ⟨b0, off + i, none⟩ = some v := by
    intro wr hu i v hv
    have h2 := (HV.out.bound.keep (M := Non) ((Upd.refl _ _).alloc (.cells usedC 24)) (fun _ _ h => h)).keep hu (fun k hk h => by have := hk.2; cases h; omega)
    obtain ⟨b, o, hA, _, _, hc⟩ := h2.cell hv
    simp only [Option.some.injEq, Addr.mk.injEq] at hA
    obtain ⟨rfl, rfl, _⟩ := hA
    exact hc
  have HC := Lib.hid hcell
  have hrow : Row (w1.alloc (.cells usedC 24)) w1.heap.size 24 (bits 0) := by rw [← usedC_list]; exact Row.new w1 usedC 24
  have HR := Lib.hid hrow
  have HUW := Lib.hid (HU.out.alloc (.cells usedC 24))
  have HUB := Lib.hid HU.out.size
  clear hcell hrow HV HU HZ
  generalize w1.alloc (.cells usedC 24) = W1 at *
  generalize w1.heap.size = ub at *
  go_loopw [3] (fun i wr => OutRel W1 ub i wr) (fun i _ => 213 - (intOf i).toNat)
  case atStart => exact ⟨[], exts, rfl, rfl, ok_exts, HR.out, Upd.refl _ _⟩
  case round =>
    obtain ⟨pre, rest, he, rfl, hok, hrow, hupd⟩ := hrel
    have hl : pre.length + rest.length = 213 := by have := congrArg List.length he; simp only [List.length_append] at this; rw [← this]; rfl
    cases rest with
    | nil =>
      have HE := Lib.hid he
      have HOK := Lib.hid hok
      have HROW := Lib.hid hrow
      have HUPD := Lib.hid hupd
      have hl : pre.length = 213 := hl
      have HL := Lib.hid hl
      have hge : ¬ ((pre.length : Int) < 213) := by omega
      clear he hok hrow hupd HR hl
      go_wp2_with fail
      refine (awake7_calls _).mono ?_
      rintro e w5 ⟨rfl, hu5⟩
      have hcu : w5.cell? ⟨ub, 2047, none⟩ = some (.bool true) := by
        have h := HOK.out
        simp only [okL] at h
        rw [← h]; exact (hu5.rowN HROW.out).cell _ (bits_get _ _ (by omega))
      have HU5 := Lib.hid ((HUW.out.trans HUPD.out fun i hi h => by have := HUB.out; cases h; omega).tr hu5)
      clear hu5
      go_wp2_with fail
      go_ret
      exact ⟨rfl, HU5.out⟩
    | cons x rest =>
      obtain ⟨a, n⟩ := x
      simp only [okL, Bool.and_eq_true, decide_eq_true_eq] at hok
      obtain ⟨⟨hk, hn⟩, hok⟩ := hok
      simp only [List.length_cons] at hl
      have hat := exs_at pre (a, n) rest
      rw [← he] at hat
      have HE := Lib.hid he
      have HOK := Lib.hid hok
      have HKK := Lib.hid hk
      have HAT := Lib.hid hat
      have HROW := Lib.hid hrow
      have HUPD := Lib.hid hupd
      clear he hok hk hat hrow hupd HR
      go_wp2_with fail
      go_loopw [4] (fun j wr => InRel W1 ub n (mkL 0 pre) a j wr) (fun j _ => n - (intOf j).toNat)
      case atStart => exact ⟨0, Nat.zero_le _, rfl, HROW.out, HUPD.out⟩
      case round =>
        obtain ⟨k, hkn, rfl, hrow, hupd⟩ := hrel
        have hc1 := HC.out _ hupd (pre.length * 2 + 1) _ HAT.out.2
        have hc0 := HC.out _ hupd (pre.length * 2) _ HAT.out.1
        have hc1' : wr.cell? ⟨b0, off + pre.length * 2 + 1, none⟩ = some (.int .i64 n) := hc1
        have hc0' : wr.cell? ⟨b0, off + pre.length * 2, none⟩ = some (.int .i64 a) := hc0
        have HROW2 := Lib.hid hrow
        have HUPD2 := Lib.hid hupd
        clear hc0 hc1 hrow hupd HROW HUPD
        by_cases hlt : k < n
        · obtain ⟨hak, hbit⟩ := okK_at HKK.out hlt
          have hcu : wr.cell? ⟨ub, a + k, none⟩ = some (.bool false) := by rw [← hbit]; exact HROW2.out.cell _ (bits_get _ _ hak)
          have hfu := HROW2.out.frozen (a + k)
          have hakI : (a : Int) + k < 2048 := by omega
          clear hbit
          go_wp2
          go_roundw
          case rel =>
            have := HROW2.out.set (a + k) (.bool true)
            rw [bits_set _ _ hak] at this
            exact ⟨k + 1, by omega, by go_num, this, HUPD2.out.setCell (p := ⟨ub, a + k, none⟩) (.inl rfl) _⟩
          case measure => simp [intOf]; omega
        · obtain rfl : k = n := by omega
          go_wp2
          go_roundw
          case rel =>
            have HLL := mkL_snoc pre 0 a k
            refine ⟨pre ++ [(a, k)], rest, by rw [HE.out]; simp, by rw [List.length_append]; go_num, by rw [HLL]; exact HOK.out, by rw [HLL]; exact HROW2.out, HUPD2.out⟩
          case measure => simp [intOf]; omega
end Go.Proofs.Ytlhbikiggmdolaa
