/- Several writes of one pair, in plain words. No program in sight. -/
import Derived.Test.YtlhbikiggmdolaaLaw5C
namespace Go.Proofs.Ytlhbikiggmdolaa
open Go.RowKit

abbrev Wr := Nat × List Int
def runL (l : List Wr) (ws : List Int) : List Int := l.foldl (fun ws x => putW ws x.1 x.2) ws
def vbL (l : List Wr) : List Vb := l.map fun x => wrV x.1 x.2
/-- What is asked of each write. -/
def GoodW (x : Wr) : Prop := 40 ≤ x.1 ∧ x.1 + x.2.length ≤ 300 ∧ 1 ≤ x.2.length ∧ x.2.length ≤ 30 ∧ Wf x.2
def pcsL (l : List Wr) : Nat := (l.map fun x => (pcsV (wrV x.1 x.2)).length).sum
/-- The contents with the first write half done. -/
def curL (base : List Int) (l : List Wr) (j : Nat) : List Int := match l with
  | [] => base
  | x :: _ => putW base x.1 (x.2.take (posV (wrV x.1 x.2) j - x.1))
def PrL (l : List Wr) (j : Nat) : Pr := ⟨0, 1, 0, vbL l, j, []⟩

theorem pcsN_few (f : Nat) : ∀ a left, left ≤ f → 8 * (pcsN f a left).length ≤ a % 8 + left + 7 := by
  induction f with
  | zero => intro a left _; simp [pcsN]
  | succ f ih =>
    intro a left hl
    unfold pcsN
    by_cases h0 : left = 0
    · simp [h0]
    · rw [if_neg h0, List.length_cons]
      have := ih (a + min left (8 - a % 8)) (left - min left (8 - a % 8)) (by omega)
      by_cases h1 : left ≤ 8 - a % 8
      · have e : min left (8 - a % 8) = left := Nat.min_eq_left h1
        rw [e, Nat.sub_self, pcsN_zero, List.length_nil]
        omega
      · have e : min left (8 - a % 8) = 8 - a % 8 := Nat.min_eq_right (by omega)
        rw [e] at this ⊢
        omega
theorem pcs_five {x : Wr} (h : GoodW x) : (pcsV (wrV x.1 x.2)).length ≤ 5 := by
  obtain ⟨_, _, _, h4, _⟩ := h
  unfold pcsV
  rw [cnt_wrV]
  have := pcsN_few (x.2.length : Int).toNat (wrV x.1 x.2).at_.toNat (x.2.length : Int).toNat (Nat.le_refl _)
  omega
theorem pcsL_le {l : List Wr} (h : ∀ x ∈ l, GoodW x) : pcsL l ≤ 5 * l.length := by
  induction l with
  | nil => simp [pcsL]
  | cons x l ih =>
    have h1 := pcs_five (h x (by simp))
    have h2 := ih fun y hy => h y (by simp [hy])
    simp only [pcsL, List.map_cons, List.sum_cons, List.length_cons] at h2 ⊢
    omega
theorem GoodW.pos {x : Wr} (h : GoodW x) : 1 ≤ (pcsV (wrV x.1 x.2)).length := pcsV_pos (by rw [cnt_wrV]; have := h.2.2.1; omega)
theorem curL_zero {base : List Int} {l : List Wr} (h : ∀ x ∈ l, GoodW x) : curL base l 0 = base := by
  cases l with
  | nil => rfl
  | cons x l =>
    have hx := (h x (by simp)).2.2.1
    obtain ⟨n, hn⟩ := pcsN_first (cntV (wrV x.1 x.2)).toNat (wrV x.1 x.2).at_.toNat (cntV (wrV x.1 x.2)).toNat (by rw [cnt_wrV]; omega) (Nat.le_refl _)
    have hp : posV (wrV x.1 x.2) 0 = x.1 := by
      have := posV_get (v := wrV x.1 x.2) (j := 0) hn
      rw [this]; show ((x.1 : Int)).toNat = x.1; omega
    show putW base x.1 (x.2.take (posV (wrV x.1 x.2) 0 - x.1)) = base
    rw [hp, Nat.sub_self, List.take_zero, putW_nil]
theorem runL_append (l m : List Wr) (ws : List Int) : runL (l ++ m) ws = runL m (runL l ws) := by simp [runL]
theorem runL_length {l : List Wr} (h : ∀ x ∈ l, GoodW x) : ∀ ws : List Int, ws.length = 320 → (runL l ws).length = 320 := by
  induction l with
  | nil => intro ws hw; exact hw
  | cons x l ih =>
    intro ws hw
    have hx := (h x (by simp)).2.1
    exact ih (fun y hy => h y (by simp [hy])) (putW ws x.1 x.2) (by rw [putW_length _ _ _ (by omega)]; exact hw)
theorem runL_get {l : List Wr} (h : ∀ x ∈ l, GoodW x) (i : Nat) : ∀ ws ws' : List Int, ws.length = 320 → ws'.length = 320 → ws.getD i 0 = ws'.getD i 0 → (runL l ws).getD i 0 = (runL l ws').getD i 0 := by
  induction l with
  | nil => intro ws ws' _ _ he; exact he
  | cons x l ih =>
    intro ws ws' hw hw' he
    have hx := (h x (by simp)).2.1
    refine ih (fun y hy => h y (by simp [hy])) (putW ws x.1 x.2) (putW ws' x.1 x.2) (by rw [putW_length _ _ _ (by omega)]; exact hw) (by rw [putW_length _ _ _ (by omega)]; exact hw') ?_
    rw [getD_putW _ _ _ _ (by omega), getD_putW _ _ _ _ (by omega), he]
/-- What the node holds at the end is what was wanted. -/
theorem runL_same {l : List Wr} (h : ∀ x ∈ l, GoodW x) : ((runL l ws5).drop 40).take 230 = ((runL l (List.replicate 320 0)).drop 40).take 230 := by
  have h1 := runL_length h ws5 ws5_len
  have h2 := runL_length h (List.replicate 320 0) List.length_replicate
  apply List.ext_getElem?
  intro i
  rw [List.getElem?_take, List.getElem?_take, List.getElem?_drop, List.getElem?_drop]
  split
  · rename_i hi
    have := runL_get h (40 + i) ws5 (List.replicate 320 0) ws5_len List.length_replicate (by
      rw [List.getD_eq_getElem?_getD, List.getD_eq_getElem?_getD, List.getElem?_replicate, if_pos (by omega), show 40 + i = (38 + i) + 1 + 1 by omega]
      show ((List.replicate 318 (0 : Int))[38 + i]?).getD 0 = _
      rw [List.getElem?_replicate, if_pos (by omega)])
    rw [List.getD_eq_getElem?_getD, List.getD_eq_getElem?_getD, List.getElem?_eq_getElem (by omega), List.getElem?_eq_getElem (by omega)] at this
    rw [List.getElem?_eq_getElem (by omega), List.getElem?_eq_getElem (by omega)]
    exact congrArg some this
  · rfl

/-- Where a run stands: the writes that are left, the pieces of the first that are done, the contents before it. -/
structure RunAt (fin : List Int) (n : Nat) (l : List Wr) (j : Nat) (base : List Int) : Prop where
  good : ∀ x ∈ l, GoodW x
  op : Open5 base
  wf : Wf base
  fin_ : runL l base = fin
  none : l = [] → j = 0
  some : ∀ x m, l = x :: m → j < (pcsV (wrV x.1 x.2)).length
  left : n + pcsL l ≤ 150 + j
theorem RunAt.step {fin base : List Int} {n j : Nat} {x : Wr} {l : List Wr} (h : RunAt fin n (x :: l) j base) :
    ∃ is l' j' base', stepV (PrL (x :: l) j) (curL base (x :: l) j) true = ⟨PrL l' j', curL base' l' j', 0, [], is⟩ ∧ RunAt fin (n + 1) l' j' base' := by
  have hx := h.good x (by simp)
  obtain ⟨g1, g2, g3, g4, g5⟩ := id hx
  have hj := h.some x l rfl
  obtain ⟨_, _, hs⟩ := step_wrV (P := PrL (x :: l) j) (l := vbL l) (ws := base) (a := x.1) (wd := x.2) (j := j) rfl rfl rfl rfl rfl g3 (by omega) (by omega) h.op hj
  have hleft := h.left
  by_cases hlt : j + 1 < (pcsV (wrV x.1 x.2)).length
  · rw [if_pos hlt] at hs
    exact ⟨false, x :: l, j + 1, base, hs, h.good, h.op, h.wf, h.fin_, (fun e => by cases e), (fun y m e => by cases e; exact hlt), by omega⟩
  · rw [if_neg hlt] at hs
    have hop : Open5 (putW base x.1 x.2) := h.op.put (by omega) (by omega)
    have hgl : ∀ y ∈ l, GoodW y := fun y hy => h.good y (by simp [hy])
    refine ⟨true, l, 0, putW base x.1 x.2, ?_, hgl, hop, h.wf.put g5 x.1, h.fin_, fun _ => rfl, fun y m e => ?_, ?_⟩
    · rw [curL_zero hgl]; exact hs
    · exact (hgl y (by rw [e]; simp)).pos
    · simp only [pcsL, List.map_cons, List.sum_cons] at hleft ⊢
      omega
theorem RunAt.start {l : List Wr} (h : ∀ x ∈ l, GoodW x) (hl : l.length ≤ 30) : RunAt (runL l ws5) 0 l 0 ws5 :=
  ⟨h, open_ws5, ws5_wf, rfl, fun _ => rfl, fun x m e => (h x (by rw [e]; simp)).pos, by have := pcsL_le h; omega⟩
theorem RunAt.few {fin base : List Int} {n j : Nat} {x : Wr} {l : List Wr} (h : RunAt fin n (x :: l) j base) : n ≤ 150 := by
  have h1 := h.left
  have h2 := h.some x l rfl
  simp only [pcsL, List.map_cons, List.sum_cons] at h1
  omega
end Go.Proofs.Ytlhbikiggmdolaa
