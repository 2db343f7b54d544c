/- Writes of one pair, in plain words: how a write goes piece by piece. No program in sight. -/
import Derived.Test.YtlhbikiggmdolaaLaw5B
import Derived.Test.YtlhbikiggmdolaaDo3
namespace Go.Proofs.Ytlhbikiggmdolaa
open Go.RowKit

/-- A write of these words at this address, as the statements post it. -/
def wrV (a : Nat) (wd : List Int) : Vb := ⟨2, 0, a, 0, 0, 0, wd, 1, 1⟩
theorem kind_wrV (a : Nat) (wd : List Int) : (wrV a wd).kind = 2 := rfl
theorem cnt_wrV (a : Nat) (wd : List Int) : cntV (wrV a wd) = wd.length := by simp [cntV, wrV]
theorem validE_wrV {a : Nat} {wd : List Int} (h1 : 1 ≤ wd.length) (h2 : 24 ≤ a) (h3 : a + wd.length ≤ 320) : validE (wrV a wd) 5 40 = 0 := by
  have hc := cnt_wrV a wd
  have hl : lastL (wrV a wd) = 2 := rfl
  have ha : (wrV a wd).at_ = a := rfl
  have hn : (wrV a wd).node = 0 := rfl
  refine validE_0 _ _ _ (by omega) ?_ ?_
  · unfold insideP fstL lstL
    rw [hc, ha, hn]
    refine ⟨by omega, ⟨by omega, by omega, by omega, by omega, by omega⟩, by omega, by omega⟩
  · unfold fstL
    rw [hl, ha]
    omega
theorem goodV_wrV {a : Nat} {wd : List Int} (h1 : 1 ≤ wd.length) (h2 : 24 ≤ a) (h3 : a + wd.length ≤ 320) (hw : Wf wd) : GoodV (wrV a wd) :=
  goodV_of (validE_wrV h1 h2 h3) hw (by show (0 : Int) ≤ 0; decide) (by show (1 : Int) < _; decide) (by show wd.length ≤ 1024; omega)

/-- The pieces are consecutive. -/
theorem pcsN_next (f : Nat) : ∀ a left j x y, left ≤ f → (pcsN f a left)[j]? = some x → (pcsN f a left)[j + 1]? = some y → y.1 = x.1 + x.2 := by
  induction f with
  | zero => intro a left j x y _ h; simp [pcsN] at h
  | succ f ih =>
    intro a left j x y hl h1 h2
    unfold pcsN at h1 h2
    by_cases h0 : left = 0
    · simp [h0] at h1
    · rw [if_neg h0] at h1 h2
      cases j with
      | zero =>
        simp only [List.getElem?_cons_zero, Option.some.injEq] at h1
        subst h1
        simp only [Nat.zero_add, List.getElem?_cons_succ] at h2
        by_cases h3 : left - min left (8 - a % 8) = 0
        · rw [h3, pcsN_zero] at h2; simp at h2
        · obtain ⟨g, _, hc⟩ := pcsN_cons (f := f) (a := a + min left (8 - a % 8)) (left := left - min left (8 - a % 8)) (by omega) (by omega)
          rw [hc] at h2
          simp only [List.getElem?_cons_zero, Option.some.injEq] at h2
          subst h2; rfl
      | succ j =>
        simp only [List.getElem?_cons_succ] at h1 h2
        exact ih _ _ j x y (by omega) h1 h2
theorem pcsN_first (f a left : Nat) (h : 1 ≤ left) (hf : left ≤ f) : ∃ n, (pcsN f a left)[0]? = some (a, n) := by
  obtain ⟨g, _, hc⟩ := pcsN_cons (f := f) (a := a) (left := left) (by omega) hf
  rw [hc]; exact ⟨_, rfl⟩
theorem pcsN_last (f : Nat) : ∀ a left j x, left ≤ f → (pcsN f a left)[j]? = some x → (pcsN f a left).length = j + 1 → x.1 + x.2 = a + left := by
  induction f with
  | zero => intro a left j x _ h; simp [pcsN] at h
  | succ f ih =>
    intro a left j x hl h1 h2
    unfold pcsN at h1 h2
    by_cases h0 : left = 0
    · simp [h0] at h1
    · rw [if_neg h0] at h1 h2
      simp only [List.length_cons] at h2
      cases j with
      | zero =>
        simp only [List.getElem?_cons_zero, Option.some.injEq] at h1
        subst h1
        by_cases h3 : left - min left (8 - a % 8) = 0
        · dsimp only; omega
        · obtain ⟨g, _, hc⟩ := pcsN_cons (f := f) (a := a + min left (8 - a % 8)) (left := left - min left (8 - a % 8)) (by omega) (by omega)
          rw [hc] at h2; simp at h2
      | succ j =>
        simp only [List.getElem?_cons_succ] at h1
        have := ih _ _ j x (by omega) h1 (by omega)
        omega

/-- Words put behind words that were put. -/
theorem putW_more (ws l : List Int) (a k n : Nat) (hk : k + n ≤ l.length) (hl : a + l.length ≤ ws.length) : putW (putW ws a (l.take k)) (a + k) ((l.drop k).take n) = putW ws a (l.take (k + n)) := by
  have e1 : (l.take k).length = k := by rw [List.length_take]; omega
  have e2 : ((l.drop k).take n).length = n := by rw [List.length_take, List.length_drop]; omega
  have e3 : (l.take (k + n)).length = k + n := by rw [List.length_take]; omega
  have e4 : (putW ws a (l.take k)).length = ws.length := putW_length _ _ _ (by omega)
  apply List.ext_getElem?
  intro i
  rw [putW_get _ _ _ _ (by omega), putW_get _ _ _ _ (by omega), putW_get _ _ _ _ (by omega), e1, e2, e3]
  by_cases h1 : i < a
  · rw [if_pos (by omega), if_pos h1, if_pos h1]
  · by_cases h2 : i < a + k
    · rw [if_pos h2, if_neg h1, if_pos h2, if_neg h1, if_pos (by omega), List.getElem?_take, List.getElem?_take, if_pos (by omega), if_pos (by omega)]
    · by_cases h3 : i < a + (k + n)
      · rw [if_neg h2, if_pos (by omega), if_neg h1, if_pos h3, List.getElem?_take, List.getElem?_take, if_pos (by omega), if_pos (by omega), List.getElem?_drop]
        congr 1; omega
      · rw [if_neg h2, if_neg (by omega), if_neg h1, if_neg h2, if_neg h1, if_neg h3]

/-- Where piece j of a write begins. -/
def posV (v : Vb) (j : Nat) : Nat := ((pcsV v).getD j (0, 0)).1
theorem posV_get {v : Vb} {j a n : Nat} (h : (pcsV v)[j]? = some (a, n)) : posV v j = a := by unfold posV; rw [List.getD_eq_getElem?_getD, h]; rfl

/-- The node of these statements: its door of client 0, its key, its boot number. -/
def Open5 (ws : List Int) : Prop := ws.length = 320 ∧ ws.getD 24 0 = 0 ∧ ws.getD 0 0 = 1 ∧ ws.getD 1 0 = 1
theorem open_ws5 : Open5 ws5 := ⟨by decide +kernel, by decide +kernel, by decide +kernel, by decide +kernel⟩
theorem getD_putW (ws l : List Int) (a i : Nat) (h : a + l.length ≤ ws.length) : (putW ws a l).getD i 0 = if i < a then ws.getD i 0 else if i < a + l.length then l.getD (i - a) 0 else ws.getD i 0 := by
  simp only [List.getD_eq_getElem?_getD]
  rw [putW_get _ _ _ _ h]
  split
  · rfl
  · split <;> rfl
theorem Open5.put {ws l : List Int} {a : Nat} (h : Open5 ws) (h1 : 25 ≤ a) (h2 : a + l.length ≤ 320) : Open5 (putW ws a l) := by
  obtain ⟨e1, e2, e3, e4⟩ := h
  refine ⟨by rw [putW_length _ _ _ (by omega)]; exact e1, ?_, ?_, ?_⟩
  · rw [getD_putW _ _ _ _ (by omega), if_pos (by omega)]; exact e2
  · rw [getD_putW _ _ _ _ (by omega), if_pos (by omega)]; exact e3
  · rw [getD_putW _ _ _ _ (by omega), if_pos (by omega)]; exact e4
theorem refE_wrV {P : Pr} {a : Nat} {wd ws : List Int} (hc : P.client = 0) (hi : P.inc = 1) (h1 : 1 ≤ wd.length) (h2 : 24 ≤ a) (h3 : a + wd.length ≤ 320) (ho : Open5 ws) : refE P (wrV a wd) ws true = 0 := by
  obtain ⟨e1, e2, e3, e4⟩ := ho
  have hv := validE_wrV h1 h2 h3
  unfold refE
  rw [if_neg (by simp), e1, if_neg (by simpa using hv), hc, hi, show ((24 : Int) + 0).toNat = 24 by decide, e2, e3, e4]
  unfold chkV chkE
  have hr : rdB (wrV a wd) = false := by simp [rdB, wrV]
  rw [hr, Bool.and_false, if_neg (by simp), if_neg (by decide)]
  split
  · rfl
  · rw [if_neg (by simp [wrV])]
/-- One piece of a write. -/
theorem step_wrV {P : Pr} {l : List Vb} {a j : Nat} {wd ws : List Int} (hv : P.verbs = wrV a wd :: l) (hc : P.client = 0) (hi : P.inc = 1) (hx : P.ex = j) (hw : P.words = []) (h1 : 1 ≤ wd.length) (h2 : 25 ≤ a) (h3 : a + wd.length ≤ 320) (ho : Open5 ws) (hj : j < (pcsV (wrV a wd)).length) :
    a ≤ posV (wrV a wd) j ∧ posV (wrV a wd) j ≤ a + wd.length ∧
    stepV P (putW ws a (wd.take (posV (wrV a wd) j - a))) true = if j + 1 < (pcsV (wrV a wd)).length then ⟨{ P with ex := j + 1 }, putW ws a (wd.take (posV (wrV a wd) (j + 1) - a)), 0, [], false⟩ else ⟨P.rest, putW ws a wd, 0, [], true⟩ := by
  have hp := List.getElem?_eq_getElem hj
  generalize hpe : (pcsV (wrV a wd))[j] = x at *
  obtain ⟨b, n⟩ := x
  have hm := pcsV_mem (List.mem_of_getElem? hp)
  rw [cnt_wrV] at hm
  have ha : (wrV a wd).at_.toNat = a := by show ((a : Int)).toNat = a; omega
  rw [ha] at hm
  dsimp only at hm
  have hpos := posV_get hp
  rw [hpos]
  have hle : b ≤ a + wd.length := by omega
  have hop : Open5 (putW ws a (wd.take (b - a))) := ho.put h2 (by rw [List.length_take]; omega)
  have hr := refE_wrV (P := P) (a := a) (wd := wd) hc hi h1 (by omega) h3 hop
  refine ⟨by omega, hle, ?_⟩
  have hexw : exW (wrV a wd) b n (putW ws a (wd.take (b - a))) = [] := by unfold exW; rw [kind_wrV, if_neg (show ¬ (2 : Int) = 1 by decide), if_pos (show (2 : Int) = 2 from rfl)]
  have hexm : exM (wrV a wd) b n (putW ws a (wd.take (b - a))) = putW ws a (wd.take (b - a + n)) := by
    unfold exM
    rw [kind_wrV, if_neg (show ¬ (2 : Int) = 1 by decide), if_pos (show (2 : Int) = 2 from rfl), ha]
    show putW (putW ws a (wd.take (b - a))) b ((wd.drop (b - a)).take n) = _
    have := putW_more ws wd a (b - a) n (by omega) (by obtain ⟨e, _⟩ := ho; omega)
    rw [show a + (b - a) = b by omega] at this
    exact this
  have hl0 : pcsV (wrV a wd) = pcsN wd.length a wd.length := by
    unfold pcsV
    rw [cnt_wrV, ha, show ((wd.length : Int)).toNat = wd.length by omega]
  by_cases hlt : j + 1 < (pcsV (wrV a wd)).length
  · rw [if_pos hlt, stepV_mid hv hr (by rw [hx]; exact hp) (by rw [hx]; exact hlt), hexw, hexm, hw, hx]
    obtain ⟨y, hq⟩ : ∃ y, (pcsV (wrV a wd))[j + 1]? = some y := ⟨_, List.getElem?_eq_getElem hlt⟩
    have hnext : posV (wrV a wd) (j + 1) = b + n := by
      rw [posV_get (a := y.1) (n := y.2) hq]
      exact pcsN_next _ _ _ _ _ _ (Nat.le_refl _) hp hq
    rw [hnext, show b + n - a = b - a + n by omega]
    simp
  · rw [if_neg hlt, stepV_last hv hr (by rw [hx]; exact hp) (by rw [hx]; exact hlt), hexw, hexm, hw]
    have hlast : b + n = a + wd.length := by
      rw [hl0] at hp hlt hj
      exact pcsN_last _ _ _ j (b, n) (Nat.le_refl _) hp (by omega)
    rw [show b - a + n = wd.length by omega, List.take_length]
    simp
end Go.Proofs.Ytlhbikiggmdolaa
