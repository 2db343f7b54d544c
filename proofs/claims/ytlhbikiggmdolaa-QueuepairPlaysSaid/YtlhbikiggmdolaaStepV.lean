/- Queue pairs: one step, in plain words; what stays true of a pair. -/
import Derived.Test.YtlhbikiggmdolaaComp
namespace Go.Proofs.Ytlhbikiggmdolaa
open Go.RowKit

theorem pcsN_mem (f : Nat) : ∀ a left x, left ≤ f → x ∈ pcsN f a left → a ≤ x.1 ∧ 1 ≤ x.2 ∧ x.2 ≤ 8 ∧ x.1 + x.2 ≤ a + left := by
  induction f with
  | zero => intro a left x _ h; simp [pcsN] at h
  | succ f ih =>
    intro a left x hl h
    unfold pcsN at h
    split at h
    · simp at h
    · rcases List.mem_cons.1 h with rfl | h
      · dsimp only; omega
      · have := ih _ _ x (by omega) h; omega
theorem pcsV_mem {v : Vb} {x : Nat × Nat} (h : x ∈ pcsV v) : v.at_.toNat ≤ x.1 ∧ 1 ≤ x.2 ∧ x.2 ≤ 8 ∧ x.1 + x.2 ≤ v.at_.toNat + (cntV v).toNat := pcsN_mem _ _ _ _ (Nat.le_refl _) h
theorem pcsV_pos {v : Vb} (h : 1 ≤ cntV v) : 1 ≤ (pcsV v).length := by
  unfold pcsV
  obtain ⟨g, _, e⟩ := pcsN_cons (f := (cntV v).toNat) (a := v.at_.toNat) (left := (cntV v).toNat) (by omega) (Nat.le_refl _)
  rw [e]; simp
theorem pcsV_length (v : Vb) : (pcsV v).length ≤ (cntV v).toNat := pcsN_length _ _ _

/-- One step: the pair, the words, the completion's code and words, whether a verb completed. -/
structure Out where
  pair : Pr
  ws : List Int
  code : Int
  done : List Int
  is : Bool
def stepV (P : Pr) (ws : List Int) (up : Bool) : Out :=
  match P.verbs with
  | [] => ⟨P, ws, 0, [], false⟩
  | v :: _ =>
    if refE P v ws up ≠ 0 then ⟨P.rest, ws, refE P v ws up, [], true⟩
    else
      let x := (pcsV v).getD P.ex (0, 0)
      if P.ex + 1 < (pcsV v).length then ⟨{ P with ex := P.ex + 1, words := P.words ++ exW v x.1 x.2 ws }, exM v x.1 x.2 ws, 0, [], false⟩
      else ⟨P.rest, exM v x.1 x.2 ws, 0, P.words ++ exW v x.1 x.2 ws, true⟩
structure Pr.Ok (P : Pr) : Prop where
  good : ∀ v ∈ P.verbs, GoodV v
  len : P.verbs.length ≤ 1024
  ex : ∀ v l, P.verbs = v :: l → P.ex < (pcsV v).length
  none : P.verbs = [] → P.ex = 0
  words : P.words.length ≤ 8 * P.ex
  wf : Wf P.words
  c0 : 0 ≤ P.client
  c1 : P.client < 6
  i0 : 0 ≤ P.inc
  i1 : P.inc ≤ 59
  n0 : 0 ≤ P.node
  n1 : P.node < 5
theorem exW_length (v : Vb) (a n : Nat) (ws : List Int) (h : 1 ≤ n) : (exW v a n ws).length ≤ n := by
  unfold exW
  split
  · simp; omega
  · split
    · simp
    · simpa using h
theorem exW_wf {v : Vb} {a n : Nat} {ws : List Int} (h : Wf ws) : Wf (exW v a n ws) := by
  unfold exW
  split
  · exact fun x hx => h x (List.mem_of_mem_drop (List.mem_of_mem_take hx))
  · split
    · exact fun x hx => by simp at hx
    · exact fun x hx => by rw [List.mem_singleton] at hx; subst hx; exact h.getD a
theorem exM_length {v : Vb} {a n : Nat} {ws : List Int} (h : PieceOk v a n ws.length) (hw : v.kind = 2 → (v.words.length : Int) = cntV v) : (exM v a n ws).length = ws.length := by
  unfold exM
  split
  · rfl
  · split
    · rename_i h2
      have := hw h2
      refine putW_length _ _ _ ?_
      have := h.len
      simp; omega
    · split
      · exact casW_length _ _ _ _
      · simp
theorem putW_wf {ws l : List Int} (h : Wf ws) (h2 : Wf l) (a : Nat) : Wf (putW ws a l) := fun x hx => by
  unfold putW at hx
  rcases List.mem_append.1 hx with hx | hx
  · exact h x (List.mem_of_mem_take hx)
  · rcases List.mem_append.1 hx with hx | hx
    · exact h2 x hx
    · exact h x (List.mem_of_mem_drop hx)
theorem casW_wf {ws : List Int} (h : Wf ws) (a : Nat) (old : Int) {new : Int} (hn : 0 ≤ new) : Wf (casW ws a old new) := by
  unfold casW
  split
  · exact h.set _ hn
  · exact h
theorem exM_wf {v : Vb} {a n : Nat} {ws : List Int} (h : Wf ws) (hg : GoodV v) : Wf (exM v a n ws) := by
  unfold exM
  split
  · exact h
  · split
    · exact putW_wf h (fun x hx => hg.words x (List.mem_of_mem_drop (List.mem_of_mem_take hx))) _
    · split
      · exact casW_wf h _ _ hg.new0
      · exact h.set _ (Int.emod_nonneg _ (by decide))
/-- The next piece may be executed if nothing refuses it. -/
theorem piece_ok {P : Pr} {v : Vb} {l : List Vb} {ws : List Int} {up : Bool} (h : P.Ok) (hv : P.verbs = v :: l) (hr : refE P v ws up = 0) :
    up = true ∧ OkV v ∧ ∃ a n, (pcsV v)[P.ex]? = some (a, n) ∧ n ≤ 8 ∧ PieceOk v a n ws.length := by
  unfold refE at hr
  cases up
  · simp at hr
  refine ⟨rfl, ?_⟩
  rw [if_neg (by simp)] at hr
  have h0 : validE v 5 ((ws.length / 8 : Nat) : Int) = 0 := by
    by_cases h0 : validE v 5 ((ws.length / 8 : Nat) : Int) = 0
    · exact h0
    · rw [if_pos h0] at hr; omega
  obtain ⟨hok, h1, h2, h3, h4, h5, h6, _⟩ := validE_ok h0
  have hex := h.ex v l hv
  refine ⟨hok, ((pcsV v)[P.ex]'hex).1, ((pcsV v)[P.ex]'hex).2, by rw [List.getElem?_eq_getElem hex], ?_⟩
  have hm := pcsV_mem (List.getElem_mem hex)
  generalize (pcsV v)[P.ex] = x at *
  obtain ⟨m1, m2, m3, m4⟩ := hm
  have hc1 := hok.cnt1
  have hc2 := hok.cnt2
  have ha := hok.at0
  refine ⟨m3, ha, m1, m2, m4, ?_, ?_⟩
  · have hlst : (v.at_ + cntV v - 1) / 8 < ((ws.length / 8 : Nat) : Int) := h4
    omega
  · rcases kinds_of hc1 with ⟨k, _, _⟩ | ⟨k, _, _⟩ | ⟨k, e, _⟩
    · exact .inl k
    · exact .inr (.inl k)
    · exact .inr (.inr ⟨k, by omega, by omega⟩)
theorem Pr.Ok.rest {P : Pr} (h : P.Ok) : P.rest.Ok := by
  refine ⟨fun v hv => h.good v (List.mem_of_mem_tail hv), ?_, fun v l e => ?_, fun _ => rfl, Nat.zero_le _, fun x hx => by simp [Pr.rest] at hx, h.c0, h.c1, h.i0, h.i1, h.n0, h.n1⟩
  · have := h.len; simp [Pr.rest]; omega
  · have := (h.good v (List.mem_of_mem_tail (by show v ∈ P.verbs.tail; have : P.verbs.tail = v :: l := e; rw [this]; simp))).ok.cnt1
    exact pcsV_pos this
theorem stepV_nil {P : Pr} (h : P.verbs = []) (ws : List Int) (up : Bool) : stepV P ws up = ⟨P, ws, 0, [], false⟩ := by
  unfold stepV; split
  · rfl
  · rename_i e; rw [h] at e; cases e
theorem stepV_ref {P : Pr} {v : Vb} {l : List Vb} (h : P.verbs = v :: l) {ws : List Int} {up : Bool} (hr : refE P v ws up ≠ 0) : stepV P ws up = ⟨P.rest, ws, refE P v ws up, [], true⟩ := by
  unfold stepV; split
  · rename_i e; rw [h] at e; cases e
  · rename_i e; rw [h] at e; cases e
    rw [if_pos hr]
theorem stepV_mid {P : Pr} {v : Vb} {l : List Vb} (h : P.verbs = v :: l) {ws : List Int} {up : Bool} (hr : refE P v ws up = 0) {a n : Nat} (hx : (pcsV v)[P.ex]? = some (a, n)) (hl : P.ex + 1 < (pcsV v).length) :
    stepV P ws up = ⟨{ P with ex := P.ex + 1, words := P.words ++ exW v a n ws }, exM v a n ws, 0, [], false⟩ := by
  have hx : (pcsV v).getD P.ex (0, 0) = (a, n) := by rw [List.getD_eq_getElem?_getD, hx]; rfl
  unfold stepV; split
  · rename_i e; rw [h] at e; cases e
  · rename_i e; rw [h] at e; cases e
    rw [if_neg (by rw [hr]; decide)]
    dsimp only
    rw [if_pos hl, hx]
theorem stepV_last {P : Pr} {v : Vb} {l : List Vb} (h : P.verbs = v :: l) {ws : List Int} {up : Bool} (hr : refE P v ws up = 0) {a n : Nat} (hx : (pcsV v)[P.ex]? = some (a, n)) (hl : ¬ P.ex + 1 < (pcsV v).length) :
    stepV P ws up = ⟨P.rest, exM v a n ws, 0, P.words ++ exW v a n ws, true⟩ := by
  have hx : (pcsV v).getD P.ex (0, 0) = (a, n) := by rw [List.getD_eq_getElem?_getD, hx]; rfl
  unfold stepV; split
  · rename_i e; rw [h] at e; cases e
  · rename_i e; rw [h] at e; cases e
    rw [if_neg (by rw [hr]; decide)]
    dsimp only
    rw [if_neg hl, hx]
theorem stepV_ok {P : Pr} {ws : List Int} {up : Bool} (h : P.Ok) (hw : Wf ws) : (stepV P ws up).pair.Ok ∧ Wf (stepV P ws up).ws ∧ (stepV P ws up).ws.length = ws.length ∧ Wf (stepV P ws up).done ∧ (stepV P ws up).done.length ≤ 32768 := by
  obtain hv | ⟨v, l, hv⟩ : P.verbs = [] ∨ ∃ v l, P.verbs = v :: l := by
    cases P.verbs with
    | nil => exact .inl rfl
    | cons v l => exact .inr ⟨v, l, rfl⟩
  · rw [stepV_nil hv]; exact ⟨h, hw, rfl, fun x hx => by simp at hx, by simp⟩
  · by_cases hr : refE P v ws up = 0
    · obtain ⟨_, hok, a, n, he, h8, hp⟩ := piece_ok h hv hr
      have hg := h.good v (by rw [hv]; simp)
      have hlen : (exM v a n ws).length = ws.length := exM_length hp fun k => by simp [cntV, k]
      have hwl := exW_length v a n ws hp.pos
      have hwf : Wf (P.words ++ exW v a n ws) := fun x hx => by
        rcases List.mem_append.1 hx with hx | hx
        · exact h.wf x hx
        · exact exW_wf hw x hx
      have hwords := h.words
      by_cases hlt : P.ex + 1 < (pcsV v).length
      · rw [stepV_mid hv hr he hlt]
        refine ⟨⟨h.good, h.len, fun v' l' e => ?_, fun e => ?_, ?_, hwf, h.c0, h.c1, h.i0, h.i1, h.n0, h.n1⟩, exM_wf hw hg, hlen, fun x hx => by simp at hx, by simp⟩
        · have e : P.verbs = v' :: l' := e
          rw [hv] at e; cases e; exact hlt
        · have e : P.verbs = [] := e
          rw [hv] at e; cases e
        · dsimp only; rw [List.length_append]; omega
      · rw [stepV_last hv hr he hlt]
        have h1 := h.ex v l hv
        have h2 := pcsV_length v
        have h3 := hok.cnt2
        refine ⟨h.rest, exM_wf hw hg, hlen, hwf, ?_⟩
        dsimp only
        rw [List.length_append]
        omega
    · rw [stepV_ref hv hr]; exact ⟨h.rest, hw, rfl, fun x hx => by simp at hx, by simp⟩
end Go.Proofs.Ytlhbikiggmdolaa
