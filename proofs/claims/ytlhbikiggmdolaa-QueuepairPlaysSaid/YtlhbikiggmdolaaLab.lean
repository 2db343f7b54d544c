/- Labels of blocks: which block belongs to what. The contracts of a pair's Post and Step, told by labels. -/
import Derived.Test.YtlhbikiggmdolaaStepX
import Derived.Test.YtlhbikiggmdolaaCopy3
namespace Go.Proofs.Ytlhbikiggmdolaa
open Go.RowKit

section
variable {α : Type}
/-- The blocks that bear this label. -/
def At (lab : Nat → α) (t : α) : Blk := fun k => lab k = t
/-- Those of them that are there. -/
def AtB (w : World) (lab : Nat → α) (t : α) : Blk := fun k => lab k = t ∧ k < w.heap.size
theorem at_ne {lab : Nat → α} {s t : α} (h : s ≠ t) : ∀ k, At lab s k → ¬ At lab t k := fun _ h1 h2 => h (h1.symm.trans h2)
theorem atB_ne {w : World} {lab : Nat → α} {s t : α} (h : s ≠ t) : ∀ k, AtB w lab s k → ¬ AtB w lab t k := fun _ h1 h2 => h (h1.1.symm.trans h2.1)
theorem atB_at {w : World} {lab : Nat → α} {t : α} : ∀ k, AtB w lab t k → At lab t k := fun _ h => h.1

theorem PairR.atB {w : World} {lab : Nat → α} {m i : α} {p : Nat} {P : Pr} (h : PairR w (At lab m) (At lab i) p P) : PairR w (AtB w lab m) (AtB w lab i) p P := h.mono (fun _ h hl => ⟨h, hl⟩) (fun _ h hl => ⟨h, hl⟩)
theorem NodeR.atB {w : World} {lab : Nat → α} {f : α} {q : Nat} {ws : List Int} {up : Bool} (h : NodeR w (At lab f) q ws up) : NodeR w (AtB w lab f) q ws up := h.mono fun _ h hl => ⟨h, hl⟩
theorem PairR.relab {w : World} {lab lab' : Nat → α} {m i m' i' : α} {p : Nat} {P : Pr} (h : PairR w (At lab m) (At lab i) p P) (hm : ∀ k, k < w.heap.size → lab k = m → lab' k = m') (hi : ∀ k, k < w.heap.size → lab k = i → lab' k = i') : PairR w (At lab' m') (At lab' i') p P :=
  h.mono (fun k hk hl => hm k hl hk) (fun k hk hl => hi k hl hk)
theorem NodeR.relab {w : World} {lab lab' : Nat → α} {f f' : α} {q : Nat} {ws : List Int} {up : Bool} (h : NodeR w (At lab f) q ws up) (hf : ∀ k, k < w.heap.size → lab k = f → lab' k = f') : NodeR w (At lab' f') q ws up := h.mono fun k hk hl => hf k hl hk

/-- What a posted verb leaves. -/
def PostLab (w : World) (lab : Nat → α) (m i : α) (p : Nat) (P : Pr) (v : Vb) (e : Ending) (w' : World) : Prop :=
  e = .returned (.int .i64 0) ∧ Upd (At lab m) w w' ∧ ∃ lab' : Nat → α, PairR w' (At lab' m) (At lab' i) p (P.push v) ∧ (∀ k, k < w.heap.size → lab' k = lab k) ∧ (∀ k, w.heap.size ≤ k → lab' k = m ∨ lab' k = i)

/-- A verb posted: the labels of what was there stay. -/
theorem post_lab {w : World} {lab : Nat → α} {m i : α} {J : Blk} {p : Nat} {P : Pr} {v : Vb} {s : Value} {lines : Int} (h : PairR w (At lab m) (At lab i) p P) (hmi : m ≠ i) (hv : VWords w J v s) (hwl : v.words.length ≤ 1024) (hE : postE P v lines = 0) :
    Calls Try.prog 89 #[.pointer (some ⟨p, 0, none⟩), .agg (vbC v s), .int .i64 lines] w (PostLab w lab m i p P v) := by
  classical
  refine (post_yes h.atB (atB_ne hmi.symm) hv hwl hE).mono ?_
  rintro e w' ⟨he, hu, C, hp⟩
  have hs := hu.size
  refine ⟨he, hu.mono fun k _ h => h.1, fun k => if k < w.heap.size then lab k else if C k then i else m, hp.mono (fun k hk hl => ?_) (fun k hk hl => ?_), fun k hk => by simp [hk], fun k hk => ?_⟩
  · show (if k < w.heap.size then lab k else if C k then i else m) = m
    rcases hk with hk | ⟨hn, hc⟩
    · simp [hk.2, hk.1]
    · have := hn.1
      simp [show ¬ k < w.heap.size by omega, hc]
  · show (if k < w.heap.size then lab k else if C k then i else m) = i
    rcases hk with hk | ⟨hn, hc⟩
    · simp [hk.2, hk.1]
    · have := hn.1
      simp [show ¬ k < w.heap.size by omega, hc]
  · simp only [show ¬ k < w.heap.size by omega, if_false]
    split
    · exact .inr rfl
    · exact .inl rfl

/-- What a step leaves; r: the label of the words handed back. -/
def StepLab (w : World) (lab : Nat → α) (m i f r : α) (p q : Nat) (P : Pr) (ws : List Int) (up : Bool) (e : Ending) (w' : World) : Prop :=
  ∃ (lab' : Nat → α) (A : Option Addr) (cap : Nat), e = .returned (.tuple #[.agg #[.int .i64 (stepV P ws up).code, .slice A (stepV P ws up).done.length cap], .bool (stepV P ws up).is]) ∧ PairR w' (At lab' m) (At lab' i) p (stepV P ws up).pair ∧ NodeR w' (At lab' f) q (stepV P ws up).ws up ∧
    Own w' (At lab' r) 36 1 (.slice A (stepV P ws up).done.length cap) (stepV P ws up).done.length (u64s (stepV P ws up).done) ∧ (∀ k, k < w.heap.size → lab' k = lab k ∨ (lab k = m ∧ lab' k = r)) ∧ (∀ k, w.heap.size ≤ k → lab' k = m ∨ lab' k = r) ∧ Upd (fun k => lab k = m ∨ lab k = f) w w'

theorem step_lab {w : World} {lab : Nat → α} {m i f r : α} {p q : Nat} {P : Pr} {ws : List Int} {up : Bool} (h : PairR w (At lab m) (At lab i) p P) (hn : NodeR w (At lab f) q ws up) (hmi : m ≠ i) (hmf : m ≠ f) (hif : i ≠ f) (hok : P.Ok) :
    Calls Try.prog 91 #[.pointer (some ⟨p, 0, none⟩), .pointer (some ⟨q, 0, none⟩)] w (StepLab w lab m i f r p q P ws up) := by
  classical
  refine (pstep_calls h.atB hn.atB (atB_ne hmi.symm) (atB_ne hmf) (atB_ne hif) hok).mono ?_
  rintro e w' ⟨R, M', s, he, hp, hn', ho, hM', hR, hu⟩
  have hs := hu.size
  obtain ⟨A, cap, rfl, _, _⟩ := ho.shape
  refine ⟨fun k => if M' k then m else if k < w.heap.size ∧ lab k ≠ m then lab k else r, A, cap, he, hp.mono (fun k hk hl => ?_) (fun k hk hl => ?_), hn'.mono (fun k hk hl => ?_), ho.mono (fun k hk hl => ?_), fun k hk => ?_, fun k hk => ?_, hu.mono fun k _ h => h.imp (fun h => h.1) (fun h => h.1)⟩
  · show (if M' k then m else if k < w.heap.size ∧ lab k ≠ m then lab k else r) = m
    simp [hk]
  · show (if M' k then m else if k < w.heap.size ∧ lab k ≠ m then lab k else r) = i
    have h1 : ¬ M' k := fun h => by
      rcases hM' k h with h | h
      · exact hmi (h.1.symm.trans hk.1)
      · have := h.1; have := hk.2; omega
    simp [h1, hk.1, hk.2, hmi.symm]
  · show (if M' k then m else if k < w.heap.size ∧ lab k ≠ m then lab k else r) = f
    have h1 : ¬ M' k := fun h => by
      rcases hM' k h with h | h
      · exact hmf (h.1.symm.trans hk.1)
      · have := h.1; have := hk.2; omega
    simp [h1, hk.1, hk.2, hmf.symm]
  · show (if M' k then m else if k < w.heap.size ∧ lab k ≠ m then lab k else r) = r
    obtain ⟨h1, h2⟩ := hR k hk
    have h3 : ¬ (k < w.heap.size ∧ lab k ≠ m) := fun h => by
      rcases h1 with h1 | h1
      · exact h.2 h1.1
      · have := h1.1; have := h.1; omega
    simp [h2, h3]
  · by_cases h1 : M' k
    · simp only [h1, if_true]
      rcases hM' k h1 with h | h
      · exact .inl h.1.symm
      · have := h.1; omega
    · by_cases h2 : lab k = m
      · simp [h1, hk, h2]
      · simp [h1, hk, h2]
  · by_cases h1 : M' k
    · simp [h1]
    · simp [h1, show ¬ k < w.heap.size by omega]
end
end Go.Proofs.Ytlhbikiggmdolaa
