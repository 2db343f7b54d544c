/- Encode of a pair and Key of the reference's pair tell the same states apart. No program in sight. -/
import Derived.Test.YtlhbikiggmdolaaStepV
import Derived.Test.YtlhbikiggmdolaaImgLaw
namespace Go.Proofs.Ytlhbikiggmdolaa
open Go.RowKit

/-- A number of words and the words. -/
def wsU (l : List Int) : List Int := (l.length : Int) :: l
/-- The fields of a verb that matter. -/
def payV (v : Vb) : List Int := if v.kind = 1 then [v.n] else if v.kind = 2 then v.words else if v.kind = 3 then [v.old, v.new_] else if v.kind = 4 then [v.new_] else []
def fldV (v : Vb) : List Int := [v.kind, v.node, v.at_, v.key, v.boot] ++ payV v
def encH (P : Pr) : List Int := wsU [P.client, P.inc, P.node, P.ex, P.verbs.length]
def encU (P : Pr) : List Int := encH P ++ (P.verbs.flatMap (fun v => wsU (fldV v)) ++ wsU P.words)
def kwV (v : Vb) : List Int := if v.kind = 2 then v.words else []
def keyV (v : Vb) (ex : Int) (ws : List Int) : List Int :=
  [v.kind, v.node, v.at_, if v.kind = 1 then v.n else 0, if v.kind = 3 then v.old else 0, if v.kind = 3 ∨ v.kind = 4 then v.new_ else 0, v.key, v.boot, ex, (kwV v).length] ++ (kwV v ++ wsU ws)
def keyQ (ex : Int) (ws : List Int) : List Vb → List Int
  | [] => []
  | v :: l => keyV v ex ws ++ l.flatMap fun v => keyV v 0 []
def keyU (P : Pr) : List Int := [P.client, P.inc, P.node, P.verbs.length] ++ keyQ P.ex P.words P.verbs

/-- What both tell of a pair. -/
def PrEq (P Q : Pr) : Prop := P.client = Q.client ∧ P.inc = Q.inc ∧ P.node = Q.node ∧ P.ex = Q.ex ∧ P.verbs.map fldV = Q.verbs.map fldV ∧ P.words = Q.words

theorem wsU_pre {a b x y : List Int} (h : wsU a ++ x = wsU b ++ y) : a = b ∧ x = y := by
  simp only [wsU, List.cons_append, List.cons.injEq] at h
  exact List.append_inj h.2 (by omega)
theorem flat_pre {α β : Type} {f : α → List Int} {g : α → β} (hf : ∀ u v x y, f u ++ x = f v ++ y → g u = g v ∧ x = y) : ∀ (l m : List α) (x y : List Int), l.length = m.length → l.flatMap f ++ x = m.flatMap f ++ y → l.map g = m.map g ∧ x = y := by
  intro l
  induction l with
  | nil => intro m x y hl h; cases m with
    | nil => exact ⟨rfl, by simpa using h⟩
    | cons b m => simp at hl
  | cons a l ih => intro m x y hl h; cases m with
    | nil => simp at hl
    | cons b m =>
      simp only [List.flatMap_cons, List.append_assoc] at h
      obtain ⟨h1, h2⟩ := hf _ _ _ _ h
      obtain ⟨h3, h4⟩ := ih m x y (by simpa using hl) h2
      exact ⟨by simp [h1, h3], h4⟩
theorem flat_eq {α : Type} {f g : α → List Int} (hf : ∀ u v, g u = g v → f u = f v) : ∀ (l m : List α), l.map g = m.map g → l.flatMap f = m.flatMap f := by
  intro l
  induction l with
  | nil => intro m h; cases m with
    | nil => rfl
    | cons b m => simp at h
  | cons a l ih => intro m h; cases m with
    | nil => simp at h
    | cons b m =>
      simp only [List.map_cons, List.cons.injEq] at h
      simp only [List.flatMap_cons, hf _ _ h.1, ih m h.2]
theorem encU_iff (P Q : Pr) : encU P = encU Q ↔ PrEq P Q := by
  constructor
  · intro h
    obtain ⟨h1, h2⟩ := wsU_pre (a := [P.client, P.inc, P.node, P.ex, P.verbs.length]) (b := [Q.client, Q.inc, Q.node, Q.ex, Q.verbs.length]) h
    simp only [List.cons.injEq, and_true] at h1
    obtain ⟨a1, a2, a3, a4, a5⟩ := h1
    obtain ⟨h3, h4⟩ := flat_pre (f := fun v => wsU (fldV v)) (g := fldV) (fun u v x y h => wsU_pre h) P.verbs Q.verbs _ _ (by omega) h2
    have h5 := wsU_pre (x := []) (y := []) (by simpa using h4)
    exact ⟨a1, a2, a3, by omega, h3, h5.1⟩
  · rintro ⟨h1, h2, h3, h4, h5, h6⟩
    have hl : P.verbs.length = Q.verbs.length := by have := congrArg List.length h5; simpa using this
    unfold encU encH
    rw [h1, h2, h3, h4, h6, hl, flat_eq (fun u v h => by show wsU (fldV u) = wsU (fldV v); rw [h]) P.verbs Q.verbs h5]
theorem fldV_eq {u v : Vb} : fldV u = fldV v ↔ u.kind = v.kind ∧ u.node = v.node ∧ u.at_ = v.at_ ∧ u.key = v.key ∧ u.boot = v.boot ∧ payV u = payV v := by
  unfold fldV
  constructor
  · intro h
    simp only [List.cons_append, List.nil_append, List.cons.injEq] at h
    exact h
  · rintro ⟨h1, h2, h3, h4, h5, h6⟩
    rw [h1, h2, h3, h4, h5, h6]
theorem pay_parts {u v : Vb} (hk : u.kind = v.kind) : payV u = payV v → ((if u.kind = 1 then u.n else 0) = (if v.kind = 1 then v.n else 0) ∧ (if u.kind = 3 then u.old else 0) = (if v.kind = 3 then v.old else 0) ∧ (if u.kind = 3 ∨ u.kind = 4 then u.new_ else 0) = (if v.kind = 3 ∨ v.kind = 4 then v.new_ else 0) ∧ kwV u = kwV v) := by
  unfold payV kwV
  rw [← hk]
  intro h
  by_cases h1 : u.kind = 1
  · simp [h1] at h ⊢; exact h
  by_cases h2 : u.kind = 2
  · simp [h2] at h ⊢; exact h
  by_cases h3 : u.kind = 3
  · simp [h3] at h ⊢; exact h
  by_cases h4 : u.kind = 4
  · simp [h4] at h ⊢; exact h
  simp [h1, h2, h3, h4]
theorem pay_of_parts {u v : Vb} (hk : u.kind = v.kind) (h : (if u.kind = 1 then u.n else 0) = (if v.kind = 1 then v.n else 0) ∧ (if u.kind = 3 then u.old else 0) = (if v.kind = 3 then v.old else 0) ∧ (if u.kind = 3 ∨ u.kind = 4 then u.new_ else 0) = (if v.kind = 3 ∨ v.kind = 4 then v.new_ else 0) ∧ kwV u = kwV v) : payV u = payV v := by
  unfold payV
  unfold kwV at h
  rw [← hk] at h ⊢
  obtain ⟨a, b, c, d⟩ := h
  by_cases h1 : u.kind = 1
  · simp [h1] at a ⊢; exact a
  by_cases h2 : u.kind = 2
  · simp [h2] at d ⊢; exact d
  by_cases h3 : u.kind = 3
  · simp [h3] at b c ⊢; exact ⟨b, c⟩
  by_cases h4 : u.kind = 4
  · simp [h4] at c ⊢; exact c
  simp [h1, h2, h3, h4]
theorem keyV_pre {u v : Vb} {ex ex' : Int} {ws ws' x y : List Int} (h : keyV u ex ws ++ x = keyV v ex' ws' ++ y) : (fldV u = fldV v ∧ ex = ex' ∧ ws = ws') ∧ x = y := by
  unfold keyV at h
  simp only [List.cons_append, List.nil_append, List.cons.injEq, List.append_assoc] at h
  obtain ⟨h1, h2, h3, h4, h5, h6, h7, h8, h9, h10, h11⟩ := h
  obtain ⟨h12, h13⟩ := List.append_inj h11 (by omega)
  obtain ⟨h14, h15⟩ := wsU_pre h13
  exact ⟨⟨fldV_eq.2 ⟨h1, h2, h3, h7, h8, pay_of_parts h1 ⟨h4, h5, h6, h12⟩⟩, h9, h14⟩, h15⟩
theorem keyV_eq {u v : Vb} (ex : Int) (ws : List Int) (h : fldV u = fldV v) : keyV u ex ws = keyV v ex ws := by
  obtain ⟨h1, h2, h3, h4, h5, h6⟩ := fldV_eq.1 h
  obtain ⟨a, b, c, d⟩ := pay_parts h1 h6
  unfold keyV
  rw [a, b, c, d, h1, h2, h3, h4, h5]
/-- A pair without verbs has no executed piece and no words. -/
def EmptyOk (P : Pr) : Prop := P.verbs = [] → P.ex = 0 ∧ P.words = []
theorem Pr.Ok.empty {P : Pr} (h : P.Ok) : EmptyOk P := fun hv => by
  have h0 := h.none hv
  have h1 := h.words
  exact ⟨h0, List.eq_nil_of_length_eq_zero (by omega)⟩
theorem keyU_pre {P Q : Pr} (hP : EmptyOk P) (hQ : EmptyOk Q) {x y : List Int} (h : keyU P ++ x = keyU Q ++ y) : PrEq P Q ∧ x = y := by
  unfold keyU at h
  simp only [List.cons_append, List.nil_append, List.cons.injEq] at h
  obtain ⟨h1, h2, h3, h4, h5⟩ := h
  cases hp : P.verbs with
  | nil =>
    have hq : Q.verbs = [] := List.eq_nil_of_length_eq_zero (by rw [hp] at h4; simp at h4; omega)
    obtain ⟨a1, a2⟩ := hP hp
    obtain ⟨b1, b2⟩ := hQ hq
    rw [hp, hq] at h5
    exact ⟨⟨h1, h2, h3, by rw [a1, b1], by rw [hp, hq], by rw [a2, b2]⟩, h5⟩
  | cons v l =>
    cases hq : Q.verbs with
    | nil => rw [hp, hq] at h4; simp at h4; omega
    | cons u m =>
      rw [hp, hq] at h5
      simp only [keyQ, List.append_assoc] at h5
      obtain ⟨⟨c1, c2, c3⟩, c4⟩ := keyV_pre h5
      obtain ⟨d1, d2⟩ := flat_pre (f := fun v => keyV v 0 []) (g := fldV) (fun u v x y h => ⟨(keyV_pre h).1.1, (keyV_pre h).2⟩) l m _ _ (by rw [hp, hq] at h4; simp at h4; omega) c4
      exact ⟨⟨h1, h2, h3, by omega, by rw [hp, hq]; simp [c1, d1], c3⟩, d2⟩
theorem keyU_iff {P Q : Pr} (hP : EmptyOk P) (hQ : EmptyOk Q) : keyU P = keyU Q ↔ PrEq P Q := by
  constructor
  · intro h
    exact (keyU_pre (x := []) (y := []) hP hQ (by simpa using h)).1
  · rintro ⟨h1, h2, h3, h4, h5, h6⟩
    have hl : P.verbs.length = Q.verbs.length := by have := congrArg List.length h5; simpa using this
    unfold keyU
    rw [h1, h2, h3, h4, h6, hl]
    congr 1
    cases hp : P.verbs with
    | nil =>
      have hq : Q.verbs = [] := List.eq_nil_of_length_eq_zero (by rw [hp] at hl; simp at hl; omega)
      rw [hq]
    | cons v l =>
      cases hq : Q.verbs with
      | nil => rw [hp, hq] at hl; simp at hl
      | cons u m =>
        rw [hp, hq] at h5
        simp only [List.map_cons, List.cons.injEq] at h5
        simp only [keyQ]
        rw [keyV_eq _ _ h5.1, flat_eq (fun u v h => keyV_eq 0 [] h) l m h5.2]

theorem imgW_append (l m : List Int) : imgW (l ++ m) = imgW l ++ imgW m := by simp [imgW]
theorem imgW_pre {l m : List Int} (hl : W64 l) (hm : W64 m) (hlen : l.length = m.length) {x y : List Nat} (h : imgW l ++ x = imgW m ++ y) : l = m ∧ x = y := by
  obtain ⟨h1, h2⟩ := List.append_inj h (by rw [imgW_length, imgW_length, hlen])
  refine ⟨?_, h2⟩
  clear h h2
  induction l generalizing m with
  | nil => cases m with
    | nil => rfl
    | cons b m => simp at hlen
  | cons a l ih => cases m with
    | nil => simp at hlen
    | cons b m =>
      have e : leB a.toNat ++ imgW l = leB b.toNat ++ imgW m := h1
      obtain ⟨e1, e2⟩ := List.append_inj e (by rw [leB_length, leB_length])
      have ha := hl a (by simp)
      have hb := hm b (by simp)
      have := leB_inj (by omega) (by omega) e1
      rw [ih (fun x hx => hl x (by simp [hx])) (fun x hx => hm x (by simp [hx])) (by simpa using hlen) e2, show a = b by omega]
theorem imgW_inj {l m : List Int} (hl : W64 l) (hm : W64 m) (h : imgW l = imgW m) : l = m := by
  have hlen : l.length = m.length := by have := congrArg List.length h; rw [imgW_length, imgW_length] at this; omega
  exact (imgW_pre (x := []) (y := []) hl hm hlen (by rw [h])).1

/-- All numbers of a pair are words. -/
structure WdV (v : Vb) : Prop where
  kind : 0 ≤ v.kind ∧ v.kind < 18446744073709551616
  node : 0 ≤ v.node ∧ v.node < 18446744073709551616
  at_ : 0 ≤ v.at_ ∧ v.at_ < 18446744073709551616
  n : v.kind = 1 → 0 ≤ v.n ∧ v.n < 18446744073709551616
  old : 0 ≤ v.old ∧ v.old < 18446744073709551616
  new_ : 0 ≤ v.new_ ∧ v.new_ < 18446744073709551616
  key : 0 ≤ v.key ∧ v.key < 18446744073709551616
  boot : 0 ≤ v.boot ∧ v.boot < 18446744073709551616
  words : W64 v.words
  len : v.words.length ≤ 1024
structure Pr.Wd (P : Pr) : Prop where
  client : 0 ≤ P.client ∧ P.client < 18446744073709551616
  inc : 0 ≤ P.inc ∧ P.inc < 18446744073709551616
  node : 0 ≤ P.node ∧ P.node < 18446744073709551616
  ex : P.ex ≤ 1000000
  len : P.verbs.length ≤ 1024
  verbs : ∀ v ∈ P.verbs, WdV v
  words : W64 P.words
  wlen : P.words.length ≤ 1000000
theorem W64.append {l m : List Int} (h : W64 l) (h' : W64 m) : W64 (l ++ m) := fun x hx => (List.mem_append.1 hx).elim (h x) (h' x)
theorem W64.cons {a : Int} {m : List Int} (h : 0 ≤ a ∧ a < 18446744073709551616) (h' : W64 m) : W64 (a :: m) := fun x hx => (List.mem_cons.1 hx).elim (fun e => e ▸ h) (h' x)
theorem W64.nil : W64 [] := fun x hx => by simp at hx
theorem W64.flat {α : Type} {f : α → List Int} {l : List α} (h : ∀ x ∈ l, W64 (f x)) : W64 (l.flatMap f) := fun x hx => by
  obtain ⟨y, hy, hm⟩ := List.mem_flatMap.1 hx; exact h y hy x hm
theorem w64_wsU {l : List Int} (h : W64 l) (hl : l.length ≤ 10000000) : W64 (wsU l) := W64.cons (by omega) h
theorem payV_w64 {v : Vb} (h : WdV v) : W64 (payV v) ∧ (payV v).length ≤ 1024 := by
  unfold payV
  split
  · exact ⟨W64.cons (h.n ‹_›) W64.nil, by simp⟩
  · split
    · exact ⟨h.words, h.len⟩
    · split
      · exact ⟨W64.cons h.old (W64.cons h.new_ W64.nil), by simp⟩
      · split
        · exact ⟨W64.cons h.new_ W64.nil, by simp⟩
        · exact ⟨W64.nil, by simp⟩
theorem fldV_w64 {v : Vb} (h : WdV v) : W64 (fldV v) ∧ (fldV v).length ≤ 1029 := by
  obtain ⟨h1, h2⟩ := payV_w64 h
  unfold fldV
  exact ⟨W64.append (W64.cons h.kind (W64.cons h.node (W64.cons h.at_ (W64.cons h.key (W64.cons h.boot W64.nil))))) h1, by simp; omega⟩
theorem encU_w64 {P : Pr} (h : P.Wd) : W64 (encU P) := by
  have := h.ex
  have := h.len
  unfold encU encH
  refine W64.append (w64_wsU (W64.cons h.client (W64.cons h.inc (W64.cons h.node (W64.cons (by omega) (W64.cons (by omega) W64.nil))))) (by simp)) (W64.append (W64.flat fun v hv => ?_) (w64_wsU h.words (by have := h.wlen; omega)))
  obtain ⟨a, b⟩ := fldV_w64 (h.verbs v hv)
  exact w64_wsU a (by omega)
theorem ite_w {c : Prop} [Decidable c] {x : Int} (h : c → 0 ≤ x ∧ x < 18446744073709551616) : 0 ≤ (if c then x else 0) ∧ (if c then x else 0) < 18446744073709551616 := by
  split
  · exact h ‹_›
  · omega
theorem keyV_w64 {v : Vb} (h : WdV v) {ex : Int} {ws : List Int} (he : 0 ≤ ex ∧ ex < 18446744073709551616) (hw : W64 ws) (hl : ws.length ≤ 1000000) : W64 (keyV v ex ws) := by
  have hk : W64 (kwV v) ∧ (kwV v).length ≤ 1024 := by
    unfold kwV
    split
    · exact ⟨h.words, h.len⟩
    · exact ⟨W64.nil, by simp⟩
  unfold keyV
  refine W64.append ?_ (W64.append hk.1 (w64_wsU hw (by omega)))
  exact W64.cons h.kind (W64.cons h.node (W64.cons h.at_ (W64.cons (ite_w h.n) (W64.cons (ite_w fun _ => h.old) (W64.cons (ite_w fun _ => h.new_) (W64.cons h.key (W64.cons h.boot (W64.cons he (W64.cons (by have := hk.2; omega) W64.nil)))))))))
theorem keyU_w64 {P : Pr} (h : P.Wd) : W64 (keyU P) := by
  have h1 := h.ex
  have h2 := h.len
  unfold keyU
  refine W64.append (W64.cons h.client (W64.cons h.inc (W64.cons h.node (W64.cons (by omega) W64.nil)))) ?_
  cases hv : P.verbs with
  | nil => exact W64.nil
  | cons v l =>
    have hall := h.verbs
    rw [hv] at hall
    refine W64.append (keyV_w64 (hall v (by simp)) (by omega) h.words h.wlen) (W64.flat fun u hu => keyV_w64 (hall u (by simp [hu])) (by omega) W64.nil (by simp))
/-- Encode and Key agree on which states differ. -/
theorem enc_key {P Q : Pr} (hP : P.Wd) (hQ : Q.Wd) (eP : EmptyOk P) (eQ : EmptyOk Q) : imgW (encU P) = imgW (encU Q) ↔ imgW (keyU P) = imgW (keyU Q) := by
  constructor
  · intro h
    rw [(keyU_iff eP eQ).2 ((encU_iff P Q).1 (imgW_inj (encU_w64 hP) (encU_w64 hQ) h))]
  · intro h
    rw [(encU_iff P Q).2 ((keyU_iff eP eQ).1 (imgW_inj (keyU_w64 hP) (keyU_w64 hQ) h))]
theorem W64.set {ws : List Int} (h : W64 ws) (i : Nat) {x : Int} (hx : 0 ≤ x ∧ x < 18446744073709551616) : W64 (ws.set i x) := fun y hy => by
  rcases List.mem_or_eq_of_mem_set hy with h' | h'
  · exact h y h'
  · subst h'; exact hx
theorem W64.getD {ws : List Int} (h : W64 ws) (i : Nat) : 0 ≤ ws.getD i 0 ∧ ws.getD i 0 < 18446744073709551616 := by
  rw [List.getD_eq_getElem?_getD]
  by_cases hi : i < ws.length
  · rw [List.getElem?_eq_getElem hi]; exact h _ (List.getElem_mem hi)
  · rw [List.getElem?_eq_none (by omega)]; exact ⟨by decide, by decide⟩
theorem exW_w64 {v : Vb} {a n : Nat} {ws : List Int} (h : W64 ws) : W64 (exW v a n ws) := by
  unfold exW
  split
  · exact fun x hx => h x (List.mem_of_mem_drop (List.mem_of_mem_take hx))
  · split
    · exact W64.nil
    · exact W64.cons (h.getD a) W64.nil
theorem putW_w64 {ws l : List Int} (h : W64 ws) (h2 : W64 l) (a : Nat) : W64 (putW ws a l) :=
  W64.append (fun x hx => h x (List.mem_of_mem_take hx)) (W64.append h2 fun x hx => h x (List.mem_of_mem_drop hx))
theorem exM_w64 {v : Vb} {a n : Nat} {ws : List Int} (h : W64 ws) (hv : WdV v) : W64 (exM v a n ws) := by
  unfold exM
  split
  · exact h
  · split
    · exact putW_w64 h (fun x hx => hv.words x (List.mem_of_mem_drop (List.mem_of_mem_take hx))) _
    · split
      · unfold casW
        split
        · exact h.set _ hv.new_
        · exact h
      · exact h.set _ ⟨Int.emod_nonneg _ (by decide), Int.emod_lt_of_pos _ (by decide)⟩
theorem Pr.Wd.rest {P : Pr} (h : P.Wd) : P.rest.Wd :=
  ⟨h.client, h.inc, h.node, by simp [Pr.rest], by have := h.len; simp [Pr.rest]; omega, fun v hv => h.verbs v (List.mem_of_mem_tail hv), W64.nil, by simp [Pr.rest]⟩
theorem stepV_wd {P : Pr} {ws : List Int} {up : Bool} (h : P.Wd) (ho : P.Ok) (hw : W64 ws) : (stepV P ws up).pair.Wd ∧ W64 (stepV P ws up).ws ∧ W64 (stepV P ws up).done := by
  obtain hv | ⟨v, l, hv⟩ : P.verbs = [] ∨ ∃ v l, P.verbs = v :: l := by
    cases P.verbs with
    | nil => exact .inl rfl
    | cons v l => exact .inr ⟨v, l, rfl⟩
  · rw [stepV_nil hv]; exact ⟨h, hw, W64.nil⟩
  · by_cases hr : refE P v ws up = 0
    · obtain ⟨_, hok, a, n, he, h8, hp⟩ := piece_ok ho hv hr
      have hg := h.verbs v (by rw [hv]; simp)
      by_cases hlt : P.ex + 1 < (pcsV v).length
      · rw [stepV_mid hv hr he hlt]
        have h2 := pcsV_length v
        have h3 := hok.cnt2
        have h4 := ho.words
        have h5 := exW_length v a n ws hp.pos
        exact ⟨⟨h.client, h.inc, h.node, by dsimp only; omega, h.len, h.verbs, W64.append h.words (exW_w64 hw), by dsimp only; rw [List.length_append]; omega⟩, exM_w64 hw hg, W64.nil⟩
      · rw [stepV_last hv hr he hlt]
        exact ⟨h.rest, exM_w64 hw hg, W64.append h.words (exW_w64 hw)⟩
    · rw [stepV_ref hv hr]; exact ⟨h.rest, hw, W64.nil⟩
theorem Pr.Wd.push {P : Pr} (h : P.Wd) {v : Vb} (hv : WdV v) (hl : P.verbs.length < 1024) : (P.push v).Wd :=
  ⟨h.client, h.inc, h.node, h.ex, by simp [Pr.push]; omega, fun x hx => (List.mem_append.1 hx).elim (h.verbs x) (fun e => by rw [List.mem_singleton] at e; exact e ▸ hv), h.words, h.wlen⟩
end Go.Proofs.Ytlhbikiggmdolaa
