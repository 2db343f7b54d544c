/- The statements about queue pairs that ask the program alone: what stays as it is behind its steps. -/
import Derived.Test.YtlhbikiggmdolaaTornLaw
import Derived.Test.YtlhbikiggmdolaaRPieces
namespace Go.Proofs.Ytlhbikiggmdolaa
open Go.RowKit

/-- The variable x of these statements: four pointers in a box. -/
def XRow (w : World) (bx p q b r : Nat) : Prop := Row w bx 109 [.pointer (some ⟨p, 0, none⟩), .pointer (some ⟨q, 0, none⟩), .pointer (some ⟨b, 0, none⟩), .pointer (some ⟨r, 0, none⟩)]
theorem XRow.cells {w : World} {bx p q b r : Nat} (h : XRow w bx p q b r) : w.cell? ⟨bx, 0, none⟩ = some (.pointer (some ⟨p, 0, none⟩)) ∧ w.cell? ⟨bx, 1, none⟩ = some (.pointer (some ⟨q, 0, none⟩)) ∧ w.cell? ⟨bx, 2, none⟩ = some (.pointer (some ⟨b, 0, none⟩)) ∧ w.cell? ⟨bx, 3, none⟩ = some (.pointer (some ⟨r, 0, none⟩)) :=
  ⟨Row.cell h 0 rfl, Row.cell h 1 rfl, Row.cell h 2 rfl, Row.cell h 3 rfl⟩

/-- The pair and its node, and which blocks they leave alone. -/
def K5 (w0 : World) (A : Blk) (w : World) (p q : Nat) (P : Pr) (ws : List Int) (up : Bool) : Prop :=
  ∃ lab, L5 w0 lab w p q P ws up ∧ (∀ k, A k → 4 ≤ lab k) ∧ (∀ k, w.heap.size ≤ k → 4 ≤ lab k)
/-- Whatever of A is there is as it was; A takes in what is made from now on. -/
theorem L5.seal {w0 w : World} {lab : Nat → Nat} {p q : Nat} {P : Pr} {ws : List Int} {up : Bool} (h : L5 w0 lab w p q P ws up) : L5 w0 (fun k => if k < w.heap.size then lab k else 9) w p q P ws up := by
  have e : ∀ k t, k < w.heap.size → lab k = t → (fun k => if k < w.heap.size then lab k else 9) k = t := fun k t hl hk => by simp [hl, hk]
  have hs := h.upd.size
  exact ⟨h.pair.relab (fun k hl hk => e k _ hl hk) (fun k hl hk => e k _ hl hk), h.node.relab fun k hl hk => e k _ hl hk, fun k hk => e k 0 (by omega) (h.out k hk), h.ok, h.wf, h.upd⟩
theorem L5.k5 {w0 w : World} {lab : Nat → Nat} {p q : Nat} {P : Pr} {ws : List Int} {up : Bool} (h : L5 w0 lab w p q P ws up) : K5 w0 (fun k => k < w.heap.size ∧ 4 ≤ lab k) w p q P ws up :=
  ⟨_, h.seal, fun k hk => by simp [hk.1, hk.2], fun k hk => by simp [show ¬ k < w.heap.size by omega]⟩
theorem K5.mono {w0 w : World} {A B : Blk} {p q : Nat} {P : Pr} {ws : List Int} {up : Bool} (h : K5 w0 A w p q P ws up) (hB : ∀ k, B k → A k ∨ w.heap.size ≤ k) : K5 w0 B w p q P ws up := by
  obtain ⟨lab, h1, h2, h3⟩ := h
  exact ⟨lab, h1, fun k hk => (hB k hk).elim (h2 k) (h3 k), h3⟩
theorem K5.keepN {w0 w w' : World} {A : Blk} {p q : Nat} {P : Pr} {ws : List Int} {up : Bool} (h : K5 w0 A w p q P ws up) (hu : Upd Non w w') : K5 w0 (fun k => A k ∨ w.heap.size ≤ k) w' p q P ws up := by
  obtain ⟨lab, h1, h2, h3⟩ := h
  exact ⟨lab, h1.keepN hu, fun k hk => hk.elim (h2 k) (h3 k), fun k hk => h3 k (Nat.le_trans hu.size hk)⟩
theorem K5.keepA {w0 w w' : World} {A M : Blk} {p q : Nat} {P : Pr} {ws : List Int} {up : Bool} (h : K5 w0 A w p q P ws up) (hu : Upd M w w') (hM : ∀ k, M k → A k) : K5 w0 A w' p q P ws up := by
  obtain ⟨lab, h1, h2, h3⟩ := h
  exact ⟨lab, h1.keep hu fun k hk => h2 k (hM k hk), h2, fun k hk => h3 k (Nat.le_trans hu.size hk)⟩
theorem K5.upd {w0 w : World} {A : Blk} {p q : Nat} {P : Pr} {ws : List Int} {up : Bool} (h : K5 w0 A w p q P ws up) : Upd Non w0 w := by obtain ⟨_, h1, _⟩ := h; exact h1.upd
theorem K5.ok {w0 w : World} {A : Blk} {p q : Nat} {P : Pr} {ws : List Int} {up : Bool} (h : K5 w0 A w p q P ws up) : P.Ok := by obtain ⟨_, h1, _⟩ := h; exact h1.ok
theorem K5.node {w0 w : World} {A : Blk} {p q : Nat} {P : Pr} {ws : List Int} {up : Bool} (h : K5 w0 A w p q P ws up) : ∃ F : Blk, NodeR w F q ws up ∧ (∀ k, A k → ¬ F k) := by
  obtain ⟨lab, h1, h2, _⟩ := h
  exact ⟨_, h1.node, fun k hk h3 => by have h3 : lab k = 3 := h3; have := h2 k hk; omega⟩
theorem K5.pair {w0 w : World} {A : Blk} {p q : Nat} {P : Pr} {ws : List Int} {up : Bool} (h : K5 w0 A w p q P ws up) : ∃ M I : Blk, PairR w M I p P := by
  obtain ⟨lab, h1, _⟩ := h
  exact ⟨_, _, h1.pair⟩

/-- What an operation of the program leaves: A is as it was. -/
def Keep5 (A : Blk) (w w' : World) : Prop := w.heap.size ≤ w'.heap.size ∧ ∀ k, k < w.heap.size → A k → w'.heap[k]? = w.heap[k]?
theorem Keep5.row {A : Blk} {w w' : World} (h : Keep5 A w w') {b : Nat} {T : TypeId} {c : List Value} (hr : Row w b T c) (hb : A b) : Row w' b T c := by
  have hl := hr.lt
  unfold Row at hr ⊢
  rw [h.2 b hl hb]; exact hr
theorem Keep5.view {A F : Blk} {w w' : World} {s n : Nat} {X : Option Addr} {c : List Value} (h : Keep5 A w w') (hv : View w F s X n c) (hF : ∀ k, F k → A k) : View w' F s X n c :=
  ⟨hv.1, fun hc => by
    obtain ⟨b, off, hA, hf, hl, he⟩ := hv.2 hc
    exact ⟨b, off, hA, hf, Nat.lt_of_lt_of_le hl h.1, fun i v hv => (World.cell?_of_block (w := w) (a := ⟨b, off + i, none⟩) (h.2 b hl (hF b hf))).trans (he i v hv)⟩⟩
theorem keep5_of {A : Blk} {lab : Nat → Nat} {w w' : World} (hA : ∀ k, A k → 4 ≤ lab k) {M : Blk} (hu : Upd M w w') (hM : ∀ k, M k → lab k < 4) : Keep5 A w w' :=
  ⟨hu.size, fun k hk ha => hu.block k hk fun hm => by have := hM k hm; have := hA k ha; omega⟩

def K5Post (w0 w : World) (A : Blk) (p q : Nat) (P : Pr) (ws : List Int) (up : Bool) (v : Vb) (e : Ending) (w' : World) : Prop :=
  e = .returned (.int .i64 0) ∧ K5 w0 (fun k => A k ∧ k < w.heap.size) w' p q (P.push v) ws up ∧ Keep5 A w w'
theorem K5.post {w0 w : World} {A : Blk} {p q : Nat} {P : Pr} {ws : List Int} {up : Bool} (h : K5 w0 A w p q P ws up) {J : Blk} {v : Vb} {s : Value} {lines : Int} (hv : VWords w J v s) (hg : GoodV v) (hE : postE P v lines = 0) (hl : P.verbs.length < 1024) :
    Calls Try.prog 89 #[.pointer (some ⟨p, 0, none⟩), .agg (vbC v s), .int .i64 lines] w (K5Post w0 w A p q P ws up v) := by
  obtain ⟨lab, h1, h2, h3⟩ := h
  refine (h1.post hv hg hE hl).mono ?_
  rintro e w' ⟨he, lab', hL, hup, hn, hu⟩
  refine ⟨he, hL.k5.mono fun k hk => .inl ⟨Nat.lt_of_lt_of_le hk.2 hu.size, ?_⟩, keep5_of h2 hu fun k hm => by have hm : lab k = 1 := hm; omega⟩
  have := h2 k hk.1
  rcases hup k hk.2 with e | ⟨e, _⟩ <;> omega
def K5Step (w0 w : World) (A : Blk) (p q : Nat) (P : Pr) (ws : List Int) (up : Bool) (e : Ending) (w' : World) : Prop :=
  ∃ (X : Option Addr) (cap : Nat) (R : Blk), e = .returned (.tuple #[.agg #[.int .i64 (stepV P ws up).code, .slice X (stepV P ws up).done.length cap], .bool (stepV P ws up).is]) ∧ K5 w0 (fun k => A k ∧ k < w.heap.size) w' p q (stepV P ws up).pair (stepV P ws up).ws up ∧
    Own w' R 36 1 (.slice X (stepV P ws up).done.length cap) (stepV P ws up).done.length (u64s (stepV P ws up).done) ∧ Keep5 A w w'
theorem K5.step {w0 w : World} {A : Blk} {p q : Nat} {P : Pr} {ws : List Int} {up : Bool} (h : K5 w0 A w p q P ws up) :
    Calls Try.prog 91 #[.pointer (some ⟨p, 0, none⟩), .pointer (some ⟨q, 0, none⟩)] w (K5Step w0 w A p q P ws up) := by
  obtain ⟨lab, h1, h2, h3⟩ := h
  refine h1.step.mono ?_
  rintro e w' ⟨lab', X, cap, he, hL, hO, hup, hn, hu⟩
  refine ⟨X, cap, _, he, hL.k5.mono fun k hk => .inl ⟨Nat.lt_of_lt_of_le hk.2 hu.size, ?_⟩, hO, keep5_of h2 hu fun k hm => by omega⟩
  have := h2 k hk.1
  rcases hup k hk.2 with e | ⟨e, _⟩ <;> omega
/-- The node changed. -/
theorem K5.setNode {w0 w : World} {A : Blk} {p q : Nat} {P : Pr} {ws : List Int} {up : Bool} (h : K5 w0 A w p q P ws up) : ∃ F : Blk, NodeR w F q ws up ∧ ∀ w' ws' up', NodeR w' F q ws' up' → Upd F w w' → Wf ws' → K5 w0 A w' p q P ws' up' ∧ Keep5 A w w' := by
  obtain ⟨lab, h1, h2, h3⟩ := h
  exact ⟨_, h1.node, fun w' ws' up' hn hu hw => ⟨⟨lab, h1.setNode hn hu hw, h2, fun k hk => h3 k (Nat.le_trans hu.size hk)⟩, keep5_of h2 hu fun k hm => by have hm : lab k = 3 := hm; omega⟩⟩
theorem fresh01 (w : World) : Calls Try.prog 87 #[.int .i64 0, .int .i64 1] w fun e w' => ∃ (p q b r : Nat), e = .returned (.tuple #[.agg #[.pointer (some ⟨p, 0, none⟩), .pointer (some ⟨q, 0, none⟩), .pointer (some ⟨b, 0, none⟩), .pointer (some ⟨r, 0, none⟩)], .bool true]) ∧ K5 w Non w' p q (Pr.none 0 1 0) ws5 true := by
  refine (fresh_calls 0 1 w).mono ?_
  rintro e w' ⟨p, q, b, r, lab, rfl, h⟩
  exact ⟨p, q, b, r, rfl, h.l5.k5.mono fun k hk => hk.elim⟩
end Go.Proofs.Ytlhbikiggmdolaa
