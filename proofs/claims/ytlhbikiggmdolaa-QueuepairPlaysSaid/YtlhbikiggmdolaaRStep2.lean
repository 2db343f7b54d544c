/- Queue pairs of the reference: Step. -/
import Derived.Test.YtlhbikiggmdolaaRStep
import Derived.Test.YtlhbikiggmdolaaLayout
import Derived.Test.YtlhbikiggmdolaaStepX
import Derived.Deep.DeepCutAuto
import Derived.Deep.CutBlock
namespace Go.Proofs.Ytlhbikiggmdolaa
open Go.RowKit

/-- The first verb that waits. -/
def RHead (w : World) (G : Blk) (b off : Nat) (T : TypeId) (c : List Value) (P : Pr) (v : Vb) (s sw : Value) (slot : Int) (g cv : Nat) (l : List Qe) : Prop :=
  Row w b T c ∧ c[off]? = some (.int .i64 P.client) ∧ c[off + 1]? = some (.int .i64 P.inc) ∧ c[off + 2]? = some (.int .i64 P.node) ∧ c[off + 3]? = some (.slice (some ⟨g, 0, none⟩) (l.length + 1) cv) ∧ l.length + 1 ≤ cv ∧ G g ∧
    VWords w G v s ∧ (∀ x ∈ l, VWords w G x.1 x.2.1) ∧ P.verbs = v :: l.map (fun x => x.1) ∧ View w G 12 (some ⟨g, 0, none⟩) (l.length + 1) (pdC v s P.ex sw slot ++ qT l) ∧ Own w G 36 1 sw P.words.length (u64s P.words) ∧ ¬ G b
theorem RPairR.head {w : World} {G : Blk} {b off : Nat} {T : TypeId} {c : List Value} {P : Pr} {sl : List Int} {v : Vb} {l0 : List Vb} (h : RPairR w G b off T c P sl) (hv : P.verbs = v :: l0) :
    ∃ s sw slot g cv l, RHead w G b off T c P v s sw slot g cv l ∧ sl = slot :: l.map (fun x => x.2.2) := by
  obtain ⟨sv, sw, l, h0, h1, h2, h3, h4, h5, h6, h7, h8, h9, h10⟩ := h
  obtain ⟨x, l, rfl⟩ : ∃ x l', l = x :: l' := by
    cases l with
    | nil => rw [hv] at h5; cases h5
    | cons x l => exact ⟨x, l, rfl⟩
  have h5' := h5
  rw [hv] at h5
  simp only [List.map_cons, List.cons.injEq] at h5
  obtain ⟨rfl, h5⟩ := h5
  obtain ⟨Av, cv, rfl, _, hV⟩ := h8.shape
  obtain ⟨g, hcap, rfl, hgG⟩ : ∃ g, l.length + 1 ≤ cv ∧ Av = some ⟨g, 0, none⟩ ∧ G g := by
    rcases h8.2 with ⟨e, _⟩ | ⟨g, c, sp, e, hg, hr, _, h5, _⟩
    · simp only [Value.slice.injEq] at e; exact absurd e.2.1 (by simp)
    · simp only [Value.slice.injEq] at e
      obtain ⟨rfl, _, rfl⟩ := e
      exact ⟨g, by simpa using h5, rfl, hg⟩
  exact ⟨x.2.1, sw, x.2.2, g, cv, l, ⟨h0, h1, h2, h3, by simpa using h4, hcap, hgG, h7 x (by simp), fun y hy => h7 y (List.mem_cons_of_mem _ hy), h5'.symm, hV, h9, h10⟩, by rw [← h6]; rfl⟩
theorem RHead.keep {N G : Blk} {w w' : World} {b off : Nat} {T : TypeId} {c : List Value} {P : Pr} {v : Vb} {s sw : Value} {slot : Int} {g cv : Nat} {l : List Qe} (h : RHead w G b off T c P v s sw slot g cv l) (hu : Upd N w w') (hb : ¬ N b) (hG : ∀ k, G k → ¬ N k) : RHead w' G b off T c P v s sw slot g cv l := by
  obtain ⟨h0, h1, h2, h3, h4, h5, h6, h7, h8, h9, h10, h11, h12⟩ := h
  exact ⟨hu.row h0 hb, h1, h2, h3, h4, h5, h6, h7.keep hu hG, fun x hx => (h8 x hx).keep hu hG, h9, h10.keep hu hG, h11.keep hu hG, h12⟩
/-- A waiting verb's cells as they lie. -/
theorem pd_cells {w : World} {b off : Nat} {v : Vb} {s sw : Value} {ex : Nat} {slot : Int} (h : ∀ i u, (pdC v s ex sw slot)[i]? = some u → w.cell? ⟨b, off + i, none⟩ = some u) :
    w.cell? ⟨b, off, none⟩ = some (.int .i64 v.kind) ∧ w.cell? ⟨b, off + 1, none⟩ = some (.int .i64 v.node) ∧ w.cell? ⟨b, off + 2, none⟩ = some (.int .i64 v.at_) ∧ w.cell? ⟨b, off + 3, none⟩ = some (.int .i64 v.n) ∧ w.cell? ⟨b, off + 4, none⟩ = some (.int .u64 v.old) ∧ w.cell? ⟨b, off + 5, none⟩ = some (.int .u64 v.new_) ∧ w.cell? ⟨b, off + 6, none⟩ = some s ∧ w.cell? ⟨b, off + 7, none⟩ = some (.int .u64 v.key) ∧ w.cell? ⟨b, off + 8, none⟩ = some (.int .i64 v.boot) ∧
      w.cell? ⟨b, off + 9, none⟩ = some (.int .i64 ex) ∧ w.cell? ⟨b, off + 10, none⟩ = some sw ∧ w.cell? ⟨b, off + 11, none⟩ = some (.int .i64 slot) :=
  ⟨h 0 _ rfl, h 1 _ rfl, h 2 _ rfl, h 3 _ rfl, h 4 _ rfl, h 5 _ rfl, h 6 _ rfl, h 7 _ rfl, h 8 _ rfl, h 9 _ rfl, h 10 _ rfl, h 11 _ rfl⟩
theorem pd_row {w : World} {b : Nat} {T : TypeId} {v : Vb} {s sw : Value} {ex : Nat} {slot : Int} (h : Row w b T (pdC v s ex sw slot)) :
    w.cell? ⟨b, 0, none⟩ = some (.int .i64 v.kind) ∧ w.cell? ⟨b, 1, none⟩ = some (.int .i64 v.node) ∧ w.cell? ⟨b, 2, none⟩ = some (.int .i64 v.at_) ∧ w.cell? ⟨b, 3, none⟩ = some (.int .i64 v.n) ∧ w.cell? ⟨b, 4, none⟩ = some (.int .u64 v.old) ∧ w.cell? ⟨b, 5, none⟩ = some (.int .u64 v.new_) ∧ w.cell? ⟨b, 6, none⟩ = some s ∧ w.cell? ⟨b, 7, none⟩ = some (.int .u64 v.key) ∧ w.cell? ⟨b, 8, none⟩ = some (.int .i64 v.boot) ∧
      w.cell? ⟨b, 9, none⟩ = some (.int .i64 ex) ∧ w.cell? ⟨b, 10, none⟩ = some sw ∧ w.cell? ⟨b, 11, none⟩ = some (.int .i64 slot) :=
  ⟨h.cell 0 rfl, h.cell 1 rfl, h.cell 2 rfl, h.cell 3 rfl, h.cell 4 rfl, h.cell 5 rfl, h.cell 6 rfl, h.cell 7 rfl, h.cell 8 rfl, h.cell 9 rfl, h.cell 10 rfl, h.cell 11 rfl⟩
theorem qT_one {w : World} {G : Blk} {l : List Qe} (h : ∀ x ∈ l, VWords w G x.1 x.2.1) : ∀ u ∈ qT l, u.oneCell' = true := by
  rw [← qC_zero]
  exact qC_one (n := 0) (xs := []) (sw := .slice none 0 0) h (Own.nil w G 36 1)
theorem RHead.tail {w : World} {G : Blk} {b off : Nat} {T : TypeId} {c : List Value} {P : Pr} {v : Vb} {s sw : Value} {slot : Int} {g cv : Nat} {l : List Qe} (h : RHead w G b off T c P v s sw slot g cv l) : View w G 12 (some ⟨g, 12, none⟩) l.length (qT l) := by
  obtain ⟨-, -, -, -, -, -, -, -, -, -, h10, -, -⟩ := h
  by_cases h0 : l.length = 0
  · have : l = [] := List.eq_nil_of_length_eq_zero h0
    subst this
    exact View.nil _ _ _ _
  · obtain ⟨b, off, e, hs⟩ := h10.subS 1 l.length (by omega) (by omega) (by decide)
    cases e
    have e : ((pdC v s P.ex sw slot ++ qT l).drop (1 * 12)).take (l.length * 12) = qT l := by
      rw [List.drop_left' (by rw [pdC_length]), List.take_of_length_le (by rw [qT_length]; omega)]
    rw [e] at hs
    simpa using hs
/-- New blocks behind the two boxes. -/
def Far (w w' : World) : Blk := fun k => New w w' k ∧ w.heap.size + 2 ≤ k
/-- The queue without its first verb. -/
theorem rpop_fin {w wc w4 : World} {G : Blk} {b off : Nat} {T : TypeId} {c : List Value} {P : Pr} {v : Vb} {s sw : Value} {slot : Int} {g cv c4 : Nat} {l : List Qe} {A4 : Option Addr} (h : RHead w G b off T c P v s sw slot g cv l) (hwc : w.heap.size + 2 ≤ wc.heap.size) {M : Blk} (hu4 : Upd M w w4) (hM : ∀ k, G k → ¬ M k) (hMb : ¬ M b) (hO : Own w4 (Past wc) 189 12 (.slice A4 l.length c4) l.length (qT l)) :
    RPairR (w4.setCell ⟨b, off + 3, none⟩ (.slice A4 l.length c4)) (fun k => G k ∨ Far w (w4.setCell ⟨b, off + 3, none⟩ (.slice A4 l.length c4)) k) b off T (c.set (off + 3) (.slice A4 l.length c4)) P.rest (l.map fun x => x.2.2) ∧ Upd (Or2 (One b) M) w (w4.setCell ⟨b, off + 3, none⟩ (.slice A4 l.length c4)) := by
  obtain ⟨h0, h1, h2, h3, h4, -, -, -, h8, h9, -, -, h12⟩ := h
  have hset : Upd (One b) w4 (w4.setCell ⟨b, off + 3, none⟩ (.slice A4 l.length c4)) := (Upd.refl (One b) w4).setCell (p := ⟨b, off + 3, none⟩) (.inl rfl) _
  have hfin : Upd (Or2 (One b) M) w (w4.setCell ⟨b, off + 3, none⟩ (.slice A4 l.length c4)) := (hu4.mono fun _ _ h => .inr h).trans hset fun _ _ h => .inl h
  have hrow := (hu4.row h0 hMb).set (off + 3) (.slice A4 l.length c4)
  have hbl := h0.lt
  refine ⟨?_, hfin⟩
  generalize w4.setCell ⟨b, off + 3, none⟩ (.slice A4 l.length c4) = W at *
  have s6 := hset.size
  obtain ⟨g0, g1, g2, g3⟩ := set3_get (x := .slice A4 l.length c4) h4
  refine ⟨.slice A4 l.length c4, .slice none 0 0, l, hrow, by rw [g0]; exact h1, by rw [g1]; exact h2, by rw [g2]; exact h3, g3, ?_, rfl, ?_, ?_, Own.nil _ _ _ _, ?_⟩
  · show _ = P.verbs.tail; rw [h9]; rfl
  · exact fun x hx => ((h8 x hx).keep hfin fun k hk e => by
      rcases e with e | e
      · cases e; exact h12 hk
      · exact hM k hk e).mono fun k hk _ => .inl hk
  · have h13 := hO.keep hset fun k hk e => by have e : k = b := e; have hk : wc.heap.size ≤ k := hk; omega
    show Own _ _ _ _ _ _ (qC 0 (.slice none 0 0) l)
    rw [qC_zero]
    exact h13.mono fun k hk hl => .inr ⟨⟨by have hk : wc.heap.size ≤ k := hk; omega, hl⟩, by have hk : wc.heap.size ≤ k := hk; omega⟩
  · rintro (h | h)
    · exact h12 h
    · have := h.1.1; omega
/-- The two boxes are written last. -/
theorem rstep_fin {w W5 W6 : World} {G H : Blk} {b off b2 off2 : Nat} {T T2 : TypeId} {c c2 : List Value} {P : Pr} {sl : List Int} {ws : List Int} {up : Bool} {s : Value} {n : Nat} {xs : List Value} (hGb : ∀ k, G k → k < w.heap.size) (hHb : ∀ k, H k → k < w.heap.size) (hb : b < w.heap.size)
    (hp : RPairR W5 (fun k => G k ∨ Far w W5 k) b off T c P sl) (hn : RefN W5 H b2 off2 T2 c2 ws up) (hO : Own W5 (fun k => G k ∨ Far w W5 k) 36 1 s n xs) (h5 : Upd (Or2 (One b) H) w W5) (h6 : Upd (fun k => k = w.heap.size ∨ k = w.heap.size + 1) W5 W6) :
    RPairR W6 (fun k => G k ∨ New w W6 k) b off T c P sl ∧ RefN W6 H b2 off2 T2 c2 ws up ∧ Own W6 (fun k => G k ∨ New w W6 k) 36 1 s n xs ∧ Upd (Or2 (One b) H) w W6 := by
  have hd : ∀ k, (G k ∨ Far w W5 k) → ¬ (k = w.heap.size ∨ k = w.heap.size + 1) := fun k hk e => by
    rcases hk with hk | hk
    · have := hGb k hk; omega
    · have := hk.2; omega
  have s6 := h6.size
  refine ⟨(hp.keep h6 (by omega) hd).mono (fun k hk hl => hk.imp id fun h => ⟨h.1.1, hl⟩) ?_, hn.keep h6 (fun k hk e => by have := hHb k hk; omega), (hO.keep h6 hd).mono fun k hk hl => hk.imp id fun h => ⟨h.1.1, hl⟩, h5.trans h6 fun k hk e => by omega⟩
  rintro (h | h)
  · obtain ⟨_, _, _, _, _, _, _, _, _, _, _, _, _, h10⟩ := hp; exact h10 (.inl h)
  · have := h.1; omega
/-- Behind the checks. -/
def RsCut (w : World) (v : Vb) (s sw : Value) (ex : Nat) (slot re : Int) (s9 : Value) (W : World) : Prop :=
  s9 = .int .i64 re ∧ Upd Non w W ∧ Row W w.heap.size 69 [.int .i64 0, .slice none 0 0] ∧ Row W (w.heap.size + 1) 189 (pdC v s ex sw slot)
theorem Row.put12 {w : World} {b : Nat} {T : TypeId} {a0 a1 a2 a3 a4 a5 a6 a7 a8 a9 a10 a11 : Value} {r : List Value} (h : Row w b T (a0 :: a1 :: a2 :: a3 :: a4 :: a5 :: a6 :: a7 :: a8 :: a9 :: a10 :: a11 :: r)) (x0 x1 x2 x3 x4 x5 x6 x7 x8 x9 x10 x11 : Value) :
    Row ((((((((((((w.setCell ⟨b, 0, none⟩ x0).setCell ⟨b, 1, none⟩ x1).setCell ⟨b, 2, none⟩ x2).setCell ⟨b, 3, none⟩ x3).setCell ⟨b, 4, none⟩ x4).setCell ⟨b, 5, none⟩ x5).setCell ⟨b, 6, none⟩ x6).setCell ⟨b, 7, none⟩ x7).setCell ⟨b, 8, none⟩ x8).setCell ⟨b, 9, none⟩ x9).setCell ⟨b, 10, none⟩ x10).setCell ⟨b, 11, none⟩ x11) b T (x0 :: x1 :: x2 :: x3 :: x4 :: x5 :: x6 :: x7 :: x8 :: x9 :: x10 :: x11 :: r) := (((((((((((h.set 0 x0).set 1 x1).set 2 x2).set 3 x3).set 4 x4).set 5 x5).set 6 x6).set 7 x7).set 8 x8).set 9 x9).set 10 x10).set 11 x11
theorem Upd.twelve {M : Blk} {a w : World} (h : Upd M a w) {b : Nat} (hb : M b ∨ a.heap.size ≤ b) (x0 x1 x2 x3 x4 x5 x6 x7 x8 x9 x10 x11 : Value) :
    Upd M a ((((((((((((w.setCell ⟨b, 0, none⟩ x0).setCell ⟨b, 1, none⟩ x1).setCell ⟨b, 2, none⟩ x2).setCell ⟨b, 3, none⟩ x3).setCell ⟨b, 4, none⟩ x4).setCell ⟨b, 5, none⟩ x5).setCell ⟨b, 6, none⟩ x6).setCell ⟨b, 7, none⟩ x7).setCell ⟨b, 8, none⟩ x8).setCell ⟨b, 9, none⟩ x9).setCell ⟨b, 10, none⟩ x10).setCell ⟨b, 11, none⟩ x11) := (((((((((((h.setCell (p := ⟨b, 0, none⟩) hb x0).setCell (p := ⟨b, 1, none⟩) hb x1).setCell (p := ⟨b, 2, none⟩) hb x2).setCell (p := ⟨b, 3, none⟩) hb x3).setCell (p := ⟨b, 4, none⟩) hb x4).setCell (p := ⟨b, 5, none⟩) hb x5).setCell (p := ⟨b, 6, none⟩) hb x6).setCell (p := ⟨b, 7, none⟩) hb x7).setCell (p := ⟨b, 8, none⟩) hb x8).setCell (p := ⟨b, 9, none⟩) hb x9).setCell (p := ⟨b, 10, none⟩) hb x10).setCell (p := ⟨b, 11, none⟩) hb x11
theorem pd_row' {w : World} {b : Nat} {T : TypeId} {v : Vb} {s sw : Value} {ex : Nat} {slot : Int} {r : List Value} (h : Row w b T (pdC v s ex sw slot ++ r)) :
    w.cell? ⟨b, 0, none⟩ = some (.int .i64 v.kind) ∧ w.cell? ⟨b, 1, none⟩ = some (.int .i64 v.node) ∧ w.cell? ⟨b, 2, none⟩ = some (.int .i64 v.at_) ∧ w.cell? ⟨b, 3, none⟩ = some (.int .i64 v.n) ∧ w.cell? ⟨b, 4, none⟩ = some (.int .u64 v.old) ∧ w.cell? ⟨b, 5, none⟩ = some (.int .u64 v.new_) ∧ w.cell? ⟨b, 6, none⟩ = some s ∧ w.cell? ⟨b, 7, none⟩ = some (.int .u64 v.key) ∧ w.cell? ⟨b, 8, none⟩ = some (.int .i64 v.boot) ∧
      w.cell? ⟨b, 9, none⟩ = some (.int .i64 ex) ∧ w.cell? ⟨b, 10, none⟩ = some sw ∧ w.cell? ⟨b, 11, none⟩ = some (.int .i64 slot) :=
  ⟨h.cell 0 rfl, h.cell 1 rfl, h.cell 2 rfl, h.cell 3 rfl, h.cell 4 rfl, h.cell 5 rfl, h.cell 6 rfl, h.cell 7 rfl, h.cell 8 rfl, h.cell 9 rfl, h.cell 10 rfl, h.cell 11 rfl⟩
theorem fz12 {w : World} {b : Nat} {T : TypeId} {c : List Value} (h : Row w b T c) : w.frozen? ⟨b, 0, none⟩ = false ∧ w.frozen? ⟨b, 1, none⟩ = false ∧ w.frozen? ⟨b, 2, none⟩ = false ∧ w.frozen? ⟨b, 3, none⟩ = false ∧ w.frozen? ⟨b, 4, none⟩ = false ∧ w.frozen? ⟨b, 5, none⟩ = false ∧ w.frozen? ⟨b, 6, none⟩ = false ∧ w.frozen? ⟨b, 7, none⟩ = false ∧ w.frozen? ⟨b, 8, none⟩ = false ∧ w.frozen? ⟨b, 9, none⟩ = false ∧ w.frozen? ⟨b, 10, none⟩ = false ∧ w.frozen? ⟨b, 11, none⟩ = false :=
  ⟨h.frozen 0, h.frozen 1, h.frozen 2, h.frozen 3, h.frozen 4, h.frozen 5, h.frozen 6, h.frozen 7, h.frozen 8, h.frozen 9, h.frozen 10, h.frozen 11⟩
/-- A list of the call's own that is not empty lies at the head of a row. -/
theorem own_some {w : World} {F : Blk} {e : TypeId} {s n : Nat} {v : Value} {xs : List Value} (h : Own w F e s v (n + 1) xs) :
    ∃ g cap sp, v = .slice (some ⟨g, 0, none⟩) (n + 1) cap ∧ F g ∧ Row w g e (xs ++ sp) ∧ Hid ((xs ++ sp).length = cap * s ∧ n + 1 ≤ cap ∧ cap ≤ maxLen) := by
  rcases h.2 with ⟨_, e⟩ | ⟨g, cap, sp, e, hF, hr, h1, h2, h3⟩
  · omega
  · exact ⟨g, cap, sp, e, hF, hr, Lib.hid ⟨h1, h2, h3⟩⟩
/-- Behind the executed piece. -/
def RMid (w : World) (H : Blk) (b2 off2 : Nat) (T2 : TypeId) (c2 : List Value) (ws : List Int) (v : Vb) (s : Value) (ex : Nat) (slot : Int) (wds : List Int) (W : World) : Prop :=
  ∃ A c, Upd H w W ∧ RefN W H b2 off2 T2 c2 ws true ∧ Row W w.heap.size 69 [.int .i64 0, .slice none 0 0] ∧ Row W (w.heap.size + 1) 189 (pdC v s ex (.slice A wds.length c) slot) ∧ Own W (Far w W) 36 1 (.slice A wds.length c) wds.length (u64s wds)
theorem rmid_arm {w w3 wp w5 : World} {H : Blk} {b2 off2 : Nat} {T2 : TypeId} {c2 : List Value} {ws pw xs : List Int} {v : Vb} {s sw v' : Value} {ex c1 m : Nat} {slot : Int} {A1 : Option Addr} (hHb : ∀ k, H k → k < w.heap.size) (hu3 : Upd Non w w3) (hZ3 : Row w3 w.heap.size 69 [.int .i64 0, .slice none 0 0]) (hX3 : Row w3 (w.heap.size + 1) 189 (pdC v s ex sw slot))
    (hup : Upd H w3 wp) (hn : RefN wp H b2 off2 T2 c2 ws true) (hA1 : Own wp (Past w3) 36 1 (.slice A1 pw.length c1) pw.length (u64s pw)) (hm : xs.length = m) (hown : Own w5 (fun k => Past w3 k ∨ New wp w5 k) 36 1 v' (pw.length + m) (u64s pw ++ u64s xs)) (hupd : Upd (fun k => (Value.slice A1 pw.length c1).ownBlock = some k) wp w5) :
    ∃ A5 c5, v' = .slice A5 (pw.length + m) c5 ∧ w5.cell? ⟨w.heap.size + 1, 10, none⟩ = some sw ∧ w5.frozen? ⟨w.heap.size + 1, 10, none⟩ = false ∧ Hid (RMid w H b2 off2 T2 c2 ws v s ex slot (pw ++ xs) (w5.setCell ⟨w.heap.size + 1, 10, none⟩ (.slice A5 (pw.length + m) c5))) := by
  obtain ⟨A5, c5, rfl, -, -⟩ := hown.shape
  have hl3 := hX3.lt
  have hs3 := hup.size
  have hsb : ∀ k, (Value.slice A1 pw.length c1).ownBlock = some k → w3.heap.size ≤ k := fun k hk => (hA1.block hk).1
  have hZp := hup.row hZ3 (fun h => Nat.lt_irrefl _ (hHb _ h))
  have hXp := hup.row hX3 (fun h => by have := hHb _ h; omega)
  have hZ5 := hupd.row hZp (fun h => by have := hsb _ h; omega)
  have hX5 := hupd.row hXp (fun h => by have := hsb _ h; omega)
  have hset : Upd (One (w.heap.size + 1)) w5 (w5.setCell ⟨w.heap.size + 1, 10, none⟩ (.slice A5 (pw.length + m) c5)) := (Upd.refl (One (w.heap.size + 1)) w5).setCell (p := ⟨w.heap.size + 1, 10, none⟩) (.inl rfl) _
  have hX6 : Row (w5.setCell ⟨w.heap.size + 1, 10, none⟩ (.slice A5 (pw.length + m) c5)) (w.heap.size + 1) 189 (pdC v s ex (.slice A5 (pw.length + m) c5) slot) := hX5.set 10 (.slice A5 (pw.length + m) c5)
  have hZ6 := hZ5.setOther (b' := w.heap.size + 1) (by omega) 10 (.slice A5 (pw.length + m) c5)
  refine ⟨A5, c5, rfl, hX5.cell 10 rfl, hX5.frozen 10, Lib.hid ?_⟩
  have hup5 : Upd H w w5 := (hu3.of_non.tr hup).trans hupd fun i hi e => by
    have := hsb i e
    have := hu3.size
    omega
  have s3 := hu3.size
  have s5 := hupd.size
  have s6 := hset.size
  generalize w5.setCell ⟨w.heap.size + 1, 10, none⟩ (.slice A5 (pw.length + m) c5) = W at *
  have e : pw.length + m = (pw ++ xs).length := by rw [List.length_append, hm]
  have h5 : Upd H w W := hup5.trans hset fun i hi e => by have e : i = w.heap.size + 1 := e; omega
  refine ⟨A5, c5, h5, (hn.keep hupd fun k hk e => ?_).keep hset fun k hk e => ?_, hZ6, ?_, ?_⟩
  · have := hsb k e; have := hHb k hk; omega
  · have e : k = w.heap.size + 1 := e; have := hHb k hk; omega
  · rw [← e]; exact hX6
  · rw [← e]
    have h7 := hown.keep hset fun k hk e => by
      have e : k = w.heap.size + 1 := e
      rcases hk with hk | hk
      · have hk : w3.heap.size ≤ k := hk; omega
      · have := hk.1; omega
    rw [← u64s_append] at h7
    refine h7.mono fun k hk hl => ?_
    rcases hk with hk | hk
    · have hk : w3.heap.size ≤ k := hk; exact ⟨⟨by omega, hl⟩, by omega⟩
    · have := hk.1; exact ⟨⟨by omega, hl⟩, by omega⟩

/-- The queue with its first verb one piece further. -/
theorem rmid_fin {w W10 : World} {G H : Blk} {b off g9 c9 c7 nw : Nat} {T : TypeId} {c : List Value} {P : Pr} {v : Vb} {s sw : Value} {slot : Int} {g cv : Nat} {l : List Qe} {sl wds : List Int} {A7 : Option Addr} {sp9 : List Value} (h : RHead w G b off T c P v s sw slot g cv l) (hsl : sl = slot :: l.map (fun x => x.2.2)) (hGH : ∀ k, G k → ¬ H k) (hbH : ¬ H b) (hu : Upd H w W10)
    (hg : Row W10 g9 189 (pdC v s (P.ex + 1) (.slice A7 nw c7) slot ++ (qT l ++ sp9))) (hlen : ((pdC v s (P.ex + 1) (.slice A7 nw c7) slot ++ qT l) ++ sp9).length = c9 * 12 ∧ l.length + 1 ≤ c9 ∧ c9 ≤ maxLen) (hg9 : w.heap.size + 2 ≤ g9) (hO : Own W10 (Far w W10) 36 1 (.slice A7 nw c7) nw (u64s wds)) (hnw : wds.length = nw) :
    RPairR (W10.setCell ⟨b, off + 3, none⟩ (.slice (some ⟨g9, 0, none⟩) (l.length + 1) c9)) (fun k => G k ∨ Far w (W10.setCell ⟨b, off + 3, none⟩ (.slice (some ⟨g9, 0, none⟩) (l.length + 1) c9)) k) b off T (c.set (off + 3) (.slice (some ⟨g9, 0, none⟩) (l.length + 1) c9)) { P with ex := P.ex + 1, words := wds } sl ∧
      Upd (Or2 (One b) H) w (W10.setCell ⟨b, off + 3, none⟩ (.slice (some ⟨g9, 0, none⟩) (l.length + 1) c9)) := by
  subst hnw
  obtain ⟨h0, h1, h2, h3, h4, -, -, h7, h8, h9, -, -, h12⟩ := h
  have hset : Upd (One b) W10 (W10.setCell ⟨b, off + 3, none⟩ (.slice (some ⟨g9, 0, none⟩) (l.length + 1) c9)) := (Upd.refl (One b) W10).setCell (p := ⟨b, off + 3, none⟩) (.inl rfl) _
  have hfin : Upd (Or2 (One b) H) w (W10.setCell ⟨b, off + 3, none⟩ (.slice (some ⟨g9, 0, none⟩) (l.length + 1) c9)) := (hu.mono fun _ _ h => .inr h).trans hset fun _ _ h => .inl h
  have hrow := (hu.row h0 hbH).set (off + 3) (.slice (some ⟨g9, 0, none⟩) (l.length + 1) c9)
  have hbl := h0.lt
  have hgl := hg.lt
  refine ⟨?_, hfin⟩
  have hg' := hg.setOther (b' := b) (by omega) (off + 3) (.slice (some ⟨g9, 0, none⟩) (l.length + 1) c9)
  generalize W10.setCell ⟨b, off + 3, none⟩ (.slice (some ⟨g9, 0, none⟩) (l.length + 1) c9) = W at *
  have s6 := hset.size
  obtain ⟨g0, g1, g2, g3⟩ := set3_get (x := .slice (some ⟨g9, 0, none⟩) (l.length + 1) c9) h4
  have hvk : ∀ k, G k → ¬ Or2 (One b) H k := fun k hk e => by
    rcases e with e | e
    · cases e; exact h12 hk
    · exact hGH k hk e
  refine ⟨_, .slice A7 wds.length c7, (v, s, slot) :: l, hrow, by rw [g0]; exact h1, by rw [g1]; exact h2, by rw [g2]; exact h3, g3, h9.symm, by rw [hsl]; rfl, ?_, ?_, ?_, ?_⟩
  · exact fun x hx => (((List.mem_cons.1 hx).elim (fun e => e ▸ h7) (h8 x)).keep hfin hvk).mono fun k hk _ => .inl hk
  · refine ⟨?_, .inr ⟨g9, c9, sp9, rfl, .inr ⟨⟨by omega, by omega⟩, hg9⟩, ?_, hlen.1, hlen.2.1, hlen.2.2⟩⟩
    · show (pdC v s (P.ex + 1) (.slice A7 wds.length c7) slot ++ qT l).length = _
      rw [List.length_append, pdC_length, qT_length, List.length_cons]; omega
    · show Row W g9 _ ((pdC v s (P.ex + 1) (.slice A7 wds.length c7) slot ++ qT l) ++ sp9)
      rw [List.append_assoc]; exact hg'
  · exact (hO.keep hset fun k hk e => by have e : k = b := e; have := hk.2; omega).mono fun k hk hl => .inr ⟨⟨hk.1.1, hl⟩, hk.2⟩
  · rintro (h | h)
    · exact h12 h
    · have := h.2; omega
/-- What a step of the reference leaves. -/
def RStepPost (w : World) (G H : Blk) (b off : Nat) (T : TypeId) (c : List Value) (P : Pr) (sl : List Int) (b2 off2 : Nat) (T2 : TypeId) (c2 : List Value) (ws : List Int) (up : Bool) (e : Ending) (w' : World) : Prop :=
  ∃ (A : Option Addr) (cap : Nat) (x : Value), e = .returned (.tuple #[.agg #[.int .i64 (stepV P ws up).code, .slice A (stepV P ws up).done.length cap], .int .i64 (if (stepV P ws up).is then sl.headD (-1) else -1), .bool (stepV P ws up).is, .bool (decide (P.verbs ≠ []))]) ∧
    RPairR w' (fun k => G k ∨ New w w' k) b off T (c.set (off + 3) x) (stepV P ws up).pair (if (stepV P ws up).is then sl.tail else sl) ∧ RefN w' H b2 off2 T2 c2 (stepV P ws up).ws up ∧
    Own w' (fun k => G k ∨ New w w' k) 36 1 (.slice A (stepV P ws up).done.length cap) (stepV P ws up).done.length (u64s (stepV P ws up).done) ∧ Upd (Or2 (One b) H) w w'

set_option maxRecDepth 100000 in
set_option maxHeartbeats 8000000 in
theorem rstep_some {w : World} {G H : Blk} {b off : Nat} {T : TypeId} {c : List Value} {P : Pr} {sl : List Int} {v : Vb} {l0 : List Vb} {b2 off2 : Nat} {T2 : TypeId} {c2 : List Value} {ws : List Int} {up : Bool} (h : RPairR w G b off T c P sl) (hok : P.Ok) (hv : P.verbs = v :: l0) (hn : RefN w H b2 off2 T2 c2 ws up)
    (hGH : ∀ k, G k → ¬ H k) (hbH : ¬ H b) (hGb : ∀ k, G k → k < w.heap.size) (hHb : ∀ k, H k → k < w.heap.size) :
    Calls Try.prog 150 #[.pointer (some ⟨b, off, none⟩), .pointer (some ⟨b2, off2, none⟩)] w (RStepPost w G H b off T c P sl b2 off2 T2 c2 ws up) := by
  obtain ⟨s, sw, slot, g, cv, l, hh, hsl⟩ := h.head hv
  have hg := hok.good v (by rw [hv]; simp)
  have HH : Hid (∀ W, Upd Non w W → RHead W G b off T c P v s sw slot g cv l) := Lib.hid fun W hu => hh.keep hu (fun h => h) (fun _ _ h => h)
  have HN : Hid (∀ W, Upd Non w W → RefN W H b2 off2 T2 c2 ws up) := Lib.hid fun W hu => hn.keep hu (fun _ _ h => h)
  obtain ⟨-, -, -, -, -, hcv, hgG, ⟨A, cap, rfl, hcap, hA, hVW⟩, -, -, -, hOw, -⟩ := id hh
  obtain ⟨Aw, cw, rfl, -, -⟩ := hOw.shape
  have HE : Hid (refE P v ws up = if up = false then 4 else if validE v 5 ((ws.length / 8 : Nat) : Int) ≠ 0 then 2 else chkV v P.inc (ws.getD (24 + P.client).toNat 0) (ws.getD 0 0) (ws.getD 1 0)) := Lib.hid rfl
  have HVAL := Lib.hid (fun w l => refvalid_calls v A cap 5 l w)
  have HCHK : Hid (validE v 5 ((ws.length / 8 : Nat) : Int) = 0 → ∀ d k b w, Calls Try.prog 175 #[.agg (vbC v (.slice A v.words.length cap)), .int .i64 P.inc, .int .u64 d, .int .u64 k, .int .u64 b] w fun e w' => e = .returned (.int .i64 (chkV v P.inc d k b)) ∧ Upd Non w w') := Lib.hid fun h0 d k b w => refcheck_calls v A cap P.inc d k b w (validE_ok h0).1 (by have := hok.i1; omega) hg.boot
  have HDOOR : Hid (∀ w, Calls Try.prog 31 #[.int .i64 P.client] w fun e w' => e = .returned (.int .i64 ((24 + P.client).toNat : Nat)) ∧ Upd Non w w') := Lib.hid fun w => by
    have h1 := refDoor_calls P.client w
    have e : regF 3 6 P.client = (((24 + P.client).toNat : Nat) : Int) := by have := hok.c0; have := hok.c1; unfold regF; rw [if_neg (by omega)]; omega
    rw [e] at h1
    exact h1
  have HAT : Hid (∀ W, Upd Non w W → ∀ i : Nat, Calls Try.prog 176 #[.pointer (some ⟨b2, off2, none⟩), .int .i64 i] W fun e w' => e = .returned (.int .u64 (ws.getD i 0)) ∧ W = w') := Lib.hid fun W hu i => rat_calls (HN.out W hu) i
  generalize hre : refE P v ws up = re at *
  have HRE := Lib.hid hre
  have HWL : Hid (ws.length ≤ 2048) := by obtain ⟨_, _, _, _, _, _, _, _, _, h⟩ := hn; exact h
  have hU1 : Upd Non w (w.alloc (.cells #[.int .i64 0, .slice none 0 0] 69)) := (Upd.refl _ _).alloc _
  have hU2 := hU1.alloc (.cells #[.int .i64 v.kind, .int .i64 v.node, .int .i64 v.at_, .int .i64 v.n, .int .u64 v.old, .int .u64 v.new_, .slice A v.words.length cap, .int .u64 v.key, .int .i64 v.boot, .int .i64 P.ex, .slice Aw P.words.length cw, .int .i64 slot] 189)
  have hZ1 : Row (w.alloc (.cells #[.int .i64 0, .slice none 0 0] 69)) w.heap.size 69 [.int .i64 0, .slice none 0 0] := Row.new _ _ _
  have hX2 : Row ((w.alloc (.cells #[.int .i64 0, .slice none 0 0] 69)).alloc (.cells #[.int .i64 v.kind, .int .i64 v.node, .int .i64 v.at_, .int .i64 v.n, .int .u64 v.old, .int .u64 v.new_, .slice A v.words.length cap, .int .u64 v.key, .int .i64 v.boot, .int .i64 P.ex, .slice Aw P.words.length cw, .int .i64 slot] 189)) (w.heap.size + 1) 189 (pdC v (.slice A v.words.length cap) P.ex (.slice Aw P.words.length cw) slot) := by
    have := Row.new (w.alloc (.cells #[.int .i64 0, .slice none 0 0] 69)) #[.int .i64 v.kind, .int .i64 v.node, .int .i64 v.at_, .int .i64 v.n, .int .u64 v.old, .int .u64 v.new_, .slice A v.words.length cap, .int .u64 v.key, .int .i64 v.boot, .int .i64 P.ex, .slice Aw P.words.length cw, .int .i64 slot] 189
    rw [World.size_alloc] at this
    exact this
  have HU2 := Lib.hid hU2
  have HZ2 := Lib.hid (hZ1.alloc (.cells #[.int .i64 v.kind, .int .i64 v.node, .int .i64 v.at_, .int .i64 v.n, .int .u64 v.old, .int .u64 v.new_, .slice A v.words.length cap, .int .u64 v.key, .int .i64 v.boot, .int .i64 P.ex, .slice Aw P.words.length cw, .int .i64 slot] 189))
  have HX2 := Lib.hid hX2
  obtain ⟨h0, h1, h2, h3, h4, -, -, -, -, -, h10, -, -⟩ := HH.out _ hU1
  have p0 := h0.cell _ h1
  have p1 := h0.cell _ h2
  have p3 := h0.cell _ h4
  obtain ⟨gg, oo, e, -, -, hgc⟩ := h10.open (by simp [pdC])
  cases e
  have hgc' := pd_cells (b := g) (off := 0) (v := v) (s := .slice A v.words.length cap) (sw := .slice Aw P.words.length cw) (ex := P.ex) (slot := slot) (w := w.alloc (.cells #[.int .i64 0, .slice none 0 0] 69)) (fun i u hi => hgc i u (by rw [List.getElem?_append_left (List.getElem?_eq_some_iff.1 hi).1]; exact hi))
  obtain ⟨k0, k1, k2, k3, k4, k5, k6, k7, k8, k9, k10, k11⟩ := hgc'
  simp only [Nat.zero_add] at k1 k2 k3 k4 k5 k6 k7 k8 k9 k10 k11
  obtain ⟨hb0, q, sp, hq1, hq2, -⟩ := HN.out _ hU2
  have n0 := hb0.cell _ hq1
  have n1 := hb0.cell _ hq2
  have HOK := Lib.hid hok
  have HVB := Lib.hid hv
  have HSL := Lib.hid hsl
  have HG := Lib.hid hGH
  have HBH := Lib.hid hbH
  have HGB := Lib.hid hGb
  have HHB := Lib.hid hHb
  have hlen1 : (1 : Int) ≤ ((l.length + 1 : Nat) : Int) := by omega
  have hlen0 : ((l.length : Int) + 1 == 0) = false := by rw [beq_eq_false_iff_ne]; omega
  clear h hok hv hn hh hsl hg hcv hgG hcap hA hVW hOw hre hU1 hU2 hZ1 hX2 h0 h1 h2 h3 h4 h10 hgc hb0 hq1 hq2 hGH hbH hGb hHb
  unfold vbC at HVAL HCHK
  go_enter Try.func150, Try.ntmps150
  go_upto_block 0 with fail
  go_cut [9] (fun s9 wr => RsCut w v (.slice A v.words.length cap) (.slice Aw P.words.length cw) P.ex slot re s9 wr)
  case first =>
    obtain ⟨d0, d1, d2, d3, d4, d5, d6, d7, d8, d9, d10, d11⟩ := pd_row HX2.out
    obtain ⟨h0, h1, h2, h3, h4, -, -, -, -, -, h10, -, -⟩ := HH.out _ HU2.out
    have p0 := h0.cell _ h1
    have p1 := h0.cell _ h2
    clear h0 h1 h2 h3 h4 h10 p3 k0 k1 k2 k3 k4 k5 k6 k7 k8 k9 k10 k11
    generalize (w.alloc (.cells #[.int .i64 0, .slice none 0 0] 69)).alloc (.cells #[.int .i64 v.kind, .int .i64 v.node, .int .i64 v.at_, .int .i64 v.n, .int .u64 v.old, .int .u64 v.new_, .slice A v.words.length cap, .int .u64 v.key, .int .i64 v.boot, .int .i64 P.ex, .slice Aw P.words.length cw, .int .i64 slot] 189) = W2 at *
    have HK : Hid (∀ W, Upd Non W2 W → Upd Non w W ∧ Row W w.heap.size 69 [.int .i64 0, .slice none 0 0] ∧ Row W (w.heap.size + 1) 189 (pdC v (.slice A v.words.length cap) P.ex (.slice Aw P.words.length cw) slot) ∧ W.cell? ⟨b, off, none⟩ = some (.int .i64 P.client) ∧ W.cell? ⟨b, off + 1, none⟩ = some (.int .i64 P.inc) ∧ W.cell? ⟨b2, off2, none⟩ = some (.slice (some ⟨q, 0, none⟩) ws.length (ws.length + sp))) := Lib.hid fun W hu => by
      have h1 := HU2.out.tr hu
      obtain ⟨h0, h3, h4, _⟩ := HH.out _ h1
      obtain ⟨hb0, q', sp', e1, _⟩ := HN.out _ h1
      have hh := hb0.cell _ e1
      obtain ⟨hb2, q2, sp2, e2, _⟩ := HN.out _ HU2.out
      have hh2 := hb2.cell _ e2
      rw [n0] at hh2
      rw [e1] at e2
      rw [e2, ← hh2] at hh
      exact ⟨h1, hu.rowN HZ2.out, hu.rowN HX2.out, h0.cell _ h3, h0.cell _ h4, hh⟩
    cases up
    · have HZ : Hid (re = 4) := Lib.hid (by rw [HE.out, if_pos rfl])
      go_wp2_with fail
      go_meet
      exact ⟨by rw [HZ.out], HU2.out, HZ2.out, HX2.out⟩
    · have HE2 : Hid (re = if validE v 5 ((ws.length / 8 : Nat) : Int) ≠ 0 then 2 else chkV v P.inc (ws.getD (24 + P.client).toNat 0) (ws.getD 0 0) (ws.getD 1 0)) := Lib.hid (by rw [HE.out, if_neg (by simp)])
      clear HE
      have g1 : IntKind.i64.wrap ((ws.length : Int) / 8) = ((ws.length / 8 : Nat) : Int) := by rw [wrapI _ (by omega) (by have := HWL.out; omega)]; omega
      generalize ((ws.length / 8 : Nat) : Int) = ln at *
      by_cases hv0 : validE v 5 ln = 0
      · have HE3 : Hid (re = chkV v P.inc (ws.getD (24 + P.client).toNat 0) (ws.getD 0 0) (ws.getD 1 0)) := Lib.hid (by rw [HE2.out, if_neg (by simp [hv0])])
        have HCH := Lib.hid (HCHK.out hv0)
        have HV0 := Lib.hid hv0
        have hb : (validE v 5 ln == 0) = true := by simpa using hv0
        have hb' : (validE v 5 ln != 0) = false := by simpa using hv0
        clear hv0 HE2 HCHK
        go_wp2_with fail
        go_region_held3 (fun w' => w'.cell? ⟨w.heap.size + 1, 0, none⟩ = some (.int .i64 v.kind) ∧ w'.cell? ⟨w.heap.size + 1, 1, none⟩ = some (.int .i64 v.node) ∧ w'.cell? ⟨w.heap.size + 1, 2, none⟩ = some (.int .i64 v.at_) ∧ w'.cell? ⟨w.heap.size + 1, 3, none⟩ = some (.int .i64 v.n) ∧ w'.cell? ⟨w.heap.size + 1, 4, none⟩ = some (.int .u64 v.old) ∧ w'.cell? ⟨w.heap.size + 1, 5, none⟩ = some (.int .u64 v.new_) ∧ w'.cell? ⟨w.heap.size + 1, 6, none⟩ = some (.slice A v.words.length cap) ∧ w'.cell? ⟨w.heap.size + 1, 7, none⟩ = some (.int .u64 v.key) ∧ w'.cell? ⟨w.heap.size + 1, 8, none⟩ = some (.int .i64 v.boot) ∧ w'.cell? ⟨b2, off2, none⟩ = some (.slice (some ⟨q, 0, none⟩) ws.length (ws.length + sp))) (go_keep)
          (first
            | (go_at_call 59; (with_reducible refine (HVAL.out _ _).mono ?_); rintro e w3 ⟨rfl, hu2⟩; have hu3 := hu2.nodraw; obtain ⟨hU3, hz3, hx3, p0, p1, n0⟩ := HK.out _ hu3; obtain ⟨d0, d1, d2, d3, d4, d5, d6, d7, d8, d9, d10, d11⟩ := pd_row hx3; have HU3 := Lib.hid hU3; have HV3 := Lib.hid hu3; clear hu2 hu3 hU3 hz3 hx3))
        clear d0 d1 d2 d3 d4 d5 d6 d7 d8 d9 d10 d11 p0 p1 n0 n1 g1
        go_wp2_with fail
        obtain ⟨hU3, hz3, hx3, p0, p1, -⟩ := HK.out _ HV3.out
        obtain ⟨d0, d1, d2, d3, d4, d5, d6, d7, d8, -, -, -⟩ := pd_row hx3
        have HA0 : Hid (∀ W, Upd Non w3 W → Calls Try.prog 176 #[.pointer (some ⟨b2, off2, none⟩), .int .i64 0] W fun e w' => e = .returned (.int .u64 (ws.getD 0 0)) ∧ W = w') := Lib.hid fun W hu => HAT.out W (HU3.out.tr hu) 0
        have HA1 : Hid (∀ W, Upd Non w3 W → Calls Try.prog 176 #[.pointer (some ⟨b2, off2, none⟩), .int .i64 1] W fun e w' => e = .returned (.int .u64 (ws.getD 1 0)) ∧ W = w') := Lib.hid fun W hu => HAT.out W (HU3.out.tr hu) 1
        have HAD : Hid (∀ W, Upd Non w3 W → Calls Try.prog 176 #[.pointer (some ⟨b2, off2, none⟩), .int .i64 ((24 + P.client).toNat : Nat)] W fun e w' => e = .returned (.int .u64 (ws.getD (24 + P.client).toNat 0)) ∧ W = w') := Lib.hid fun W hu => HAT.out W (HU3.out.tr hu) (24 + P.client).toNat
        have HK3 : Hid (∀ W, Upd Non w3 W → Row W (w.heap.size + 1) 189 (pdC v (.slice A v.words.length cap) P.ex (.slice Aw P.words.length cw) slot) ∧ W.cell? ⟨b, off, none⟩ = some (.int .i64 P.client) ∧ W.cell? ⟨b, off + 1, none⟩ = some (.int .i64 P.inc)) := Lib.hid fun W hu => by
          obtain ⟨-, -, a, b, c, -⟩ := HK.out W (HV3.out.tr hu)
          exact ⟨a, b, c⟩
        clear hU3 hz3 hx3 HAT hb hb' HVAL
        generalize ws.getD 0 0 = x0 at *
        generalize ws.getD 1 0 = x1 at *
        generalize ws.getD (24 + P.client).toNat 0 = xd at *
        generalize (((24 + P.client).toNat : Nat) : Int) = dn at *
        go_region_held3 (fun w' => w'.cell? ⟨w.heap.size + 1, 0, none⟩ = some (.int .i64 v.kind) ∧ w'.cell? ⟨w.heap.size + 1, 1, none⟩ = some (.int .i64 v.node) ∧ w'.cell? ⟨w.heap.size + 1, 2, none⟩ = some (.int .i64 v.at_) ∧ w'.cell? ⟨w.heap.size + 1, 3, none⟩ = some (.int .i64 v.n) ∧ w'.cell? ⟨w.heap.size + 1, 4, none⟩ = some (.int .u64 v.old) ∧ w'.cell? ⟨w.heap.size + 1, 5, none⟩ = some (.int .u64 v.new_) ∧ w'.cell? ⟨w.heap.size + 1, 6, none⟩ = some (.slice A v.words.length cap) ∧ w'.cell? ⟨w.heap.size + 1, 7, none⟩ = some (.int .u64 v.key) ∧ w'.cell? ⟨w.heap.size + 1, 8, none⟩ = some (.int .i64 v.boot) ∧ w'.cell? ⟨b, off, none⟩ = some (.int .i64 P.client) ∧ w'.cell? ⟨b, off + 1, none⟩ = some (.int .i64 P.inc)) (go_keep)
          (first
            | (go_at_call 31; (with_reducible refine (HDOOR.out _).mono ?_); rintro e wa ⟨rfl, hu0⟩; have hua := hu0.nodraw; obtain ⟨hxa, p0, p1⟩ := HK3.out _ hua; obtain ⟨d0, d1, d2, d3, d4, d5, d6, d7, d8, -, -, -⟩ := pd_row hxa; have HUA := Lib.hid hua; clear hu0 hua hxa)
            | (go_at_call 176; (with_reducible refine (HA0.out _ HUA.out).mono ?_); rintro e wx ⟨rfl, rfl⟩)
            | (go_at_call 176; (with_reducible refine (HA0.out _ (Upd.refl Non w3).drew).mono ?_); rintro e wx ⟨rfl, rfl⟩)
            | (go_at_call 176; (with_reducible refine (HA1.out _ HUA.out).mono ?_); rintro e wx ⟨rfl, rfl⟩)
            | (go_at_call 176; (with_reducible refine (HA1.out _ (Upd.refl Non w3).drew).mono ?_); rintro e wx ⟨rfl, rfl⟩)
            | (go_at_call 176; (with_reducible refine (HAD.out _ HUA.out).mono ?_); rintro e wx ⟨rfl, rfl⟩)
            | (go_at_call 175; (with_reducible refine (HCH.out _ _ _ _).mono ?_); rintro e wb ⟨rfl, hu⟩; have hub := HUA.out.tr hu; have HUB := Lib.hid hub; obtain ⟨hxb, p0, p1⟩ := HK3.out _ hub; obtain ⟨d0, d1, d2, d3, d4, d5, d6, d7, d8, -, -, -⟩ := pd_row hxb; clear hu hub hxb))
        all_goals go_wp2_with fail
        all_goals go_meet
        all_goals
          obtain ⟨hU3, hz3, hx3, -⟩ := HK.out _ (HV3.out.tr HUB.out)
          exact ⟨by rw [HE3.out], hU3, hz3, hx3⟩
      · have HZ : Hid (re = 2) := Lib.hid (by rw [HE2.out, if_pos hv0])
        have hb : (validE v 5 ln == 0) = false := by simpa using hv0
        have hb' : (validE v 5 ln != 0) = true := by simpa using hv0
        clear hv0 HE2 HCHK
        go_wp2_with fail
        go_region_held3 (fun w' => w'.cell? ⟨w.heap.size + 1, 0, none⟩ = some (.int .i64 v.kind) ∧ w'.cell? ⟨w.heap.size + 1, 1, none⟩ = some (.int .i64 v.node) ∧ w'.cell? ⟨w.heap.size + 1, 2, none⟩ = some (.int .i64 v.at_) ∧ w'.cell? ⟨w.heap.size + 1, 3, none⟩ = some (.int .i64 v.n) ∧ w'.cell? ⟨w.heap.size + 1, 4, none⟩ = some (.int .u64 v.old) ∧ w'.cell? ⟨w.heap.size + 1, 5, none⟩ = some (.int .u64 v.new_) ∧ w'.cell? ⟨w.heap.size + 1, 6, none⟩ = some (.slice A v.words.length cap) ∧ w'.cell? ⟨w.heap.size + 1, 7, none⟩ = some (.int .u64 v.key) ∧ w'.cell? ⟨w.heap.size + 1, 8, none⟩ = some (.int .i64 v.boot) ∧ w'.cell? ⟨b2, off2, none⟩ = some (.slice (some ⟨q, 0, none⟩) ws.length (ws.length + sp))) (go_keep)
          (first
            | (go_at_call 59; (with_reducible refine (HVAL.out _ _).mono ?_); rintro e w3 ⟨rfl, hu2⟩; have hu3 := hu2.nodraw; obtain ⟨hU3, hz3, hx3, p0, p1, n0⟩ := HK.out _ hu3; obtain ⟨d0, d1, d2, d3, d4, d5, d6, d7, d8, d9, d10, d11⟩ := pd_row hx3; have HU3 := Lib.hid hU3; have HV3 := Lib.hid hu3; clear hu2 hu3 hU3 hz3 hx3))
        clear d0 d1 d2 d3 d4 d5 d6 d7 d8 d9 d10 d11 p0 p1 n0 n1 g1
        go_wp2_with fail
        go_meet
        obtain ⟨hU3, hz3, hx3, _⟩ := HK.out _ HV3.out
        exact ⟨by rw [HZ.out], hU3, hz3, hx3⟩
  case rest =>
    obtain ⟨rfl, hu, hz, hx⟩ := hcut
    have HU := Lib.hid hu
    have HZ := Lib.hid hz
    have HX := Lib.hid hx
    clear p0 p1 p3 k0 k1 k2 k3 k4 k5 k6 k7 k8 k9 k10 k11 n0 n1 HU2 HZ2 HX2 HVAL HCHK HDOOR HAT HE hu hz hx
    have HHW := Lib.hid (HH.out _ (Upd.refl _ _))
    have HPW : Hid (∀ W, Upd Non wc W → W.cell? ⟨b, off + 3, none⟩ = some (.slice (some ⟨g, 0, none⟩) (l.length + 1) cv) ∧ W.frozen? ⟨b, off + 3, none⟩ = false) := Lib.hid fun W hu => by
      obtain ⟨h0, -, -, -, h4, -⟩ := HH.out _ (HU.out.tr hu)
      exact ⟨h0.cell _ h4, h0.frozen _⟩
    obtain ⟨p3, z3⟩ := HPW.out _ (Upd.refl _ _)
    have HLB : Hid (l.length ≤ 1024 ∧ (cv = 1 → l.length = 0) ∧ 1 ≤ cv ∧ l.length + 1 ≤ cv ∧ b < w.heap.size) := Lib.hid (by
      have h1 := HOK.out.len
      obtain ⟨h0, -, -, -, -, h5, -, -, -, h9, -⟩ := HHW.out
      have := h0.lt
      rw [h9] at h1
      simp at h1
      exact ⟨by omega, by omega, by omega, by omega, this⟩)
    have HQ1 : Hid (∀ u ∈ qT l, u.oneCell' = true) := Lib.hid (by obtain ⟨-, -, -, -, -, -, -, -, h8, -⟩ := HHW.out; exact qT_one h8)
    by_cases hr : re = 0
    · have hr0 : refE P v ws up = 0 := by rw [HRE.out, hr]
      obtain ⟨hup, hokv, a, n, hpx, h8, hpo⟩ := piece_ok HOK.out HVB.out hr0
      subst hup
      subst hr
      have HR0 := Lib.hid hr0
      have HPX := Lib.hid hpx
      have HPC := Lib.hid fun W => refpieces_calls v A cap W hokv
      have hg := HOK.out.good v (by rw [HVB.out]; simp)
      have hex : (P.ex : Int) < ((pcsV v).length : Int) := by have := (List.getElem?_eq_some_iff.1 hpx).1; omega
      have hxl : (P.ex : Int) < 1024 := by have h5 := pcsV_length v; have h6 := hokv.cnt2; omega
      have hwl : (exW v a n ws).length ≤ 8 ∧ P.words.length ≤ 8192 := by
        have h1 := exW_length v a n ws hpo.pos
        have h3 := HOK.out.words
        have h4 := HOK.out.ex v l0 HVB.out
        have h5 := pcsV_length v
        have h6 := hokv.cnt2
        omega
      have HWLS := Lib.hid hwl
      have HEX : Hid (∀ W, Upd Non w W → Calls Try.prog 177 #[.pointer (some ⟨b2, off2, none⟩), .agg (vbC v (.slice A v.words.length cap)), encP (a, n)] W (RExPost W H b2 off2 T2 c2 ws v a n)) := Lib.hid fun W hu => by
        obtain ⟨-, -, -, -, -, -, -, h7, -⟩ := HH.out W hu
        exact rexec_calls h7 (HN.out W hu) HG.out a n hpo hg.wlen
      have HVWD : Hid (∀ W, Upd H w W → View W G 1 Aw P.words.length (u64s P.words)) := Lib.hid fun W hu => by
        obtain ⟨-, -, -, -, -, -, -, -, -, -, -, h11, -⟩ := HH.out w (Upd.refl _ _)
        obtain ⟨A', cap', e', -, hV⟩ := h11.shape
        cases e'
        exact hV.keep hu HG.out
      have HANIL : Hid (Aw = none → P.words.length = 0 ∧ cw = 0) := Lib.hid (by
        obtain ⟨-, -, -, -, -, -, -, -, -, -, -, h11, -⟩ := HH.out w (Upd.refl _ _)
        obtain ⟨A', cap', e', hA', -⟩ := h11.shape
        cases e'
        exact hA')
      clear hr0 hokv hpx h8 hpo hg hwl
      unfold vbC at HPC HEX
      unfold encP at HEX
      obtain ⟨d0, d1, d2, d3, d4, d5, d6, d7, d8, -, -, -⟩ := pd_row HX.out
      go_wp2_with fail
      refine (HPC.out wc).mono ?_
      rintro e w3 ⟨x, rfl, hO3, hu3⟩
      obtain ⟨Ap, capp, rfl, -, hVp⟩ := hO3.shape
      have HPCS : Hid (∀ W, Upd H w3 W → ∃ gp op, Ap = some ⟨gp, op, none⟩ ∧ W.cell? ⟨gp, op + P.ex * 2, none⟩ = some (.int .i64 a) ∧ W.cell? ⟨gp, op + P.ex * 2 + 1, none⟩ = some (.int .i64 n)) := Lib.hid fun W hu => by
        have hV := hVp.keep hu fun k hk h => by have := hk.1; have := HHB.out k h; have := HU.out.size; omega
        obtain ⟨gp, op, rfl, -, -, hpc0⟩ := hV.cell (pcC_get HPX.out).1
        obtain ⟨gp', op', e', -, -, hpc1⟩ := hV.cell (pcC_get HPX.out).2
        cases e'
        rw [← Nat.add_assoc] at hpc1
        exact ⟨gp, op, rfl, hpc0, hpc1⟩
      have HU3 := Lib.hid (HU.out.tr hu3)
      have HZ3 := Lib.hid (hu3.rowN HZ.out)
      have HX3 := Lib.hid (hu3.rowN HX.out)
      clear d0 d1 d2 d3 d4 d5 d6 d7 d8 hO3 hVp p3 z3
      generalize hnp : (pcsV v).length = np at *
      have HNP := Lib.hid hnp
      clear hnp hu3
      go_upto_region 14 with fail
      go_cut [] (fun wr => RMid w H b2 off2 T2 c2 (exM v a n ws) v (.slice A v.words.length cap) P.ex slot (P.words ++ exW v a n ws) wr)
      case first =>
        have HXQ : Hid (∀ W, Upd H w3 W → Row W (w.heap.size + 1) 189 (pdC v (.slice A v.words.length cap) P.ex (.slice Aw P.words.length cw) slot)) := Lib.hid fun W hu => hu.row HX3.out fun h => by have := HHB.out _ h; omega
        have HS3 : Hid (w.heap.size ≤ w3.heap.size) := Lib.hid HU3.out.size
        obtain ⟨gp, op, e', hpc0, hpc1⟩ := HPCS.out _ (Upd.refl _ _)
        subst e'
        have hXq := HX3.out
        obtain ⟨d0, d1, d2, d3, d4, d5, d6, d7, d8, d9, d10, -⟩ := pd_row hXq
        clear hXq HPC
        generalize hms : (exW v a n ws).length = ms at *
        have HMS := Lib.hid hms
        clear hms
        have hpi : (0 : Int) ≤ (P.ex : Int) := by omega
        clear hlen0 hlen1 hxl
        go_region_law (first
          | (go_simp; go_at_call 177; (with_reducible refine (HEX.out _ HU3.out.drew).mono ?_); rintro e w4 ⟨A4, cap4, rfl, hO4, hN4, hU4⟩; rw [HMS.out] at hO4; have hUq : Upd H w3 w4 := hU4.nodraw; have hXq := HXQ.out _ hUq; obtain ⟨A4', cap4', e4, hnil4, hV4⟩ := hO4.shape; cases e4; clear d0 d1 d2 d3 d4 d5 d6 d7 d8 d9 d10 hpc0 hpc1; have d10 := hXq.cell 10 rfl;  rw [HMS.out]; have HU4 := Lib.hid hUq; have HV4 := Lib.hid (hV4.mono (F' := fun _ => True) fun _ _ => trivial); have HN4 := Lib.hid hN4; have HNIL := Lib.hid hnil4; clear hO4 hN4 hU4 hUq hXq hV4 hnil4)
          | (go_simp; go_at_call 177; (with_reducible refine (HEX.out _ (HU3.out.tr HUA.out)).mono ?_); rintro e w4 ⟨A4, cap4, rfl, hO4, hN4, hU4⟩; rw [HMS.out] at hO4; have hUq : Upd H w3 w4 := HUA.out.of_non.tr hU4; have hXq := HXQ.out _ hUq; obtain ⟨A4', cap4', e4, hnil4, hV4⟩ := hO4.shape; cases e4; clear d0 d1 d2 d3 d4 d5 d6 d7 d8 d9 d10 hpc0 hpc1;  rw [HMS.out]; have HOA := Lib.hid (HOA.out.keep hU4 (fun k hk h => by have hk : w3.heap.size ≤ k := hk; have := HHB.out k h; have := HS3.out; omega)); have HU4 := Lib.hid hUq; have HV4 := Lib.hid (hV4.mono (F' := fun _ => True) fun _ _ => trivial); have HN4 := Lib.hid hN4; have HNIL := Lib.hid hnil4; clear hO4 hN4 hU4 hUq hXq hV4 hnil4)
          | (refine step_app (F := Past w3) G rfl (.const (.slice none 0 0)) (.tmp 79) 33 36 rfl (.int .u64 0) 1 8 Try.underlying33 info_u64 rfl (by decide) (.slice none 0 0) 0 [] rfl (Own.nil _ _ _ _) Aw P.words.length cw (u64s P.words) rfl HANIL.out (HVWD.out _ HU3.out.of_non.drew) (wf_u64s _) (by have := HWLS.out; omega) (by decide) ?_; intro v1 wa hown hupd hnil hblk; simp only [Nat.zero_add, List.nil_append] at hown; obtain ⟨A1, c1, rfl, -, -⟩ := hown.shape; obtain ⟨hOa, hUa⟩ := app_past (w := w3) (Upd.refl Non w3).drew (by simp [Value.ownBlock]) hown hupd; have hUq : Upd H w3 wa := hUa.of_non; have hXq := HXQ.out _ hUq; clear d0 d1 d2 d3 d4 d5 d6 d7 d8 d9 d10 hpc0 hpc1; obtain ⟨d0, d1, d2, d3, d4, d5, d6, d7, d8, d9, d10, -⟩ := pd_row hXq; obtain ⟨gp', op', e', hpc0, hpc1⟩ := HPCS.out _ hUq; cases e';  have HOA := Lib.hid hOa; have HUA := Lib.hid hUa; clear hown hupd hnil hblk hOa hUa hUq hXq)
          | (refine step_app (F := Past w4) G rfl (.const (.slice none 0 0)) (.tmp 79) 33 36 rfl (.int .u64 0) 1 8 Try.underlying33 info_u64 rfl (by decide) (.slice none 0 0) 0 [] rfl (Own.nil _ _ _ _) Aw P.words.length cw (u64s P.words) rfl HANIL.out (HVWD.out _ (HU3.out.of_non.tr HU4.out)) (wf_u64s _) (by have := HWLS.out; omega) (by decide) ?_; intro v1 wa hown hupd hnil hblk; simp only [Nat.zero_add, List.nil_append] at hown; obtain ⟨A1, c1, rfl, -, -⟩ := hown.shape; obtain ⟨hOa, hUa⟩ := app_past (w := w4) (Upd.refl Non w4) (by simp [Value.ownBlock]) hown hupd; have hUq : Upd H w3 wa := HU4.out.tr hUa.of_non; have hXq := HXQ.out _ hUq; clear d10;  have HOA := Lib.hid (hOa.mono (F' := Past w3) fun k hk _ => Nat.le_trans HU4.out.size hk); have HV4 := Lib.hid (HV4.out.keep hUa fun _ _ h => h); have HN4 := Lib.hid (HN4.out.keep hUa fun _ _ h => h); have HU4 := Lib.hid hUq; clear hown hupd hnil hblk hOa hUa hUq hXq)
          | (refine step_app (F := Past w3) (fun _ => True) rfl (.tmp 80) (.tmp 89) 33 36 rfl (.int .u64 0) 1 8 Try.underlying33 info_u64 rfl (by decide) (.slice A1 P.words.length c1) P.words.length (u64s P.words) rfl HOA.out A4 ms cap4 (u64s (exW v a n ws)) rfl HNIL.out HV4.out (wf_u64s _) (by have := HWLS.out; omega) (by decide) ?_; intro v' w5 hown hupd hnil hblk; obtain ⟨A5, c5, rfl, x10, z10, HFIN⟩ := rmid_arm HHB.out HU3.out HZ3.out HX3.out HU4.out HN4.out HOA.out HMS.out hown hupd; clear hown hupd hnil hblk))
        all_goals (go_wp2_with fail; go_meet; exact HFIN.out)
      case rest =>
        obtain ⟨A7, c7, hu7, hN7, hZ7, hX7, hO7⟩ := hcut
        have HU7 := Lib.hid hu7
        have HN7 := Lib.hid hN7
        have HZ7 := Lib.hid hZ7
        have HX7 := Lib.hid hX7
        have HO7 := Lib.hid hO7
        generalize hnw : (P.words ++ exW v a n ws).length = nw at *
        have HNW := Lib.hid hnw
        obtain ⟨-, -, -, -, -, -, -, -, -, x9, x10, x11⟩ := pd_row hX7
        have z9 := hX7.frozen 9
        have g1 : IntKind.i64.wrap ((P.ex : Int) + 1) = (P.ex : Int) + 1 := wrapI _ (by omega) (by omega)
        have hX8 : Row (wc.setCell ⟨w.heap.size + 1, 9, none⟩ (.int .i64 ((P.ex : Int) + 1))) (w.heap.size + 1) 189 (pdC v (.slice A v.words.length cap) (P.ex + 1) (.slice A7 nw c7) slot) := hX7.set 9 (.int .i64 ((P.ex : Int) + 1))
        have hs8 : Upd (One (w.heap.size + 1)) wc (wc.setCell ⟨w.heap.size + 1, 9, none⟩ (.int .i64 ((P.ex : Int) + 1))) := (Upd.refl (One (w.heap.size + 1)) wc).setCell (p := ⟨w.heap.size + 1, 9, none⟩) (.inl rfl) _
        have HX8 := Lib.hid hX8
        have HZ8 := Lib.hid (hZ7.setOther (b' := w.heap.size + 1) (by omega) 9 (.int .i64 ((P.ex : Int) + 1)))
        have HU8 : Hid (Upd H w (wc.setCell ⟨w.heap.size + 1, 9, none⟩ (.int .i64 ((P.ex : Int) + 1)))) := Lib.hid (hu7.trans hs8 fun i hi e => by have e : i = w.heap.size + 1 := e; omega)
        have HN8 := Lib.hid (hN7.keep hs8 fun k hk e => by have e : k = w.heap.size + 1 := e; have := HHB.out k hk; omega)
        have HO8 : Hid (Own (wc.setCell ⟨w.heap.size + 1, 9, none⟩ (.int .i64 ((P.ex : Int) + 1))) (Far w wc) 36 1 (.slice A7 nw c7) nw (u64s (P.words ++ exW v a n ws))) := Lib.hid (hO7.keep hs8 fun k hk e => by have e : k = w.heap.size + 1 := e; have := hk.2; omega)
        have HSZ8 : Hid (w.heap.size + 2 ≤ wc.heap.size ∧ wc.heap.size = (wc.setCell ⟨w.heap.size + 1, 9, none⟩ (.int .i64 ((P.ex : Int) + 1))).heap.size) := Lib.hid ⟨by have := hX7.lt; omega, by simp [World.setCell]⟩
        have HH8 : Hid (∀ W, Upd H w W → RHead W G b off T c P v (.slice A v.words.length cap) (.slice Aw P.words.length cw) slot g cv l) := Lib.hid fun W hu => (HH.out w (Upd.refl _ _)).keep hu HBH.out HG.out
        clear hu7 hN7 hZ7 hX7 hO7 hnw HZ3 HX3 HPCS HVWD HANIL HEX HPC HU HZ HX HPW HU3 HHW hX8 hs8 HX7 HZ7 HU7 HN7 HO7 HH
        by_cases hlt : (P.ex : Int) + 1 < (np : Int)
        · have HS := Lib.hid (stepV_mid HVB.out HR0.out HPX.out (by rw [HNP.out]; omega))
          have HQV : Hid (View (wc.setCell ⟨w.heap.size + 1, 9, none⟩ (.int .i64 ((P.ex : Int) + 1))) G 12 (some ⟨g, 0, none⟩) (l.length + 1) (pdC v (.slice A v.words.length cap) P.ex (.slice Aw P.words.length cw) slot ++ qT l)) := Lib.hid (by obtain ⟨-, -, -, -, -, -, -, -, -, -, h10, -, -⟩ := HH8.out _ HU8.out; exact h10)
          have HQO : Hid (∀ u ∈ pdC v (.slice A v.words.length cap) P.ex (.slice Aw P.words.length cw) slot ++ qT l, u.oneCell' = true) := Lib.hid (by
            obtain ⟨-, -, -, -, -, -, -, h7, h8, -, -, h11, -⟩ := HH8.out _ HU8.out
            exact qC_one (l := (v, .slice A v.words.length cap, slot) :: l) (fun x hx => (List.mem_cons.1 hx).elim (fun e => e ▸ h7) (h8 x)) h11)
          have hlb := HLB.out.1
          have p3 : (wc.setCell ⟨w.heap.size + 1, 9, none⟩ (.int .i64 ((P.ex : Int) + 1))).cell? ⟨b, off + 3, none⟩ = some (.slice (some ⟨g, 0, none⟩) (l.length + 1) cv) := by
            obtain ⟨h0, -, -, -, h4, -⟩ := HH8.out _ HU8.out
            exact h0.cell _ h4
          go_upto_region 17 with fail
          generalize (wc.setCell ⟨w.heap.size + 1, 9, none⟩ (.int .i64 ((P.ex : Int) + 1))) = W8 at *
          go_upto_region 18 with (at_builtin; refine wpList_app (F := Past W8) G rfl (.const (.slice none 0 0)) (.tmp 104) 132 189 rfl _ 12 128 Try.underlying132 info_pend rfl (by decide) (.slice none 0 0) 0 [] rfl (Own.nil _ _ _ _) (some ⟨g, 0, none⟩) (l.length + 1) cv (pdC v (.slice A v.words.length cap) P.ex (.slice Aw P.words.length cw) slot ++ qT l) rfl (by simp) HQV.out HQO.out (by omega) (by decide) ?_; intro v1 w9 hown hupd hnil hblk; simp only [Nat.zero_add, List.nil_append] at hown; obtain ⟨hO9, hU9⟩ := app_past (w := W8) (Upd.refl Non W8) (by simp [Value.ownBlock]) hown hupd; obtain ⟨g9, c9, sp9, rfl, hp9, hr9, HL9⟩ := own_some hO9; rw [List.append_assoc] at hr9; obtain ⟨e0, e1, e2, e3, e4, e5, e6, e7, e8, e9, e10, e11⟩ := pd_row' hr9; obtain ⟨f0, f1, f2, f3, f4, f5, f6, f7, f8, f9, f10, f11⟩ := fz12 hr9; have HX9 := Lib.hid (hU9.rowN HX8.out); obtain ⟨d0, d1, d2, d3, d4, d5, d6, d7, d8, d9, d10, d11⟩ := pd_row HX9.out; have HR9 := Lib.hid hr9; have HU9 := Lib.hid hU9; have HP9 := Lib.hid hp9; clear hown hupd hnil hblk hO9 hU9 hr9 hp9)
          go_upto_region 19 with fail
          have hR10 : Row ((((((((((((w9.setCell ⟨g9, 0, none⟩ (.int .i64 v.kind)).setCell ⟨g9, 1, none⟩ (.int .i64 v.node)).setCell ⟨g9, 2, none⟩ (.int .i64 v.at_)).setCell ⟨g9, 3, none⟩ (.int .i64 v.n)).setCell ⟨g9, 4, none⟩ (.int .u64 v.old)).setCell ⟨g9, 5, none⟩ (.int .u64 v.new_)).setCell ⟨g9, 6, none⟩ (.slice A v.words.length cap)).setCell ⟨g9, 7, none⟩ (.int .u64 v.key)).setCell ⟨g9, 8, none⟩ (.int .i64 v.boot)).setCell ⟨g9, 9, none⟩ (.int .i64 ((P.ex : Int) + 1))).setCell ⟨g9, 10, none⟩ (.slice A7 nw c7)).setCell ⟨g9, 11, none⟩ (.int .i64 slot)) g9 189 (pdC v (.slice A v.words.length cap) (P.ex + 1) (.slice A7 nw c7) slot ++ (qT l ++ sp9)) := HR9.out.put12 (.int .i64 v.kind) (.int .i64 v.node) (.int .i64 v.at_) (.int .i64 v.n) (.int .u64 v.old) (.int .u64 v.new_) (.slice A v.words.length cap) (.int .u64 v.key) (.int .i64 v.boot) (.int .i64 ((P.ex : Int) + 1)) (.slice A7 nw c7) (.int .i64 slot)
          have hg9 : w.heap.size + 2 ≤ g9 := by have h1 := HSZ8.out; have h2 : W8.heap.size ≤ g9 := HP9.out; omega
          have hu10 : Upd (One g9) w9 ((((((((((((w9.setCell ⟨g9, 0, none⟩ (.int .i64 v.kind)).setCell ⟨g9, 1, none⟩ (.int .i64 v.node)).setCell ⟨g9, 2, none⟩ (.int .i64 v.at_)).setCell ⟨g9, 3, none⟩ (.int .i64 v.n)).setCell ⟨g9, 4, none⟩ (.int .u64 v.old)).setCell ⟨g9, 5, none⟩ (.int .u64 v.new_)).setCell ⟨g9, 6, none⟩ (.slice A v.words.length cap)).setCell ⟨g9, 7, none⟩ (.int .u64 v.key)).setCell ⟨g9, 8, none⟩ (.int .i64 v.boot)).setCell ⟨g9, 9, none⟩ (.int .i64 ((P.ex : Int) + 1))).setCell ⟨g9, 10, none⟩ (.slice A7 nw c7)).setCell ⟨g9, 11, none⟩ (.int .i64 slot)) := (Upd.refl (One g9) w9).twelve (.inl rfl) (.int .i64 v.kind) (.int .i64 v.node) (.int .i64 v.at_) (.int .i64 v.n) (.int .u64 v.old) (.int .u64 v.new_) (.slice A v.words.length cap) (.int .u64 v.key) (.int .i64 v.boot) (.int .i64 ((P.ex : Int) + 1)) (.slice A7 nw c7) (.int .i64 slot)
          have hU10 : Upd H w ((((((((((((w9.setCell ⟨g9, 0, none⟩ (.int .i64 v.kind)).setCell ⟨g9, 1, none⟩ (.int .i64 v.node)).setCell ⟨g9, 2, none⟩ (.int .i64 v.at_)).setCell ⟨g9, 3, none⟩ (.int .i64 v.n)).setCell ⟨g9, 4, none⟩ (.int .u64 v.old)).setCell ⟨g9, 5, none⟩ (.int .u64 v.new_)).setCell ⟨g9, 6, none⟩ (.slice A v.words.length cap)).setCell ⟨g9, 7, none⟩ (.int .u64 v.key)).setCell ⟨g9, 8, none⟩ (.int .i64 v.boot)).setCell ⟨g9, 9, none⟩ (.int .i64 ((P.ex : Int) + 1))).setCell ⟨g9, 10, none⟩ (.slice A7 nw c7)).setCell ⟨g9, 11, none⟩ (.int .i64 slot)) := (HU8.out.tr HU9.out.of_non).trans hu10 fun i hi e => by have e : i = g9 := e; omega
          have hX10 := hu10.row HX9.out (fun e => by have e : w.heap.size + 1 = g9 := e; omega)
          have hZ10 := hu10.row (HU9.out.rowN HZ8.out) (fun e => by have e : w.heap.size = g9 := e; omega)
          have hN10 := (HN8.out.keep HU9.out (fun _ _ h => h)).keep hu10 fun k hk e => by have e : k = g9 := e; have := HHB.out k hk; omega
          have hO10 := (HO8.out.keep HU9.out (fun _ _ h => h)).keep hu10 fun k hk e => by have e : k = g9 := e; have := hk.1.2; have h1 := HSZ8.out; have h2 : W8.heap.size ≤ g9 := HP9.out; omega
          clear e0 e1 e2 e3 e4 e5 e6 e7 e8 e9 e10 e11 f0 f1 f2 f3 f4 f5 f6 f7 f8 f9 f10 f11 d0 d1 d2 d3 d4 d5 d6 d7 d8 d9 d10 d11 p3 x9 x10 x11 z9
          have hO10 := hO10.mono (F' := Far w ((((((((((((w9.setCell ⟨g9, 0, none⟩ (.int .i64 v.kind)).setCell ⟨g9, 1, none⟩ (.int .i64 v.node)).setCell ⟨g9, 2, none⟩ (.int .i64 v.at_)).setCell ⟨g9, 3, none⟩ (.int .i64 v.n)).setCell ⟨g9, 4, none⟩ (.int .u64 v.old)).setCell ⟨g9, 5, none⟩ (.int .u64 v.new_)).setCell ⟨g9, 6, none⟩ (.slice A v.words.length cap)).setCell ⟨g9, 7, none⟩ (.int .u64 v.key)).setCell ⟨g9, 8, none⟩ (.int .i64 v.boot)).setCell ⟨g9, 9, none⟩ (.int .i64 ((P.ex : Int) + 1))).setCell ⟨g9, 10, none⟩ (.slice A7 nw c7)).setCell ⟨g9, 11, none⟩ (.int .i64 slot))) fun k hk hl => ⟨⟨hk.1.1, hl⟩, hk.2⟩
          generalize ((((((((((((w9.setCell ⟨g9, 0, none⟩ (.int .i64 v.kind)).setCell ⟨g9, 1, none⟩ (.int .i64 v.node)).setCell ⟨g9, 2, none⟩ (.int .i64 v.at_)).setCell ⟨g9, 3, none⟩ (.int .i64 v.n)).setCell ⟨g9, 4, none⟩ (.int .u64 v.old)).setCell ⟨g9, 5, none⟩ (.int .u64 v.new_)).setCell ⟨g9, 6, none⟩ (.slice A v.words.length cap)).setCell ⟨g9, 7, none⟩ (.int .u64 v.key)).setCell ⟨g9, 8, none⟩ (.int .i64 v.boot)).setCell ⟨g9, 9, none⟩ (.int .i64 ((P.ex : Int) + 1))).setCell ⟨g9, 10, none⟩ (.slice A7 nw c7)).setCell ⟨g9, 11, none⟩ (.int .i64 slot)) = W10 at *
          have HR10 := Lib.hid hR10
          have HU10 := Lib.hid hU10
          have HX10 := Lib.hid hX10
          have HZ10 := Lib.hid hZ10
          have HN10 := Lib.hid hN10
          have HO10 := Lib.hid hO10
          have HG9 := Lib.hid hg9
          have p3 : W10.cell? ⟨b, off + 3, none⟩ = some (.slice (some ⟨g, 0, none⟩) (l.length + 1) cv) ∧ W10.frozen? ⟨b, off + 3, none⟩ = false := by
            obtain ⟨h0, -, -, -, h4, -⟩ := HH8.out _ HU10.out
            exact ⟨h0.cell _ h4, h0.frozen _⟩
          obtain ⟨p3, z3⟩ := p3
          have hzn : w.heap.size ≠ b := by have := HLB.out.2.2.2.2; omega
          clear hR10 hu10 hU10 hX10 hZ10 hN10 hO10 hg9
          go_upto_region 20 with fail
          have HZ11 := Lib.hid (HZ10.out.setOther (b' := b) hzn (off + 3) (.slice (some ⟨g9, 0, none⟩) (l.length + 1) c9))
          have HFIN := Lib.hid (rmid_fin (HH8.out w (Upd.refl _ _)) HSL.out HG.out HBH.out HU10.out HR10.out ⟨by have := HL9.out.1; simp only [List.length_append, pdC_length] at this ⊢; exact this, HL9.out.2⟩ HG9.out HO10.out HNW.out)
          have HU11 : Hid (Upd (One b) W10 (W10.setCell ⟨b, off + 3, none⟩ (.slice (some ⟨g9, 0, none⟩) (l.length + 1) c9))) := Lib.hid ((Upd.refl (One b) W10).setCell (p := ⟨b, off + 3, none⟩) (.inl rfl) _)
          clear p3 z3
          generalize W10.setCell ⟨b, off + 3, none⟩ (.slice (some ⟨g9, 0, none⟩) (l.length + 1) c9) = W11 at *
          obtain ⟨q0, q1, y0, y1⟩ := done_cells HZ11.out
          go_wp2_with fail
          refine bodyPost_ret (v := .tuple #[.agg #[.int .i64 0, .slice none 0 0], .int .i64 (-1), .bool false, .bool true]) (by simp [results, Try.results150, go_sem, q0, q1]) rfl ?_
          have h6 : Upd (fun k => k = w.heap.size ∨ k = w.heap.size + 1) W11 ((W11.setCell ⟨w.heap.size, 0, none⟩ (.int .i64 0)).setCell ⟨w.heap.size, 1, none⟩ (.slice none 0 0)) := ((Upd.refl _ W11).setCell (p := ⟨w.heap.size, 0, none⟩) (.inl (.inl rfl)) _).setCell (p := ⟨w.heap.size, 1, none⟩) (.inl (.inl rfl)) _
          obtain ⟨hp5, hu5⟩ := HFIN.out
          have hbH := HBH.out
          obtain ⟨f1, f2, f3, f4⟩ := rstep_fin HGB.out HHB.out HLB.out.2.2.2.2 hp5 (HN10.out.keep HU11.out fun k hk e => by cases e; exact hbH hk) (Own.nil _ _ _ _) hu5 h6
          unfold RStepPost
          rw [HS.out, show decide (P.verbs ≠ []) = true by rw [HVB.out]; simp]
          exact ⟨none, 0, _, rfl, f1, f2, f3, f4⟩
        · have HS := Lib.hid (stepV_last HVB.out HR0.out HPX.out (by rw [HNP.out]; omega))
          have HP8 : Hid (∀ W, Upd Non (wc.setCell ⟨w.heap.size + 1, 9, none⟩ (.int .i64 ((P.ex : Int) + 1))) W → W.cell? ⟨b, off + 3, none⟩ = some (.slice (some ⟨g, 0, none⟩) (l.length + 1) cv) ∧ W.frozen? ⟨b, off + 3, none⟩ = false) := Lib.hid fun W hu => by
            obtain ⟨h0, -, -, -, h4, -⟩ := HH8.out _ (HU8.out.tr hu.of_non)
            exact ⟨h0.cell _ h4, h0.frozen _⟩
          obtain ⟨p3, z3⟩ := HP8.out _ (Upd.refl _ _)
          have hl1 := HLB.out.1
          have hl3 := HLB.out.2.2.1
          have hl4 := HLB.out.2.2.2.1
          have hl5 : ((l.length + 1 : Nat) : Int) ≤ cv := by omega
          have hbn : w.heap.size + 1 ≠ b := by have := HLB.out.2.2.2.2; omega
          have hzn : w.heap.size ≠ b := by have := HLB.out.2.2.2.2; omega
          by_cases hc1 : cv = 1
          · subst hc1
            have hl0 := HLB.out.2.1 rfl
            have HQT : Hid (View (wc.setCell ⟨w.heap.size + 1, 9, none⟩ (.int .i64 ((P.ex : Int) + 1))) G 12 (some ⟨g, 0, none⟩) l.length (qT l)) := Lib.hid (by
              have : l = [] := List.eq_nil_of_length_eq_zero hl0
              subst this; exact View.nil _ _ _ _)
            clear hl0 hl4
            go_upto_region 21 with fail
            generalize (wc.setCell ⟨w.heap.size + 1, 9, none⟩ (.int .i64 ((P.ex : Int) + 1))) = W8 at *
            go_wp2_with (at_builtin; refine wpList_app (F := Past W8) G rfl (.const (.slice none 0 0)) (.tmp 119) 132 189 rfl _ 12 128 Try.underlying132 info_pend rfl (by decide) (.slice none 0 0) 0 [] rfl (Own.nil _ _ _ _) (some ⟨g, 0, none⟩) l.length 0 (qT l) rfl (by simp) HQT.out HQ1.out (by omega) (by decide) ?_; intro v1 w4 hown hupd hnil hblk; simp only [Nat.zero_add, List.nil_append] at hown; obtain ⟨A4, c4, rfl, -, -⟩ := hown.shape; obtain ⟨hO4, hU4⟩ := app_past (w := W8) (Upd.refl Non W8) (by simp [Value.ownBlock]) hown hupd; have HFIN := Lib.hid (rpop_fin (HH8.out _ (Upd.refl _ _)) (by have := HSZ8.out; omega) (HU8.out.tr hU4.of_non) HG.out HBH.out hO4); have HU4 := Lib.hid hU4; have HX4 := Lib.hid (hU4.rowN HX8.out); have HZ4 := Lib.hid (hU4.rowN HZ8.out); obtain ⟨p3, z3⟩ := HP8.out _ hU4; clear hown hupd hnil hblk hO4 hU4)
            have HX5 := Lib.hid (HX4.out.setOther hbn (off + 3) (.slice A4 l.length c4))
            have HZ5 := Lib.hid (HZ4.out.setOther hzn (off + 3) (.slice A4 l.length c4))
            have HU5 : Hid (Upd (One b) w4 (w4.setCell ⟨b, off + 3, none⟩ (.slice A4 l.length c4))) := Lib.hid ((Upd.refl (One b) w4).setCell (p := ⟨b, off + 3, none⟩) (.inl rfl) _)
            clear p3 z3 HX4 HZ4
            generalize w4.setCell ⟨b, off + 3, none⟩ (.slice A4 l.length c4) = W5 at *
            have x10 := HX5.out.cell 10 rfl
            have x11 := HX5.out.cell 11 rfl
            obtain ⟨q0, q1, y0, y1⟩ := done_cells HZ5.out
            go_region
            all_goals go_wp2_with fail
            all_goals refine bodyPost_ret (v := .tuple #[.agg #[.int .i64 0, .slice A7 nw c7], .int .i64 slot, .bool true, .bool true]) (by simp [results, Try.results150, go_sem, q0, q1]) rfl ?_
            all_goals
              have h6 : Upd (fun k => k = w.heap.size ∨ k = w.heap.size + 1) W5 ((W5.setCell ⟨w.heap.size, 0, none⟩ (.int .i64 0)).setCell ⟨w.heap.size, 1, none⟩ (.slice A7 nw c7)) := ((Upd.refl _ W5).setCell (p := ⟨w.heap.size, 0, none⟩) (.inl (.inl rfl)) _).setCell (p := ⟨w.heap.size, 1, none⟩) (.inl (.inl rfl)) _
              obtain ⟨hp5, hu5⟩ := HFIN.out
              have hn5 := HN8.out.keep HU4.out (fun _ _ h => h)
              have hbH := HBH.out
              have ho5 := (HO8.out.keep HU4.out (fun _ _ h => h)).keep HU5.out fun k hk e => by have e : k = b := e; have := hk.2; have := HLB.out.2.2.2.2; omega
              have ho5 := ho5.mono (F' := fun k => G k ∨ Far w W5 k) fun k hk hl => .inr ⟨⟨hk.1.1, hl⟩, hk.2⟩
              obtain ⟨f1, f2, f3, f4⟩ := rstep_fin HGB.out HHB.out HLB.out.2.2.2.2 hp5 (hn5.keep HU5.out fun k hk e => by cases e; exact hbH hk) ho5 hu5 h6.drew
              unfold RStepPost
              rw [HS.out, HSL.out, show decide (P.verbs ≠ []) = true by rw [HVB.out]; simp]
              dsimp only
              rw [HNW.out]
              exact ⟨A7, c7, _, rfl, f1, f2, f3, f4⟩
          · have HQT : Hid (View (wc.setCell ⟨w.heap.size + 1, 9, none⟩ (.int .i64 ((P.ex : Int) + 1))) G 12 (some ⟨g, 12, none⟩) l.length (qT l)) := Lib.hid (HH8.out _ HU8.out).tail
            go_upto_region 21 with fail
            generalize (wc.setCell ⟨w.heap.size + 1, 9, none⟩ (.int .i64 ((P.ex : Int) + 1))) = W8 at *
            go_wp2_with (at_builtin; refine wpList_app (F := Past W8) G rfl (.const (.slice none 0 0)) (.tmp 119) 132 189 rfl _ 12 128 Try.underlying132 info_pend rfl (by decide) (.slice none 0 0) 0 [] rfl (Own.nil _ _ _ _) (some ⟨g, 12, none⟩) l.length (cv - 1) (qT l) rfl (by simp) HQT.out HQ1.out (by omega) (by decide) ?_; intro v1 w4 hown hupd hnil hblk; simp only [Nat.zero_add, List.nil_append] at hown; obtain ⟨A4, c4, rfl, -, -⟩ := hown.shape; obtain ⟨hO4, hU4⟩ := app_past (w := W8) (Upd.refl Non W8) (by simp [Value.ownBlock]) hown hupd; have HFIN := Lib.hid (rpop_fin (HH8.out _ (Upd.refl _ _)) (by have := HSZ8.out; omega) (HU8.out.tr hU4.of_non) HG.out HBH.out hO4); have HU4 := Lib.hid hU4; have HX4 := Lib.hid (hU4.rowN HX8.out); have HZ4 := Lib.hid (hU4.rowN HZ8.out); obtain ⟨p3, z3⟩ := HP8.out _ hU4; clear hown hupd hnil hblk hO4 hU4)
            have HX5 := Lib.hid (HX4.out.setOther hbn (off + 3) (.slice A4 l.length c4))
            have HZ5 := Lib.hid (HZ4.out.setOther hzn (off + 3) (.slice A4 l.length c4))
            have HU5 : Hid (Upd (One b) w4 (w4.setCell ⟨b, off + 3, none⟩ (.slice A4 l.length c4))) := Lib.hid ((Upd.refl (One b) w4).setCell (p := ⟨b, off + 3, none⟩) (.inl rfl) _)
            clear p3 z3 HX4 HZ4
            generalize w4.setCell ⟨b, off + 3, none⟩ (.slice A4 l.length c4) = W5 at *
            have x10 := HX5.out.cell 10 rfl
            have x11 := HX5.out.cell 11 rfl
            obtain ⟨q0, q1, y0, y1⟩ := done_cells HZ5.out
            go_region
            all_goals go_wp2_with fail
            all_goals refine bodyPost_ret (v := .tuple #[.agg #[.int .i64 0, .slice A7 nw c7], .int .i64 slot, .bool true, .bool true]) (by simp [results, Try.results150, go_sem, q0, q1]) rfl ?_
            all_goals
              have h6 : Upd (fun k => k = w.heap.size ∨ k = w.heap.size + 1) W5 ((W5.setCell ⟨w.heap.size, 0, none⟩ (.int .i64 0)).setCell ⟨w.heap.size, 1, none⟩ (.slice A7 nw c7)) := ((Upd.refl _ W5).setCell (p := ⟨w.heap.size, 0, none⟩) (.inl (.inl rfl)) _).setCell (p := ⟨w.heap.size, 1, none⟩) (.inl (.inl rfl)) _
              obtain ⟨hp5, hu5⟩ := HFIN.out
              have hn5 := HN8.out.keep HU4.out (fun _ _ h => h)
              have hbH := HBH.out
              have ho5 := (HO8.out.keep HU4.out (fun _ _ h => h)).keep HU5.out fun k hk e => by have e : k = b := e; have := hk.2; have := HLB.out.2.2.2.2; omega
              have ho5 := ho5.mono (F' := fun k => G k ∨ Far w W5 k) fun k hk hl => .inr ⟨⟨hk.1.1, hl⟩, hk.2⟩
              obtain ⟨f1, f2, f3, f4⟩ := rstep_fin HGB.out HHB.out HLB.out.2.2.2.2 hp5 (hn5.keep HU5.out fun k hk e => by cases e; exact hbH hk) ho5 hu5 h6.drew
              unfold RStepPost
              rw [HS.out, HSL.out, show decide (P.verbs ≠ []) = true by rw [HVB.out]; simp]
              dsimp only
              rw [HNW.out]
              exact ⟨A7, c7, _, rfl, f1, f2, f3, f4⟩
    · have HS := Lib.hid (stepV_ref HVB.out (show refE P v ws up ≠ 0 by rw [HRE.out]; exact hr))
      have hb : (re == 0) = false := by simpa using hr
      have hb' : (re != 0) = true := by simpa using hr
      have hl1 := HLB.out.1
      have hl3 := HLB.out.2.2.1
      have hl4 := HLB.out.2.2.2.1
      have hl5 : ((l.length + 1 : Nat) : Int) ≤ cv := by omega
      have hbn : w.heap.size + 1 ≠ b := by have := HLB.out.2.2.2.2; omega
      have hzn : w.heap.size ≠ b := by have := HLB.out.2.2.2.2; omega
      clear hr
      by_cases hc1 : cv = 1
      · subst hc1
        have hl0 := HLB.out.2.1 rfl
        have HQT : Hid (View wc G 12 (some ⟨g, 0, none⟩) l.length (qT l)) := Lib.hid (by
          have : l = [] := List.eq_nil_of_length_eq_zero hl0
          subst this; exact View.nil _ _ _ _)
        clear hl0 hl4
        go_wp2_with (at_builtin; go_loud (refine wpList_app (F := Past wc) G rfl (.const (.slice none 0 0)) (.tmp 67) 132 189 rfl _ 12 128 Try.underlying132 info_pend rfl (by decide) (.slice none 0 0) 0 [] rfl (Own.nil _ _ _ _) (some ⟨g, 0, none⟩) l.length 0 (qT l) rfl (by simp) HQT.out HQ1.out (by omega) (by decide) ?_; intro v1 w4 hown hupd hnil hblk; simp only [Nat.zero_add, List.nil_append] at hown; obtain ⟨A4, c4, rfl, -, -⟩ := hown.shape; obtain ⟨hO4, hU4⟩ := app_past (w := wc) (Upd.refl Non wc) (by simp [Value.ownBlock]) hown hupd; have HFIN := Lib.hid (rpop_fin (HH.out _ (Upd.refl _ _)) (by have := HX.out.lt; omega) (HU.out.tr hU4) (fun _ _ h => h) (fun h => h) hO4); have HU4 := Lib.hid (HU.out.tr hU4); have HX4 := Lib.hid (hU4.rowN HX.out); have HZ4 := Lib.hid (hU4.rowN HZ.out); obtain ⟨p3, z3⟩ := HPW.out _ hU4; have x11 := HX4.out.cell 11 rfl; have q0 := HZ4.out.cell 0 rfl; have q1 := HZ4.out.cell 1 rfl; have y0 := HZ4.out.frozen 0; have y1 := HZ4.out.frozen 1; clear hown hupd hnil hblk hO4 hU4))
        have HX5 := Lib.hid (HX4.out.setOther hbn (off + 3) (.slice A4 l.length c4))
        have HZ5 := Lib.hid (HZ4.out.setOther hzn (off + 3) (.slice A4 l.length c4))
        have HU5 : Hid (Upd (One b) w4 (w4.setCell ⟨b, off + 3, none⟩ (.slice A4 l.length c4))) := Lib.hid ((Upd.refl (One b) w4).setCell (p := ⟨b, off + 3, none⟩) (.inl rfl) _)
        clear p3 z3 x11 q0 q1 y0 y1 HX4 HZ4
        generalize w4.setCell ⟨b, off + 3, none⟩ (.slice A4 l.length c4) = W5 at *
        have x11 := HX5.out.cell 11 rfl
        obtain ⟨q0, q1, y0, y1⟩ := done_cells HZ5.out
        go_region
        all_goals go_wp2_with fail
        all_goals refine bodyPost_ret (v := .tuple #[.agg #[.int .i64 re, .slice none 0 0], .int .i64 slot, .bool true, .bool true]) (by simp [results, Try.results150, go_sem, q0, q1]) rfl ?_
        all_goals
          have h6 : Upd (fun k => k = w.heap.size ∨ k = w.heap.size + 1) W5 ((W5.setCell ⟨w.heap.size, 0, none⟩ (.int .i64 re)).setCell ⟨w.heap.size, 1, none⟩ (.slice none 0 0)) := ((Upd.refl _ W5).setCell (p := ⟨w.heap.size, 0, none⟩) (.inl (.inl rfl)) _).setCell (p := ⟨w.heap.size, 1, none⟩) (.inl (.inl rfl)) _
          obtain ⟨hp5, hu5⟩ := HFIN.out
          have hn5 := HN.out _ HU4.out
          have hbH := HBH.out
          obtain ⟨f1, f2, f3, f4⟩ := rstep_fin HGB.out HHB.out HLB.out.2.2.2.2 hp5 (hn5.keep HU5.out fun k hk e => by cases e; exact hbH hk) (Own.nil _ _ _ _) (hu5.mono fun k _ h => h.imp id fun h => h.elim) h6.drew
          unfold RStepPost
          rw [HS.out, HRE.out, HSL.out, HVB.out]
          exact ⟨none, 0, _, rfl, f1, f2, f3, f4⟩
      · have HQT : Hid (View wc G 12 (some ⟨g, 12, none⟩) l.length (qT l)) := Lib.hid (HH.out _ HU.out).tail
        go_wp2_with (at_builtin; go_loud (refine wpList_app (F := Past wc) G rfl (.const (.slice none 0 0)) (.tmp 67) 132 189 rfl _ 12 128 Try.underlying132 info_pend rfl (by decide) (.slice none 0 0) 0 [] rfl (Own.nil _ _ _ _) (some ⟨g, 12, none⟩) l.length (cv - 1) (qT l) rfl (by simp) HQT.out HQ1.out (by omega) (by decide) ?_; intro v1 w4 hown hupd hnil hblk; simp only [Nat.zero_add, List.nil_append] at hown; obtain ⟨A4, c4, rfl, -, -⟩ := hown.shape; obtain ⟨hO4, hU4⟩ := app_past (w := wc) (Upd.refl Non wc) (by simp [Value.ownBlock]) hown hupd; have HFIN := Lib.hid (rpop_fin (HH.out _ (Upd.refl _ _)) (by have := HX.out.lt; omega) (HU.out.tr hU4) (fun _ _ h => h) (fun h => h) hO4); have HU4 := Lib.hid (HU.out.tr hU4); have HX4 := Lib.hid (hU4.rowN HX.out); have HZ4 := Lib.hid (hU4.rowN HZ.out); obtain ⟨p3, z3⟩ := HPW.out _ hU4; have x11 := HX4.out.cell 11 rfl; have q0 := HZ4.out.cell 0 rfl; have q1 := HZ4.out.cell 1 rfl; have y0 := HZ4.out.frozen 0; have y1 := HZ4.out.frozen 1; clear hown hupd hnil hblk hO4 hU4))
        have HX5 := Lib.hid (HX4.out.setOther hbn (off + 3) (.slice A4 l.length c4))
        have HZ5 := Lib.hid (HZ4.out.setOther hzn (off + 3) (.slice A4 l.length c4))
        have HU5 : Hid (Upd (One b) w4 (w4.setCell ⟨b, off + 3, none⟩ (.slice A4 l.length c4))) := Lib.hid ((Upd.refl (One b) w4).setCell (p := ⟨b, off + 3, none⟩) (.inl rfl) _)
        clear p3 z3 x11 q0 q1 y0 y1 HX4 HZ4
        generalize w4.setCell ⟨b, off + 3, none⟩ (.slice A4 l.length c4) = W5 at *
        have x11 := HX5.out.cell 11 rfl
        obtain ⟨q0, q1, y0, y1⟩ := done_cells HZ5.out
        go_region
        all_goals go_wp2_with fail
        all_goals refine bodyPost_ret (v := .tuple #[.agg #[.int .i64 re, .slice none 0 0], .int .i64 slot, .bool true, .bool true]) (by simp [results, Try.results150, go_sem, q0, q1]) rfl ?_
        all_goals
          have h6 : Upd (fun k => k = w.heap.size ∨ k = w.heap.size + 1) W5 ((W5.setCell ⟨w.heap.size, 0, none⟩ (.int .i64 re)).setCell ⟨w.heap.size, 1, none⟩ (.slice none 0 0)) := ((Upd.refl _ W5).setCell (p := ⟨w.heap.size, 0, none⟩) (.inl (.inl rfl)) _).setCell (p := ⟨w.heap.size, 1, none⟩) (.inl (.inl rfl)) _
          obtain ⟨hp5, hu5⟩ := HFIN.out
          have hn5 := HN.out _ HU4.out
          have hbH := HBH.out
          obtain ⟨f1, f2, f3, f4⟩ := rstep_fin HGB.out HHB.out HLB.out.2.2.2.2 hp5 (hn5.keep HU5.out fun k hk e => by cases e; exact hbH hk) (Own.nil _ _ _ _) (hu5.mono fun k _ h => h.imp id fun h => h.elim) h6.drew
          unfold RStepPost
          rw [HS.out, HRE.out, HSL.out, HVB.out]
          exact ⟨none, 0, _, rfl, f1, f2, f3, f4⟩
end Go.Proofs.Ytlhbikiggmdolaa
