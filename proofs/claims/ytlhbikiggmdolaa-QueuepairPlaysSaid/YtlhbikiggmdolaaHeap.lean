/- Heap words of these claims: a block that is a plain row of cells, what a call may have changed, slices that are read. No program in sight. -/
import Derived.WalkKit
import Derived.WalkSpells
import Derived.Deep.Draws
import Derived.Lib.Hide
import Derived.Laws.AppendOwnNone
import Derived.Laws.OwnMore
import Derived.Laws.CopyOwn
import Derived.Laws.IdiomCopy
namespace Go.Proofs.Ytlhbikiggmdolaa
open Go.RowKit

/-- Block b is a row of the cells c, of the element type T, none frozen. -/
def Row (w : World) (b : Nat) (T : TypeId) (c : List Value) : Prop := w.heap[b]? = some (.cells c.toArray T (0, 0))

theorem Row.lt {w : World} {b : Nat} {T : TypeId} {c : List Value} (h : Row w b T c) : b < w.heap.size := (Array.getElem?_eq_some_iff.1 h).1
theorem Row.cell {w : World} {b : Nat} {T : TypeId} {c : List Value} (h : Row w b T c) (i : Nat) {v : Value} (hv : c[i]? = some v) : w.cell? ⟨b, i, none⟩ = some v := by
  unfold Row at h; simp [World.cell?, h, hv]
theorem Row.cellq {w : World} {b : Nat} {T : TypeId} {c : List Value} (h : Row w b T c) (i : Nat) : w.cell? ⟨b, i, none⟩ = c[i]? := by
  unfold Row at h; simp [World.cell?, h]
theorem Row.frozen {w : World} {b : Nat} {T : TypeId} {c : List Value} (h : Row w b T c) (i : Nat) : w.frozen? ⟨b, i, none⟩ = false := by
  unfold Row at h; simp [World.frozen?, h]
theorem Row.uniq {w : World} {b : Nat} {T T' : TypeId} {c c' : List Value} (h : Row w b T c) (h' : Row w b T' c') : T = T' ∧ c = c' := by
  unfold Row at h h'
  rw [h] at h'
  simp only [Option.some.injEq, Obj.cells.injEq] at h'
  exact ⟨h'.2.1, by have := congrArg Array.toList h'.1; simpa using this⟩
theorem Row.ne {w : World} {b b' : Nat} {T T' : TypeId} {c c' : List Value} (h : Row w b T c) (h' : Row w b' T' c') (hne : T ≠ T') : b ≠ b' := by
  intro e; subst e; exact hne (h.uniq h').1
theorem Row.set {w : World} {b : Nat} {T : TypeId} {c : List Value} (h : Row w b T c) (i : Nat) (v : Value) : Row (w.setCell ⟨b, i, none⟩ v) b T (c.set i v) := by
  unfold Row at h ⊢
  simp [World.setCell, Array.getElem?_modify, h]
theorem heap_setCell_other {w : World} {b : Nat} (a : Addr) (v : Value) (hne : b ≠ a.block) : (w.setCell a v).heap[b]? = w.heap[b]? := by
  simp only [World.setCell, Array.getElem?_modify]
  rw [if_neg (by omega)]
theorem Row.setOther {w : World} {b : Nat} {T : TypeId} {c : List Value} (h : Row w b T c) {b' : Nat} (hne : b ≠ b') (i : Nat) (v : Value) : Row (w.setCell ⟨b', i, none⟩ v) b T c := by
  unfold Row at h ⊢
  rw [heap_setCell_other _ _ hne]; exact h
theorem Row.alloc {w : World} {b : Nat} {T : TypeId} {c : List Value} (h : Row w b T c) (o : Obj) : Row (w.alloc o) b T c := by
  have hl := h.lt
  unfold Row at h ⊢
  show (w.heap.push o)[b]? = _
  rw [Array.getElem?_push, if_neg (by omega)]; exact h
theorem Row.new (w : World) (c : Array Value) (T : TypeId) : Row (w.alloc (.cells c T)) w.heap.size T c.toList := by
  unfold Row
  show (w.heap.push _)[w.heap.size]? = _
  simp
theorem Row.drew {w : World} {b : Nat} {T : TypeId} {c : List Value} (h : Row w b T c) : Row w.drew b T c := h
theorem Row.drewN {w : World} {b : Nat} {T : TypeId} {c : List Value} (h : Row w b T c) (n : Nat) : Row (w.drewN n) b T c := h

/-- A set of blocks. -/
abbrev Blk := Nat → Prop
/-- Of what was there only blocks of M may have changed; nothing has gone. -/
structure Upd (M : Blk) (w w' : World) : Prop where
  os : w'.os = w.os
  tape : w'.tape = w.tape
  output : w'.output = w.output
  size : w.heap.size ≤ w'.heap.size
  block : ∀ k, k < w.heap.size → ¬ M k → w'.heap[k]? = w.heap[k]?

def Non : Blk := fun _ => False
def One (b : Nat) : Blk := fun k => k = b
def Or2 (M N : Blk) : Blk := fun k => M k ∨ N k
/-- The blocks that are new in w'. -/
def New (w w' : World) : Blk := fun k => w.heap.size ≤ k ∧ k < w'.heap.size

theorem Upd.refl (M : Blk) (w : World) : Upd M w w := ⟨rfl, rfl, rfl, Nat.le_refl _, fun _ _ _ => rfl⟩
theorem Upd.trans {M N : Blk} {a b c : World} (h : Upd M a b) (k : Upd N b c) (hN : ∀ i, i < a.heap.size → N i → M i) : Upd M a c :=
  ⟨k.os.trans h.os, k.tape.trans h.tape, k.output.trans h.output, Nat.le_trans h.size k.size,
    fun i hi hm => (k.block i (Nat.lt_of_lt_of_le hi h.size) (fun hn => hm (hN i hi hn))).trans (h.block i hi hm)⟩
theorem Upd.tr {M : Blk} {a b c : World} (h : Upd M a b) (k : Upd M b c) : Upd M a c := h.trans k fun _ _ h => h
theorem Upd.mono {M N : Blk} {a b : World} (h : Upd M a b) (hN : ∀ i, i < a.heap.size → M i → N i) : Upd N a b :=
  ⟨h.os, h.tape, h.output, h.size, fun i hi hn => h.block i hi (fun hm => hn (hN i hi hm))⟩
theorem Upd.of_non {N : Blk} {a b : World} (h : Upd Non a b) : Upd N a b := h.mono fun _ _ h => h.elim
theorem Upd.alloc {M : Blk} {a w : World} (h : Upd M a w) (o : Obj) : Upd M a (w.alloc o) :=
  h.trans (N := Non) ⟨rfl, rfl, rfl, by simp, fun k hk _ => Below.heap_alloc _ _ _ hk⟩ fun _ _ h => h.elim
theorem Upd.drew {M : Blk} {a w : World} (h : Upd M a w) : Upd M a w.drew := ⟨h.os, h.tape, h.output, h.size, h.block⟩
theorem Upd.drewN {M : Blk} {a w : World} (h : Upd M a w) (n : Nat) : Upd M a (w.drewN n) := ⟨h.os, h.tape, h.output, h.size, h.block⟩
theorem Upd.setCell {M : Blk} {a w : World} (h : Upd M a w) {p : Addr} (hp : M p.block ∨ a.heap.size ≤ p.block) (v : Value) : Upd M a (w.setCell p v) :=
  h.trans (N := One p.block) ⟨rfl, rfl, rfl, by simp [World.setCell], fun k _ hk => heap_setCell_other _ _ hk⟩ fun i hi h => by
    cases h; rcases hp with h | h
    · exact h
    · omega
theorem Upd.of_below {w w' : World} (h : Below w.heap.size w w') : Upd Non w w' := ⟨h.os, h.tape, h.output, h.size, fun k hk _ => h.block k hk⟩
theorem Upd.below {w w' : World} (h : Upd Non w w') : Below w.heap.size w w' := ⟨h.os, h.tape, h.output, h.size, fun k hk => h.block k hk (fun h => h)⟩
theorem Upd.of_grown {w w' : World} {row : Option Nat} (h : w.grownBy w' row) : Upd (fun k => some k = row) w w' := ⟨h.os, h.tape, h.output, h.size, fun k hk hn => h.block k hk hn⟩
theorem Upd.grown {M : Blk} {a w w' : World} {row : Option Nat} (h : Upd M a w) (hg : w.grownBy w' row) (hr : ∀ k, row = some k → M k ∨ a.heap.size ≤ k) : Upd M a w' :=
  h.trans (Upd.of_grown hg) fun i hi e => by
    rcases hr i e.symm with h | h
    · exact h
    · omega
theorem Upd.row {M : Blk} {w w' : World} (h : Upd M w w') {b : Nat} {T : TypeId} {c : List Value} (hr : Row w b T c) (hb : ¬ M b) : Row w' b T c := by
  have hl := hr.lt
  unfold Row at hr ⊢
  rw [h.block b hl hb]; exact hr
theorem Upd.rowN {w w' : World} (h : Upd Non w w') {b : Nat} {T : TypeId} {c : List Value} (hr : Row w b T c) : Row w' b T c := h.row hr fun h => h

/-- A slice's elements, of s cells each, lie in a block of F as the cells c. -/
def View (w : World) (F : Blk) (s : Nat) (A : Option Addr) (n : Nat) (c : List Value) : Prop :=
  c.length = n * s ∧ (c ≠ [] → ∃ b off, A = some ⟨b, off, none⟩ ∧ F b ∧ b < w.heap.size ∧ ∀ i v, c[i]? = some v → w.cell? ⟨b, off + i, none⟩ = some v)

theorem View.nil (w : World) (F : Blk) (s : Nat) (A : Option Addr) : View w F s A 0 [] := ⟨by simp, fun h => absurd rfl h⟩
theorem View.keep {M F : Blk} {w w' : World} {s : Nat} {A : Option Addr} {n : Nat} {c : List Value} (h : View w F s A n c) (hu : Upd M w w') (hd : ∀ k, F k → ¬ M k) : View w' F s A n c :=
  ⟨h.1, fun hc => by
    obtain ⟨b, off, hA, hF, hl, he⟩ := h.2 hc
    exact ⟨b, off, hA, hF, Nat.lt_of_lt_of_le hl hu.size, fun i v hv => (World.cell?_of_block (w := w) (a := ⟨b, off + i, none⟩) (hu.block b hl (hd b hF))).trans (he i v hv)⟩⟩
theorem View.mono {F F' : Blk} {w : World} {s : Nat} {A : Option Addr} {n : Nat} {c : List Value} (h : View w F s A n c) (hF : ∀ k, F k → F' k) : View w F' s A n c :=
  ⟨h.1, fun hc => by obtain ⟨b, off, hA, hf, hl, he⟩ := h.2 hc; exact ⟨b, off, hA, hF b hf, hl, he⟩⟩
theorem View.open {F : Blk} {w : World} {s : Nat} {A : Option Addr} {n : Nat} {c : List Value} (h : View w F s A n c) (hne : c ≠ []) :
    ∃ b off, A = some ⟨b, off, none⟩ ∧ F b ∧ b < w.heap.size ∧ ∀ i v, c[i]? = some v → w.cell? ⟨b, off + i, none⟩ = some v := h.2 hne
theorem View.cell {F : Blk} {w : World} {s : Nat} {A : Option Addr} {n : Nat} {c : List Value} (h : View w F s A n c) {i : Nat} {v : Value} (hv : c[i]? = some v) :
    ∃ b off, A = some ⟨b, off, none⟩ ∧ F b ∧ b < w.heap.size ∧ w.cell? ⟨b, off + i, none⟩ = some v := by
  have hne : c ≠ [] := by intro e; rw [e] at hv; simp at hv
  obtain ⟨b, off, hA, hF, hl, he⟩ := h.2 hne
  exact ⟨b, off, hA, hF, hl, he i v hv⟩
theorem View.ofRow {w : World} {b : Nat} {T : TypeId} {r : List Value} (h : Row w b T r) (F : Blk) (hF : F b) (s n off : Nat) (c : List Value) (hc : c.length = n * s) (he : (r.drop off).take c.length = c) :
    View w F s (some ⟨b, off, none⟩) n c := ⟨hc, fun _ => ⟨b, off, rfl, hF, h.lt, fun i v hv => h.cell _ (by
      rw [← he, List.getElem?_take] at hv
      split at hv
      · simpa using hv
      · cases hv)⟩⟩

/-- A slice of the call's own (nil, or at the head of a row in a block of F): its n elements of s cells each are xs. -/
def Own (w : World) (F : Blk) (e : TypeId) (s : Nat) (v : Value) (n : Nat) (xs : List Value) : Prop :=
  xs.length = n * s ∧ ((v = .slice none 0 0 ∧ n = 0) ∨
    ∃ g cap sp, v = .slice (some ⟨g, 0, none⟩) n cap ∧ F g ∧ Row w g e (xs ++ sp) ∧ (xs ++ sp).length = cap * s ∧ n ≤ cap ∧ cap ≤ maxLen)

def nilS : Value := .slice none 0 0

theorem Own.nil (w : World) (F : Blk) (e : TypeId) (s : Nat) : Own w F e s (.slice none 0 0) 0 [] := ⟨by simp, .inl ⟨rfl, rfl⟩⟩
theorem Own.keep {M F : Blk} {w w' : World} {e : TypeId} {s : Nat} {v : Value} {n : Nat} {xs : List Value} (h : Own w F e s v n xs) (hu : Upd M w w') (hd : ∀ k, F k → ¬ M k) : Own w' F e s v n xs :=
  ⟨h.1, h.2.imp id fun ⟨g, cap, sp, hv, hF, hr, r⟩ => ⟨g, cap, sp, hv, hF, hu.row hr (hd g hF), r⟩⟩
theorem Own.mono {F F' : Blk} {w : World} {e : TypeId} {s : Nat} {v : Value} {n : Nat} {xs : List Value} (h : Own w F e s v n xs) (hF : ∀ k, F k → k < w.heap.size → F' k) : Own w F' e s v n xs :=
  ⟨h.1, h.2.imp id fun ⟨g, cap, sp, hv, hf, hr, r⟩ => ⟨g, cap, sp, hv, hF g hf hr.lt, hr, r⟩⟩
theorem Own.of_owns {w : World} {F : Blk} {base : Nat} {e : TypeId} {s : Nat} {v : Value} {n : Nat} {xs : List Value} (h : w.ownsRow base e s v n xs) (hF : ∀ k, v.ownBlock = some k → F k) : Own w F e s v n xs := by
  refine ⟨h.1, h.2.imp id fun ⟨g, cap, cur, hv, _, hr, hn, hc, hs, ht⟩ => ⟨g, cap, cur.toList.drop (n * s), hv, hF g (by rw [hv]; rfl), ?_, ?_, hn, hc⟩⟩
  · unfold Row; rw [← ht, List.take_append_drop]; exact hr
  · rw [← ht, List.take_append_drop]; simpa using hs
theorem Own.owns {w : World} {F : Blk} {e : TypeId} {s : Nat} {v : Value} {n : Nat} {xs : List Value} (h : Own w F e s v n xs) : w.ownsRow 0 e s v n xs := by
  refine ⟨h.1, h.2.imp id fun ⟨g, cap, sp, hv, _, hr, hl, hn, hc⟩ => ⟨g, cap, (xs ++ sp).toArray, hv, Nat.zero_le _, hr, hn, hc, by simpa using hl, ?_⟩⟩
  rw [← h.1]; simp
theorem Own.block {w : World} {F : Blk} {e : TypeId} {s : Nat} {v : Value} {n : Nat} {xs : List Value} (h : Own w F e s v n xs) {k : Nat} (hk : v.ownBlock = some k) : F k ∧ k < w.heap.size := by
  rcases h.2 with ⟨rfl, _⟩ | ⟨g, cap, sp, rfl, hF, hr, _⟩
  · simp [Value.ownBlock] at hk
  · simp [Value.ownBlock] at hk; subst hk; exact ⟨hF, hr.lt⟩
theorem Own.shape {w : World} {F : Blk} {e : TypeId} {s : Nat} {v : Value} {n : Nat} {xs : List Value} (h : Own w F e s v n xs) : ∃ A cap, v = .slice A n cap ∧ (A = none → n = 0 ∧ cap = 0) ∧ View w F s A n xs := by
  have h1 := h.1
  rcases h.2 with ⟨rfl, rfl⟩ | ⟨g, cap, sp, rfl, hF, hr, hl, hn, hc⟩
  · refine ⟨none, 0, rfl, fun _ => ⟨rfl, rfl⟩, ?_⟩
    have hx : xs = [] := List.eq_nil_of_length_eq_zero (by simpa using h1)
    subst hx; exact View.nil _ _ _ _
  · exact ⟨_, cap, rfl, fun h => by simp at h, View.ofRow hr F hF s n 0 xs h1 (by simp)⟩

section
variable {P : Program}
/-- append to a slice of the call's own; what is appended is nil or lies somewhere. -/
theorem run_append {w : World} {F G : Blk} (t ty e : TypeId) (z : Value) (s bytes : Nat) (ht : P.underlying t = some (.slice e)) (hinfo : (P.info? e).map (fun i => (i.zero, i.size, i.bytes)) = some (some z, s, bytes))
    (hzs : z.cells.size = s) (hsz : 0 < s) {v : Value} {n : Nat} {xs : List Value} (hown : Own w F e s v n xs)
    (A : Option Addr) (m c : Nat) (news : List Value) (hA : A = none → m = 0 ∧ c = 0) (hv : View w G s A m news) (h1 : ∀ u ∈ news, u.oneCell' = true) (hb : (n + m) * bytes ≤ 140737488355328) (hb1 : 1 ≤ bytes) :
    ∃ v' w', (Builtin.append_ #[t, t] ty #[v, .slice A m c]).run P w = .ok v' w' ∧ Own w' (fun k => F k ∨ New w w' k) e s v' (n + m) (xs ++ news) ∧ Upd (fun k => v.ownBlock = some k) w w' ∧
      (v' = .slice none 0 0 ↔ v = .slice none 0 0 ∧ m = 0) ∧ (∀ k, v'.ownBlock = some k → v.ownBlock = some k ∨ New w w' k) := by
  obtain ⟨i, hi, hz, hsize, hby⟩ := info_parts hinfo
  cases A with
  | none =>
    obtain ⟨rfl, rfl⟩ := hA rfl
    have hn : news = [] := List.eq_nil_of_length_eq_zero (by simpa using hv.1)
    subst hn
    have hr := run_append_owned_none (P := P) (w := w) 0 t ty e i s ht hi v n xs hown.owns
    refine ⟨v, w, hr, ?_, Upd.refl _ _, by simp, fun k hk => .inl hk⟩
    simpa using hown.mono fun k hk _ => .inl hk
  | some ad =>
    have hnews : ∀ j u, news[j]? = some u → w.cell? (ad.add j) = some u := by
      intro j u hu
      obtain ⟨b, off, hA', _, _, hc⟩ := hv.cell hu
      simp only [Option.some.injEq] at hA'
      subst hA'
      have : (⟨b, off, none⟩ : Addr).add j = ⟨b, off + j, none⟩ := by unfold Addr.add; split <;> simp_all
      rw [this]; exact hc
    have h63 : n + m ≤ maxLen := by
      have : n + m ≤ (n + m) * bytes := Nat.le_mul_of_pos_right _ hb1
      unfold maxLen; omega
    obtain ⟨v', w', hr, ho, hg, hnil⟩ := run_append_own (P := P) w 0 t ty e i z s bytes ht hi hz hsize hby hzs hsz v n xs hown.owns ad m c news hv.1 hnews h1 h63 hb (Nat.zero_le _)
    have hblk : ∀ k, v'.ownBlock = some k → v.ownBlock = some k ∨ New w w' k := by
      intro k hk
      rcases Nat.lt_or_ge k w.heap.size with hlt | hge
      · left
        rcases ho.2 with ⟨rfl, _⟩ | ⟨g, cap, cur, rfl, _, hh, hnc, _, hs', ht'⟩
        · simp [Value.ownBlock] at hk
        · simp [Value.ownBlock] at hk
          subst hk
          rcases hown.2 with ⟨rfl, rfl⟩ | ⟨g2, cap2, sp, rfl, hF, hrow, hl2, hn2, hc2⟩
          · exfalso
            have hx : xs = [] := List.eq_nil_of_length_eq_zero (by simpa using hown.1)
            subst hx
            by_cases hm : m = 0
            · have := hnil.2 ⟨rfl, hm⟩; simp at this
            · have hr2 := run_append_nil (P := P) w t ty e i z ht hi hz ad m c news (by rw [hsize]; exact hv.1) hnews (by omega) (by simp only [maxLen] at h63; omega) (by rw [hby]; simp only [Nat.zero_add] at hb; omega)
              rw [hr2] at hr
              simp only [Result.ok.injEq, Value.slice.injEq, Option.some.injEq, Addr.mk.injEq] at hr
              omega
          · by_cases hroom : n + m ≤ cap2
            · have hr2 := run_append_room (P := P) w t ty e i ht hi g2 n cap2 (xs ++ sp).toArray hrow ad m c news (by rw [hsize]; exact hv.1) hnews h1 hroom (by
                rw [hsize]; simp only [List.size_toArray]; rw [hl2, hv.1, ← Nat.add_mul]; exact Nat.mul_le_mul_right _ hroom)
              rw [hr2] at hr
              simp only [Result.ok.injEq, Value.slice.injEq, Option.some.injEq, Addr.mk.injEq] at hr
              simp [Value.ownBlock, hr.1.1]
            · exfalso
              have holds : ∀ j u, xs[j]? = some u → w.cell? ((⟨g2, 0, none⟩ : Addr).add j) = some u := hown.owns.cells (g := g2) rfl
              have hr2 := run_append_grow (P := P) w t ty e i z ht hi hz ⟨g2, 0, none⟩ n cap2 xs (by rw [hsize]; exact hown.1) holds ad m c news (by rw [hsize]; exact hv.1) hnews (by omega) (by simp only [maxLen] at h63; omega) (growslice_fits (by omega) (by rw [hby]; exact hb))
              rw [hr2] at hr
              simp only [Result.ok.injEq, Value.slice.injEq, Option.some.injEq, Addr.mk.injEq] at hr
              omega
      · right
        have := ho.lt k hk
        exact ⟨hge, this.2⟩
    refine ⟨v', w', hr, Own.of_owns ho ?_, (Upd.of_grown hg).mono fun k _ hk => hk.symm, hnil, hblk⟩
    intro k hk
    rcases hblk k hk with h | h
    · exact .inl (hown.block h).1
    · exact .inr h

theorem wpList_app {ops : Array Oper} {rest : List Oper} {o : Oper} {a : Act} {Q : Exit → Act → World → Prop} {w : World} {F : Blk} (G : Blk) (hgd : o.guard = none) (sx x : Operand) (t e : TypeId)
    (ho : o.op = .call { callee := .builtin .append, args := #[sx, x], argTypes := #[t, t] })
    (z : Value) (s bytes : Nat) (ht : P.underlying t = some (.slice e)) (hinfo : (P.info? e).map (fun i => (i.zero, i.size, i.bytes)) = some (some z, s, bytes)) (hzs : z.cells.size = s) (hsz : 0 < s)
    (v : Value) (n : Nat) (xs : List Value) (hs : a.eval sx = v) (hown : Own w F e s v n xs) (A : Option Addr) (m c : Nat) (news : List Value) (hx : a.eval x = .slice A m c)
    (hA : A = none → m = 0 ∧ c = 0) (hv : View w G s A m news) (h1 : ∀ u ∈ news, u.oneCell' = true) (hb : (n + m) * bytes ≤ 140737488355328) (hb1 : 1 ≤ bytes)
    (h : ∀ v' w', Own w' (fun k => F k ∨ New w w' k) e s v' (n + m) (xs ++ news) → Upd (fun k => v.ownBlock = some k) w w' → (v' = .slice none 0 0 ↔ v = .slice none 0 0 ∧ m = 0) → (∀ k, v'.ownBlock = some k → v.ownBlock = some k ∨ New w w' k) →
      wpList P ops Q rest (a.put o.dst v') w') : wpList P ops Q (o :: rest) a w := by
  refine wpList_plain hgd fun K hK => ?_
  obtain ⟨v', w', hr, h2, h3, h4, h5⟩ := run_append (P := P) t o.type e z s bytes ht hinfo hzs hsz hown A m c news hA hv h1 hb hb1
  unfold Oper.wp execOp
  simp only [ho, resolve, invoke, builtin, Sem.run_bind, Sem.run_pure, Result.andThen_ok, List.map_toArray, List.map_cons, List.map_nil, hs, hx, hr]
  exact hK _ _ (h v' w' h2 h3 h4 h5)
theorem setRow_row {w : World} {g : Nat} {T : TypeId} {c : List Value} (h : Row w g T c) (c' : List Value) : Row (w.setRow g c'.toArray) g T c' := setRow_heap w g c.toArray c'.toArray T (0, 0) h
theorem setRow_upd (w : World) (g : Nat) (c : Array Value) : Upd (One g) w (w.setRow g c) := ⟨rfl, rfl, rfl, by simp [World.setRow], fun k _ hk => setRow_other w g k c hk⟩
/-- copy into a row of one-cell elements, from whatever lies elsewhere or there. -/
theorem wpList_cpy {ops : Array Oper} {rest : List Oper} {o : Oper} {a : Act} {Q : Exit → Act → World → Prop} {w : World} (G : Blk) (hgd : o.guard = none) (d sx : Operand) (dT sT : TypeId)
    (ho : o.op = .call { callee := .builtin .copy, args := #[d, sx], argTypes := #[dT, sT] }) (elem : TypeId) (hu : P.underlying dT = some (.slice elem)) (hsz : (P.info? elem).map (·.size) = some 1)
    (g off dLen dCap : Nat) (A : Option Addr) (sLen sCap : Nat) (hd : a.eval d = .slice (some ⟨g, off, none⟩) dLen dCap) (hs : a.eval sx = .slice A sLen sCap)
    (T : TypeId) (cur : List Value) (hg : Row w g T cur) (cs : List Value) (hv : View w G 1 A sLen cs) (hle : sLen ≤ dLen) (hfit : off + cs.length ≤ cur.length) (h1 : ∀ u ∈ cs, u.oneCell' = true)
    (h : ∀ w', Row w' g T (cur.take off ++ (cs ++ cur.drop (off + cs.length))) → Upd (One g) w w' → wpList P ops Q rest (a.put o.dst (goInt cs.length)) w') : wpList P ops Q (o :: rest) a w := by
  have hl : cs.length = sLen := by simpa using hv.1
  by_cases h0 : cs = []
  · subst h0
    refine wpList_copy_nothing hgd d sx dT sT ho elem hu hsz _ _ dLen dCap sLen sCap hd hs (by simp at hl; subst hl; simp) ?_
    exact h w (by simpa using hg) (Upd.refl _ _)
  · obtain ⟨b, o', rfl, _, _, _⟩ := hv.2 h0
    refine wpList_copy_own hgd d sx dT sT ho elem hu hsz g off dLen dCap ⟨b, o', none⟩ sLen sCap hd hs cur.toArray T hg cs (by rw [hl]; exact (Nat.min_eq_left hle).symm) ?_ (by simpa using hfit) h1 ?_
    · intro j v hj
      obtain ⟨b', off', e, _, _, hc⟩ := hv.cell hj
      simp only [Option.some.injEq, Addr.mk.injEq] at e
      obtain ⟨rfl, rfl, _⟩ := e
      have : (⟨b, o', none⟩ : Addr).add j = ⟨b, o' + j, none⟩ := by unfold Addr.add; split <;> simp_all
      rw [this]; exact hc
    · exact h _ (setRow_row hg _) (setRow_upd _ _ _)
end

/-- A list of uint64 as cells. -/
def u64s (l : List Int) : List Value := l.map (.int .u64)
theorem u64s_length (l : List Int) : (u64s l).length = l.length := by simp [u64s]
theorem u64s_get (l : List Int) (i : Nat) : (u64s l)[i]? = (l[i]?).map (.int .u64) := by simp [u64s]
theorem u64s_append (l m : List Int) : u64s (l ++ m) = u64s l ++ u64s m := by simp [u64s]
theorem u64s_inj {l m : List Int} (h : u64s l = u64s m) : l = m := by
  induction l generalizing m with
  | nil => cases m with
    | nil => rfl
    | cons b m => simp [u64s] at h
  | cons a l ih => cases m with
    | nil => simp [u64s] at h
    | cons b m =>
      simp only [u64s, List.map_cons, List.cons.injEq, Value.int.injEq, true_and] at h
      rw [h.1, ih h.2]

theorem ret_int {k : IntKind} {a b : Int} (h : a = b) : Ending.returned (.int k a) = .returned (.int k b) := by rw [h]
theorem ret_bool {a b : Bool} (h : a = b) : Ending.returned (.bool a) = .returned (.bool b) := by rw [h]
end Go.Proofs.Ytlhbikiggmdolaa
