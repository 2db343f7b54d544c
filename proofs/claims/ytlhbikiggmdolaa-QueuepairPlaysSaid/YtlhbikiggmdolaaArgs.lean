/- Arguments that are slices of plain structs of whole numbers: what is told of them in memory. -/
import Derived.Test.YtlhbikiggmdolaaHeap2
import Derived.Test.YtlhbikiggmdolaaProg
import Derived.ProofKit
import Derived.Deep.Slices
import Derived.DataReads
namespace Go.Proofs.Ytlhbikiggmdolaa
open Go.RowKit Go.WideShapes

/-- Numbers as cells of these kinds. -/
def intC (ks : List IntKind) (xs : List Int) : List Value := List.zipWith (fun k x => Value.int k x) ks xs
/-- Each number fits its kind. -/
def wfC (ks : List IntKind) (xs : List Int) : Prop := ∀ (i : Nat) (k : IntKind) (x : Int), ks[i]? = some k → xs[i]? = some x → (Lit.int k x).wf = true

/-- The kinds of a type's cells, where it is a whole number or a struct (of structs) of such. -/
def catK (g : TypeId → Option (List IntKind)) : List Field → List IntKind → Option (List IntKind)
  | [], acc => some acc
  | f :: fs, acc => if f.offset = acc.length then match g f.type with
      | some l => catK g fs (acc ++ l)
      | none => none
    else none
def kindsOf (P : Program) : Nat → TypeId → Option (List IntKind)
  | 0, _ => none
  | n + 1, t => match P.underlying t with
    | some (.int k) => some [k]
    | some (.struct fs) => match catK (kindsOf P n) fs.toList [] with
      | some ks => if P.cellsOf t = ks.length then some ks else none
      | none => none
    | _ => none

section
variable {H : Type} {enc : TypeId × Value → H} {P : Program} {w : World} {base : Nat} {spare : Nat → Bool} {held : Bool}

theorem intC_length {ks : List IntKind} {xs : List Int} (h : xs.length = ks.length) : (intC ks xs).length = ks.length := by simp [intC, h]
theorem intC_append {k1 k2 : List IntKind} {x1 x2 : List Int} (h : x1.length = k1.length) : intC (k1 ++ k2) (x1 ++ x2) = intC k1 x1 ++ intC k2 x2 := by
  unfold intC; exact List.zipWith_append (by simp [h])
theorem wfC_append {k1 k2 : List IntKind} {x1 x2 : List Int} (h : x1.length = k1.length) (h1 : wfC k1 x1) (h2 : wfC k2 x2) : wfC (k1 ++ k2) (x1 ++ x2) := by
  intro i k x hk hx
  by_cases hi : i < k1.length
  · rw [List.getElem?_append_left hi] at hk
    rw [List.getElem?_append_left (by omega)] at hx
    exact h1 i k x hk hx
  · rw [List.getElem?_append_right (by omega)] at hk
    rw [List.getElem?_append_right (by omega)] at hx
    exact h2 (i - k1.length) k x hk (by rw [← h]; exact hx)

theorem cat_reads {g : TypeId → Option (List IntKind)} {cs : List Value}
    (hg : ∀ (t : TypeId) (l : List IntKind) (c : List Value), g t = some l → (∃ n y, DataW.trod enc P w base spare held n t c = some y) → ∃ xs, xs.length = l.length ∧ c = intC l xs ∧ wfC l xs) :
    ∀ (fs : List Field) (acc ks : List IntKind) (xs0 : List Int), catK g fs acc = some ks → xs0.length = acc.length → cs.take acc.length = intC acc xs0 → wfC acc xs0 →
      (∀ f ∈ fs, ∃ n y, DataW.trod enc P w base spare held n f.type ((cs.drop f.offset).take (P.cellsOf f.type)) = some y) →
      ∃ xs, xs.length = ks.length ∧ cs.take ks.length = intC ks xs ∧ wfC ks xs := by
  intro fs
  induction fs with
  | nil =>
    intro acc ks xs0 h hl ht hw _
    simp only [catK, Option.some.injEq] at h
    subst h
    exact ⟨xs0, hl, ht, hw⟩
  | cons f fs ih =>
    intro acc ks xs0 h hl ht hw hf
    simp only [catK] at h
    split at h
    · rename_i hoff
      split at h
      · rename_i l hgl
        obtain ⟨xs1, h1, h2, h3⟩ := hg f.type l _ hgl (hf f (by simp))
        have hlen : (intC l xs1).length = l.length := intC_length h1
        have hpiece : (cs.drop acc.length).take l.length = intC l xs1 := by
          rw [hoff] at h2
          have hle : (intC l xs1).length ≤ P.cellsOf f.type := by rw [← h2, List.length_take]; omega
          rw [← hlen]
          have h4 := congrArg (List.take (intC l xs1).length) h2
          rw [List.take_take, Nat.min_eq_left hle, List.take_length] at h4
          exact h4
        refine ih (acc ++ l) ks (xs0 ++ xs1) h (by simp [hl, h1]) ?_ (wfC_append hl hw h3) (fun f' hf' => hf f' (by simp [hf']))
        rw [List.length_append, List.take_add, ht, hpiece, intC_append hl]
      · simp at h
    · simp at h

theorem kinds_read (n : Nat) : ∀ (t : TypeId) (ks : List IntKind) (cs : List Value), kindsOf P n t = some ks → (∃ m y, DataW.trod enc P w base spare held m t cs = some y) → ∃ xs, xs.length = ks.length ∧ cs = intC ks xs ∧ wfC ks xs := by
  induction n with
  | zero => intro t ks cs h; simp [kindsOf] at h
  | succ n ih =>
    intro t ks cs h hr
    obtain ⟨m, y, hy⟩ := hr
    unfold kindsOf at h
    split at h
    · rename_i k hu
      simp only [Option.some.injEq] at h
      subst h
      obtain ⟨x, rfl, _, hw⟩ := DataW.trod_int hu hy
      refine ⟨[x], rfl, rfl, ?_⟩
      intro i k' x' hk hx
      match i, hk, hx with
      | 0, hk, hx => simp at hk hx; subst hk; subst hx; exact hw
      | i + 1, hk, hx => simp at hk
    · rename_i fs hu
      split at h
      · rename_i ks' hc
        split at h
        · rename_i hcells
          simp only [Option.some.injEq] at h
          subst h
          obtain ⟨xs, n', _, _, hlen, hsz, hf⟩ := DataW.trod_struct hu hy
          obtain ⟨zs, h1, h2, h3⟩ := cat_reads (enc := enc) (w := w) (base := base) (spare := spare) (held := held) (cs := cs) (g := kindsOf P n) (fun t l c hg hr => ih t l c hg hr) fs.toList [] ks' [] hc rfl (by simp [intC]) (fun i k x hk => by simp at hk) (by
            intro f hfm
            obtain ⟨i, hi, rfl⟩ := List.mem_iff_getElem.1 hfm
            have hi' : i < fs.size := by simpa using hi
            have := hf i fs[i] (by simp [hi'])
            simp only [Array.getElem_toList]
            refine ⟨n', xs[i]'(by omega), ?_⟩
            rw [this, List.getElem?_eq_getElem (by omega)])
          refine ⟨zs, h1, ?_, h3⟩
          rw [← h2, List.take_of_length_le (by omega)]
        · simp at h
      · simp at h
    · simp at h

/-- A slice of such structs in memory. -/
def RowsR (w : World) (ks : List IntKind) (A : Option Addr) (len : Nat) (z : List (List Int)) : Prop :=
  z.length = len ∧ (∀ r ∈ z, r.length = ks.length ∧ wfC ks r) ∧
  (z ≠ [] → ∃ b off, A = some ⟨b, off, none⟩ ∧ b < w.heap.size ∧ ∀ i r j v, z[i]? = some r → (intC ks r)[j]? = some v → w.cell? ⟨b, off + i * ks.length + j, none⟩ = some v)

theorem RowsR.keep {ks : List IntKind} {w w' : World} {A : Option Addr} {len : Nat} {z : List (List Int)} (h : RowsR w ks A len z) (hu : Upd Non w w') : RowsR w' ks A len z :=
  ⟨h.1, h.2.1, fun hne => by
    obtain ⟨b, off, hA, hl, hc⟩ := h.2.2 hne
    exact ⟨b, off, hA, Nat.lt_of_lt_of_le hl hu.size, fun i r j v hr hv => (World.cell?_of_block (w := w) (a := ⟨b, off + i * ks.length + j, none⟩) (hu.block b hl (fun h => h))).trans (hc i r j v hr hv)⟩⟩

theorem addr_plain {w : World} {a : Addr} {v : Value} (h : w.cell? a = some v) : a = ⟨a.block, a.off, none⟩ := by
  cases a with
  | mk b o s =>
    cases s with
    | none => rfl
    | some x =>
      unfold World.cell? at h
      split at h
      · simp at h
      · simp at h

theorem add_plain {ad : Addr} (h : ad = ⟨ad.block, ad.off, none⟩) (n : Nat) : ad.add n = ⟨ad.block, ad.off + n, none⟩ := by
  obtain ⟨b, o, s⟩ := ad
  simp only [Addr.mk.injEq, true_and] at h
  subst h
  simp [Addr.add]

theorem rows_read {t e : TypeId} {n fuel : Nat} {a : Option Addr} {len cap : Nat} {x : DataW H × List MemPlace} {ks : List IntKind} (ht : P.underlying t = some (.slice e)) (hk : kindsOf P n e = some ks) (hc : P.cellsOf e = ks.length) (hpos : 0 < ks.length)
    (h : DataW.trod enc P w base spare held fuel t [.slice a len cap] = some x) : ∃ z, RowsR w ks a len z ∧ len ≤ cap ∧ cap ≤ maxLen ∧ (a = none → len = 0 ∧ cap = 0) := by
  rcases Go.Deep.open_slice ht h with ⟨hcs, _⟩ | ⟨ad, len', cap', m, n', D, Pl, hcs, _, hl, hm, hmm, _, hx⟩
  · simp only [List.cons.injEq, Value.slice.injEq, and_true] at hcs
    obtain ⟨rfl, rfl, rfl⟩ := hcs
    exact ⟨[], ⟨rfl, fun r hr => by simp at hr, fun h => absurd rfl h⟩, Nat.le_refl _, by decide, fun _ => ⟨rfl, rfl⟩⟩
  · simp only [List.cons.injEq, Value.slice.injEq, and_true] at hcs
    obtain ⟨rfl, rfl, rfl⟩ := hcs
    have hlm : len ≤ m := by rw [hmm]; split <;> omega
    have hrow : ∀ i, i < len → ∃ xs : List Int, xs.length = ks.length ∧ wfC ks xs ∧ ∀ j v, (intC ks xs)[j]? = some v → w.cell? ((ad.add (i * ks.length)).add j) = some v := by
      intro i hi
      obtain ⟨cs', h1, h2⟩ := hx i (by omega)
      obtain ⟨xs, e1, e2, e3⟩ := kinds_read n e ks cs' hk ⟨n', _, h2⟩
      rw [hc] at h1
      obtain ⟨_, hlen, hcell⟩ := World.cells?_some h1
      refine ⟨xs, e1, e3, fun j v hv => ?_⟩
      have hj : j < ks.length := by
        have := (List.getElem?_eq_some_iff.1 hv).1
        rw [intC_length e1] at this; exact this
      rw [hcell j hj, e2]; exact hv
    obtain ⟨X, hX⟩ := Go.Deep.choose_lt (α := List Int) (p := fun i xs => xs.length = ks.length ∧ wfC ks xs ∧ ∀ j v, (intC ks xs)[j]? = some v → w.cell? ((ad.add (i * ks.length)).add j) = some v) hrow
    refine ⟨(List.range len).map X, ⟨by simp, ?_, ?_⟩, hl, hm, fun h => by simp at h⟩
    · intro r hr
      simp only [List.mem_map, List.mem_range] at hr
      obtain ⟨i, hi, rfl⟩ := hr
      exact ⟨(hX i hi).1, (hX i hi).2.1⟩
    · intro hne
      have h0 : 0 < len := by
        rcases Nat.eq_zero_or_pos len with h | h
        · subst h; simp at hne
        · exact h
      have hcell0 : ∃ v, w.cell? ad = some v := by
        obtain ⟨e1, _, e3⟩ := hX 0 h0
        have hlt : 0 < (intC ks (X 0)).length := by rw [intC_length e1]; exact hpos
        refine ⟨(intC ks (X 0))[0], ?_⟩
        have := e3 0 _ (List.getElem?_eq_getElem hlt)
        simpa [Addr.add] using this
      obtain ⟨v0, hv0⟩ := hcell0
      have hplain := addr_plain hv0
      refine ⟨ad.block, ad.off, by rw [← hplain], World.block_lt_of_cell? w ad hv0, ?_⟩
      intro i r j v hr hv
      rw [List.getElem?_map] at hr
      by_cases hi : i < len
      · rw [List.getElem?_range hi] at hr
        simp only [Option.map_some, Option.some.injEq] at hr
        subst hr
        have := (hX i hi).2.2 j v hv
        rw [Go.Deep.add_add] at this
        rw [← this]
        congr 1
        rw [add_plain hplain, Nat.add_assoc]
      · rw [List.getElem?_eq_none (by simp; omega)] at hr
        simp at hr
end
end Go.Proofs.Ytlhbikiggmdolaa
