/- Arguments that are slices of bytes, of words, of whole numbers. -/
import Derived.Test.YtlhbikiggmdolaaArgs
import Derived.Test.YtlhbikiggmdolaaImgLaw
namespace Go.Proofs.Ytlhbikiggmdolaa
open Go.RowKit Go.WideShapes

def i64s (l : List Int) : List Value := l.map (.int .i64)
theorem RowsR.one {w : World} {k : IntKind} {A : Option Addr} {len : Nat} {z : List (List Int)} (h : RowsR w [k] A len z) :
    View w (fun b => b < w.heap.size) 1 A len ((z.map fun r => r.getD 0 0).map (.int k)) ∧ ∀ x ∈ z.map (fun r => r.getD 0 0), (Lit.int k x).wf = true := by
  obtain ⟨hz, hr, hc⟩ := h
  refine ⟨⟨by simp [hz], fun hne => ?_⟩, ?_⟩
  · obtain ⟨b, off, hA, hl, hcell⟩ := hc (by intro e; apply hne; simp [e])
    refine ⟨b, off, hA, hl, hl, fun i v hv => ?_⟩
    rw [List.getElem?_map, List.getElem?_map] at hv
    cases hzi : z[i]? with
    | none => rw [hzi] at hv; simp at hv
    | some r =>
      rw [hzi] at hv
      have hm : r ∈ z := List.mem_of_getElem? hzi
      obtain ⟨hrl, _⟩ := hr r hm
      match r, hrl with
      | [x], _ =>
        have := hcell i [x] 0 (.int k x) hzi rfl
        simp only [Option.map_some, Option.some.injEq] at hv
        subst hv
        simpa using this
  · intro x hx
    simp only [List.mem_map] at hx
    obtain ⟨r, hm, rfl⟩ := hx
    obtain ⟨hrl, hw⟩ := hr r hm
    match r, hrl with
    | [y], _ => exact hw 0 k y rfl rfl

section
variable {H : Type} {enc : TypeId × Value → H} {w : World} {base : Nat} {spare : Nat → Bool} {held : Bool}
/-- What is told of a slice of bytes. -/
def U8sR (w : World) (A : Option Addr) (len cap : Nat) (z : List Nat) : Prop := View w (fun b => b < w.heap.size) 1 A len (u8s z) ∧ Byt z ∧ len ≤ cap ∧ cap ≤ maxLen ∧ (A = none → len = 0 ∧ cap = 0)
def U64sR (w : World) (A : Option Addr) (len cap : Nat) (z : List Int) : Prop := View w (fun b => b < w.heap.size) 1 A len (u64s z) ∧ W64 z ∧ len ≤ cap ∧ cap ≤ maxLen ∧ (A = none → len = 0 ∧ cap = 0)
def I64sR (w : World) (A : Option Addr) (len cap : Nat) (z : List Int) : Prop := View w (fun b => b < w.heap.size) 1 A len (i64s z) ∧ len ≤ cap ∧ cap ≤ maxLen ∧ (A = none → len = 0 ∧ cap = 0)

set_option maxRecDepth 100000 in
theorem openU8s {r : Reach} {b0 : Nat} {A : Option Addr} {len cap : Nat} {d : DataW H} {ps : List MemPlace} (_hv : Value.okWide Try.prog w r b0 89 (.slice A len cap))
    (h : DataW.Trod enc Try.prog w base spare held 89 (.slice A len cap) d ps) : ∃ z, U8sR w A len cap z := by
  obtain ⟨fuel, hf⟩ := h
  obtain ⟨z, h1, h2, h3, h4⟩ := rows_read (n := 1) (ks := [.u8]) Try.underlying89 (by kernel_rfl) (by kernel_rfl) (by decide) hf
  obtain ⟨hv, hw⟩ := h1.one
  have hb : ∀ x ∈ z.map (fun r => r.getD 0 0), 0 ≤ x ∧ x < 256 := fun x hx => by
    have := hw x hx
    simp [Lit.wf, IntKind.min, IntKind.max, IntKind.signed, IntKind.bits] at this
    omega
  refine ⟨(z.map fun r => r.getD 0 0).map Int.toNat, ?_, ?_, h2, h3, h4⟩
  · have e : (z.map fun r => r.getD 0 0).map (Value.int .u8) = u8s ((z.map fun r => r.getD 0 0).map Int.toNat) := by
      unfold u8s
      generalize z.map (fun r => r.getD 0 0) = y at *
      rw [List.map_map]
      refine List.map_congr_left (f := Value.int .u8) (g := (fun x : Nat => Value.int .u8 x) ∘ Int.toNat) fun x hx => ?_
      have := hb x hx
      simp only [Function.comp_def]; congr 1; omega
    rw [e] at hv; exact hv
  · intro x hx
    simp only [List.mem_map] at hx
    obtain ⟨y, ⟨r, hr, rfl⟩, rfl⟩ := hx
    have := hb _ (List.mem_map_of_mem (f := fun r => r.getD 0 0) hr)
    omega
set_option maxRecDepth 100000 in
theorem openU64s {r : Reach} {b0 : Nat} {A : Option Addr} {len cap : Nat} {d : DataW H} {ps : List MemPlace} (_hv : Value.okWide Try.prog w r b0 33 (.slice A len cap))
    (h : DataW.Trod enc Try.prog w base spare held 33 (.slice A len cap) d ps) : ∃ z, U64sR w A len cap z := by
  obtain ⟨fuel, hf⟩ := h
  obtain ⟨z, h1, h2, h3, h4⟩ := rows_read (n := 1) (ks := [.u64]) Try.underlying33 (by kernel_rfl) (by kernel_rfl) (by decide) hf
  obtain ⟨hv, hw⟩ := h1.one
  refine ⟨z.map (fun r : List Int => r.getD 0 (0 : Int)), hv, fun x hx => ?_, h2, h3, h4⟩
  have := hw x hx
  simp [Lit.wf, IntKind.min, IntKind.max, IntKind.signed, IntKind.bits] at this
  omega
set_option maxRecDepth 100000 in
theorem openI64s {r : Reach} {b0 : Nat} {A : Option Addr} {len cap : Nat} {d : DataW H} {ps : List MemPlace} (_hv : Value.okWide Try.prog w r b0 59 (.slice A len cap))
    (h : DataW.Trod enc Try.prog w base spare held 59 (.slice A len cap) d ps) : ∃ z, I64sR w A len cap z := by
  obtain ⟨fuel, hf⟩ := h
  obtain ⟨z, h1, h2, h3, h4⟩ := rows_read (n := 1) (ks := [.i64]) Try.underlying59 (by kernel_rfl) (by kernel_rfl) (by decide) hf
  exact ⟨z.map (fun r : List Int => r.getD 0 (0 : Int)), h1.one.1, h2, h3, h4⟩
end
end Go.Proofs.Ytlhbikiggmdolaa
