/- Lists of operations of the statements about memory nodes; the reference's new node. -/
import Derived.Test.YtlhbikiggmdolaaArgs
import Derived.Test.YtlhbikiggmdolaaDo3All
namespace Go.Proofs.Ytlhbikiggmdolaa
open Go.RowKit Go.WideShapes

def opK : List IntKind := [.i64, .i64, .i64, .u64, .u64]
theorem kinds_op : kindsOf Try.prog 3 49 = some opK := by kernel_rfl
theorem cells_op : Try.prog.cellsOf 49 = opK.length := by kernel_rfl

/-- A slice of operations. -/
def OpsR (w : World) (A : Option Addr) (len : Nat) : Prop :=
  ∀ k, k < len → ∃ kd at_ cn a v : Int, 0 ≤ a ∧ ∃ b off, A = some ⟨b, off, none⟩ ∧ b < w.heap.size ∧
    w.cell? ⟨b, off + k * 5, none⟩ = some (.int .i64 kd) ∧ w.cell? ⟨b, off + k * 5 + 1, none⟩ = some (.int .i64 at_) ∧ w.cell? ⟨b, off + k * 5 + 2, none⟩ = some (.int .i64 cn) ∧
    w.cell? ⟨b, off + k * 5 + 3, none⟩ = some (.int .u64 a) ∧ w.cell? ⟨b, off + k * 5 + 4, none⟩ = some (.int .u64 v)
theorem OpsR.keep {w w' : World} {A : Option Addr} {len : Nat} (h : OpsR w A len) (hu : Upd Non w w') : OpsR w' A len := by
  intro k hk
  obtain ⟨kd, at_, cn, a, v, ha, b, off, hA, hl, h0, h1, h2, h3, h4⟩ := h k hk
  have hb := hu.block b hl (fun h => h)
  refine ⟨kd, at_, cn, a, v, ha, b, off, hA, Nat.lt_of_lt_of_le hl hu.size, ?_, ?_, ?_, ?_, ?_⟩
  · exact (World.cell?_of_block (a := ⟨b, off + k * 5, none⟩) hb).trans h0
  · exact (World.cell?_of_block (a := ⟨b, off + k * 5 + 1, none⟩) hb).trans h1
  · exact (World.cell?_of_block (a := ⟨b, off + k * 5 + 2, none⟩) hb).trans h2
  · exact (World.cell?_of_block (a := ⟨b, off + k * 5 + 3, none⟩) hb).trans h3
  · exact (World.cell?_of_block (a := ⟨b, off + k * 5 + 4, none⟩) hb).trans h4
theorem RowsR.ops {w : World} {A : Option Addr} {len : Nat} {z : List (List Int)} (h : RowsR w opK A len z) : OpsR w A len := by
  obtain ⟨hz, hr, hc⟩ := h
  intro k hk
  have hk' : k < z.length := by omega
  obtain ⟨b, off, hA, hl, hc⟩ := hc (by intro h; subst h; simp at hk')
  have hg : z[k]? = some z[k] := List.getElem?_eq_getElem hk'
  obtain ⟨hrl, hwf⟩ := hr z[k] (List.getElem_mem hk')
  generalize z[k] = r at *
  match r, hrl with
  | [kd, at_, cn, a, v], _ =>
    have h0 := hc k _ 0 (.int .i64 kd) hg rfl
    have h1 := hc k _ 1 (.int .i64 at_) hg rfl
    have h2 := hc k _ 2 (.int .i64 cn) hg rfl
    have h3 := hc k _ 3 (.int .u64 a) hg rfl
    have h4 := hc k _ 4 (.int .u64 v) hg rfl
    have ha := hwf 3 .u64 a rfl rfl
    refine ⟨kd, at_, cn, a, v, ?_, b, off, hA, hl, h0, h1, h2, h3, h4⟩
    simp [Lit.wf, IntKind.min, IntKind.signed] at ha
    exact ha.1

section
variable {H : Type} {enc : TypeId × Value → H} {w : World} {base : Nat} {spare : Nat → Bool} {held : Bool}
set_option maxRecDepth 100000 in
theorem open_bodegalaw3_Op {r : Reach} {b0 : Nat} {A : Option Addr} {len cap : Nat} {d : DataW H} {ps : List MemPlace} (_hv : Value.okWide Try.prog w r b0 44 (.slice A len cap))
    (h : DataW.Trod enc Try.prog w base spare held 44 (.slice A len cap) d ps) : ∃ z, RowsR w opK A len z ∧ len ≤ cap ∧ cap ≤ maxLen ∧ (A = none → len = 0 ∧ cap = 0) := by
  obtain ⟨fuel, hf⟩ := h
  exact rows_read (n := 3) Try.underlying44 kinds_op cells_op (by decide) hf
end

theorem newnode_calls {w : World} (lines : Nat) (h1 : 1 ≤ lines) (h2 : lines ≤ 256) :
    Calls Try.prog 49 #[.int .i64 lines] w fun e w' => ∃ q, e = .returned (.agg #[.slice (some ⟨q, 0, none⟩) (lines * 8) (lines * 8), .bool true]) ∧ w.heap.size ≤ q ∧ Row w' q 36 (u64s (List.replicate (lines * 8) 0)) ∧ Upd Non w w' := by
  have hmk := run_make_row' (P := Try.prog) 33 36 (.int .u64 0) 8 Try.underlying33 info_u64 rfl .i64 .i64 (lines * 8) (by omega) (by omega)
  have hmk : ∀ w, (Instr.makeSlice 33 (.int .i64 ((lines : Int) * 8)) (.int .i64 ((lines : Int) * 8))).run Try.prog w = .ok (.slice (some ⟨w.heap.size, 0, none⟩) (lines * 8) (lines * 8)) (w.alloc (.cells (madeCells #[.int .u64 0] (lines * 8)) 36)) := hmk
  go_enter Try.func49, Try.ntmps49
  go_wp2
  refine bodyPost_ret (v := .agg #[.slice (some ⟨w.heap.size + 1, 0, none⟩) (lines * 8) (lines * 8), .bool true]) (by simp [results, Try.results49, go_sem]) rfl ?_
  refine ⟨w.heap.size + 1, rfl, by omega, ?_, ((Upd.refl _ _).alloc _).alloc _⟩
  have := Row.new (w.alloc (.cells #[.slice (some ⟨w.heap.size + 1, 0, none⟩) (lines * 8) (lines * 8), .bool true] 46)) (madeCells #[.int .u64 0] (lines * 8)) 36
  rw [toList_made] at this
  simpa using this
end Go.Proofs.Ytlhbikiggmdolaa
