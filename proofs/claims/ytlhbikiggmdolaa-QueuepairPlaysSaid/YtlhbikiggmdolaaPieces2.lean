/- The parts of a verb: the program's Pieces. -/
import Derived.Test.YtlhbikiggmdolaaPieces
import Derived.Deep.AppendLies
namespace Go.Proofs.Ytlhbikiggmdolaa
open Go.RowKit Go.Shelf
attribute [local go_sem] Oper.semAt_some

set_option maxRecDepth 100000 in
theorem piecesF_in (v : Vb) (A : Option Addr) (len cap : Nat) (n : Nat) (w : World) :
    CallsIn Fence.wide n Try.prog 160 #[.agg (vbC v (.slice A len cap))] w fun e w' => e = .returned (.func (.func 181) #[] #[.pointer (some ⟨w.heap.size, 0, none⟩)]) ∧ w' = w.alloc (vbO v (.slice A len cap)) := by
  unfold vbO vbC
  refine callsIn_of_wp Try.func160 rfl trivial ?_ rfl
  simp only [Try.ntmps160, List.size_toArray, List.length_cons, List.length_nil, Nat.reduceAdd, Nat.reduceSub, Array.replicate_succ, Array.replicate_zero, List.push_toArray, List.append_toArray, List.nil_append, List.cons_append]
  gi_wp2
  go_ret
  exact ⟨rfl, rfl⟩

theorem info_piece : (Try.prog.info? 148).map (fun i => (i.zero, i.size, i.bytes)) = some (some (.agg #[.int .i64 0, .int .i64 0]), 2, 16) := by kernel_rfl
theorem pcC_one (l : List (Nat × Nat)) : ∀ u ∈ pcC l, u.oneCell' = true := by
  intro u hu
  simp only [pcC, List.mem_flatMap] at hu
  obtain ⟨x, _, hx⟩ := hu
  simp at hx
  rcases hx with rfl | rfl <;> rfl
theorem row_ownFrom (B Bx : Nat) (T : TypeId) (c : List Value) : OwnFrom B (fun (_ : Unit) W => Row W Bx T c) := by
  intro s X Y row hs hg hr
  refine (hg.block Bx hs.lt ?_).trans hs
  intro e
  obtain ⟨_, o, ho, hc⟩ := hr Bx e.symm
  rw [show X.heap[Bx]? = _ from hs] at ho; cases ho; cases hc

set_option maxRecDepth 100000 in
set_option maxHeartbeats 2000000 in
theorem pieces_calls (v : Vb) (A : Option Addr) (cap : Nat) (h0 : 0 ≤ v.at_) (h1 : v.at_ ≤ 4096) (h2 : 1 ≤ cntV v) (h3 : cntV v ≤ 4096) (w : World) :
    Calls Try.prog 122 #[.agg (vbC v (.slice A v.words.length cap))] w fun e w' => ∃ x, e = .returned x ∧ Own w' (New w w') 148 2 x (pcsV v).length (pcC (pcsV v)) ∧ Upd Non w w' := by
  obtain ⟨i0, hi, hz0, hz1, hz2⟩ := info_parts info_piece
  have hlen : (pcsV v).length ≤ 4096 := Nat.le_trans (pcsN_length _ _ _) (by omega)
  have HF := Lib.hid (fun w n => piecesF_in v A v.words.length cap n w)
  have HST := Lib.hid (fun (n Bn : Nat) (w : World) (hn : 2 ≤ n) => pieces_stops n hn Bn v A cap h0 h1 h2 h3 w)
  unfold vbO vbC at HF
  unfold vbC at HST ⊢
  refine (callsIn_wide (n := 5)).1 ?_
  refine callsIn_of_wp_marks Try.func122 rfl trivial ?_ rfl
  simp only [Try.ntmps122, List.size_toArray, List.length_cons, List.length_nil, Nat.reduceAdd, Nat.reduceSub, Array.replicate_succ, Array.replicate_zero, List.push_toArray, List.append_toArray, List.nil_append, List.cons_append]
  gi_wp2_with (refine ⟨trivial, ?_⟩; gi_at_call 160; refine (HF.out _ _).mono ?_; rintro e w' ⟨rfl, rfl⟩)
  obtain ⟨kind, node, at_, nn, old, new_, words, key, boot⟩ := v
  dsimp only at *
  generalize words.length = len at *
  have hb0 : Row (((w.alloc (.cells #[.int .i64 kind, .int .i64 node, .int .i64 at_, .int .i64 nn, .int .u64 old, .int .u64 new_, .slice A len cap, .int .u64 key, .int .i64 boot] 62)).alloc (.cells #[.slice none 0 0] 146)).alloc (.cells #[.int .i64 kind, .int .i64 node, .int .i64 at_, .int .i64 nn, .int .u64 old, .int .u64 new_, .slice A len cap, .int .u64 key, .int .i64 boot] 62)) (w.heap.size + 1 + 1) 62 [.int .i64 kind, .int .i64 node, .int .i64 at_, .int .i64 nn, .int .u64 old, .int .u64 new_, .slice A len cap, .int .u64 key, .int .i64 boot] := by
    have := Row.new ((w.alloc (.cells #[.int .i64 kind, .int .i64 node, .int .i64 at_, .int .i64 nn, .int .u64 old, .int .u64 new_, .slice A len cap, .int .u64 key, .int .i64 boot] 62)).alloc (.cells #[.slice none 0 0] 146)) #[.int .i64 kind, .int .i64 node, .int .i64 at_, .int .i64 nn, .int .u64 old, .int .u64 new_, .slice A len cap, .int .u64 key, .int .i64 boot] 62
    rw [World.size_alloc, World.size_alloc] at this
    exact this
  have bO := Boxed.new (w.alloc (.cells #[.int .i64 kind, .int .i64 node, .int .i64 at_, .int .i64 nn, .int .u64 old, .int .u64 new_, .slice A len cap, .int .u64 key, .int .i64 boot] 62)) 146 (.slice none 0 0)
  rw [World.size_alloc] at bO
  have hB0 : Below w.heap.size w (((w.alloc (.cells #[.int .i64 kind, .int .i64 node, .int .i64 at_, .int .i64 nn, .int .u64 old, .int .u64 new_, .slice A len cap, .int .u64 key, .int .i64 boot] 62)).alloc (.cells #[.slice none 0 0] 146)).alloc (.cells #[.int .i64 kind, .int .i64 node, .int .i64 at_, .int .i64 nn, .int .u64 old, .int .u64 new_, .slice A len cap, .int .u64 key, .int .i64 boot] 62)) := (((Below.refl _ w).alloc (Nat.le_refl _) _).alloc (by simp) _).alloc (by simp; omega) _
  refine wpIn_rangeFunc_ownH rfl (by omega) (gf := 181) (lb := #[.pointer (some ⟨w.heap.size + 1 + 1, 0, none⟩)]) rfl trivial (enters_of Try.func181 (by kernel_rfl) rfl)
    (HST.out 4 (w.heap.size + 1 + 1) _ (by omega) hb0 w.heap.size) belowK_t (belowK_b (by simp; omega)) (Below.refl _ _) (fun _ => rfl)
    (fun pre W => (∃ v, Boxed W (w.heap.size + 1) 146 v ∧ W.ownsRow w.heap.size 148 2 v pre.length (pcC pre) ∧ True) ∧ Below w.heap.size w W)
    (fun _ _ _ => False)
    (OwnFrom.and (Own.from (holdsRow_own w.heap.size (w.heap.size + 1) 146 148 2 (fun pre => pre.length) (fun pre => pcC pre) (fun _ _ => True)) _) (ownFrom_below (Nat.le_refl _) (by simp; omega)))
    (fun _ _ _ _ _ hs _ _ => hs)
    ⟨⟨_, bO.alloc _, World.ownsRow_nil _ _ _ _, trivial⟩, hB0⟩
    (fun x a' W => ∃ Bx, w.heap.size + 1 < Bx ∧ Row W Bx 148 [.int .i64 x.1, .int .i64 x.2] ∧ a' = { tmps := #[.agg #[.int .i64 kind, .int .i64 node, .int .i64 at_, .int .i64 nn, .int .u64 old, .int .u64 new_, .slice A len cap, .int .u64 key, .int .i64 boot], .pointer (some ⟨w.heap.size, 0, none⟩), .slice none 0 0, .pointer (some ⟨w.heap.size + 1, 0, none⟩), .pointer (some ⟨Bx, 0, none⟩), .agg #[.int .i64 kind, .int .i64 node, .int .i64 at_, .int .i64 nn, .int .u64 old, .int .u64 new_, .slice A len cap, .int .u64 key, .int .i64 boot], .func (.func 181) #[] #[.pointer (some ⟨w.heap.size + 1 + 1, 0, none⟩)], encP x, undef, undef, undef, undef, undef], defers := [] })
    (fun x a' _ X Y row hs hg hr => by obtain ⟨Bx, h1, h2, h3⟩ := hs; exact ⟨Bx, h1, row_ownFrom _ Bx _ _ () X Y row h2 hg hr, h3⟩)
    ?assign ?body ?done ?stop
  case assign =>
    rintro l pre x W K ⟨⟨v, hv, hrow, _⟩, hB1⟩ hK
    unfold encP at *
    gi_wp2
    exact hK _ _ ((KeepsOthers.alloc _ _).from _) ((Below.refl _ W).alloc hB1.size _) ⟨⟨v, hv.alloc _, hrow.alloc _, trivial⟩, hB1.alloc hB1.size _⟩ ⟨W.heap.size, hv.lt, Row.new W _ _, rfl⟩
  case body =>
    rintro l pre x a' W hl ⟨r, hr⟩ ⟨⟨v, hv, hrow, _⟩, hB⟩ ⟨Bx, hBx, bX, rfl⟩ hlt
    have hc := hv.cell
    have hx0 := bX.cell 0 rfl
    have hx1 := bX.cell 1 rfl
    unfold encP
    gi_wp2_with (gi_at_builtin; refine wpListIn_append_own _ rfl _ _ 146 rfl w.heap.size 148 i0 (.agg #[.int .i64 0, .int .i64 0]) 2 16 Try.underlying146 hi hz0 hz1 hz2 rfl (by decide) _ _ _ rfl (hrow.alloc _) ⟨W.heap.size, 0, none⟩ 1 1 [.int .i64 x.1, .int .i64 x.2] rfl rfl (World.news_of_block (heap_alloc_new W _)) (by simp [Value.oneCell']) (by unfold maxLen; omega) (by omega) (by have := hB.size; simp; omega) ?_; intro v' w1 hown' hgrow _; obtain ⟨g', cap', rfl⟩ := ownsRow_succ hown'; obtain ⟨hv1, hv2, hr2, hk2, hb2⟩ := hv.appended (by decide) hrow hB.size (by omega) hown' hgrow; have hc1 := hv1.cell; have hf1 := hv1.frozen)
    exact ⟨hk2.from _, hb2, ⟨_, hv2, by rw [pcC_snoc]; simpa using hr2, trivial⟩, hB.trans hb2⟩
  case done =>
    rintro D ys W hD rfl ⟨⟨v, hv, hrow, _⟩, hB⟩ hK
    have hc := hv.cell
    gi_wp2
    refine ⟨by simp, .inl ⟨_, _, rfl, run_takeDeferred hK, ?_⟩⟩
    have hbe := hB.trans (belowK_b (w := w) (Nat.le_refl _) W D _ (.deferred none) (by simp at hD; omega) hK rfl rfl)
    exact ⟨_, results_tmp rfl _ _ _, v, rfl, Own.of_owns (ownsRow_putObj hrow _ hK rfl) (fun k hk => by
      have h := hrow.lt k hk
      exact ⟨h.1, by simpa using h.2⟩), Upd.of_below hbe⟩
  case stop =>
    rintro D c pre W _ _ h _
    exact h.elim
end Go.Proofs.Ytlhbikiggmdolaa
