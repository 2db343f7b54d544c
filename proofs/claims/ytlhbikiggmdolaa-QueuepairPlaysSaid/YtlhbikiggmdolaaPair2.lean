/- Queue pairs of the program: what is not posted, the getters, New, Drop, First, complete. -/
import Derived.Test.YtlhbikiggmdolaaPair
namespace Go.Proofs.Ytlhbikiggmdolaa
open Go.RowKit

theorem PairR.cells {w : World} {M I : Blk} {p : Nat} {P : Pr} (h : PairR w M I p P) : ∃ Av cv Aw cw, w.cell? ⟨p, 0, none⟩ = some (.int .i64 P.client) ∧ w.cell? ⟨p, 1, none⟩ = some (.int .i64 P.inc) ∧ w.cell? ⟨p, 2, none⟩ = some (.int .i64 P.node) ∧
    w.cell? ⟨p, 3, none⟩ = some (.slice Av P.verbs.length cv) ∧ w.cell? ⟨p, 4, none⟩ = some (.int .i64 P.ex) ∧ w.cell? ⟨p, 5, none⟩ = some (.slice Aw P.words.length cw) := by
  obtain ⟨sv, sw, l, h1, h2, h3, h4, h5, h6⟩ := h
  obtain ⟨Av, cv, rfl, _, _⟩ := h4.shape
  obtain ⟨Aw, cw, rfl, _, _⟩ := h5.shape
  have hl : l.length = P.verbs.length := by rw [← h2]; simp
  rw [hl] at h1
  exact ⟨Av, cv, Aw, cw, h1.cell 0 rfl, h1.cell 1 rfl, h1.cell 2 rfl, h1.cell 3 rfl, h1.cell 4 rfl, h1.cell 5 rfl⟩

set_option maxRecDepth 100000 in
set_option maxHeartbeats 4000000 in
theorem post_no {w : World} {M I J : Blk} {p : Nat} {P : Pr} {v : Vb} {s : Value} {lines : Int} (h : PairR w M I p P) (hv : VWords w J v s) (hE : postE P v lines ≠ 0) :
    Calls Try.prog 89 #[.pointer (some ⟨p, 0, none⟩), .agg (vbC v s), .int .i64 lines] w fun e w' => e = .returned (.int .i64 (postE P v lines)) ∧ Upd Non w w' := by
  have HE : Hid (postE P v lines = if validE v 5 lines ≠ 0 then validE v 5 lines else if v.node ≠ P.node then 1 else if 1024 ≤ P.verbs.length then 12 else 0) := Lib.hid rfl
  have HNE := Lib.hid hE
  obtain ⟨A, cap, rfl, _, _, _⟩ := hv
  have HVAL := Lib.hid (fun w => valid_calls v A cap 5 lines w)
  have HK : Hid (∀ w', Upd Non w w' → ∃ Av cv, w'.cell? ⟨p, 2, none⟩ = some (.int .i64 P.node) ∧ w'.cell? ⟨p, 3, none⟩ = some (.slice Av P.verbs.length cv)) := Lib.hid fun w' hu => by
    obtain ⟨Av, cv, _, _, _, _, h2, h3, _⟩ := (h.keep hu (fun _ _ h => h) (fun _ _ h => h)).cells
    exact ⟨Av, cv, h2, h3⟩
  clear h hE
  generalize postE P v lines = pe at *
  unfold vbC
  unfold vbC at HVAL
  generalize validE v 5 lines = ve at *
  generalize P.verbs.length = nv at *
  generalize P.node = pn at *
  obtain ⟨kind, node, at_, n, old, new_, words, key, boot⟩ := v
  dsimp only at *
  generalize words.length = len at *
  have hrow : Row (w.alloc (.cells #[.int .i64 kind, .int .i64 node, .int .i64 at_, .int .i64 n, .int .u64 old, .int .u64 new_, .slice A len cap, .int .u64 key, .int .i64 boot] 62)) w.heap.size 62 [.int .i64 kind, .int .i64 node, .int .i64 at_, .int .i64 n, .int .u64 old, .int .u64 new_, .slice A len cap, .int .u64 key, .int .i64 boot] := Row.new w _ _
  have HROW := Lib.hid hrow
  have HU1 : Hid (Upd Non w (w.alloc (.cells #[.int .i64 kind, .int .i64 node, .int .i64 at_, .int .i64 n, .int .u64 old, .int .u64 new_, .slice A len cap, .int .u64 key, .int .i64 boot] 62))) := (Upd.refl _ _).alloc _
  clear hrow
  go_enter Try.func89, Try.ntmps89
  go_wp2_with fail
  refine (HVAL.out _).mono ?_
  rintro e w2 ⟨rfl, hu2⟩
  have hU2 := HU1.out.tr hu2
  obtain ⟨d0, d1, d2, d3, d4, d5, d6, d7, d8⟩ := vb_cells (hu2.rowN HROW.out)
  obtain ⟨Av, cv, q2, q3⟩ := HK.out _ hU2
  have HU2 := Lib.hid hU2
  clear hu2 hU2 HROW
  by_cases h1 : ve = 0
  · subst h1
    by_cases h2 : node = pn
    · subst h2
      have h3 : 1024 ≤ nv := by
        refine Nat.le_of_not_lt fun h => HNE.out ?_
        rw [HE.out, if_neg (by simp), if_neg (by simp), if_neg (by omega)]
      have HZ : Hid (pe = 12) := Lib.hid (by rw [HE.out, if_neg (by simp), if_neg (by simp), if_pos h3])
      go_wp2_with fail
      go_quiet (fail)
      go_wp2_with fail
      go_ret
      exact ⟨ret_int HZ.out.symm, HU2.out.drewN _⟩
    · have HZ : Hid (pe = 1) := Lib.hid (by rw [HE.out, if_neg (by simp), if_pos h2])
      have hb : (node == pn) = false := by simpa using h2
      have hb' : (node != pn) = true := by simpa using h2
      clear h2
      go_wp2_with fail
      go_quiet (fail)
      go_wp2_with fail
      go_ret
      exact ⟨ret_int HZ.out.symm, HU2.out.drewN _⟩
  · have HZ : Hid (pe = ve) := Lib.hid (by rw [HE.out, if_pos h1])
    have hb : (ve == 0) = false := by simpa using h1
    have hb' : (ve != 0) = true := by simpa using h1
    clear h1
    go_wp2_with fail
    go_ret
    exact ⟨ret_int HZ.out.symm, HU2.out⟩

theorem pending_calls {w : World} {M I : Blk} {p : Nat} {P : Pr} (h : PairR w M I p P) :
    Calls Try.prog 90 #[.pointer (some ⟨p, 0, none⟩)] w fun e w' => e = .returned (.int .i64 P.verbs.length) ∧ w = w' := by
  obtain ⟨Av, cv, Aw, cw, c0, c1, c2, c3, c4, c5⟩ := h.cells
  clear h
  go_enter Try.func90, Try.ntmps90
  go_wp2
  go_ret
  exact ⟨rfl, rfl⟩
theorem pclient_calls {w : World} {M I : Blk} {p : Nat} {P : Pr} (h : PairR w M I p P) :
    Calls Try.prog 93 #[.pointer (some ⟨p, 0, none⟩)] w fun e w' => e = .returned (.int .i64 P.client) ∧ w = w' := by
  obtain ⟨Av, cv, Aw, cw, c0, c1, c2, c3, c4, c5⟩ := h.cells
  clear h
  go_enter Try.func93, Try.ntmps93
  go_wp2
  go_ret
  exact ⟨rfl, rfl⟩
theorem pinc_calls {w : World} {M I : Blk} {p : Nat} {P : Pr} (h : PairR w M I p P) :
    Calls Try.prog 94 #[.pointer (some ⟨p, 0, none⟩)] w fun e w' => e = .returned (.int .i64 P.inc) ∧ w = w' := by
  obtain ⟨Av, cv, Aw, cw, c0, c1, c2, c3, c4, c5⟩ := h.cells
  clear h
  go_enter Try.func94, Try.ntmps94
  go_wp2
  go_ret
  exact ⟨rfl, rfl⟩
theorem pnode_calls {w : World} {M I : Blk} {p : Nat} {P : Pr} (h : PairR w M I p P) :
    Calls Try.prog 95 #[.pointer (some ⟨p, 0, none⟩)] w fun e w' => e = .returned (.int .i64 P.node) ∧ w = w' := by
  obtain ⟨Av, cv, Aw, cw, c0, c1, c2, c3, c4, c5⟩ := h.cells
  clear h
  go_enter Try.func95, Try.ntmps95
  go_wp2
  go_ret
  exact ⟨rfl, rfl⟩

def Pr.none (client inc node : Int) : Pr := ⟨client, inc, node, [], 0, []⟩
theorem pair_new {w : World} {p : Nat} {M I : Blk} {client inc node : Int} (h : Row w p 178 [.int .i64 client, .int .i64 inc, .int .i64 node, .slice none 0 0, .int .i64 0, .slice none 0 0]) (hM : M p) : PairR w M I p (Pr.none client inc node) :=
  ⟨_, _, [], h, rfl, fun x hx => by simp at hx, Own.nil _ _ _ _, Own.nil _ _ _ _, hM⟩
theorem pnew_ok (client inc node : Int) (h1 : 0 ≤ client) (h2 : client < 6) (h3 : 0 ≤ inc) (h4 : inc ≤ 59) (h5 : 0 ≤ node) (h6 : node < 5) (w : World) :
    Calls Try.prog 92 #[.int .i64 client, .int .i64 inc, .int .i64 node] w fun e w' => ∃ p, e = .returned (.tuple #[.pointer (some ⟨p, 0, none⟩), .int .i64 0]) ∧ PairR w' (New w w') Non p (Pr.none client inc node) ∧ Upd Non w w' := by
  go_enter Try.func92, Try.ntmps92
  go_wp2_with fail
  go_ret2
  refine ⟨w.heap.size, rfl, pair_new (Row.new w _ _) ⟨Nat.le_refl _, by simp⟩, (Upd.refl _ _).alloc _⟩
theorem pnew_arg (client inc node : Int) (h : client < 0 ∨ 6 ≤ client) (w : World) :
    Calls Try.prog 92 #[.int .i64 client, .int .i64 inc, .int .i64 node] w fun e w' => e = .returned (.tuple #[.pointer none, .int .i64 1]) ∧ w = w' := by
  by_cases h1 : client < 0
  · go_enter Try.func92, Try.ntmps92
    go_wp2_with fail
    go_ret2
    exact ⟨rfl, rfl⟩
  · have h2 : 6 ≤ client := by omega
    clear h
    go_enter Try.func92, Try.ntmps92
    go_wp2_with fail
    go_ret2
    exact ⟨rfl, rfl⟩
theorem pnew_range (client inc node : Int) (h1 : 0 ≤ client) (h2 : client < 6) (h : inc < 0 ∨ 59 < inc ∨ node < 0 ∨ 5 ≤ node) (w : World) :
    Calls Try.prog 92 #[.int .i64 client, .int .i64 inc, .int .i64 node] w fun e w' => e = .returned (.tuple #[.pointer none, .int .i64 2]) ∧ w = w' := by
  by_cases a1 : inc < 0
  · clear h
    go_enter Try.func92, Try.ntmps92
    go_wp2_with fail
    go_ret2
    exact ⟨rfl, rfl⟩
  by_cases a2 : 59 < inc
  · clear h
    go_enter Try.func92, Try.ntmps92
    go_wp2_with fail
    go_ret2
    exact ⟨rfl, rfl⟩
  by_cases a3 : node < 0
  · clear h
    go_enter Try.func92, Try.ntmps92
    go_wp2_with fail
    go_ret2
    exact ⟨rfl, rfl⟩
  have a4 : 5 ≤ node := by omega
  clear h
  go_enter Try.func92, Try.ntmps92
  go_wp2_with fail
  go_ret2
  exact ⟨rfl, rfl⟩
theorem drop_calls {w : World} {M I : Blk} {p : Nat} {P : Pr} (h : PairR w M I p P) :
    Calls Try.prog 151 #[.pointer (some ⟨p, 0, none⟩)] w fun e w' => e = .returned (.tuple #[]) ∧ PairR w' M I p (Pr.none P.client P.inc P.node) ∧ Upd M w w' := by
  obtain ⟨sv, sw, l, hp, h2, h3, h4, h5, h6⟩ := h
  obtain ⟨Av, cv, rfl, _, _⟩ := h4.shape
  obtain ⟨Aw, cw, rfl, _, _⟩ := h5.shape
  have c3 := hp.cell 3 rfl
  have c4 := hp.cell 4 rfl
  have c5 := hp.cell 5 rfl
  have z3 := hp.frozen 3
  have z4 := hp.frozen 4
  have z5 := hp.frozen 5
  have HP := Lib.hid hp
  clear hp h2 h3 h4 h5
  go_enter Try.func151, Try.ntmps151
  go_wp2_with fail
  go_end0
  exact ⟨rfl, pair_new (((HP.out.set 3 _).set 4 _).set 5 _) h6, (((Upd.refl M w).setCell (p := ⟨p, 3, none⟩) (.inl h6) _).setCell (p := ⟨p, 4, none⟩) (.inl h6) _).setCell (p := ⟨p, 5, none⟩) (.inl h6) _⟩
end Go.Proofs.Ytlhbikiggmdolaa
