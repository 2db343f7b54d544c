/- Queue pairs of the reference: what lies in memory; Post. -/
import Derived.Test.YtlhbikiggmdolaaStepV
namespace Go.Proofs.Ytlhbikiggmdolaa
open Go.RowKit

theorem info_pend : (Try.prog.info? 189).map (fun i => (i.zero, i.size, i.bytes)) = some (some (.agg #[.int .i64 0, .int .i64 0, .int .i64 0, .int .i64 0, .int .u64 0, .int .u64 0, .slice none 0 0, .int .u64 0, .int .i64 0, .int .i64 0, .slice none 0 0, .int .i64 0]), 12, 128) := by kernel_rfl

/-- A waiting verb: its twelve cells. -/
def pdC (v : Vb) (s : Value) (ex : Nat) (sw : Value) (slot : Int) : List Value := (vbC v s).toList ++ [.int .i64 ex, sw, .int .i64 slot]
theorem pdC_length (v : Vb) (s : Value) (ex : Nat) (sw : Value) (slot : Int) : (pdC v s ex sw slot).length = 12 := rfl
abbrev Qe := Vb × Value × Int
def qT (l : List Qe) : List Value := l.flatMap fun y => pdC y.1 y.2.1 0 (.slice none 0 0) y.2.2
def qC (ex : Nat) (sw : Value) : List Qe → List Value
  | [] => []
  | x :: l => pdC x.1 x.2.1 ex sw x.2.2 ++ qT l
theorem qT_length (l : List Qe) : (qT l).length = l.length * 12 := by
  induction l with
  | nil => rfl
  | cons x l ih =>
    have e : qT (x :: l) = pdC x.1 x.2.1 0 (.slice none 0 0) x.2.2 ++ qT l := rfl
    rw [e, List.length_append, ih, pdC_length, List.length_cons]; omega
theorem qC_length (ex : Nat) (sw : Value) (l : List Qe) : (qC ex sw l).length = l.length * 12 := by
  cases l with
  | nil => rfl
  | cons x l =>
    have e : qC ex sw (x :: l) = pdC x.1 x.2.1 ex sw x.2.2 ++ qT l := rfl
    rw [e, List.length_append, qT_length, pdC_length, List.length_cons]; omega
theorem qC_snoc (ex : Nat) (sw : Value) (l : List Qe) (y : Qe) (h : l = [] → ex = 0 ∧ sw = .slice none 0 0) : qC ex sw (l ++ [y]) = qC ex sw l ++ pdC y.1 y.2.1 0 (.slice none 0 0) y.2.2 := by
  cases l with
  | nil => obtain ⟨rfl, rfl⟩ := h rfl; simp [qC, qT]
  | cons x l => simp [qC, qT, List.append_assoc]
theorem qC_zero (l : List Qe) : qC 0 (.slice none 0 0) l = qT l := by cases l <;> rfl

/-- A queue pair of the reference at cell off of block b. Its arrays lie in G and are never written. -/
def RPairR (w : World) (G : Blk) (b off : Nat) (T : TypeId) (c : List Value) (P : Pr) (sl : List Int) : Prop :=
  ∃ (sv sw : Value) (l : List Qe), Row w b T c ∧ c[off]? = some (.int .i64 P.client) ∧ c[off + 1]? = some (.int .i64 P.inc) ∧ c[off + 2]? = some (.int .i64 P.node) ∧ c[off + 3]? = some sv ∧ l.map (fun x => x.1) = P.verbs ∧ l.map (fun x => x.2.2) = sl ∧
    (∀ x ∈ l, VWords w G x.1 x.2.1) ∧ Own w G 189 12 sv l.length (qC P.ex sw l) ∧ Own w G 36 1 sw P.words.length (u64s P.words) ∧ ¬ G b
theorem RPairR.keep {N G : Blk} {w w' : World} {b off : Nat} {T : TypeId} {c : List Value} {P : Pr} {sl : List Int} (h : RPairR w G b off T c P sl) (hu : Upd N w w') (hb : ¬ N b) (hG : ∀ k, G k → ¬ N k) : RPairR w' G b off T c P sl := by
  obtain ⟨sv, sw, l, h0, h1, h2, h3, h4, h5, h6, h7, h8, h9, h10⟩ := h
  exact ⟨sv, sw, l, hu.row h0 hb, h1, h2, h3, h4, h5, h6, fun x hx => (h7 x hx).keep hu hG, h8.keep hu hG, h9.keep hu hG, h10⟩
theorem RPairR.mono {G G' : Blk} {w : World} {b off : Nat} {T : TypeId} {c : List Value} {P : Pr} {sl : List Int} (h : RPairR w G b off T c P sl) (hG : ∀ k, G k → k < w.heap.size → G' k) (hb : ¬ G' b) : RPairR w G' b off T c P sl := by
  obtain ⟨sv, sw, l, h0, h1, h2, h3, h4, h5, h6, h7, h8, h9, h10⟩ := h
  exact ⟨sv, sw, l, h0, h1, h2, h3, h4, h5, h6, fun x hx => (h7 x hx).mono hG, h8.mono hG, h9.mono hG, hb⟩
theorem RPairR.cells {w : World} {G : Blk} {b off : Nat} {T : TypeId} {c : List Value} {P : Pr} {sl : List Int} (h : RPairR w G b off T c P sl) :
    ∃ A cap, w.cell? ⟨b, off, none⟩ = some (.int .i64 P.client) ∧ w.cell? ⟨b, off + 1, none⟩ = some (.int .i64 P.inc) ∧ w.cell? ⟨b, off + 2, none⟩ = some (.int .i64 P.node) ∧ w.cell? ⟨b, off + 3, none⟩ = some (.slice A P.verbs.length cap) ∧ w.frozen? ⟨b, off + 3, none⟩ = false := by
  obtain ⟨sv, sw, l, h0, h1, h2, h3, h4, h5, h6, h7, h8, h9, h10⟩ := h
  obtain ⟨A, cap, rfl, _, _⟩ := h8.shape
  have hl : l.length = P.verbs.length := by rw [← h5]; simp
  rw [hl] at h4
  exact ⟨A, cap, h0.cell _ h1, h0.cell _ h2, h0.cell _ h3, h0.cell _ h4, h0.frozen _⟩

set_option maxRecDepth 100000 in
set_option maxHeartbeats 4000000 in
theorem rpost_no {w : World} {G J : Blk} {b off : Nat} {T : TypeId} {c : List Value} {P : Pr} {sl : List Int} {v : Vb} {s : Value} {lines slot : Int} (h : RPairR w G b off T c P sl) (hv : VWords w J v s) (hE : postE P v lines ≠ 0) :
    Calls Try.prog 149 #[.pointer (some ⟨b, off, none⟩), .agg (vbC v s), .int .i64 lines, .int .i64 slot] w fun e w' => e = .returned (.int .i64 (postE P v lines)) ∧ Upd Non w w' := by
  have HE : Hid (postE P v lines = if validE v 5 lines ≠ 0 then validE v 5 lines else if v.node ≠ P.node then 1 else if 1024 ≤ P.verbs.length then 12 else 0) := Lib.hid rfl
  have HNE := Lib.hid hE
  obtain ⟨A, cap, rfl, _, _, _⟩ := hv
  have HVAL := Lib.hid (fun w => refvalid_calls v A cap 5 lines w)
  have HK : Hid (∀ w', Upd Non w w' → ∃ Av cv, w'.cell? ⟨b, off + 2, none⟩ = some (.int .i64 P.node) ∧ w'.cell? ⟨b, off + 3, none⟩ = some (.slice Av P.verbs.length cv)) := Lib.hid fun w' hu => by
    obtain ⟨Av, cv, _, _, h2, h3, _⟩ := (h.keep hu (fun h => h) (fun _ _ h => h)).cells
    exact ⟨Av, cv, h2, h3⟩
  clear h hE
  generalize postE P v lines = pe at *
  unfold vbC
  unfold vbC at HVAL
  generalize validE v 5 lines = ve at *
  generalize P.verbs.length = nv at *
  generalize P.node = pn at *
  obtain ⟨kind, node, at_, n, old, new_, words, key, boot⟩ := v
  dsimp only at *
  generalize words.length = len at *
  have hrow : Row (w.alloc (.cells #[.int .i64 kind, .int .i64 node, .int .i64 at_, .int .i64 n, .int .u64 old, .int .u64 new_, .slice A len cap, .int .u64 key, .int .i64 boot] 62)) w.heap.size 62 [.int .i64 kind, .int .i64 node, .int .i64 at_, .int .i64 n, .int .u64 old, .int .u64 new_, .slice A len cap, .int .u64 key, .int .i64 boot] := Row.new w _ _
  have HROW := Lib.hid hrow
  have HU1 : Hid (Upd Non w (w.alloc (.cells #[.int .i64 kind, .int .i64 node, .int .i64 at_, .int .i64 n, .int .u64 old, .int .u64 new_, .slice A len cap, .int .u64 key, .int .i64 boot] 62))) := (Upd.refl _ _).alloc _
  clear hrow
  go_enter Try.func149, Try.ntmps149
  go_wp2_with fail
  refine (HVAL.out _).mono ?_
  rintro e w2 ⟨rfl, hu2⟩
  have hU2 := HU1.out.tr hu2
  obtain ⟨d0, d1, d2, d3, d4, d5, d6, d7, d8⟩ := vb_cells (hu2.rowN HROW.out)
  obtain ⟨Av, cv, q2, q3⟩ := HK.out _ hU2
  have HU2 := Lib.hid hU2
  clear hu2 hU2 HROW
  by_cases h1 : ve = 0
  · subst h1
    by_cases h2 : node = pn
    · subst h2
      have h3 : 1024 ≤ nv := by
        refine Nat.le_of_not_lt fun h => HNE.out ?_
        rw [HE.out, if_neg (by simp), if_neg (by simp), if_neg (by omega)]
      have HZ : Hid (pe = 12) := Lib.hid (by rw [HE.out, if_neg (by simp), if_neg (by simp), if_pos h3])
      go_wp2_with fail
      go_quiet (fail)
      go_wp2_with fail
      go_ret
      exact ⟨ret_int HZ.out.symm, HU2.out.drewN _⟩
    · have HZ : Hid (pe = 1) := Lib.hid (by rw [HE.out, if_neg (by simp), if_pos h2])
      have hb : (node == pn) = false := by simpa using h2
      have hb' : (node != pn) = true := by simpa using h2
      clear h2
      go_wp2_with fail
      go_quiet (fail)
      go_wp2_with fail
      go_ret
      exact ⟨ret_int HZ.out.symm, HU2.out.drewN _⟩
  · have HZ : Hid (pe = ve) := Lib.hid (by rw [HE.out, if_pos h1])
    have hb : (ve == 0) = false := by simpa using h1
    have hb' : (ve != 0) = true := by simpa using h1
    clear h1
    go_wp2_with fail
    go_ret
    exact ⟨ret_int HZ.out.symm, HU2.out⟩

def RPostYes (w : World) (G : Blk) (b off : Nat) (T : TypeId) (c : List Value) (P : Pr) (sl : List Int) (v : Vb) (slot : Int) (e : Ending) (w' : World) : Prop :=
  e = .returned (.int .i64 0) ∧ Upd (One b) w w' ∧ ∃ x, RPairR w' (fun k => G k ∨ New w w' k) b off T (c.set (off + 3) x) (P.push v) (sl ++ [slot])

theorem RPairR.norm {w : World} {G : Blk} {b off : Nat} {T : TypeId} {c : List Value} {P : Pr} {sl : List Int} (h : RPairR w G b off T c P sl) (hok : P.Ok) :
    ∃ (sv sw : Value) (l : List Qe), Row w b T c ∧ c[off]? = some (.int .i64 P.client) ∧ c[off + 1]? = some (.int .i64 P.inc) ∧ c[off + 2]? = some (.int .i64 P.node) ∧ c[off + 3]? = some sv ∧ l.map (fun x => x.1) = P.verbs ∧ l.map (fun x => x.2.2) = sl ∧
    (∀ x ∈ l, VWords w G x.1 x.2.1) ∧ Own w G 189 12 sv l.length (qC P.ex sw l) ∧ Own w G 36 1 sw P.words.length (u64s P.words) ∧ ¬ G b ∧ (l = [] → P.ex = 0 ∧ sw = .slice none 0 0) := by
  obtain ⟨sv, sw, l, h0, h1, h2, h3, h4, h5, h6, h7, h8, h9, h10⟩ := h
  by_cases hl : l = []
  · subst hl
    have hv : P.verbs = [] := h5.symm
    have he := hok.none hv
    have hw : P.words = [] := by have := hok.words; rw [he] at this; exact List.eq_nil_of_length_eq_zero (by omega)
    exact ⟨sv, .slice none 0 0, [], h0, h1, h2, h3, h4, h5, h6, h7, h8, by rw [hw]; exact Own.nil _ _ _ _, h10, fun _ => ⟨he, rfl⟩⟩
  · exact ⟨sv, sw, l, h0, h1, h2, h3, h4, h5, h6, h7, h8, h9, h10, fun e => absurd e hl⟩
theorem set3_get {c : List Value} {off : Nat} {sv x : Value} (h : c[off + 3]? = some sv) : (c.set (off + 3) x)[off]? = c[off]? ∧ (c.set (off + 3) x)[off + 1]? = c[off + 1]? ∧ (c.set (off + 3) x)[off + 2]? = c[off + 2]? ∧ (c.set (off + 3) x)[off + 3]? = some x := by
  have hl := (List.getElem?_eq_some_iff.1 h).1
  refine ⟨?_, ?_, ?_, ?_⟩
  · rw [List.getElem?_set_ne (by omega)]
  · rw [List.getElem?_set_ne (by omega)]
  · rw [List.getElem?_set_ne (by omega)]
  · rw [List.getElem?_set_self hl]
theorem qC_one {w : World} {G : Blk} {ex n : Nat} {sw : Value} {xs : List Value} {l : List Qe} (h7 : ∀ x ∈ l, VWords w G x.1 x.2.1) (h9 : Own w G 36 1 sw n xs) : ∀ u ∈ qC ex sw l, u.oneCell' = true := by
  obtain ⟨Aw, cw, rfl, _, _⟩ := h9.shape
  have hp : ∀ (x : Qe) (e : Nat) (A : Option Addr) (n c : Nat), VWords w G x.1 x.2.1 → ∀ u ∈ pdC x.1 x.2.1 e (.slice A n c) x.2.2, u.oneCell' = true := by
    intro x e A n c hx u hu
    obtain ⟨A', c', hs, _⟩ := hx
    rw [hs] at hu
    simp [pdC, vbC] at hu
    rcases hu with rfl | rfl | rfl | rfl | rfl | rfl | rfl | rfl | rfl | rfl | rfl | rfl <;> rfl
  cases l with
  | nil => intro u hu; simp [qC] at hu
  | cons x l =>
    intro u hu
    rcases List.mem_append.1 hu with hu | hu
    · exact hp _ _ _ _ _ (h7 x (by simp)) u hu
    · obtain ⟨y, hy, hm⟩ := List.mem_flatMap.1 hu
      exact hp _ _ _ _ _ (h7 y (List.mem_cons_of_mem _ hy)) u hm
theorem rpost_arm {w Wb w4 : World} {G : Blk} {b off : Nat} {T : TypeId} {c : List Value} {P : Pr} {sl : List Int} {v : Vb} {slot : Int} {sv sw v' : Value} {l : List Qe} {A1 : Option Addr} {cap1 : Nat}
    (h0 : Row w b T c) (h1 : c[off]? = some (.int .i64 P.client)) (h2 : c[off + 1]? = some (.int .i64 P.inc)) (h3 : c[off + 2]? = some (.int .i64 P.node)) (h4 : c[off + 3]? = some sv) (h5 : l.map (fun x => x.1) = P.verbs) (h6 : l.map (fun x => x.2.2) = sl)
    (h7 : ∀ x ∈ l, VWords w G x.1 x.2.1) (h9 : Own w G 36 1 sw P.words.length (u64s P.words)) (h10 : ¬ G b) (h11 : l = [] → P.ex = 0 ∧ sw = .slice none 0 0)
    (hu5 : Upd Non w Wb) (hO5 : Own Wb (Past w) 36 1 (.slice A1 v.words.length cap1) v.words.length (u64s v.words)) (hO4 : Own w4 (Past Wb) 189 12 v' (l.length + 1) (qC P.ex sw l ++ pdC v (.slice A1 v.words.length cap1) 0 (.slice none 0 0) slot)) (hU4 : Upd Non Wb w4) :
    ∃ A4 c4, v' = .slice A4 (l.length + 1) c4 ∧ w4.cell? ⟨b, off + 3, none⟩ = some sv ∧ w4.frozen? ⟨b, off + 3, none⟩ = false ∧ Hid (RPostYes w G b off T c P sl v slot (.returned (.int .i64 0)) (w4.setCell ⟨b, off + 3, none⟩ (.slice A4 (l.length + 1) c4))) := by
  obtain ⟨A4, c4, rfl, _, _⟩ := hO4.shape
  have hb4 := hU4.rowN (hu5.rowN h0)
  have hset : Upd (One b) w4 (w4.setCell ⟨b, off + 3, none⟩ (.slice A4 (l.length + 1) c4)) := (Upd.refl (One b) w4).setCell (p := ⟨b, off + 3, none⟩) (.inl rfl) _
  have s5 := hu5.size
  have s4 := hU4.size
  have hbl := h0.lt
  have hfin : Upd (One b) w (w4.setCell ⟨b, off + 3, none⟩ (.slice A4 (l.length + 1) c4)) := (hu5.tr hU4).of_non.trans hset fun _ _ h => h
  have hrow := hb4.set (off + 3) (.slice A4 (l.length + 1) c4)
  have hwn : Upd (One b) Wb (w4.setCell ⟨b, off + 3, none⟩ (.slice A4 (l.length + 1) c4)) := hU4.of_non.trans hset fun _ _ h => h
  refine ⟨A4, c4, rfl, hb4.cell _ h4, hb4.frozen _, Lib.hid ⟨rfl, hfin, .slice A4 (l.length + 1) c4, ?_⟩⟩
  generalize w4.setCell ⟨b, off + 3, none⟩ (.slice A4 (l.length + 1) c4) = W at *
  have s6 := hset.size
  obtain ⟨g0, g1, g2, g3⟩ := set3_get (x := .slice A4 (l.length + 1) c4) h4
  refine ⟨.slice A4 (l.length + 1) c4, sw, l ++ [(v, .slice A1 v.words.length cap1, slot)], hrow, by rw [g0]; exact h1, by rw [g1]; exact h2, by rw [g2]; exact h3, g3, ?_, ?_, ?_, ?_, ?_, ?_⟩
  · rw [List.map_append, h5]; rfl
  · rw [List.map_append, h6]; rfl
  · intro x hx
    rcases List.mem_append.1 hx with hx | hx
    · exact ((h7 x hx).keep hfin fun k hk e => by cases e; exact h10 hk).mono fun k hk _ => .inl hk
    · rw [List.mem_singleton] at hx
      subst hx
      have := hO5.keep hwn fun k hk e => by have e : k = b := e; have hk : w.heap.size ≤ k := hk; omega
      exact VWords.of_own (this.mono fun k hk hl => .inr ⟨hk, hl⟩) rfl
  · rw [List.length_append]
    show Own _ _ _ _ _ (l.length + 1) (qC P.ex sw (l ++ [(v, .slice A1 v.words.length cap1, slot)]))
    rw [qC_snoc _ _ _ _ h11]
    have := hO4.keep hset fun k hk e => by have e : k = b := e; have hk : Wb.heap.size ≤ k := hk; omega
    exact this.mono fun k hk hl => .inr ⟨by have hk : Wb.heap.size ≤ k := hk; show w.heap.size ≤ k; omega, hl⟩
  · exact (h9.keep hfin fun k hk e => by cases e; exact h10 hk).mono fun k hk _ => .inl hk
  · intro h
    rcases h with h | h
    · exact h10 h
    · have := h.1; omega

set_option maxRecDepth 100000 in
set_option maxHeartbeats 4000000 in
theorem rpost_yes {w : World} {G J : Blk} {b off : Nat} {T : TypeId} {c : List Value} {P : Pr} {sl : List Int} {v : Vb} {s : Value} {lines slot : Int} (h : RPairR w G b off T c P sl) (hok : P.Ok) (hv : VWords w J v s) (hwl : v.words.length ≤ 1024) (hE : postE P v lines = 0) :
    Calls Try.prog 149 #[.pointer (some ⟨b, off, none⟩), .agg (vbC v s), .int .i64 lines, .int .i64 slot] w (RPostYes w G b off T c P sl v slot) := by
  have hval : validE v 5 lines = 0 ∧ v.node = P.node ∧ P.verbs.length < 1024 := by
    unfold postE at hE
    by_cases h1 : validE v 5 lines = 0
    · rw [if_neg (by simp [h1])] at hE
      by_cases h2 : v.node = P.node
      · rw [if_neg (by simp [h2])] at hE
        by_cases h3 : 1024 ≤ P.verbs.length
        · rw [if_pos h3] at hE; omega
        · exact ⟨h1, h2, by omega⟩
      · rw [if_pos h2] at hE; omega
    · rw [if_pos h1] at hE; exact absurd hE h1
  obtain ⟨hv0, hnode, hlen⟩ := hval
  obtain ⟨A, cap, rfl, hc1, hA, hV⟩ := hv
  have HVV : Hid (∀ w', Upd Non w w' → View w' J 1 A v.words.length (u64s v.words)) := Lib.hid fun w' hu => hV.keep hu (fun _ _ h => h)
  have HVAL := Lib.hid (fun w => refvalid_calls v A cap 5 lines w)
  have HA := Lib.hid hA
  obtain ⟨sv, sw, l, h0, h1, h2, h3, h4, h5, h6, h7, h8, h9, h10, h11⟩ := h.norm hok
  obtain ⟨Av, cv, rfl, hAv, hQv⟩ := h8.shape
  have hll : l.length = P.verbs.length := by rw [← h5]; simp
  have HK : Hid (∀ w', Upd Non w w' → w'.cell? ⟨b, off + 2, none⟩ = some (.int .i64 P.node) ∧ w'.cell? ⟨b, off + 3, none⟩ = some (.slice Av l.length cv) ∧ w'.frozen? ⟨b, off + 3, none⟩ = false) := Lib.hid fun w' hu =>
    ⟨(hu.rowN h0).cell _ h3, (hu.rowN h0).cell _ h4, (hu.rowN h0).frozen _⟩
  have HQ : Hid (∀ w', Upd Non w w' → View w' G 12 Av l.length (qC P.ex sw l)) := Lib.hid fun w' hu => hQv.keep hu (fun _ _ h => h)
  have HQ1 : Hid (∀ u ∈ qC P.ex sw l, u.oneCell' = true) := Lib.hid (qC_one h7 h9)
  have HAV := Lib.hid hAv
  have HARM : Hid (∀ Wb w4 v' A1 cap1, Upd Non w Wb → Own Wb (Past w) 36 1 (.slice A1 v.words.length cap1) v.words.length (u64s v.words) → Own w4 (Past Wb) 189 12 v' (l.length + 1) (qC P.ex sw l ++ pdC v (.slice A1 v.words.length cap1) 0 (.slice none 0 0) slot) → Upd Non Wb w4 →
    ∃ A4 c4, v' = .slice A4 (l.length + 1) c4 ∧ w4.cell? ⟨b, off + 3, none⟩ = some (.slice Av l.length cv) ∧ w4.frozen? ⟨b, off + 3, none⟩ = false ∧ Hid (RPostYes w G b off T c P sl v slot (.returned (.int .i64 0)) (w4.setCell ⟨b, off + 3, none⟩ (.slice A4 (l.length + 1) c4)))) := Lib.hid fun Wb w4 v' A1 cap1 a1 a2 a3 a4 =>
    rpost_arm h0 h1 h2 h3 h4 h5 h6 h7 h9 h10 h11 a1 a2 a3 a4
  have hl1 : l.length < 1024 := by omega
  have HPOST : Hid (∀ W, RPostYes w G b off T c P sl v slot (.returned (.int .i64 0)) W → RPostYes w G b off T c P sl v slot (.returned (.int .i64 0)) W) := Lib.hid fun _ h => h
  clear HPOST
  unfold pdC vbC at HARM
  unfold vbC
  unfold vbC at HVAL
  rw [hv0] at HVAL
  obtain ⟨kind, node, at_, n, old, new_, words, key, boot⟩ := v
  obtain ⟨client, inc, pnode, verbs, ex, pw⟩ := P
  dsimp only at *
  subst hnode
  have HROW : Hid (Row (w.alloc (.cells #[.int .i64 kind, .int .i64 node, .int .i64 at_, .int .i64 n, .int .u64 old, .int .u64 new_, .slice A words.length cap, .int .u64 key, .int .i64 boot] 62)) w.heap.size 62 [.int .i64 kind, .int .i64 node, .int .i64 at_, .int .i64 n, .int .u64 old, .int .u64 new_, .slice A words.length cap, .int .u64 key, .int .i64 boot]) := Lib.hid (Row.new w _ _)
  have HU1 : Hid (Upd Non w (w.alloc (.cells #[.int .i64 kind, .int .i64 node, .int .i64 at_, .int .i64 n, .int .u64 old, .int .u64 new_, .slice A words.length cap, .int .u64 key, .int .i64 boot] 62))) := (Upd.refl _ _).alloc _
  clear h hok hA hV hv0 hE h0 h1 h2 h3 h4 h5 h6 h7 h8 h9 h10 h11 hAv hQv hll hlen
  generalize qC ex sw l = qs at *
  go_enter Try.func149, Try.ntmps149
  go_wp2_with fail
  refine (HVAL.out _).mono ?_
  rintro e w2 ⟨rfl, hu2⟩
  have hU2 := HU1.out.tr hu2
  have HR2 := Lib.hid (hu2.rowN HROW.out)
  obtain ⟨d0, d1, d2, d3, d4, d5, d6, d7, d8⟩ := vb_cells HR2.out
  obtain ⟨q2, q3, z3⟩ := HK.out _ hU2
  have HU2 := Lib.hid hU2
  clear hu2 hU2 HROW HVAL
  go_wp2_with fail
  go_quiet (fail)
  have HU3 := Lib.hid (HU2.out.drewN nq)
  have HR3 := Lib.hid (HR2.out.drewN nq)
  have hlenI : (l.length : Int) < 1024 := by omega
  clear HU2 HR2 d0 d1 d2 d3 d4 d5 d6 d7 d8 q2 q3 z3
  generalize w2.drewN nq = W2 at *
  obtain ⟨d0, d1, d2, d3, d4, d5, d6, d7, d8⟩ := vb_cells HR3.out
  have f6 := HR3.out.frozen 6
  obtain ⟨q2, q3, z3⟩ := HK.out _ HU3.out
  go_upto_region 9 with (first
    | (at_builtin; refine wpList_app (F := Non) J rfl (.const (.slice none 0 0)) (.tmp 30) 33 36 rfl (.int .u64 0) 1 8 Try.underlying33 info_u64 rfl (by decide) (.slice none 0 0) 0 [] rfl (Own.nil _ _ _ _) A words.length cap (u64s words) rfl HA.out (HVV.out _ HU3.out) (wf_u64s _) (by omega) (by decide) ?_; intro v1 w3 hown hupd hnil hblk; simp only [Nat.zero_add, List.nil_append] at hown; obtain ⟨A1, cap1, rfl, _, _⟩ := hown.shape; have hu3 := hupd.mono (N := Non) (fun k _ e => by simp [Value.ownBlock] at e); have HR4 := Lib.hid (hu3.rowN HR3.out); obtain ⟨d0, d1, d2, d3, d4, d5, d6, d7, d8⟩ := vb_cells HR4.out; have f6 := HR4.out.frozen 6; have HO1 := Lib.hid hown; have HU4 := Lib.hid hu3; clear hown hupd hnil hblk hu3))
  have hU5 : Upd Non w (w3.setCell ⟨w.heap.size, 6, none⟩ (.slice A1 words.length cap1)) := (HU3.out.tr HU4.out).setCell (p := ⟨w.heap.size, 6, none⟩) (.inr (Nat.le_refl _)) _
  have hR5 : Row (w3.setCell ⟨w.heap.size, 6, none⟩ (.slice A1 words.length cap1)) w.heap.size 62 [.int .i64 kind, .int .i64 node, .int .i64 at_, .int .i64 n, .int .u64 old, .int .u64 new_, .slice A1 words.length cap1, .int .u64 key, .int .i64 boot] := HR4.out.set 6 _
  have hO5 : Own (w3.setCell ⟨w.heap.size, 6, none⟩ (.slice A1 words.length cap1)) (Past w) 36 1 (.slice A1 words.length cap1) words.length (u64s words) := by
    have := HO1.out.keepB (M := One w.heap.size) ((Upd.refl (One w.heap.size) w3).setCell (p := ⟨w.heap.size, 6, none⟩) (.inl rfl) (.slice A1 words.length cap1)) (fun k hk e => by cases e; exact HO1.out.notRow HR4.out (by decide) hk)
    exact this.mono fun k hk _ => hk.elim (fun h => h.elim) (fun h => by have h1 := h.1; have := HU3.out.size; show w.heap.size ≤ k; omega)
  have HU5 := Lib.hid hU5
  have HR5 := Lib.hid hR5
  have HO5 := Lib.hid hO5
  clear hU5 hR5 hO5 HR4 HO1 HU4 HR3 d0 d1 d2 d3 d4 d5 d6 d7 d8 f6 q2 q3 z3
  generalize w3.setCell ⟨w.heap.size, 6, none⟩ (.slice A1 words.length cap1) = Wb at *
  obtain ⟨d0, d1, d2, d3, d4, d5, d6, d7, d8⟩ := vb_cells HR5.out
  obtain ⟨q2, q3, z3⟩ := HK.out _ HU5.out
  obtain ⟨e0, e1, e2, e3, e4, e5, e6, e7, e8⟩ := vb_cells (HR5.out.alloc (.cells #[.int .i64 kind, .int .i64 node, .int .i64 at_, .int .i64 n, .int .u64 old, .int .u64 new_, .slice A1 words.length cap1, .int .u64 key, .int .i64 boot, .int .i64 0, .slice none 0 0, .int .i64 slot] 189))
  have q3a := (HK.out _ (HU5.out.alloc (.cells #[.int .i64 kind, .int .i64 node, .int .i64 at_, .int .i64 n, .int .u64 old, .int .u64 new_, .slice A1 words.length cap1, .int .u64 key, .int .i64 boot, .int .i64 0, .slice none 0 0, .int .i64 slot] 189))).2.1
  go_region_law (first
    | (refine step_app (F := Past Wb) G rfl (.const (.slice none 0 0)) (.tmp 37) 132 189 rfl _ 12 128 Try.underlying132 info_pend rfl (by decide) (.slice none 0 0) 0 [] rfl (Own.nil _ _ _ _) Av l.length cv qs rfl HAV.out (HQ.out _ (HU5.out.tr (Upd.refl Non Wb).drew)) HQ1.out (by omega) (by decide) ?_; intro v1 wa hown hupd hnil hblk; simp only [Nat.zero_add, List.nil_append] at hown; obtain ⟨Aq, cq, rfl, _, _⟩ := hown.shape; obtain ⟨hO, hU⟩ := app_past (w := Wb) (Upd.refl Non Wb).drew (by simp [Value.ownBlock]) hown hupd; obtain ⟨d0, d1, d2, d3, d4, d5, d6, d7, d8⟩ := vb_cells (hU.rowN HR5.out); have HOa := Lib.hid hO; have HUa := Lib.hid hU; clear hown hupd hnil hblk hO hU)
    | (refine step_app (F := Past Wb) G rfl (.const (.slice none 0 0)) (.tmp 37) 132 189 rfl _ 12 128 Try.underlying132 info_pend rfl (by decide) (.slice none 0 0) 0 [] rfl (Own.nil _ _ _ _) Av l.length cv qs rfl HAV.out (HQ.out _ (HU5.out.tr (((Upd.refl Non Wb).drew).alloc (.cells #[.int .i64 kind, .int .i64 node, .int .i64 at_, .int .i64 n, .int .u64 old, .int .u64 new_, .slice A1 words.length cap1, .int .u64 key, .int .i64 boot, .int .i64 0, .slice none 0 0, .int .i64 slot] 189)))) HQ1.out (by omega) (by decide) ?_; intro v1 wa hown hupd hnil hblk; simp only [Nat.zero_add, List.nil_append] at hown; obtain ⟨Aq, cq, rfl, _, _⟩ := hown.shape; obtain ⟨hO, hU⟩ := app_past (w := Wb) (((Upd.refl Non Wb).drew).alloc (.cells #[.int .i64 kind, .int .i64 node, .int .i64 at_, .int .i64 n, .int .u64 old, .int .u64 new_, .slice A1 words.length cap1, .int .u64 key, .int .i64 boot, .int .i64 0, .slice none 0 0, .int .i64 slot] 189)) (by simp [Value.ownBlock]) hown hupd; obtain ⟨d0, d1, d2, d3, d4, d5, d6, d7, d8⟩ := vb_cells (hU.rowN HR5.out); have HOa := Lib.hid hO; have HUa := Lib.hid hU; have HVa := Lib.hid ((view_new2 Wb.drew #[.int .i64 kind, .int .i64 node, .int .i64 at_, .int .i64 n, .int .u64 old, .int .u64 new_, .slice A1 words.length cap1, .int .u64 key, .int .i64 boot, .int .i64 0, .slice none 0 0, .int .i64 slot] 189 12 1 rfl).bound.keep hupd (fun k hk e => by simp [Value.ownBlock] at e)); clear hown hupd hnil hblk hO hU)
    | (refine step_app (F := Past Wb) _ rfl (.tmp 38) (.tmp 42) 132 189 rfl _ 12 128 Try.underlying132 info_pend rfl (by decide) (.slice Aq l.length cq) l.length qs rfl HOa.out (some ⟨Wb.heap.size, 0, none⟩) 1 1 [.int .i64 kind, .int .i64 node, .int .i64 at_, .int .i64 n, .int .u64 old, .int .u64 new_, .slice A1 words.length cap1, .int .u64 key, .int .i64 boot, .int .i64 0, .slice none 0 0, .int .i64 slot] rfl (by simp) HVa.out (by simp [Value.oneCell']) (by omega) (by decide) ?_; intro v' w4 hown hupd hnil hblk; obtain ⟨hO4, hU4⟩ := app_past HUa.out (fun k hk => (HOa.out.block hk).1) hown hupd; obtain ⟨A4, c4, rfl, x3, z3, HFIN⟩ := HARM.out Wb w4 _ A1 cap1 HU5.out HO5.out hO4 hU4; clear hown hupd hnil hblk hO4 hU4)
    | (refine step_app (F := Past Wb) _ rfl (.tmp 38) (.tmp 42) 132 189 rfl _ 12 128 Try.underlying132 info_pend rfl (by decide) (.slice Aq l.length cq) l.length qs rfl (HOa.out.keep (M := Non) ((Upd.refl Non wa).alloc (.cells #[.int .i64 kind, .int .i64 node, .int .i64 at_, .int .i64 n, .int .u64 old, .int .u64 new_, .slice A1 words.length cap1, .int .u64 key, .int .i64 boot, .int .i64 0, .slice none 0 0, .int .i64 slot] 189)) (fun _ _ h => h)) (some ⟨wa.heap.size, 0, none⟩) 1 1 [.int .i64 kind, .int .i64 node, .int .i64 at_, .int .i64 n, .int .u64 old, .int .u64 new_, .slice A1 words.length cap1, .int .u64 key, .int .i64 boot, .int .i64 0, .slice none 0 0, .int .i64 slot] rfl (by simp) (view_new2 wa #[.int .i64 kind, .int .i64 node, .int .i64 at_, .int .i64 n, .int .u64 old, .int .u64 new_, .slice A1 words.length cap1, .int .u64 key, .int .i64 boot, .int .i64 0, .slice none 0 0, .int .i64 slot] 189 12 1 rfl) (by simp [Value.oneCell']) (by omega) (by decide) ?_; intro v' w4 hown hupd hnil hblk; obtain ⟨hO4, hU4⟩ := app_past (HUa.out.alloc (.cells #[.int .i64 kind, .int .i64 node, .int .i64 at_, .int .i64 n, .int .u64 old, .int .u64 new_, .slice A1 words.length cap1, .int .u64 key, .int .i64 boot, .int .i64 0, .slice none 0 0, .int .i64 slot] 189)) (fun k hk => (HOa.out.block hk).1) hown hupd; obtain ⟨A4, c4, rfl, x3, z3, HFIN⟩ := HARM.out Wb w4 _ A1 cap1 HU5.out HO5.out hO4 hU4; clear hown hupd hnil hblk hO4 hU4))
  all_goals go_wp2_with fail
  all_goals go_ret
  all_goals exact HFIN.out
end Go.Proofs.Ytlhbikiggmdolaa
