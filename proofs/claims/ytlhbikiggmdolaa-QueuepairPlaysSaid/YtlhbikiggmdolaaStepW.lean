/- Queue pairs of the program: Step. -/
import Derived.Test.YtlhbikiggmdolaaStepV
namespace Go.Proofs.Ytlhbikiggmdolaa
open Go.RowKit

def StepPost (w : World) (M I F : Blk) (p q : Nat) (P : Pr) (ws : List Int) (up : Bool) (e : Ending) (w' : World) : Prop :=
  ∃ (R M' : Blk) (s : Value), e = .returned (.tuple #[.agg #[.int .i64 (stepV P ws up).code, s], .bool (stepV P ws up).is]) ∧ PairR w' M' I p (stepV P ws up).pair ∧ NodeR w' F q (stepV P ws up).ws up ∧
    Own w' R 36 1 s (stepV P ws up).done.length (u64s (stepV P ws up).done) ∧ (∀ k, M' k → M k ∨ New w w' k) ∧ (∀ k, R k → (M k ∨ New w w' k) ∧ ¬ M' k) ∧ Upd (Or2 M F) w w'

theorem PairR.head {w : World} {M I : Blk} {p : Nat} {P : Pr} {v : Vb} {l : List Vb} (h : PairR w M I p P) (hv : P.verbs = v :: l) :
    ∃ g cv s Aw cw, Row w p 178 [.int .i64 P.client, .int .i64 P.inc, .int .i64 P.node, .slice (some ⟨g, 0, none⟩) (l.length + 1) cv, .int .i64 P.ex, .slice Aw P.words.length cw] ∧ VWords w I v s ∧
      (∀ i x, (vbC v s)[i]? = some x → w.cell? ⟨g, i, none⟩ = some x) := by
  obtain ⟨sv, sw, l2, hp, h2, h3, h4, h5, h6⟩ := h
  rw [hv] at h2
  obtain ⟨x, l2, rfl⟩ : ∃ x l', l2 = x :: l' := by
    cases l2 with
    | nil => cases h2
    | cons x l => exact ⟨x, l, rfl⟩
  simp only [List.map_cons, List.cons.injEq] at h2
  obtain ⟨rfl, rfl⟩ := h2
  obtain ⟨Aw, cw, rfl, _, _⟩ := h5.shape
  rcases h4.2 with ⟨_, h0⟩ | ⟨g, c, sp, rfl, hg, hr, _, h7, _⟩
  · simp at h0
  · refine ⟨g, c, x.2, Aw, cw, by simpa using hp, h3 x (by simp), fun i y hy => ?_⟩
    refine hr.cell i ?_
    rw [vsC_cons, List.append_assoc]
    have : (vbC x.1 x.2).toList[i]? = some y := by simpa using hy
    rw [List.getElem?_append_left (List.getElem?_eq_some_iff.1 this).1]
    exact this

set_option maxRecDepth 100000 in
set_option maxHeartbeats 4000000 in
theorem step_idle {w : World} {M I F : Blk} {p q : Nat} {P : Pr} {ws : List Int} {up : Bool} (h : PairR w M I p P) (hn : NodeR w F q ws up) (hv : P.verbs = []) :
    Calls Try.prog 91 #[.pointer (some ⟨p, 0, none⟩), .pointer (some ⟨q, 0, none⟩)] w (StepPost w M I F p q P ws up) := by
  have hu : Upd Non w (w.alloc (.cells #[.int .i64 0, .slice none 0 0] 69)) := (Upd.refl _ _).alloc _
  have h1 := h.keep hu (fun _ _ h => h) (fun _ _ h => h)
  have hn1 := hn.keep hu (fun _ _ h => h)
  obtain ⟨Av, cv, Aw, cw, c0, c1, c2, c3, c4, c5⟩ := h1.cells
  have HP := Lib.hid h1
  have HN := Lib.hid hn1
  have HU := Lib.hid hu
  have HS := Lib.hid (stepV_nil hv ws up)
  rw [hv, List.length_nil] at c3
  clear h hn hv h1 hn1 hu
  go_enter Try.func91, Try.ntmps91
  go_wp2_with fail
  refine bodyPost_ret (v := .tuple #[.agg #[.int .i64 0, .slice none 0 0], .bool false]) (by simp [results, Try.results91, go_sem]) rfl ?_
  unfold StepPost
  rw [HS.out]
  exact ⟨Non, M, _, rfl, HP.out, HN.out, Own.nil _ _ _ _, fun _ h => .inl h, fun _ h => h.elim, HU.out.of_non⟩

theorem done_cells {w : World} {b : Nat} {x y : Value} (h : Row w b 69 [x, y]) : w.cell? ⟨b, 0, none⟩ = some x ∧ w.cell? ⟨b, 1, none⟩ = some y ∧ w.frozen? ⟨b, 0, none⟩ = false ∧ w.frozen? ⟨b, 1, none⟩ = false := ⟨h.cell 0 rfl, h.cell 1 rfl, h.frozen 0, h.frozen 1⟩

theorem refuse_fin {w w2 w3 : World} {M I F : Blk} {p q : Nat} {P : Pr} {ws : List Int} {up : Bool} {re : Int} (hp : PairR w3 (fun k => k = p ∨ New w2 w3 k) (fun k => I k ∧ k < w.heap.size) p P) (hu2 : Upd Non w w2) (hu3 : Upd (One p) w w3) (hpl : p < w.heap.size) (hM : M p)
    (hn : NodeR w (fun k => F k ∧ k < w.heap.size) q ws up) (hMF : ∀ k, M k → ¬ F k) (h2 : w.heap.size < w2.heap.size) :
    ∃ (R M' : Blk) (s : Value), Ending.returned (.tuple #[.agg #[.int .i64 re, .slice none 0 0], .bool true]) = .returned (.tuple #[.agg #[.int .i64 re, s], .bool true]) ∧ PairR ((w3.setCell ⟨w.heap.size, 0, none⟩ (.int .i64 re)).setCell ⟨w.heap.size, 1, none⟩ (.slice none 0 0)) M' I p P ∧ NodeR ((w3.setCell ⟨w.heap.size, 0, none⟩ (.int .i64 re)).setCell ⟨w.heap.size, 1, none⟩ (.slice none 0 0)) F q ws up ∧
    Own ((w3.setCell ⟨w.heap.size, 0, none⟩ (.int .i64 re)).setCell ⟨w.heap.size, 1, none⟩ (.slice none 0 0)) R 36 1 s 0 [] ∧ (∀ k, M' k → M k ∨ New w ((w3.setCell ⟨w.heap.size, 0, none⟩ (.int .i64 re)).setCell ⟨w.heap.size, 1, none⟩ (.slice none 0 0)) k) ∧ (∀ k, R k → (M k ∨ New w ((w3.setCell ⟨w.heap.size, 0, none⟩ (.int .i64 re)).setCell ⟨w.heap.size, 1, none⟩ (.slice none 0 0)) k) ∧ ¬ M' k) ∧ Upd (Or2 M F) w ((w3.setCell ⟨w.heap.size, 0, none⟩ (.int .i64 re)).setCell ⟨w.heap.size, 1, none⟩ (.slice none 0 0)) := by
  have hs : Upd (One w.heap.size) w3 ((w3.setCell ⟨w.heap.size, 0, none⟩ (.int .i64 re)).setCell ⟨w.heap.size, 1, none⟩ (.slice none 0 0)) := ((Upd.refl (One w.heap.size) w3).setCell (p := ⟨w.heap.size, 0, none⟩) (.inl rfl) _).setCell (p := ⟨w.heap.size, 1, none⟩) (.inl rfl) _
  generalize (w3.setCell ⟨w.heap.size, 0, none⟩ (.int .i64 re)).setCell ⟨w.heap.size, 1, none⟩ (.slice none 0 0) = W at *
  have s1 := hu2.size
  have s3 := hs.size
  refine ⟨Non, fun k => k = p ∨ New w2 w3 k, _, rfl, ?_, ?_, Own.nil _ _ _ _, ?_, fun _ h => h.elim, ?_⟩
  · exact (hp.keep hs (fun k hk e => hk.elim (fun h => by have e : k = w.heap.size := e; omega) (fun h => by have := h.1; have e : k = w.heap.size := e; omega)) (fun k hk e => by have := hk.2; have e : k = w.heap.size := e; omega)).mono (fun _ h _ => h) (fun _ h _ => h.1)
  · exact ((hn.keep hu3 (fun k hk e => by cases e; exact hMF _ hM hk.1)).keep hs (fun k hk e => by have := hk.2; have e : k = w.heap.size := e; omega)).mono fun _ h _ => h.1
  · intro k hk
    rcases hk with rfl | hk
    · exact .inl hM
    · exact .inr ⟨by have := hk.1; omega, by have := hk.2; omega⟩
  · exact (hu3.trans hs fun k hk e => by have e : k = w.heap.size := e; omega).mono fun k _ e => by cases e; exact .inl hM

set_option maxRecDepth 100000 in
set_option maxHeartbeats 4000000 in
theorem step_refuse {w : World} {M I F : Blk} {p q : Nat} {P : Pr} {ws : List Int} {up : Bool} {v : Vb} {l : List Vb} (h : PairR w M I p P) (hn : NodeR w F q ws up) (hd : ∀ k, I k → ¬ M k) (hMF : ∀ k, M k → ¬ F k) (hok : P.Ok) (hv : P.verbs = v :: l) (hr : refE P v ws up ≠ 0) :
    Calls Try.prog 91 #[.pointer (some ⟨p, 0, none⟩), .pointer (some ⟨q, 0, none⟩)] w (StepPost w M I F p q P ws up) := by
  have hu : Upd Non w (w.alloc (.cells #[.int .i64 0, .slice none 0 0] 69)) := (Upd.refl _ _).alloc _
  have HP : Hid (∀ W, Upd Non w W → PairR W M I p P) := Lib.hid fun W hu => h.keep hu (fun _ _ h => h) (fun _ _ h => h)
  have HN : Hid (∀ W, Upd Non w W → NodeR W F q ws up) := Lib.hid fun W hu => hn.keep hu (fun _ _ h => h)
  have HS := Lib.hid (stepV_ref hv hr)
  have hb : v.boot < 9223372036854775808 := (hok.good v (by rw [hv]; simp)).boot
  have hpM : M p := by obtain ⟨_, _, _, _, _, _, _, _, h⟩ := h; exact h
  have hpl : p < w.heap.size := by obtain ⟨_, _, _, hr, _⟩ := h; exact hr.lt
  obtain ⟨g, cv, s, Aw, cw, hp, hvw, hc⟩ := (HP.out _ hu).head hv
  obtain ⟨A, cap, rfl, _, _, _⟩ := id hvw
  have HVW : Hid (∀ W, Upd Non (w.alloc (.cells #[.int .i64 0, .slice none 0 0] 69)) W → VWords W I v (.slice A v.words.length cap)) := Lib.hid fun W hu => hvw.keep hu (fun _ _ h => h)
  have HREF : Hid (∀ W, Upd Non w W → Upd Non (w.alloc (.cells #[.int .i64 0, .slice none 0 0] 69)) W → Calls Try.prog 145 #[.pointer (some ⟨p, 0, none⟩), .agg (vbC v (.slice A v.words.length cap)), .pointer (some ⟨q, 0, none⟩)] W fun e w' => e = .returned (.int .i64 (refE P v ws up)) ∧ Upd Non W w') := Lib.hid fun W hu hu0 =>
    refusal_calls (HP.out W hu) (HVW.out W hu0) (HN.out W hu) hok.c0 (by have := hok.c1; omega) (by have := hok.i1; omega) hb
  have HCO : Hid (∀ W, Upd Non w W → Calls Try.prog 146 #[.pointer (some ⟨p, 0, none⟩)] W fun e w' => e = .returned (.tuple #[]) ∧ PairR w' (fun k => k = p ∨ New W w' k) (fun k => I k ∧ k < w.heap.size) p P.rest ∧ Upd (One p) W w') := Lib.hid fun W hu =>
    complete_calls ((h.mono (fun _ h _ => h) (fun k hk hl => ⟨hk, hl⟩)).keep hu (fun _ _ h => h) (fun _ _ h => h)) (fun k hk => hd k hk.1) (by rw [hv]; simp) hok.len
  have c3 := hp.cell 3 rfl
  have k0 := hc 0 (.int .i64 v.kind) rfl
  have k1 := hc 1 (.int .i64 v.node) rfl
  have k2 := hc 2 (.int .i64 v.at_) rfl
  have k3 := hc 3 (.int .i64 v.n) rfl
  have k4 := hc 4 (.int .u64 v.old) rfl
  have k5 := hc 5 (.int .u64 v.new_) rfl
  have k6 := hc 6 (.slice A v.words.length cap) rfl
  have k7 := hc 7 (.int .u64 v.key) rfl
  have k8 := hc 8 (.int .i64 v.boot) rfl
  have HU1 : Hid (Upd Non w ((w.alloc (.cells #[.int .i64 0, .slice none 0 0] 69)).alloc (.cells #[.int .i64 v.kind, .int .i64 v.node, .int .i64 v.at_, .int .i64 v.n, .int .u64 v.old, .int .u64 v.new_, .slice A v.words.length cap, .int .u64 v.key, .int .i64 v.boot] 62))) := Lib.hid (((Upd.refl _ _).alloc _).alloc _)
  have HD1 : Hid (Row ((w.alloc (.cells #[.int .i64 0, .slice none 0 0] 69)).alloc (.cells #[.int .i64 v.kind, .int .i64 v.node, .int .i64 v.at_, .int .i64 v.n, .int .u64 v.old, .int .u64 v.new_, .slice A v.words.length cap, .int .u64 v.key, .int .i64 v.boot] 62)) w.heap.size 69 [.int .i64 0, .slice none 0 0]) := Lib.hid ((Row.new _ _ _).alloc _)
  have HPM := Lib.hid hpM
  have HMF := Lib.hid hMF
  have HNB := Lib.hid (hn.mono (F' := fun k => F k ∧ k < w.heap.size) fun k hk hl => ⟨hk, hl⟩)
  have HPL := Lib.hid hpl
  have hne : (refE P v ws up == 0) = false := by simpa using hr
  have hne' : (refE P v ws up != 0) = true := by simpa using hr
  unfold vbC at HREF
  generalize refE P v ws up = re at *
  clear h hn hu hp hc hvw hpM hpl hd hMF hok hv hb hr
  go_enter Try.func91, Try.ntmps91
  go_wp2_with fail
  refine (HREF.out _ HU1.out ((Upd.refl _ _).alloc _)).mono ?_
  rintro e w2 ⟨rfl, hu2⟩
  have HU2 := Lib.hid (HU1.out.tr hu2)
  have HD2 := Lib.hid (hu2.rowN HD1.out)
  clear hu2 HU1 HD1
  go_wp2_with fail
  refine (HCO.out _ HU2.out).mono ?_
  rintro e w3 ⟨rfl, hp3, hu3⟩
  have hd3 := hu3.row HD2.out (fun e => by have : w.heap.size = p := e; have := HPL.out; omega)
  have HU3 := Lib.hid (HU2.out.of_non.trans hu3 fun _ _ h => h)
  obtain ⟨d0, d1, f0, f1⟩ := done_cells hd3
  have HD3 := Lib.hid hd3
  have HP3 := Lib.hid hp3
  clear hd3 hp3 hu3
  go_wp2_with fail
  refine bodyPost_ret (v := .tuple #[.agg #[.int .i64 re, .slice none 0 0], .bool true]) (by simp [results, Try.results91, go_sem, d0, d1]) rfl ?_
  unfold StepPost
  rw [HS.out]
  exact refuse_fin HP3.out HU2.out HU3.out HPL.out HPM.out HNB.out HMF.out (by have := HD2.out.lt; omega)
/-- A pair whose words lie at sw. -/
def PairE (w : World) (M I : Blk) (p : Nat) (P : Pr) (sw : Value) : Prop :=
  ∃ (sv : Value) (l : List (Vb × Value)), Row w p 178 [.int .i64 P.client, .int .i64 P.inc, .int .i64 P.node, sv, .int .i64 P.ex, sw] ∧ l.map Prod.fst = P.verbs ∧ (∀ x ∈ l, VWords w I x.1 x.2) ∧
    Own w M 62 9 sv l.length (vsC l) ∧ Own w M 36 1 sw P.words.length (u64s P.words) ∧ M p
theorem PairE.pair {w : World} {M I : Blk} {p : Nat} {P : Pr} {sw : Value} (h : PairE w M I p P sw) : PairR w M I p P := by
  obtain ⟨sv, l, h⟩ := h; exact ⟨sv, sw, l, h⟩
theorem PairR.exp {w : World} {M I : Blk} {p : Nat} {P : Pr} (h : PairR w M I p P) : ∃ sw, PairE w M I p P sw := by
  obtain ⟨sv, sw, l, h⟩ := h; exact ⟨sw, sv, l, h⟩
theorem PairE.keep {N M I : Blk} {w w' : World} {p : Nat} {P : Pr} {sw : Value} (h : PairE w M I p P sw) (hu : Upd N w w') (hM : ∀ k, M k → ¬ N k) (hI : ∀ k, I k → ¬ N k) : PairE w' M I p P sw := by
  obtain ⟨sv, l, h1, h2, h3, h4, h5, h6⟩ := h
  exact ⟨sv, l, hu.row h1 (hM _ h6), h2, fun x hx => (h3 x hx).keep hu hI, h4.keep hu hM, h5.keep hu hM, h6⟩
theorem PairE.mono {M M' I I' : Blk} {w : World} {p : Nat} {P : Pr} {sw : Value} (h : PairE w M I p P sw) (hM : ∀ k, M k → k < w.heap.size → M' k) (hI : ∀ k, I k → k < w.heap.size → I' k) : PairE w M' I' p P sw := by
  obtain ⟨sv, l, h1, h2, h3, h4, h5, h6⟩ := h
  exact ⟨sv, l, h1, h2, fun x hx => (h3 x hx).mono hI, h4.mono hM, h5.mono hM, hM _ h6 h1.lt⟩
/-- Between the pieces: words read, not yet counted. -/
def Mid (w : World) (M I F : Blk) (p q : Nat) (P : Pr) (ws : List Int) (W : World) : Prop :=
  ∃ Aw cw, PairE W (fun k => M k ∨ New w W k ∧ k ≠ w.heap.size) I p P (.slice Aw P.words.length cw) ∧ NodeR W F q ws true ∧ Row W w.heap.size 69 [.int .i64 0, .slice none 0 0] ∧ Upd (Or2 M F) w W ∧ M p

theorem step_arm {w w3 w4 w5 : World} {M I F : Blk} {p q n m cw : Nat} {P : Pr} {ws' xs : List Int} {Aw : Option Addr} {v' : Value} (hMb : ∀ k, M k → k < w.heap.size) (hFb : ∀ k, F k → k < w.heap.size)
    (hd : ∀ k, I k → ¬ M k) (hMF : ∀ k, M k → ¬ F k) (hIF : ∀ k, I k → ¬ F k) (hu3 : Upd Non w w3) (hl3 : w.heap.size < w3.heap.size) (hp : PairE w3 M I p P (.slice Aw n cw)) (hD : Row w3 w.heap.size 69 [.int .i64 0, .slice none 0 0])
    (hu4 : Upd F w3 w4) (hn4 : NodeR w4 F q ws' true) (hm : xs.length = m) (hown : Own w5 (fun k => M k ∨ New w4 w5 k) 36 1 v' (n + m) (u64s P.words ++ u64s xs)) (hupd : Upd (fun k => (Value.slice Aw n cw).ownBlock = some k) w4 w5) (hn : P.words.length = n) :
    ∃ A5 c5, v' = .slice A5 (n + m) c5 ∧ w5.cell? ⟨p, 5, none⟩ = some (.slice Aw n cw) ∧ w5.frozen? ⟨p, 5, none⟩ = false ∧
      Hid (Mid w M I F p q { P with words := P.words ++ xs } ws' (w5.setCell ⟨p, 5, none⟩ (.slice A5 (n + m) c5))) := by
  subst hn
  subst hm
  obtain ⟨A5, c5, rfl, _, _⟩ := hown.shape
  have hp4 := hp.keep hu4 hMF hIF
  obtain ⟨sv, l, h1, h2, h3, h4, h5, h6⟩ := hp4
  have hob : ∀ k, (Value.slice Aw P.words.length cw).ownBlock = some k → M k ∧ k < w4.heap.size := fun k hk => h5.block hk
  have r1 := hupd.row h1 (h5.notRow h1 (by decide))
  have r2 := hupd.row (hu4.row hD (fun e => by have := hFb _ e; omega)) (fun e => by have := hMb _ (hob _ e).1; omega)
  have hset : Upd (One p) w5 (w5.setCell ⟨p, 5, none⟩ (.slice A5 (P.words.length + xs.length) c5)) := (Upd.refl (One p) w5).setCell (p := ⟨p, 5, none⟩) (.inl rfl) _
  have hpl : p < w.heap.size := hMb _ h6
  have s3 := hu3.size
  have s4 := hu4.size
  have s5 := hupd.size
  have sz : (w5.setCell ⟨p, 5, none⟩ (.slice A5 (P.words.length + xs.length) c5)).heap.size = w5.heap.size := by simp [World.setCell]
  have hNew : ∀ k, (M k ∨ New w4 w5 k) → k < (w5.setCell ⟨p, 5, none⟩ (.slice A5 (P.words.length + xs.length) c5)).heap.size → M k ∨ New w (w5.setCell ⟨p, 5, none⟩ (.slice A5 (P.words.length + xs.length) c5)) k ∧ k ≠ w.heap.size := fun k hk hl =>
    hk.imp id fun h => ⟨⟨by have := h.1; omega, hl⟩, by have := h.1; omega⟩
  refine ⟨A5, c5, rfl, r1.cell 5 rfl, r1.frozen 5, Lib.hid ⟨A5, c5, ⟨sv, l, ?_, h2, fun x hx => ?_, ?_, ?_, .inl h6⟩, ?_, ?_, ?_, h6⟩⟩
  · dsimp only; rw [List.length_append]; exact r1.set 5 _
  · exact ((h3 x hx).keep hupd fun k hk e => hd k hk (hob k e).1).keep hset fun k hk e => by cases e; exact hd _ hk h6
  · have := h4.keepB hupd (fun k hk e => h5.apart h4 (by decide) k e hk)
    have := this.keepB hset (fun k hk e => by cases e; exact this.notRow r1 (by decide) hk)
    exact this.mono fun k hk hl => .inl hk
  · dsimp only
    rw [List.length_append, u64s_append]
    have := hown.keepB hset (fun k hk e => by cases e; exact hown.notRow r1 (by decide) hk)
    exact this.mono hNew
  · exact (hn4.keep hupd fun k hk e => hMF k (hob k e).1 hk).keep hset fun k hk e => by cases e; exact hMF _ h6 hk
  · exact hset.row r2 (fun e => by have e : w.heap.size = p := e; omega)
  · have u1 : Upd (Or2 M F) w w4 := (hu3.of_non (N := Or2 M F)).trans hu4 fun _ _ h => .inr h
    have u2 : Upd (Or2 M F) w w5 := u1.trans hupd fun k _ e => .inl (hob k e).1
    exact u2.trans hset fun k _ e => by cases e; exact .inl h6
end Go.Proofs.Ytlhbikiggmdolaa
