/- Queue pairs of the program: a step that executes a piece. -/
import Derived.Test.YtlhbikiggmdolaaStepW
namespace Go.Proofs.Ytlhbikiggmdolaa
open Go.RowKit

theorem pcC_get {l : List (Nat × Nat)} {i a n : Nat} (h : l[i]? = some (a, n)) : (pcC l)[i * 2]? = some (.int .i64 a) ∧ (pcC l)[i * 2 + 1]? = some (.int .i64 n) := by
  induction l generalizing i with
  | nil => simp at h
  | cons x l ih =>
    have e : pcC (x :: l) = [.int .i64 x.1, .int .i64 x.2] ++ pcC l := rfl
    rw [e]
    cases i with
    | zero => simp at h; subst h; exact ⟨rfl, rfl⟩
    | succ i =>
      have := ih (i := i) (by simpa using h)
      rw [show (i + 1) * 2 = i * 2 + 2 by omega]
      exact this

theorem mid_set {w wc : World} {M I F : Blk} {p q : Nat} {P : Pr} {ws : List Int} {sw x y : Value} {ex : Nat} {exI : Int} (hxe : exI = ex) (hMb : ∀ k, M k → k < w.heap.size) (hIb : ∀ k, I k → k < w.heap.size) (hFb : ∀ k, F k → k < w.heap.size) (hd : ∀ k, I k → ¬ M k) (hMF : ∀ k, M k → ¬ F k)
    (hE : PairE wc (fun k => M k ∨ New w wc k ∧ k ≠ w.heap.size) I p P sw) (hn : NodeR wc F q ws true) (hD : Row wc w.heap.size 69 [.int .i64 0, .slice none 0 0]) (hu : Upd (Or2 M F) w wc) (hM : M p) :
    PairE (((wc.setCell ⟨p, 4, none⟩ (.int .i64 exI)).setCell ⟨w.heap.size, 0, none⟩ x).setCell ⟨w.heap.size, 1, none⟩ y) (fun k => M k ∨ New w (((wc.setCell ⟨p, 4, none⟩ (.int .i64 exI)).setCell ⟨w.heap.size, 0, none⟩ x).setCell ⟨w.heap.size, 1, none⟩ y) k ∧ k ≠ w.heap.size) I p { P with ex := ex } sw ∧
    NodeR (((wc.setCell ⟨p, 4, none⟩ (.int .i64 exI)).setCell ⟨w.heap.size, 0, none⟩ x).setCell ⟨w.heap.size, 1, none⟩ y) F q ws true ∧ Row (((wc.setCell ⟨p, 4, none⟩ (.int .i64 exI)).setCell ⟨w.heap.size, 0, none⟩ x).setCell ⟨w.heap.size, 1, none⟩ y) w.heap.size 69 [x, y] ∧
    Upd (Or2 M F) w (((wc.setCell ⟨p, 4, none⟩ (.int .i64 exI)).setCell ⟨w.heap.size, 0, none⟩ x).setCell ⟨w.heap.size, 1, none⟩ y) := by
  subst hxe
  have hpl := hMb _ hM
  have hne : w.heap.size ≠ p := by omega
  have s1 : Upd (One p) wc (wc.setCell ⟨p, 4, none⟩ (.int .i64 (ex : Int))) := (Upd.refl (One p) wc).setCell (p := ⟨p, 4, none⟩) (.inl rfl) _
  have hD1 := ((hD.setOther (b' := p) hne 4 (.int .i64 (ex : Int))).set 0 x).set 1 y
  obtain ⟨sv, l, h1, h2, h3, h4, h5, h6⟩ := hE
  have hE1 : PairE (wc.setCell ⟨p, 4, none⟩ (.int .i64 (ex : Int))) (fun k => M k ∨ New w wc k ∧ k ≠ w.heap.size) I p { P with ex := ex } sw :=
    ⟨sv, l, h1.set 4 _, h2, fun x hx => (h3 x hx).keep s1 (fun k hk e => by cases e; exact hd _ hk hM), h4.keepB s1 (fun k hk e => by cases e; exact h4.notRow h1 (by decide) hk), h5.keepB s1 (fun k hk e => by cases e; exact h5.notRow h1 (by decide) hk), h6⟩
  have hn1 := hn.keep s1 fun k hk e => by cases e; exact hMF _ hM hk
  have u1 : Upd (Or2 M F) w (wc.setCell ⟨p, 4, none⟩ (.int .i64 (ex : Int))) := hu.trans s1 fun k _ e => by cases e; exact .inl hM
  have z1 : (wc.setCell ⟨p, 4, none⟩ (.int .i64 (ex : Int))).heap.size = wc.heap.size := by simp [World.setCell]
  generalize wc.setCell ⟨p, 4, none⟩ (.int .i64 (ex : Int)) = w1 at *
  have s2 : Upd (One w.heap.size) w1 ((w1.setCell ⟨w.heap.size, 0, none⟩ x).setCell ⟨w.heap.size, 1, none⟩ y) := ((Upd.refl (One w.heap.size) w1).setCell (p := ⟨w.heap.size, 0, none⟩) (.inl rfl) x).setCell (p := ⟨w.heap.size, 1, none⟩) (.inl rfl) y
  have z2 : ((w1.setCell ⟨w.heap.size, 0, none⟩ x).setCell ⟨w.heap.size, 1, none⟩ y).heap.size = wc.heap.size := by rw [← z1]; simp [World.setCell]
  generalize (w1.setCell ⟨w.heap.size, 0, none⟩ x).setCell ⟨w.heap.size, 1, none⟩ y = W at *
  refine ⟨(hE1.keep s2 (fun k hk e => ?_) (fun k hk e => ?_)).mono (fun k hk _ => hk.imp id fun h => ⟨⟨h.1.1, by have := h.1.2; omega⟩, h.2⟩) (fun _ h _ => h), hn1.keep s2 (fun k hk e => ?_), hD1, u1.trans s2 fun k hk e => ?_⟩
  · have e : k = w.heap.size := e
    rcases hk with hk | hk
    · have := hMb _ hk; omega
    · exact hk.2 e
  · have e : k = w.heap.size := e
    have := hIb _ hk; omega
  · have e : k = w.heap.size := e
    have := hFb _ hk; omega
  · have e : k = w.heap.size := e
    omega

theorem last_fin {w W7 w8 : World} {M I F : Blk} {p q : Nat} {P P0 : Pr} {ws : List Int} {Aw : Option Addr} {cw n : Nat} (hMb : ∀ k, M k → k < w.heap.size) (hIb : ∀ k, I k → k < w.heap.size) (hFb : ∀ k, F k → k < w.heap.size) (hMF : ∀ k, M k → ¬ F k) (hn0 : P.words.length = n)
    (hE : PairE W7 (fun k => M k ∨ New w W7 k ∧ k ≠ w.heap.size) I p P (.slice Aw n cw)) (hn : NodeR W7 F q ws true) (hu : Upd (Or2 M F) w W7) (hM : M p) (hl : w.heap.size < W7.heap.size) (hp : PairR w8 (fun k => k = p ∨ New W7 w8 k) I p P0) (h8 : Upd (One p) W7 w8) :
    ∃ (R M' : Blk) (s : Value), Ending.returned (.tuple #[.agg #[.int .i64 0, .slice Aw n cw], .bool true]) = .returned (.tuple #[.agg #[.int .i64 0, s], .bool true]) ∧ PairR ((w8.setCell ⟨w.heap.size, 0, none⟩ (.int .i64 0)).setCell ⟨w.heap.size, 1, none⟩ (.slice Aw n cw)) M' I p P0 ∧ NodeR ((w8.setCell ⟨w.heap.size, 0, none⟩ (.int .i64 0)).setCell ⟨w.heap.size, 1, none⟩ (.slice Aw n cw)) F q ws true ∧
    Own ((w8.setCell ⟨w.heap.size, 0, none⟩ (.int .i64 0)).setCell ⟨w.heap.size, 1, none⟩ (.slice Aw n cw)) R 36 1 s P.words.length (u64s P.words) ∧ (∀ k, M' k → M k ∨ New w ((w8.setCell ⟨w.heap.size, 0, none⟩ (.int .i64 0)).setCell ⟨w.heap.size, 1, none⟩ (.slice Aw n cw)) k) ∧ (∀ k, R k → (M k ∨ New w ((w8.setCell ⟨w.heap.size, 0, none⟩ (.int .i64 0)).setCell ⟨w.heap.size, 1, none⟩ (.slice Aw n cw)) k) ∧ ¬ M' k) ∧ Upd (Or2 M F) w ((w8.setCell ⟨w.heap.size, 0, none⟩ (.int .i64 0)).setCell ⟨w.heap.size, 1, none⟩ (.slice Aw n cw)) := by
  subst hn0
  have hs : Upd (One w.heap.size) w8 ((w8.setCell ⟨w.heap.size, 0, none⟩ (.int .i64 0)).setCell ⟨w.heap.size, 1, none⟩ (.slice Aw P.words.length cw)) := ((Upd.refl (One w.heap.size) w8).setCell (p := ⟨w.heap.size, 0, none⟩) (.inl rfl) _).setCell (p := ⟨w.heap.size, 1, none⟩) (.inl rfl) _
  generalize (w8.setCell ⟨w.heap.size, 0, none⟩ (.int .i64 0)).setCell ⟨w.heap.size, 1, none⟩ (.slice Aw P.words.length cw) = W at *
  obtain ⟨sv, l, h1, h2, h3, h4, h5, h6⟩ := hE
  have hpl := hMb _ hM
  have z7 := hu.size
  have z8 := h8.size
  have zs := hs.size
  have hb : ∀ k, (Value.slice Aw P.words.length cw).ownBlock = some k → (M k ∨ New w W7 k ∧ k ≠ w.heap.size) ∧ k < W7.heap.size := fun k hk => h5.block hk
  have hO : Own W7 (fun k => (Value.slice Aw P.words.length cw).ownBlock = some k) 36 1 (.slice Aw P.words.length cw) P.words.length (u64s P.words) := Own.of_owns h5.owns (fun _ h => h)
  have hOp : ∀ k, (Value.slice Aw P.words.length cw).ownBlock = some k → k ≠ p := fun k hk e => by subst e; exact h5.notRow h1 (by decide) hk
  refine ⟨fun k => (Value.slice Aw P.words.length cw).ownBlock = some k, fun k => k = p ∨ New W7 w8 k, _, rfl, ?_, ?_, ?_, ?_, ?_, ?_⟩
  · exact hp.keep hs (fun k hk e => by have e : k = w.heap.size := e; rcases hk with hk | hk; omega; have := hk.1; omega) (fun k hk e => by have e : k = w.heap.size := e; have := hIb _ hk; omega)
  · exact (hn.keep h8 fun k hk e => by cases e; exact hMF _ hM hk).keep hs fun k hk e => by have e : k = w.heap.size := e; have := hFb _ hk; omega
  · exact (hO.keep h8 fun k hk e => hOp k hk e).keep hs fun k hk e => by
      have e : k = w.heap.size := e
      rcases (hb k hk).1 with h | h
      · have := hMb _ h; omega
      · exact h.2 e
  · intro k hk
    rcases hk with rfl | hk
    · exact .inl hM
    · exact .inr ⟨by have := hk.1; omega, by have := hk.2; omega⟩
  · intro k hk
    refine ⟨(hb k hk).1.imp id fun h => ⟨h.1.1, by have := h.1.2; omega⟩, fun e => ?_⟩
    rcases e with e | e
    · exact hOp k hk e
    · have := e.1; have := (hb k hk).2; omega
  · exact (hu.trans h8 fun k _ e => by cases e; exact .inl hM).trans hs fun k hk e => by have e : k = w.heap.size := e; omega

set_option maxRecDepth 100000 in
set_option maxHeartbeats 8000000 in
theorem step_piece {w : World} {M I F : Blk} {p q : Nat} {P : Pr} {ws : List Int} {v : Vb} {l : List Vb} (h : PairR w M I p P) (hn : NodeR w F q ws true) (hMb : ∀ k, M k → k < w.heap.size) (hIb : ∀ k, I k → k < w.heap.size) (hFb : ∀ k, F k → k < w.heap.size)
    (hd : ∀ k, I k → ¬ M k) (hMF : ∀ k, M k → ¬ F k) (hIF : ∀ k, I k → ¬ F k) (hok : P.Ok) (hv : P.verbs = v :: l) (hr : refE P v ws true = 0) {a n : Nat} (hx : (pcsV v)[P.ex]? = some (a, n)) (hpo : PieceOk v a n ws.length) (hokv : OkV v) :
    Calls Try.prog 91 #[.pointer (some ⟨p, 0, none⟩), .pointer (some ⟨q, 0, none⟩)] w (StepPost w M I F p q P ws true) := by
  have hu : Upd Non w (w.alloc (.cells #[.int .i64 0, .slice none 0 0] 69)) := (Upd.refl _ _).alloc _
  obtain ⟨sw, hE⟩ := h.exp
  have HE : Hid (∀ W, Upd Non w W → PairE W M I p P sw) := Lib.hid fun W hu => hE.keep hu (fun _ _ h => h) (fun _ _ h => h)
  have HP : Hid (∀ W, Upd Non w W → PairR W M I p P) := Lib.hid fun W hu => h.keep hu (fun _ _ h => h) (fun _ _ h => h)
  have HN : Hid (∀ W, Upd Non w W → NodeR W F q ws true) := Lib.hid fun W hu => hn.keep hu (fun _ _ h => h)
  have hg := hok.good v (by rw [hv]; simp)
  obtain ⟨g, cv, s, Aw, cw, hp, hvw, hc⟩ := (HP.out _ hu).head hv
  have hsw : sw = .slice Aw P.words.length cw := by
    obtain ⟨sv, l2, h1, _⟩ := HE.out _ hu
    have := (h1.uniq hp).2
    simp only [List.cons.injEq] at this
    exact this.2.2.2.2.2.1
  subst hsw
  obtain ⟨A, cap, rfl, _, _, _⟩ := id hvw
  have HVW : Hid (∀ W, Upd Non (w.alloc (.cells #[.int .i64 0, .slice none 0 0] 69)) W → VWords W I v (.slice A v.words.length cap)) := Lib.hid fun W hu => hvw.keep hu (fun _ _ h => h)
  have HREF : Hid (∀ W, Upd Non w W → Upd Non (w.alloc (.cells #[.int .i64 0, .slice none 0 0] 69)) W → Calls Try.prog 145 #[.pointer (some ⟨p, 0, none⟩), .agg (vbC v (.slice A v.words.length cap)), .pointer (some ⟨q, 0, none⟩)] W fun e w' => e = .returned (.int .i64 0) ∧ Upd Non W w') := Lib.hid fun W hu hu0 => by
    have := refusal_calls (HP.out W hu) (HVW.out W hu0) (HN.out W hu) hok.c0 (by have := hok.c1; omega) (by have := hok.i1; omega) hg.boot
    rw [hr] at this; exact this
  have HPC := Lib.hid fun W => pieces_calls v A cap hokv.at0 (by have := hokv.at1; omega) hokv.cnt1 (by have := hokv.cnt2; omega) W
  have HEX : Hid (∀ W, Upd Non w W → Upd Non (w.alloc (.cells #[.int .i64 0, .slice none 0 0] 69)) W → Calls Try.prog 147 #[.agg (vbC v (.slice A v.words.length cap)), encP (a, n), .pointer (some ⟨q, 0, none⟩)] W (ExPost W F q ws v a n)) := Lib.hid fun W hu hu0 =>
    execute_calls (HVW.out W hu0) (HN.out W hu) a n hpo hg.wlen
  have c3 := hp.cell 3 rfl
  have k0 := hc 0 (.int .i64 v.kind) rfl
  have k1 := hc 1 (.int .i64 v.node) rfl
  have k2 := hc 2 (.int .i64 v.at_) rfl
  have k3 := hc 3 (.int .i64 v.n) rfl
  have k4 := hc 4 (.int .u64 v.old) rfl
  have k5 := hc 5 (.int .u64 v.new_) rfl
  have k6 := hc 6 (.slice A v.words.length cap) rfl
  have k7 := hc 7 (.int .u64 v.key) rfl
  have k8 := hc 8 (.int .i64 v.boot) rfl
  have HPR : Hid (∀ W, Upd Non w W → ∃ sv, Row W p 178 [.int .i64 P.client, .int .i64 P.inc, .int .i64 P.node, sv, .int .i64 P.ex, .slice Aw P.words.length cw]) := Lib.hid fun W hu => by
    obtain ⟨sv, _, h1, _⟩ := HE.out W hu; exact ⟨sv, h1⟩
  have HU1 : Hid (Upd Non w ((w.alloc (.cells #[.int .i64 0, .slice none 0 0] 69)).alloc (.cells #[.int .i64 v.kind, .int .i64 v.node, .int .i64 v.at_, .int .i64 v.n, .int .u64 v.old, .int .u64 v.new_, .slice A v.words.length cap, .int .u64 v.key, .int .i64 v.boot] 62))) := Lib.hid (((Upd.refl _ _).alloc _).alloc _)
  have HZ1 : Hid (Upd Non (w.alloc (.cells #[.int .i64 0, .slice none 0 0] 69)) ((w.alloc (.cells #[.int .i64 0, .slice none 0 0] 69)).alloc (.cells #[.int .i64 v.kind, .int .i64 v.node, .int .i64 v.at_, .int .i64 v.n, .int .u64 v.old, .int .u64 v.new_, .slice A v.words.length cap, .int .u64 v.key, .int .i64 v.boot] 62))) := Lib.hid ((Upd.refl _ _).alloc _)
  have HD1 : Hid (Row ((w.alloc (.cells #[.int .i64 0, .slice none 0 0] 69)).alloc (.cells #[.int .i64 v.kind, .int .i64 v.node, .int .i64 v.at_, .int .i64 v.n, .int .u64 v.old, .int .u64 v.new_, .slice A v.words.length cap, .int .u64 v.key, .int .i64 v.boot] 62)) w.heap.size 69 [.int .i64 0, .slice none 0 0]) := Lib.hid ((Row.new _ _ _).alloc _)
  have HV1 : Hid (Row ((w.alloc (.cells #[.int .i64 0, .slice none 0 0] 69)).alloc (.cells #[.int .i64 v.kind, .int .i64 v.node, .int .i64 v.at_, .int .i64 v.n, .int .u64 v.old, .int .u64 v.new_, .slice A v.words.length cap, .int .u64 v.key, .int .i64 v.boot] 62)) (w.heap.size + 1) 62 [.int .i64 v.kind, .int .i64 v.node, .int .i64 v.at_, .int .i64 v.n, .int .u64 v.old, .int .u64 v.new_, .slice A v.words.length cap, .int .u64 v.key, .int .i64 v.boot]) := Lib.hid (by
    have := Row.new (w.alloc (.cells #[.int .i64 0, .slice none 0 0] 69)) #[.int .i64 v.kind, .int .i64 v.node, .int .i64 v.at_, .int .i64 v.n, .int .u64 v.old, .int .u64 v.new_, .slice A v.words.length cap, .int .u64 v.key, .int .i64 v.boot] 62
    rw [World.size_alloc] at this; exact this)
  have HPL : Hid (p < w.heap.size) := Lib.hid (by obtain ⟨_, _, _, hr, _⟩ := h; exact hr.lt)
  have HMb := Lib.hid hMb
  have HIb := Lib.hid hIb
  have HFb := Lib.hid hFb
  have Hd := Lib.hid hd
  have HMF := Lib.hid hMF
  have HIF := Lib.hid hIF
  have HOK := Lib.hid hok
  have HX := Lib.hid hx
  have HVB := Lib.hid hv
  have hex : (P.ex : Int) < ((pcsV v).length : Int) := by have := (List.getElem?_eq_some_iff.1 hx).1; omega
  have hxl : (P.ex : Int) < 1024 := by have h5 := pcsV_length v; have h6 := hokv.cnt2; omega
  have hwl : (exW v a n ws).length ≤ 8 ∧ P.words.length ≤ 8192 := by
    have h1 := exW_length v a n ws hpo.pos
    have h2 := pcsV_mem (List.mem_of_getElem? hx)
    have h3 := hok.words
    have h4 := hok.ex v l hv
    have h5 := pcsV_length v
    have h6 := hokv.cnt2
    dsimp only at h2
    omega
  have HWL := Lib.hid hwl
  have HR := Lib.hid hr
  clear hwl
  clear h hn hu hE hp hc hvw hMb hIb hFb hd hMF hIF hok hv hr hx hpo hokv hg
  unfold vbC at HREF HPC HEX
  unfold encP at HEX
  go_enter Try.func91, Try.ntmps91
  go_wp2_with fail
  refine (HREF.out _ HU1.out HZ1.out).mono ?_
  rintro e w2 ⟨rfl, hu2⟩
  have HU2 := Lib.hid (HU1.out.tr hu2)
  have HZ2 := Lib.hid (HZ1.out.tr hu2)
  have HD2 := Lib.hid (hu2.rowN HD1.out)
  have HV2 := Lib.hid (hu2.rowN HV1.out)
  obtain ⟨d0, d1, d2, d3, d4, d5, d6, d7, d8⟩ := vb_cells HV2.out
  clear hu2 HU1 HD1 HZ1 HV1 HREF
  go_wp2_with fail
  refine (HPC.out w2).mono ?_
  rintro e w3 ⟨x, rfl, hO3, hu3⟩
  obtain ⟨Ap, capp, rfl, _, hVp⟩ := hO3.shape
  obtain ⟨gp, op, rfl, _, _, hpc0⟩ := hVp.cell (pcC_get HX.out).1
  obtain ⟨gp', op', e', _, _, hpc1⟩ := hVp.cell (pcC_get HX.out).2
  cases e'
  rw [← Nat.add_assoc] at hpc1
  have HU3 := Lib.hid (HU2.out.tr hu3)
  have HZ3 := Lib.hid (HZ2.out.tr hu3)
  have HD3 := Lib.hid (hu3.rowN HD2.out)
  have HV3 := Lib.hid (hu3.rowN HV2.out)
  have HL3 : Hid (w.heap.size < w3.heap.size) := Lib.hid HD3.out.lt
  clear d0 d1 d2 d3 d4 d5 d6 d7 d8
  obtain ⟨d0, d1, d2, d3, d4, d5, d6, d7, d8⟩ := vb_cells HV3.out
  obtain ⟨sv, hpr3⟩ := HPR.out w3 HU3.out
  have q4 := hpr3.cell 4 rfl
  have q5 := hpr3.cell 5 rfl
  clear hu3 HU2 HZ2 HD2 HV2 hO3 hVp hpr3 HPC HPR
  generalize hnp : (pcsV v).length = np at *
  have HNP := Lib.hid hnp
  clear hnp
  go_upto_region 9 with fail
  go_cut [] (fun wr => Mid w M I F p q { P with words := P.words ++ exW v a n ws } (exM v a n ws) wr)
  case first =>
    have HE3 := Lib.hid (HE.out _ HU3.out)
    have HOW3 : Hid (∀ W, Upd F w3 W → Own W M 36 1 (.slice Aw P.words.length cw) P.words.length (u64s P.words)) := Lib.hid fun W hu => by
      obtain ⟨_, _, _, _, _, _, h5, _⟩ := HE3.out.keep hu HMF.out HIF.out; exact h5
    have HC5 : Hid (∀ W, Upd F w3 W → W.cell? ⟨p, 5, none⟩ = some (.slice Aw P.words.length cw)) := Lib.hid fun W hu => by
      obtain ⟨_, _, h1, _⟩ := HE3.out.keep hu HMF.out HIF.out; exact h1.cell 5 rfl
    go_region_law (first
      | (go_simp; go_at_call 147; (with_reducible refine (HEX.out _ HU3.out.drew HZ3.out.drew).mono ?_); rintro e w4 ⟨A4, cap4, rfl, hV4, hnil4, hN4, hU4⟩; have hU4' : Upd F w3 w4 := hU4.nodraw; have q5 := HC5.out w4 hU4'; have HU4 := Lib.hid hU4'; have HV4 := Lib.hid hV4; have HN4 := Lib.hid hN4; have HNIL := Lib.hid hnil4; clear hV4 hnil4 hN4 hU4 hU4')
      | (refine step_app (F := M) (fun _ => True) rfl _ _ 33 36 rfl (.int .u64 0) 1 8 Try.underlying33 info_u64 rfl (by decide) (.slice Aw P.words.length cw) P.words.length (u64s P.words) rfl (HOW3.out _ HU4.out) A4 (exW v a n ws).length cap4 (u64s (exW v a n ws)) rfl HNIL.out (HV4.out.mono fun _ _ => trivial) (wf_u64s _) (by have := HWL.out; omega) (by decide) ?_; intro v' w5 hown hupd hnil hblk; obtain ⟨A5, c5, rfl, x5, z5, HFIN⟩ := step_arm HMb.out HFb.out Hd.out HMF.out HIF.out HU3.out HL3.out HE3.out HD3.out HU4.out HN4.out rfl hown hupd rfl; clear hown hupd hnil hblk))
    all_goals (go_wp2_with fail; go_meet; exact HFIN.out)
  case rest =>
    obtain ⟨Aw2, cw2, hE6, hN6, hD6, hU6, hM6⟩ := hcut
    obtain ⟨sv6, l6, hr6, _⟩ := id hE6
    have HE6 := Lib.hid hE6
    have HN6 := Lib.hid hN6
    have HU6 := Lib.hid hU6
    have HM6 := Lib.hid hM6
    have q4 := hr6.cell 4 rfl
    have q5 := hr6.cell 5 rfl
    have z4 := hr6.frozen 4
    have z5 := hr6.frozen 5
    obtain ⟨e0, e1, f0, f1⟩ := done_cells hD6
    have HD6 := Lib.hid hD6
    dsimp only at q4 q5
    have HNE : Hid (w.heap.size ≠ p) := Lib.hid (by have := HPL.out; omega)
    have HMS7 := Lib.hid fun (x y : Value) => mid_set (x := x) (y := y) (ex := P.ex + 1) (exI := (P.ex : Int) + 1) (by omega) HMb.out HIb.out HFb.out Hd.out HMF.out HE6.out HN6.out HD6.out HU6.out HM6.out
    generalize hnw : (P.words ++ exW v a n ws).length = nw at *
    have HNW := Lib.hid hnw
    have HL6 : Hid (w.heap.size < wc.heap.size) := Lib.hid HD6.out.lt
    have g1 : IntKind.i64.wrap ((P.ex : Int) + 1) = (P.ex : Int) + 1 := wrapI _ (by omega) (by omega)
    clear hE6 hN6 hU6 hM6 hr6 hD6 d0 d1 d2 d3 d4 d5 d6 d7 d8 hpc0 hpc1 k0 k1 k2 k3 k4 k5 k6 k7 k8 c3 HE HP HN HEX HV3 HZ3 HD3 HVW hnw hex hxl
    by_cases hlt : (P.ex : Int) + 1 < (np : Int)
    · have HS := Lib.hid (stepV_mid HVB.out HR.out HX.out (by rw [HNP.out]; omega))
      obtain ⟨m1, m2, m3, m4⟩ := HMS7.out (.int .i64 0) (.slice none 0 0)
      obtain ⟨y0, y1, _, _⟩ := done_cells m3
      have M1 := Lib.hid m1
      have M2 := Lib.hid m2
      have M4 := Lib.hid m4
      clear m1 m2 m3 m4
      go_wp2_with fail
      refine bodyPost_ret (v := .tuple #[.agg #[.int .i64 0, .slice none 0 0], .bool false]) (by simp [results, Try.results91, go_sem, y0, y1]) rfl ?_
      unfold StepPost
      rw [HS.out]
      exact ⟨Non, _, _, rfl, M1.out.pair, M2.out, Own.nil _ _ _ _, fun k hk => hk.imp id fun h => h.1, fun _ h => h.elim, M4.out⟩
    · have HS := Lib.hid (stepV_last HVB.out HR.out HX.out (by rw [HNP.out]; omega))
      obtain ⟨m1, m2, m3, m4⟩ := HMS7.out (.int .i64 0) (.slice Aw2 nw cw2)
      have HCO := Lib.hid (complete_calls m1.pair (fun k hk h => h.elim (Hd.out k hk) (fun h => by have := HIb.out k hk; have := h.1.1; omega)) (by show P.verbs ≠ []; rw [HVB.out]; simp) HOK.out.len)
      have M1 := Lib.hid m1
      have M2 := Lib.hid m2
      have M3 := Lib.hid m3
      have M4 := Lib.hid m4
      clear m1 m2 m3 m4
      go_wp2_with fail
      refine HCO.out.mono ?_
      rintro e w8 ⟨rfl, hp8, hu8⟩
      have hd8 := hu8.row M3.out (fun e => HNE.out e)
      obtain ⟨y0, y1, f0, f1⟩ := done_cells hd8
      have HP8 := Lib.hid hp8
      have HU8 := Lib.hid hu8
      clear hd8 hp8 hu8
      go_wp2_with fail
      refine bodyPost_ret (v := .tuple #[.agg #[.int .i64 0, .slice Aw2 nw cw2], .bool true]) (by simp [results, Try.results91, go_sem, y0, y1]) rfl ?_
      unfold StepPost
      rw [HS.out]
      exact last_fin (P := { P with ex := P.ex + 1, words := P.words ++ exW v a n ws }) HMb.out HIb.out HFb.out HMF.out HNW.out M1.out M2.out M4.out HM6.out (by have := M3.out.lt; omega) HP8.out HU8.out

theorem StepPost.mono {w w' : World} {M I F M' I' F' : Blk} {p q : Nat} {P : Pr} {ws : List Int} {up : Bool} {e : Ending} (h : StepPost w M I F p q P ws up e w') (hM : ∀ k, M k → M' k) (hI : ∀ k, I k → I' k) (hF : ∀ k, F k → F' k) : StepPost w M' I' F' p q P ws up e w' := by
  obtain ⟨R, N, s, h1, h2, h3, h4, h5, h6, h7⟩ := h
  exact ⟨R, N, s, h1, h2.mono (fun _ h _ => h) (fun k h _ => hI k h), h3.mono fun k h _ => hF k h, h4, fun k hk => (h5 k hk).imp (hM k) id, fun k hk => ⟨(h6 k hk).1.imp (hM k) id, (h6 k hk).2⟩, h7.mono fun k _ h => h.imp (hM k) (hF k)⟩
/-- One step of a pair. -/
theorem pstep_calls {w : World} {M I F : Blk} {p q : Nat} {P : Pr} {ws : List Int} {up : Bool} (h : PairR w M I p P) (hn : NodeR w F q ws up) (hd : ∀ k, I k → ¬ M k) (hMF : ∀ k, M k → ¬ F k) (hIF : ∀ k, I k → ¬ F k) (hok : P.Ok) :
    Calls Try.prog 91 #[.pointer (some ⟨p, 0, none⟩), .pointer (some ⟨q, 0, none⟩)] w (StepPost w M I F p q P ws up) := by
  obtain hv | ⟨v, l, hv⟩ : P.verbs = [] ∨ ∃ v l, P.verbs = v :: l := by
    cases P.verbs with
    | nil => exact .inl rfl
    | cons v l => exact .inr ⟨v, l, rfl⟩
  · exact step_idle h hn hv
  · by_cases hr : refE P v ws up = 0
    · obtain ⟨rfl, hokv, a, n, hx, _, hpo⟩ := piece_ok hok hv hr
      refine (step_piece (M := fun k => M k ∧ k < w.heap.size) (I := fun k => I k ∧ k < w.heap.size) (F := fun k => F k ∧ k < w.heap.size) (h.mono (fun _ h hl => ⟨h, hl⟩) (fun _ h hl => ⟨h, hl⟩)) (hn.mono fun _ h hl => ⟨h, hl⟩) (fun _ h => h.2) (fun _ h => h.2) (fun _ h => h.2)
        (fun k h1 h2 => hd k h1.1 h2.1) (fun k h1 h2 => hMF k h1.1 h2.1) (fun k h1 h2 => hIF k h1.1 h2.1) hok hv hr hx hpo hokv).mono fun e w' hp => hp.mono (fun _ h => h.1) (fun _ h => h.1) (fun _ h => h.1)
    · exact step_refuse h hn hd hMF hok hv hr
end Go.Proofs.Ytlhbikiggmdolaa
