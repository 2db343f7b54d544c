/- Queue pairs of the program: what lies in memory; clone, New, the getters. -/
import Derived.Test.YtlhbikiggmdolaaHand
import Derived.Test.YtlhbikiggmdolaaVerb4
import Derived.Test.YtlhbikiggmdolaaRPieces
import Derived.Test.YtlhbikiggmdolaaCopy3
namespace Go.Proofs.Ytlhbikiggmdolaa
open Go.RowKit

theorem Upd.nodraw {M : Blk} {w w' : World} (h : Upd M w.drew w') : Upd M w w' := ⟨h.os, h.tape, h.output, h.size, h.block⟩
theorem info_verb : (Try.prog.info? 62).map (fun i => (i.zero, i.size, i.bytes)) = some (some (.agg #[.int .i64 0, .int .i64 0, .int .i64 0, .int .i64 0, .int .u64 0, .int .u64 0, .slice none 0 0, .int .u64 0, .int .i64 0]), 9, 88) := by kernel_rfl

theorem vb_frozen {w : World} {b : Nat} {c : List Value} (h : Row w b 62 c) : w.frozen? ⟨b, 0, none⟩ = false ∧ w.frozen? ⟨b, 1, none⟩ = false ∧ w.frozen? ⟨b, 2, none⟩ = false ∧ w.frozen? ⟨b, 3, none⟩ = false ∧ w.frozen? ⟨b, 4, none⟩ = false ∧ w.frozen? ⟨b, 5, none⟩ = false ∧ w.frozen? ⟨b, 6, none⟩ = false ∧ w.frozen? ⟨b, 7, none⟩ = false ∧ w.frozen? ⟨b, 8, none⟩ = false :=
  ⟨h.frozen 0, h.frozen 1, h.frozen 2, h.frozen 3, h.frozen 4, h.frozen 5, h.frozen 6, h.frozen 7, h.frozen 8⟩
theorem Upd.nine {M : Blk} {a w : World} (h : Upd M a w) {b : Nat} (hb : M b ∨ a.heap.size ≤ b) (x0 x1 x2 x3 x4 x5 x6 x7 x8 : Value) :
    Upd M a (((((((((w.setCell ⟨b, 0, none⟩ x0).setCell ⟨b, 1, none⟩ x1).setCell ⟨b, 2, none⟩ x2).setCell ⟨b, 3, none⟩ x3).setCell ⟨b, 4, none⟩ x4).setCell ⟨b, 5, none⟩ x5).setCell ⟨b, 6, none⟩ x6).setCell ⟨b, 7, none⟩ x7).setCell ⟨b, 8, none⟩ x8) :=
  ((((((((h.setCell (p := ⟨b, 0, none⟩) hb x0).setCell (p := ⟨b, 1, none⟩) hb x1).setCell (p := ⟨b, 2, none⟩) hb x2).setCell (p := ⟨b, 3, none⟩) hb x3).setCell (p := ⟨b, 4, none⟩) hb x4).setCell (p := ⟨b, 5, none⟩) hb x5).setCell (p := ⟨b, 6, none⟩) hb x6).setCell (p := ⟨b, 7, none⟩) hb x7).setCell (p := ⟨b, 8, none⟩) hb x8
/-- A verb's words, where they lie. -/
def VWords (w : World) (I : Blk) (v : Vb) (s : Value) : Prop := ∃ A cap, s = .slice A v.words.length cap ∧ v.words.length ≤ cap ∧ (A = none → v.words.length = 0 ∧ cap = 0) ∧ View w I 1 A v.words.length (u64s v.words)
theorem VWords.keep {M I : Blk} {w w' : World} {v : Vb} {s : Value} (h : VWords w I v s) (hu : Upd M w w') (hd : ∀ k, I k → ¬ M k) : VWords w' I v s := by
  obtain ⟨A, cap, h1, h2, h3, h4⟩ := h; exact ⟨A, cap, h1, h2, h3, h4.keep hu hd⟩
theorem VWords.mono {I J : Blk} {w : World} {v : Vb} {s : Value} (h : VWords w I v s) (hI : ∀ k, I k → k < w.heap.size → J k) : VWords w J v s := by
  obtain ⟨A, cap, h1, h2, h3, h4⟩ := h
  refine ⟨A, cap, h1, h2, h3, h4.1, fun hc => ?_⟩
  obtain ⟨b, off, e1, e2, e3, e4⟩ := h4.2 hc
  exact ⟨b, off, e1, hI b e2 e3, e3, e4⟩
theorem VWords.of_own {w : World} {I : Blk} {v : Vb} {A : Option Addr} {n cap : Nat} (h : Own w I 36 1 (.slice A n cap) n (u64s v.words)) (hn : v.words.length = n) : VWords w I v (.slice A n cap) := by
  obtain ⟨A', cap', e, hA, hV⟩ := h.shape
  simp only [Value.slice.injEq] at e
  obtain ⟨rfl, _, rfl⟩ := e
  subst hn
  refine ⟨A, cap, rfl, ?_, hA, hV⟩
  rcases h.2 with ⟨e, h0⟩ | ⟨g, c, sp, e, _, _, _, h5, _⟩
  · omega
  · simp only [Value.slice.injEq] at e; omega
/-- The cells of a list of verbs, each with its slice. -/
def vsC (l : List (Vb × Value)) : List Value := l.flatMap fun x => (vbC x.1 x.2).toList
theorem vsC_length (l : List (Vb × Value)) : (vsC l).length = l.length * 9 := by
  induction l with
  | nil => rfl
  | cons x l ih =>
    have e : vsC (x :: l) = (vbC x.1 x.2).toList ++ vsC l := rfl
    rw [e, List.length_append, ih, List.length_cons]
    simp [vbC]; omega
theorem vsC_append (l m : List (Vb × Value)) : vsC (l ++ m) = vsC l ++ vsC m := by simp [vsC]

/-- A verb that may stand in a queue. -/
structure GoodV (v : Vb) : Prop where
  ok : OkV v
  words : ∀ x ∈ v.words, 0 ≤ x
  new0 : 0 ≤ v.new_
  boot : v.boot < 9223372036854775808
  wlen : v.words.length ≤ 1024

/-- A queue pair. -/
structure Pr where
  client : Int
  inc : Int
  node : Int
  verbs : List Vb
  ex : Nat
  words : List Int

def PairR (w : World) (M I : Blk) (p : Nat) (P : Pr) : Prop :=
  ∃ (sv sw : Value) (l : List (Vb × Value)), Row w p 178 [.int .i64 P.client, .int .i64 P.inc, .int .i64 P.node, sv, .int .i64 P.ex, sw] ∧ l.map Prod.fst = P.verbs ∧ (∀ x ∈ l, VWords w I x.1 x.2) ∧
    Own w M 62 9 sv l.length (vsC l) ∧ Own w M 36 1 sw P.words.length (u64s P.words) ∧ M p
theorem PairR.keep {N M I : Blk} {w w' : World} {p : Nat} {P : Pr} (h : PairR w M I p P) (hu : Upd N w w') (hM : ∀ k, M k → ¬ N k) (hI : ∀ k, I k → ¬ N k) : PairR w' M I p P := by
  obtain ⟨sv, sw, l, h1, h2, h3, h4, h5, h6⟩ := h
  exact ⟨sv, sw, l, hu.row h1 (hM _ h6), h2, fun x hx => (h3 x hx).keep hu hI, h4.keep hu hM, h5.keep hu hM, h6⟩
theorem PairR.mono {M M' I I' : Blk} {w : World} {p : Nat} {P : Pr} (h : PairR w M I p P) (hM : ∀ k, M k → k < w.heap.size → M' k) (hI : ∀ k, I k → k < w.heap.size → I' k) : PairR w M' I' p P := by
  obtain ⟨sv, sw, l, h1, h2, h3, h4, h5, h6⟩ := h
  exact ⟨sv, sw, l, h1, h2, fun x hx => (h3 x hx).mono hI, h4.mono hM, h5.mono hM, hM _ h6 h1.lt⟩

theorem clone_calls {w : World} {I : Blk} {v : Vb} {s : Value} (h : VWords w I v s) (hl : v.words.length ≤ 1024) :
    Calls Try.prog 144 #[.agg (vbC v s)] w fun e w' => ∃ A cap, e = .returned (.agg (vbC v (.slice A v.words.length cap))) ∧ Own w' (New w w') 36 1 (.slice A v.words.length cap) v.words.length (u64s v.words) ∧ Upd Non w w' := by
  obtain ⟨A, cap, rfl, hc, hA, hV⟩ := h
  have HCL : Hid (∀ w', Upd Non w w' → Calls Try.prog 112 #[.slice A v.words.length cap] w' fun e w'' => ∃ x, e = .returned x ∧ Own w'' (New w' w'') 36 1 x v.words.length (u64s v.words) ∧ Upd Non w' w'') := Lib.hid fun w' hu =>
    (clone64_calls hA (hV.keep hu (fun _ _ h => h)) (wf_u64s _) (by omega)).mono fun e w'' ⟨x, h1, h2, h3, _⟩ => ⟨x, h1, h2, h3⟩
  unfold vbC
  obtain ⟨kind, node, at_, n, old, new_, words, key, boot⟩ := v
  dsimp only at *
  clear hA hV
  go_enter Try.func144, Try.ntmps144
  go_wp2_with fail
  have h1 : Row ((w.alloc (.cells #[.int .i64 kind, .int .i64 node, .int .i64 at_, .int .i64 n, .int .u64 old, .int .u64 new_, .slice A words.length cap, .int .u64 key, .int .i64 boot] 62)).alloc (.cells #[.int .i64 0, .int .i64 0, .int .i64 0, .int .i64 0, .int .u64 0, .int .u64 0, .slice none 0 0, .int .u64 0, .int .i64 0] 62)) w.heap.size 62 [.int .i64 kind, .int .i64 node, .int .i64 at_, .int .i64 n, .int .u64 old, .int .u64 new_, .slice A words.length cap, .int .u64 key, .int .i64 boot] := (Row.new w _ _).alloc _
  have h2 : Row ((w.alloc (.cells #[.int .i64 kind, .int .i64 node, .int .i64 at_, .int .i64 n, .int .u64 old, .int .u64 new_, .slice A words.length cap, .int .u64 key, .int .i64 boot] 62)).alloc (.cells #[.int .i64 0, .int .i64 0, .int .i64 0, .int .i64 0, .int .u64 0, .int .u64 0, .slice none 0 0, .int .u64 0, .int .i64 0] 62)) (w.heap.size + 1) 62 [.int .i64 0, .int .i64 0, .int .i64 0, .int .i64 0, .int .u64 0, .int .u64 0, .slice none 0 0, .int .u64 0, .int .i64 0] := by
    have := Row.new (w.alloc (.cells #[.int .i64 kind, .int .i64 node, .int .i64 at_, .int .i64 n, .int .u64 old, .int .u64 new_, .slice A words.length cap, .int .u64 key, .int .i64 boot] 62)) #[.int .i64 0, .int .i64 0, .int .i64 0, .int .i64 0, .int .u64 0, .int .u64 0, .slice none 0 0, .int .u64 0, .int .i64 0] 62
    rw [World.size_alloc] at this; exact this
  have hu : Upd Non w ((w.alloc (.cells #[.int .i64 kind, .int .i64 node, .int .i64 at_, .int .i64 n, .int .u64 old, .int .u64 new_, .slice A words.length cap, .int .u64 key, .int .i64 boot] 62)).alloc (.cells #[.int .i64 0, .int .i64 0, .int .i64 0, .int .i64 0, .int .u64 0, .int .u64 0, .slice none 0 0, .int .u64 0, .int .i64 0] 62)) := ((Upd.refl _ _).alloc _).alloc _
  refine (HCL.out _ hu).mono ?_
  rintro e w3 ⟨x, rfl, hO, hu3⟩
  have hs3 := hu3.size
  simp only [World.size_alloc] at hs3
  have r1 := hu3.rowN h1
  have r2 := hu3.rowN h2
  have HR1 := Lib.hid r1
  have HR2 := Lib.hid r2
  obtain ⟨d0, d1, d2, d3, d4, d5, d6, d7, d8⟩ := vb_cells r1
  obtain ⟨e0, e1, e2, e3, e4, e5, e6, e7, e8⟩ := vb_cells r2
  obtain ⟨f0, f1, f2, f3, f4, f5, f6, f7, f8⟩ := vb_frozen r1
  obtain ⟨g0, g1, g2, g3, g4, g5, g6, g7, g8⟩ := vb_frozen r2
  obtain ⟨A3, cap3, rfl, hA3, _⟩ := hO.shape
  have hO' : Own w3 (fun k => w.heap.size + 2 ≤ k ∧ k < w3.heap.size) 36 1 (.slice A3 words.length cap3) words.length (u64s words) := hO.mono fun k hk _ => ⟨by have := hk.1; simp only [World.size_alloc] at this; exact this, hk.2⟩
  have HO := Lib.hid hO'
  have HU3 := Lib.hid (hu.tr hu3)
  clear h1 h2 hu hu3 r1 r2 hO hO' hA3 HCL
  go_wp2_with fail
  refine bodyPost_ret (v := .agg #[.int .i64 kind, .int .i64 node, .int .i64 at_, .int .i64 n, .int .u64 old, .int .u64 new_, .slice A3 words.length cap3, .int .u64 key, .int .i64 boot]) (by simp [results, Try.results144, go_sem, e0, e1, e2, e3, e4, e5, e6, e7, e8]) rfl ?_
  have hs := HU3.out.size
  have hq : Upd (fun k => k = w.heap.size ∨ k = w.heap.size + 1) w3 (w3.setCell ⟨w.heap.size, 6, none⟩ (.slice A3 words.length cap3)) := (Upd.refl _ w3).setCell (p := ⟨w.heap.size, 6, none⟩) (.inl (.inl rfl)) _
  have hq2 := hq.nine (b := w.heap.size + 1) (.inl (.inr rfl)) (.int .i64 kind) (.int .i64 node) (.int .i64 at_) (.int .i64 n) (.int .u64 old) (.int .u64 new_) (.slice A3 words.length cap3) (.int .u64 key) (.int .i64 boot)
  refine ⟨A3, cap3, rfl, ?_, ?_⟩
  · exact (HO.out.keep hq2 (fun k hk e => by rcases e with e | e <;> omega)).mono fun k hk hl => ⟨by omega, hl⟩
  · exact HU3.out.trans hq2 fun i hi e => by rcases e with e | e <;> omega

theorem Own.apart {w : World} {F F' : Blk} {e e' : TypeId} {s s' n n' : Nat} {v v' : Value} {xs xs' : List Value} (h : Own w F e s v n xs) (h' : Own w F' e' s' v' n' xs') (hT : e ≠ e') : ∀ k, v.ownBlock = some k → ¬ v'.ownBlock = some k := fun k hk => by
  rcases h.2 with ⟨rfl, _⟩ | ⟨g, cp, sp, rfl, _, hg, _⟩
  · simp [Value.ownBlock] at hk
  · simp [Value.ownBlock] at hk
    subst hk
    exact h'.notRow hg hT

/-- Why a pair does not take a verb. -/
def postE (P : Pr) (v : Vb) (lines : Int) : Int := if validE v 5 lines ≠ 0 then validE v 5 lines else if v.node ≠ P.node then 1 else if 1024 ≤ P.verbs.length then 12 else 0
def Pr.push (P : Pr) (v : Vb) : Pr := { P with verbs := P.verbs ++ [v] }
def PostYes (w : World) (M I : Blk) (p : Nat) (P : Pr) (v : Vb) (e : Ending) (w' : World) : Prop :=
  e = .returned (.int .i64 0) ∧ Upd M w w' ∧ ∃ C : Blk, PairR w' (fun k => M k ∨ (New w w' k ∧ ¬ C k)) (fun k => I k ∨ (New w w' k ∧ C k)) p (P.push v)

theorem post_arm {w W2 w3 w4 : World} {M I : Blk} {p b : Nat} {client inc pnode : Int} {verbs : List Vb} {ex : Nat} {pw : List Int} {v : Vb} {Av A3 : Option Addr} {cv cap3 : Nat} {sw v' : Value} {l : List (Vb × Value)} {bc : List Value}
    (hp : Row w p 178 [.int .i64 client, .int .i64 inc, .int .i64 pnode, .slice Av l.length cv, .int .i64 ex, sw]) (hlv : l.map Prod.fst = verbs) (hws : ∀ x ∈ l, VWords w I x.1 x.2) (hov : Own w M 62 9 (.slice Av l.length cv) l.length (vsC l)) (how : Own w M 36 1 sw pw.length (u64s pw)) (hMp : M p) (hd : ∀ k, I k → ¬ M k)
    (hw2 : Upd Non w W2) (hb : Row W2 b 62 bc) (hbs : w.heap.size ≤ b) (hO3 : Own w3 (New W2 w3) 36 1 (.slice A3 v.words.length cap3) v.words.length (u64s v.words)) (hU3 : Upd Non W2 w3)
    (hown : Own w4 (fun k => M k ∨ New (w3.alloc (.cells (vbC v (.slice A3 v.words.length cap3)) 62)) w4 k) 62 9 v' (l.length + 1) (vsC l ++ (vbC v (.slice A3 v.words.length cap3)).toList)) (hupd : Upd (fun k => (Value.slice Av l.length cv).ownBlock = some k) (w3.alloc (.cells (vbC v (.slice A3 v.words.length cap3)) 62)) w4) :
    ∃ A4 c4, v' = .slice A4 (l.length + 1) c4 ∧ w4.cell? ⟨p, 3, none⟩ = some (.slice Av l.length cv) ∧ w4.frozen? ⟨p, 3, none⟩ = false ∧ Row w4 b 62 bc ∧
      Hid (PostYes w M I p ⟨client, inc, pnode, verbs, ex, pw⟩ v (.returned (.int .i64 0)) (w4.setCell ⟨p, 3, none⟩ (.slice A4 (l.length + 1) c4))) := by
  obtain ⟨A4, c4, rfl, _, _⟩ := hown.shape
  have hu3 : Upd Non w (w3.alloc (.cells (vbC v (.slice A3 v.words.length cap3)) 62)) := (hw2.tr hU3).alloc _
  have hsv : ∀ k, (Value.slice Av l.length cv).ownBlock = some k → M k ∧ k < w.heap.size := fun k hk => hov.block hk
  have hp3 := hu3.rowN hp
  have hp4 := hupd.row hp3 (hov.notRow hp (by decide))
  have hb3 := (hU3.rowN hb).alloc (.cells (vbC v (.slice A3 v.words.length cap3)) 62)
  have hb4 := hupd.row hb3 (fun e => by have := (hsv b e).2; omega)
  have hset : Upd (One p) w4 (w4.setCell ⟨p, 3, none⟩ (.slice A4 (l.length + 1) c4)) := (Upd.refl (One p) w4).setCell (p := ⟨p, 3, none⟩) (.inl rfl) _
  have hM4 : Upd M w w4 := hu3.of_non.trans hupd fun i hi e => (hsv i e).1
  have hMf : Upd M w (w4.setCell ⟨p, 3, none⟩ (.slice A4 (l.length + 1) c4)) := hM4.trans hset fun i hi e => by cases e; exact hMp
  have hpl := hp.lt
  have s3 := hU3.size
  have s2 := hw2.size
  have s4 := hupd.size
  rw [World.size_alloc] at s4
  have sz : (w4.setCell ⟨p, 3, none⟩ (.slice A4 (l.length + 1) c4)).heap.size = w4.heap.size := by simp [World.setCell]
  refine ⟨A4, c4, rfl, hp4.cell 3 rfl, hp4.frozen 3, hb4, Lib.hid ⟨rfl, hMf, New W2 w3, .slice A4 (l.length + 1) c4, sw, l ++ [(v, .slice A3 v.words.length cap3)], ?_, ?_, ?_, ?_, ?_, .inl hMp⟩⟩
  · exact hp4.set 3 _
  · rw [List.map_append, hlv]; rfl
  · intro x hx
    rcases List.mem_append.1 hx with h | h
    · exact ((hws x h).keep hMf hd).mono fun k hk _ => .inl hk
    · rw [List.mem_singleton] at h
      subst h
      have h5 : Own w3 (fun k => w.heap.size ≤ k ∧ New W2 w3 k) 36 1 (.slice A3 v.words.length cap3) v.words.length (u64s v.words) := hO3.mono fun k hk _ => ⟨by have := hk.1; omega, hk⟩
      have h6 : Own w4 (fun k => w.heap.size ≤ k ∧ New W2 w3 k) 36 1 (.slice A3 v.words.length cap3) v.words.length (u64s v.words) := (h5.keep (M := Non) ((Upd.refl _ _).alloc _) (fun _ _ h => h)).keep hupd fun k hk e => by have := (hsv k e).2; omega
      have h7 := h6.keep hset (fun k hk e => by have e : k = p := e; omega)
      exact VWords.of_own (h7.mono fun k hk hl => .inr ⟨⟨hk.1, by rw [sz] at hl ⊢; exact hl⟩, hk.2⟩) rfl
  · rw [List.length_append]
    have h8 := hown.keepB hset (fun k hk e => by cases e; exact hown.notRow hp4 (by decide) hk)
    refine (by rw [vsC_append]; exact h8 : Own _ _ _ 9 _ (l.length + 1) (vsC (l ++ [(v, .slice A3 v.words.length cap3)]))).mono fun k hk hl => ?_
    rcases hk with hk | hk
    · exact .inl hk
    · have h9 := hk.1
      rw [World.size_alloc] at h9
      refine .inr ⟨⟨by omega, hl⟩, fun hc => ?_⟩
      have := hc.2
      omega
  · have h10 := (how.keep hu3 (fun _ _ h => h)).keepB hupd (how.apart hov (by decide))
    exact (h10.keepB hset (fun k hk e => by cases e; exact h10.notRow hp4 (by decide) hk)).mono fun k hk _ => .inl hk

set_option maxRecDepth 100000 in
set_option maxHeartbeats 4000000 in
theorem post_yes {w : World} {M I J : Blk} {p : Nat} {P : Pr} {v : Vb} {s : Value} {lines : Int} (h : PairR w M I p P) (hd : ∀ k, I k → ¬ M k) (hv : VWords w J v s) (hwl : v.words.length ≤ 1024) (hE : postE P v lines = 0) :
    Calls Try.prog 89 #[.pointer (some ⟨p, 0, none⟩), .agg (vbC v s), .int .i64 lines] w (PostYes w M I p P v) := by
  have hval : validE v 5 lines = 0 ∧ v.node = P.node ∧ P.verbs.length < 1024 := by
    unfold postE at hE
    by_cases h1 : validE v 5 lines = 0
    · rw [if_neg (by simp [h1])] at hE
      by_cases h2 : v.node = P.node
      · rw [if_neg (by simp [h2])] at hE
        by_cases h3 : 1024 ≤ P.verbs.length
        · rw [if_pos h3] at hE; omega
        · exact ⟨h1, h2, by omega⟩
      · rw [if_pos h2] at hE; omega
    · rw [if_pos h1] at hE; exact absurd hE h1
  obtain ⟨hv0, hnode, hlen⟩ := hval
  obtain ⟨A, cap, rfl, hc1, hA, hV⟩ := hv
  obtain ⟨sv, sw, l, hp, hlv, hws, hov, how, hMp⟩ := h
  have HVW : Hid (∀ w', Upd Non w w' → VWords w' J v (.slice A v.words.length cap)) := Lib.hid fun w' hu => ⟨A, cap, rfl, hc1, hA, hV.keep hu (fun _ _ h => h)⟩
  have HCL : Hid (∀ w', Upd Non w w' → Calls Try.prog 144 #[.agg (vbC v (.slice A v.words.length cap))] w' fun e w'' => ∃ A cap, e = .returned (.agg (vbC v (.slice A v.words.length cap))) ∧ Own w'' (New w' w'') 36 1 (.slice A v.words.length cap) v.words.length (u64s v.words) ∧ Upd Non w' w'') := Lib.hid fun w' hu => clone_calls (HVW.out w' hu) hwl
  have HVAL := Lib.hid (fun w => valid_calls v A cap 5 lines w)
  have hll : l.length = P.verbs.length := by rw [← hlv]; simp
  unfold vbC
  unfold vbC at HCL HVAL
  rw [hv0] at HVAL
  obtain ⟨Av, cv, rfl, hAv, _⟩ := hov.shape
  have HPV : Hid (P.push v = P.push v) := Lib.hid rfl
  clear HPV
  obtain ⟨kind, node, at_, n, old, new_, words, key, boot⟩ := v
  obtain ⟨client, inc, pnode, verbs, ex, pw⟩ := P
  dsimp only at *
  subst hnode
  have hrow : Row (w.alloc (.cells #[.int .i64 kind, .int .i64 node, .int .i64 at_, .int .i64 n, .int .u64 old, .int .u64 new_, .slice A words.length cap, .int .u64 key, .int .i64 boot] 62)) w.heap.size 62 [.int .i64 kind, .int .i64 node, .int .i64 at_, .int .i64 n, .int .u64 old, .int .u64 new_, .slice A words.length cap, .int .u64 key, .int .i64 boot] := Row.new w _ _
  have hu1 : Upd Non w (w.alloc (.cells #[.int .i64 kind, .int .i64 node, .int .i64 at_, .int .i64 n, .int .u64 old, .int .u64 new_, .slice A words.length cap, .int .u64 key, .int .i64 boot] 62)) := (Upd.refl _ _).alloc _
  have HROW := Lib.hid hrow
  have HU1 := Lib.hid hu1
  have HP := Lib.hid hp
  have HOV := Lib.hid hov
  have HOW := Lib.hid how
  have HWS := Lib.hid hws
  have HLV := Lib.hid hlv
  have HMP := Lib.hid hMp
  have HD := Lib.hid hd
  have hl1 : l.length < 1024 := by omega
  have HLL := Lib.hid hll
  clear hrow hu1 hp hov how hws hlv hMp hd hll hA hV hAv hv0 hE hlen
  go_enter Try.func89, Try.ntmps89
  go_wp2_with fail
  refine (HVAL.out _).mono ?_
  rintro e w2 ⟨rfl, hu2⟩
  have hr2 := hu2.rowN HROW.out
  have hU2 := HU1.out.tr hu2
  have hp2 := hU2.rowN HP.out
  obtain ⟨d0, d1, d2, d3, d4, d5, d6, d7, d8⟩ := vb_cells hr2
  have q2 := hp2.cell 2 rfl
  have q3 := hp2.cell 3 rfl
  have HR2 := Lib.hid hr2
  have HP2 := Lib.hid hp2
  have HU2 := Lib.hid hU2
  clear hu2 hr2 hU2 hp2 HROW HVAL
  go_wp2_with fail
  go_quiet (fail)
  go_wp2_with fail
  have hr2 : Row (w2.drewN nq) w.heap.size 62 [.int .i64 kind, .int .i64 node, .int .i64 at_, .int .i64 n, .int .u64 old, .int .u64 new_, .slice A words.length cap, .int .u64 key, .int .i64 boot] := HR2.out.drewN nq
  have hp2 : Row (w2.drewN nq) p 178 [.int .i64 client, .int .i64 inc, .int .i64 node, .slice Av l.length cv, .int .i64 ex, sw] := HP2.out.drewN nq
  have hu2 : Upd Non w (w2.drewN nq) := HU2.out.drewN nq
  clear HR2 HP2 HU2 d0 d1 d2 d3 d4 d5 d6 d7 d8 q2 q3
  generalize w2.drewN nq = W2 at *
  obtain ⟨d0, d1, d2, d3, d4, d5, d6, d7, d8⟩ := vb_cells hr2
  have q3 := hp2.cell 3 rfl
  have HR2 := Lib.hid hr2
  have HP2 := Lib.hid hp2
  have HU2 := Lib.hid hu2
  clear hr2 hp2 hu2
  go_region_law (first
      | (go_simp; go_at_call 144; (with_reducible refine (HCL.out _ HU2.out.drew).mono ?_); rintro e w3 ⟨A3, cap3, rfl, hO3, hU3⟩; have hU3' : Upd Non W2 w3 := hU3.nodraw; obtain ⟨d0, d1, d2, d3, d4, d5, d6, d7, d8⟩ := vb_cells (hU3'.rowN HR2.out); have q3 := (hU3'.rowN HP2.out).cell 3 rfl; obtain ⟨e0, e1, e2, e3, e4, e5, e6, e7, e8⟩ := vb_cells ((hU3'.rowN HR2.out).alloc (.cells #[.int .i64 kind, .int .i64 node, .int .i64 at_, .int .i64 n, .int .u64 old, .int .u64 new_, .slice A3 words.length cap3, .int .u64 key, .int .i64 boot] 62)); have r3 := ((hU3'.rowN HP2.out).alloc (.cells #[.int .i64 kind, .int .i64 node, .int .i64 at_, .int .i64 n, .int .u64 old, .int .u64 new_, .slice A3 words.length cap3, .int .u64 key, .int .i64 boot] 62)).cell 3 rfl; have HO3 := Lib.hid hO3; have HU3 := Lib.hid hU3'; clear hO3 hU3 hU3')
      | (refine step_app (F := M) (fun _ => True) rfl _ _ 60 62 rfl _ 9 88 Try.underlying60 info_verb rfl (by decide) (.slice Av l.length cv) l.length (vsC l) rfl ((HOV.out.keep (HU2.out.tr HU3.out) (fun _ _ h => h)).keep (M := Non) ((Upd.refl _ _).alloc _) (fun _ _ h => h)) (some ⟨w3.heap.size, 0, none⟩) 1 1 [.int .i64 kind, .int .i64 node, .int .i64 at_, .int .i64 n, .int .u64 old, .int .u64 new_, .slice A3 words.length cap3, .int .u64 key, .int .i64 boot] rfl (by simp) (view_new2 w3 #[.int .i64 kind, .int .i64 node, .int .i64 at_, .int .i64 n, .int .u64 old, .int .u64 new_, .slice A3 words.length cap3, .int .u64 key, .int .i64 boot] 62 9 1 rfl) (by simp [Value.oneCell']) (by omega) (by decide) ?_; intro v' w4 hown hupd hnil hblk; obtain ⟨A4, c4, rfl, x3, z3, hb4, HFIN⟩ := post_arm (v := ⟨kind, node, at_, n, old, new_, words, key, boot⟩) HP.out HLV.out HWS.out HOV.out HOW.out HMP.out HD.out HU2.out HR2.out (Nat.le_refl _) HO3.out HU3.out hown hupd; obtain ⟨d0, d1, d2, d3, d4, d5, d6, d7, d8⟩ := vb_cells hb4; clear hown hupd hnil hblk hb4))
  all_goals go_wp2_with fail
  all_goals go_ret
  all_goals exact HFIN.out
end Go.Proofs.Ytlhbikiggmdolaa
