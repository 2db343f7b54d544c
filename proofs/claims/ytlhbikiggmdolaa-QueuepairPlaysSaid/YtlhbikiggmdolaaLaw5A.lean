/- The example of chapter 5 (bodegalaw5.awake). -/
import Derived.Test.YtlhbikiggmdolaaLab
namespace Go.Proofs.Ytlhbikiggmdolaa
open Go.RowKit

theorem pr_none_ok (client inc node : Int) (h1 : 0 ≤ client) (h2 : client < 6) (h3 : 0 ≤ inc) (h4 : inc ≤ 59) (h5 : 0 ≤ node) (h6 : node < 5) : (Pr.none client inc node).Ok :=
  ⟨fun v hv => by simp [Pr.none] at hv, by simp [Pr.none], fun v l h => by simp [Pr.none] at h, fun _ => rfl, by simp [Pr.none], fun x hx => by simp [Pr.none] at hx, h1, h2, h3, h4, h5, h6⟩
theorem Pr.Ok.push {P : Pr} (h : P.Ok) {v : Vb} (hv : GoodV v) (hl : P.verbs.length < 1024) : (P.push v).Ok := by
  refine ⟨fun x hx => ?_, ?_, fun x l e => ?_, fun e => ?_, h.words, h.wf, h.c0, h.c1, h.i0, h.i1, h.n0, h.n1⟩
  · rcases List.mem_append.1 hx with hx | hx
    · exact h.good x hx
    · rw [List.mem_singleton] at hx; subst hx; exact hv
  · simp [Pr.push]; omega
  · cases hv2 : P.verbs with
    | nil =>
      have h0 := h.none hv2
      simp [Pr.push, hv2] at e
      obtain ⟨rfl, _⟩ := e
      show P.ex < _
      rw [h0]
      have := pcsV_pos hv.ok.cnt1
      omega
    | cons y m =>
      simp [Pr.push, hv2] at e
      obtain ⟨rfl, _⟩ := e
      exact h.ex y m hv2
  · simp [Pr.push] at e
theorem vwords_nil (w : World) (I : Blk) (v : Vb) (h : v.words = []) : VWords w I v (.slice none 0 0) :=
  ⟨none, 0, by rw [h]; rfl, by simp [h], fun _ => by simp [h], by rw [h]; exact View.nil _ _ _ _⟩
/-- A verb that a pair of node 0 takes may stand in its queue. -/
theorem goodV_of {v : Vb} {nodes lines : Int} (h : validE v nodes lines = 0) (hw : ∀ x ∈ v.words, 0 ≤ x) (hn : 0 ≤ v.new_) (hb : v.boot < 9223372036854775808) (hl : v.words.length ≤ 1024) : GoodV v :=
  ⟨(validE_ok h).1, hw, hn, hb, hl⟩

/-- The verb of the example. -/
def aw5 : Vb := ⟨1, 0, 0, 12, 0, 0, [], 0, 0⟩
theorem aw5_good : GoodV aw5 := goodV_of (nodes := 5) (lines := 2) (by decide) (by simp [aw5]) (by decide) (by decide) (by simp [aw5])
theorem aw5_ok : ((Pr.none 0 1 0).push aw5).Ok := (pr_none_ok 0 1 0 (by decide) (by decide) (by decide) (by decide) (by decide) (by decide)).push (goodV_of (nodes := 5) (lines := 2) (by decide) (by simp [aw5]) (by decide) (by decide) (by simp [aw5])) (by simp [Pr.none])
def aw5P : Pr := (stepV ((Pr.none 0 1 0).push aw5) (List.replicate 16 0) true).pair
theorem aw5_w : (stepV ((Pr.none 0 1 0).push aw5) (List.replicate 16 0) true).ws = List.replicate 16 0 := by decide
theorem aw5_is : (stepV ((Pr.none 0 1 0).push aw5) (List.replicate 16 0) true).is = false := by decide
theorem aw5_code : (stepV ((Pr.none 0 1 0).push aw5) (List.replicate 16 0) true).code = 0 := by decide
theorem aw5_done : (stepV ((Pr.none 0 1 0).push aw5) (List.replicate 16 0) true).done = [] := by decide
theorem aw5P_ok : aw5P.Ok := (stepV_ok aw5_ok (wf_zeros 16)).1
theorem aw5_is2 : (stepV aw5P (List.replicate 16 0) false).is = true := by decide
theorem aw5_code2 : (stepV aw5P (List.replicate 16 0) false).code = 4 := by decide
theorem aw5_done2 : (stepV aw5P (List.replicate 16 0) false).done = [] := by decide
theorem aw5_len2 : (stepV aw5P (List.replicate 16 0) false).pair.verbs.length = 0 := by decide

/-- A pair of the program and its node: 1: what the pair may write, 2: the verbs' words, 3: the node; 9: words handed back. -/
structure L5 (w0 : World) (lab : Nat → Nat) (w : World) (p q : Nat) (P : Pr) (ws : List Int) (up : Bool) : Prop where
  pair : PairR w (At lab 1) (At lab 2) p P
  node : NodeR w (At lab 3) q ws up
  out : ∀ k, k < w0.heap.size → lab k = 0
  ok : P.Ok
  wf : Wf ws
  upd : Upd Non w0 w

theorem L5.keep {w0 w w' : World} {lab : Nat → Nat} {p q : Nat} {P : Pr} {ws : List Int} {up : Bool} (h : L5 w0 lab w p q P ws up) {M : Blk} (hu : Upd M w w') (hM : ∀ k, M k → 4 ≤ lab k) : L5 w0 lab w' p q P ws up := by
  refine ⟨h.pair.keep hu (fun k hk hm => ?_) (fun k hk hm => ?_), h.node.keep hu (fun k hk hm => ?_), h.out, h.ok, h.wf, h.upd.trans hu fun k hk hm => ?_⟩
  · have := hM k hm; have : lab k = 1 := hk; omega
  · have := hM k hm; have : lab k = 2 := hk; omega
  · have := hM k hm; have : lab k = 3 := hk; omega
  · have := hM k hm; have := h.out k hk; omega
theorem L5.keepN {w0 w w' : World} {lab : Nat → Nat} {p q : Nat} {P : Pr} {ws : List Int} {up : Bool} (h : L5 w0 lab w p q P ws up) (hu : Upd Non w w') : L5 w0 lab w' p q P ws up := h.keep hu (fun _ h => h.elim)

/-- The node's contents changed, or whether it is up. -/
theorem L5.setNode {w0 w w' : World} {lab : Nat → Nat} {p q : Nat} {P : Pr} {ws ws' : List Int} {up up' : Bool} (h : L5 w0 lab w p q P ws up) (hn : NodeR w' (At lab 3) q ws' up') (hu : Upd (At lab 3) w w') (hw : Wf ws') : L5 w0 lab w' p q P ws' up' := by
  refine ⟨h.pair.keep hu (at_ne (by decide)) (at_ne (by decide)), hn, h.out, h.ok, hw, h.upd.trans hu fun k hk hm => ?_⟩
  have := h.out k hk
  have h3 : lab k = 3 := hm
  omega
theorem L5.setPair {w0 w w' : World} {lab : Nat → Nat} {p q : Nat} {P P' : Pr} {ws : List Int} {up : Bool} (h : L5 w0 lab w p q P ws up) (hp : PairR w' (At lab 1) (At lab 2) p P') (hu : Upd (At lab 1) w w') (ho : P'.Ok) : L5 w0 lab w' p q P' ws up := by
  refine ⟨hp, h.node.keep hu (at_ne (by decide)), h.out, ho, h.wf, h.upd.trans hu fun k hk hm => ?_⟩
  have := h.out k hk
  have h3 : lab k = 1 := hm
  omega
theorem l5_start {w0 w1 w2 : World} {p q : Nat} {ws : List Int} {up : Bool} {P : Pr} (hN : NodeR w1 (New w0 w1) q ws up) (h1 : Upd Non w0 w1) (hP : PairR w2 (New w1 w2) Non p P) (h2 : Upd Non w1 w2) (ho : P.Ok) (hw : Wf ws) :
    ∃ lab : Nat → Nat, L5 w0 lab w2 p q P ws up ∧ ∀ k, w2.heap.size ≤ k → lab k = 9 := by
  have s1 := h1.size
  have s2 := h2.size
  refine ⟨fun k => if k < w0.heap.size then 0 else if k < w1.heap.size then 3 else if k < w2.heap.size then 1 else 9, ⟨hP.mono (fun k hk hl => ?_) (fun k hk _ => hk.elim), (hN.mono (F' := At (fun k => if k < w0.heap.size then 0 else if k < w1.heap.size then 3 else if k < w2.heap.size then 1 else 9) 3) (fun k hk hl => ?_)).keep h2 (fun _ _ h => h), fun k hk => by simp [hk], ho, hw, h1.tr h2⟩, fun k hk => ?_⟩
  · have := hk.1
    have := hk.2
    show (if k < w0.heap.size then 0 else if k < w1.heap.size then 3 else if k < w2.heap.size then 1 else 9) = 1
    rw [if_neg (by omega), if_neg (by omega), if_pos (by omega)]
  · have := hk.1
    have := hk.2
    show (if k < w0.heap.size then 0 else if k < w1.heap.size then 3 else if k < w2.heap.size then 1 else 9) = 3
    rw [if_neg (by omega), if_pos (by omega)]
  · dsimp only
    rw [if_neg (by omega), if_neg (by omega), if_neg (by omega)]

/-- What the labels of old blocks may turn to. -/
def LabUp (w : World) (lab lab' : Nat → Nat) : Prop := ∀ k, k < w.heap.size → lab' k = lab k ∨ (lab k = 1 ∧ lab' k = 9)
theorem LabUp.ge {w : World} {lab lab' : Nat → Nat} (h : LabUp w lab lab') {k t : Nat} (hk : k < w.heap.size) (ht : lab k = t) (h1 : t ≠ 1) : lab' k = t := by
  rcases h k hk with h | ⟨h, _⟩
  · rw [h, ht]
  · omega

def L5Post (w0 w : World) (lab : Nat → Nat) (p q : Nat) (P : Pr) (ws : List Int) (up : Bool) (v : Vb) (e : Ending) (w' : World) : Prop :=
  e = .returned (.int .i64 0) ∧ ∃ lab', L5 w0 lab' w' p q (P.push v) ws up ∧ LabUp w lab lab' ∧ (∀ k, w.heap.size ≤ k → lab' k = 1 ∨ lab' k = 2) ∧ Upd (At lab 1) w w'
theorem L5.post {w0 w : World} {lab : Nat → Nat} {p q : Nat} {P : Pr} {ws : List Int} {up : Bool} (h : L5 w0 lab w p q P ws up) {J : Blk} {v : Vb} {s : Value} {lines : Int} (hv : VWords w J v s) (hg : GoodV v) (hE : postE P v lines = 0) (hl : P.verbs.length < 1024) :
    Calls Try.prog 89 #[.pointer (some ⟨p, 0, none⟩), .agg (vbC v s), .int .i64 lines] w (L5Post w0 w lab p q P ws up v) := by
  refine (post_lab h.pair (by decide) hv hg.wlen hE).mono ?_
  rintro e w' ⟨he, hu, lab', hp, ho, hn⟩
  refine ⟨he, lab', ⟨hp, (h.node.relab (lab' := lab') (f' := 3) fun k hl hk => by rw [ho k hl]; exact hk).keep hu (fun k hk hm => ?_), fun k hk => ?_, h.ok.push hg hl, h.wf, h.upd.trans hu fun k hk hm => ?_⟩, fun k hk => .inl (ho k hk), hn, hu⟩
  · have h1 : lab k = 1 := hm
    have h3 : lab' k = 3 := hk
    by_cases hlt : k < w.heap.size
    · rw [ho k hlt] at h3; omega
    · rcases hn k (by omega) with e | e <;> omega
  · have := h.upd.size
    rw [ho k (by omega)]; exact h.out k hk
  · have := h.out k hk
    have h3 : lab k = 1 := hm
    omega
def L5Step (w0 w : World) (lab : Nat → Nat) (p q : Nat) (P : Pr) (ws : List Int) (up : Bool) (e : Ending) (w' : World) : Prop :=
  ∃ (lab' : Nat → Nat) (A : Option Addr) (cap : Nat), e = .returned (.tuple #[.agg #[.int .i64 (stepV P ws up).code, .slice A (stepV P ws up).done.length cap], .bool (stepV P ws up).is]) ∧ L5 w0 lab' w' p q (stepV P ws up).pair (stepV P ws up).ws up ∧
    Own w' (At lab' 9) 36 1 (.slice A (stepV P ws up).done.length cap) (stepV P ws up).done.length (u64s (stepV P ws up).done) ∧ LabUp w lab lab' ∧ (∀ k, w.heap.size ≤ k → lab' k = 1 ∨ lab' k = 9) ∧ Upd (fun k => lab k = 1 ∨ lab k = 3) w w'
theorem L5.step {w0 w : World} {lab : Nat → Nat} {p q : Nat} {P : Pr} {ws : List Int} {up : Bool} (h : L5 w0 lab w p q P ws up) :
    Calls Try.prog 91 #[.pointer (some ⟨p, 0, none⟩), .pointer (some ⟨q, 0, none⟩)] w (L5Step w0 w lab p q P ws up) := by
  refine (step_lab (r := 9) h.pair h.node (by decide) (by decide) (by decide) h.ok).mono ?_
  rintro e w' ⟨lab', A, cap, he, hp, hn, ho, hl, hnew, hu⟩
  obtain ⟨o1, o2, _, _, _⟩ := stepV_ok (up := up) h.ok h.wf
  refine ⟨lab', A, cap, he, ⟨hp, hn, fun k hk => ?_, o1, o2, h.upd.trans hu fun k hk hm => ?_⟩, ho, hl, hnew, hu⟩
  · have := h.upd.size
    have h0 := h.out k hk
    rcases hl k (by omega) with e | ⟨e, _⟩
    · rw [e]; exact h0
    · omega
  · have := h.out k hk
    omega

set_option maxRecDepth 100000 in
set_option maxHeartbeats 4000000 in
theorem awake5_calls (w : World) : Calls Try.prog 88 #[] w fun e w' => e = .returned (.bool true) ∧ Upd Non w w' := by
  go_enter Try.func88, Try.ntmps88
  go_wp2_with fail
  refine (new_ok 2 (by decide) (by decide)).mono ?_
  rintro e w1 ⟨q, rfl, hN1, hu1⟩
  have HN1 := Lib.hid hN1
  have HU1 := Lib.hid hu1
  clear hN1 hu1
  go_wp2_with fail
  refine (pnew_ok 0 1 0 (by decide) (by decide) (by decide) (by decide) (by decide) (by decide) _).mono ?_
  rintro e w2 ⟨p, rfl, hP2, hu2⟩
  obtain ⟨lab, hL, _⟩ := l5_start HN1.out HU1.out hP2 hu2 (pr_none_ok 0 1 0 (by decide) (by decide) (by decide) (by decide) (by decide) (by decide)) (wf_zeros _)
  have HL := Lib.hid hL
  clear hP2 hu2 HN1 HU1 hL
  go_wp2_with fail
  refine (HL.out.post (v := aw5) (lines := 2) (J := Non) (s := .slice none 0 0) (vwords_nil _ _ _ rfl) aw5_good (by decide) (by decide)).mono ?_
  rintro e w3 ⟨rfl, lab3, hL, _, _, _⟩
  have HL := Lib.hid hL
  clear hL
  go_wp2_with fail
  refine HL.out.step.mono ?_
  rintro e w4 ⟨lab4, A4, cap4, rfl, hL, _, _, _, _⟩
  rw [aw5_is]
  have hL : L5 w lab4 w4 p q aw5P (List.replicate 16 0) true := by rw [← aw5_w]; exact hL
  have HL := Lib.hid hL
  generalize (stepV ((Pr.none 0 1 0).push aw5) (List.replicate 16 0) true).code = c4
  generalize (stepV ((Pr.none 0 1 0).push aw5) (List.replicate 16 0) true).done.length = n4
  clear hL
  go_wp2_with fail
  have HL := Lib.hid (HL.out.keepN ((Upd.refl Non w4).alloc (.cells #[.int .i64 c4, .slice A4 n4 cap4] 69)))
  refine (fail_calls HL.out.node).mono ?_
  rintro e w5 ⟨rfl, hN, hU⟩
  have HL := Lib.hid ((HL.out.setNode hN hU HL.out.wf))
  clear hN hU
  go_wp2_with fail
  refine HL.out.step.mono ?_
  rintro e w6 ⟨lab6, A6, cap6, rfl, hL, _, _, _, _⟩
  rw [aw5_is2, aw5_code2, aw5_done2]
  have hW6 : Row (w6.alloc (.cells #[.int .i64 4, .slice A6 0 cap6] 69)) w6.heap.size 69 [.int .i64 4, .slice A6 0 cap6] := Row.new _ _ _
  have hL := hL.keepN ((Upd.refl Non w6).alloc (.cells #[.int .i64 4, .slice A6 0 cap6] 69))
  have HQ := pending_calls hL.pair
  rw [aw5_len2] at HQ
  have HQ := Lib.hid HQ
  have HU := Lib.hid hL.upd
  clear hL hW6
  go_wp2_with (go_at_call 90; (with_reducible refine HQ.out.mono ?_); rintro e w' ⟨rfl, rfl⟩)
  go_ret
  exact ⟨rfl, HU.out⟩
end Go.Proofs.Ytlhbikiggmdolaa
