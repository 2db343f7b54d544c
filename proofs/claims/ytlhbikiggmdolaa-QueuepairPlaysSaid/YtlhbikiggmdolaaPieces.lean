/- The parts of a verb. -/
import Derived.RangeFuncNested
import Derived.RangeFuncBound
import Derived.RangeFuncCalls
import Derived.RangeFuncLeaves
import Derived.RangeFuncBox
import Derived.Shelf.Abstract
import Derived.Shelf.RegionOpen
import Derived.WalkKit
import Derived.OwnWalkIn
import Derived.TacticsInMore
import Derived.LoopNIn
import Derived.LoopIn
import Derived.Maps.AppendAt
import Derived.Test.YtlhbikiggmdolaaVerb3
namespace Go.Proofs.Ytlhbikiggmdolaa
open Go.RowKit Go.Shelf

/-- The parts of count words from an address on: first word and number of words. -/
def pcsN : Nat → Nat → Nat → List (Nat × Nat)
  | 0, _, _ => []
  | f + 1, a, left => if left = 0 then [] else (a, min left (8 - a % 8)) :: pcsN f (a + min left (8 - a % 8)) (left - min left (8 - a % 8))
def pcsV (v : Vb) : List (Nat × Nat) := pcsN (cntV v).toNat v.at_.toNat (cntV v).toNat
theorem pcsN_zero (f a : Nat) : pcsN f a 0 = [] := by cases f <;> rfl
theorem pcsN_cons {f a left : Nat} (h : 0 < left) (hf : left ≤ f) : ∃ g, left - min left (8 - a % 8) ≤ g ∧ pcsN f a left = (a, min left (8 - a % 8)) :: pcsN g (a + min left (8 - a % 8)) (left - min left (8 - a % 8)) := by
  match f, hf with
  | 0, hf => omega
  | f + 1, hf =>
    refine ⟨f, by omega, ?_⟩
    conv => lhs; unfold pcsN
    rw [if_neg (by omega)]
theorem pcsN_length (f a left : Nat) : (pcsN f a left).length ≤ f := by
  induction f generalizing a left with
  | zero => simp [pcsN]
  | succ f ih =>
    unfold pcsN
    split
    · simp
    · simp only [List.length_cons]; have := ih (a + min left (8 - a % 8)) (left - min left (8 - a % 8)); omega
def encP (x : Nat × Nat) : Value := .agg #[.int .i64 x.1, .int .i64 x.2]
def pcC (l : List (Nat × Nat)) : List Value := l.flatMap fun x => [.int .i64 x.1, .int .i64 x.2]
theorem pcC_length (l : List (Nat × Nat)) : (pcC l).length = l.length * 2 := by
  induction l with
  | nil => rfl
  | cons x l ih => simp only [pcC, List.flatMap_cons, List.length_append, List.length_cons, List.length_nil] at ih ⊢; omega
theorem pcC_snoc (l : List (Nat × Nat)) (x : Nat × Nat) : pcC (l ++ [x]) = pcC l ++ [.int .i64 x.1, .int .i64 x.2] := by simp [pcC]

attribute [local go_sem] Oper.semAt_some

/-- What the closure reads: a verb in a block. -/
def VbAt (n₀ Bn : Nat) (v : Vb) (s : Value) (W : World) : Prop := Bn < n₀ ∧ Row W Bn 62 (vbC v s).toList

def PcRel (ps : List (Nat × Nat)) (J : List (Nat × Nat) → World → Prop) (x y : Value) (wr : World) : Prop :=
  ∃ (pre : List (Nat × Nat)) (f a left : Nat), x = .int .i64 a ∧ y = .int .i64 left ∧ ps = pre ++ pcsN f a left ∧ left ≤ f ∧ a + left ≤ 8192 ∧ J pre wr

set_option maxRecDepth 100000 in
set_option maxHeartbeats 2000000 in
theorem pieces1_in (n : Nat) (hn : 2 ≤ n) (l Bn : Nat) (v : Vb) (A : Option Addr) (cap : Nat) (h0 : 0 ≤ v.at_) (h1 : v.at_ ≤ 4096) (h2 : 1 ≤ cntV v) (h3 : cntV v ≤ 4096) (J Jx : List (Nat × Nat) → World → Prop)
    (W : World)
    (hJ : ∀ s o W', J s W' → J s (W'.alloc o)) (hJd : ∀ s W', J s W' → J s W'.drew)
    (hY : ∀ pre x W, J pre W → pre.length < (pcsV v).length → YieldAt Fence.wide (n - 1) Try.prog l #[encP x] W fun e W' =>
      (e = .returned (.bool true) ∧ J (pre ++ [x]) W') ∨ (e = .returned (.bool false) ∧ Jx (pre ++ [x]) W'))
    (hB : Row W Bn 62 (vbC v (.slice A v.words.length cap)).toList) (hJ0 : J [] W) :
    CallsIn Fence.wide n Try.prog 181 #[.func (.yield l) #[] #[], .pointer (some ⟨Bn, 0, none⟩)] W fun e W' => (∃ v, e = .returned v) ∧
      ((∃ ys, ys = pcsV v ∧ J ys W') ∨ (∃ pre, pre <+: pcsV v ∧ Jx pre W')) := by
  have HC := Lib.hid (fun w => count_calls v A cap w)
  have HP : Hid (pcsV v = pcsN (cntV v).toNat v.at_.toNat (cntV v).toNat) := Lib.hid rfl
  unfold vbC at hB
  unfold vbO vbC at HC
  generalize pcsV v = ps at *
  generalize cntV v = cn at *
  obtain ⟨kind, node, at_, nn, old, new_, words, key, boot⟩ := v
  dsimp only at *
  generalize words.length = len at *
  obtain ⟨d0, d1, d2, d3, d4, d5, d6, d7, d8⟩ := vb_cells hB
  obtain ⟨e0, e1, e2, e3, e4, e5, e6, e7, e8⟩ := vb_cells (hB.alloc (.cells #[.int .i64 kind, .int .i64 node, .int .i64 at_, .int .i64 nn, .int .u64 old, .int .u64 new_, .slice A len cap, .int .u64 key, .int .i64 boot] 62))
  have HB := Lib.hid hB
  have HY := Lib.hid hY
  have HJ := Lib.hid hJ
  have HJD := Lib.hid hJd
  have HJ0 := Lib.hid hJ0
  clear hB hY hJ hJd hJ0
  have hmix : Try.prog.follows .mixedOrders = true := by kernel_rfl
  refine callsIn_of_wp Try.func181 rfl trivial ?_ rfl
  simp only [Try.ntmps181, List.size_toArray, List.length_cons, List.length_nil, Nat.reduceAdd, Nat.reduceSub, Array.replicate_succ, Array.replicate_zero, List.push_toArray, List.append_toArray, List.nil_append, List.cons_append]
  gi_wp2_with fail
  gi_region_with_o (refine ⟨trivial, (fun _ => by omega), ?_⟩; gi_at_call 125; refine (callsIn_wide.2 (HC.out _)).mono ?_; rintro e w' ⟨rfl, rfl⟩)
  all_goals
    clear d0 d1 d2 d3 d4 d5 d6 d7 d8 e0 e1 e2 e3 e4 e5 e6 e7 e8
    gi_wp2_with fail
    simp only [Act.put, List.getElem_toArray, List.getElem_cons_succ, List.getElem_cons_zero, List.setIfInBounds_toArray, List.set_cons_succ, List.set_cons_zero]
    gi_loopw [3, 4] (fun x y wr => PcRel ps J x y wr) (fun _ y _ => (intOf y).toNat)
    case atStart => exact ⟨[], cn.toNat, at_.toNat, cn.toNat, by congr 1; omega, by congr 1; omega, HP.out, Nat.le_refl _, by omega, HJD.out _ _ (HJ.out _ _ _ HJ0.out)⟩
    case round =>
      obtain ⟨pre, f, a, left, rfl, rfl, hps, hlf, hal, hJs⟩ := hrel
      by_cases hz : left = 0
      · subst hz
        gi_wp2_with fail
        go_end0
        exact ⟨⟨_, rfl⟩, .inl ⟨pre, by rw [hps, pcsN_zero, List.append_nil], hJs⟩⟩
      · have hpos : 0 < left := by omega
        obtain ⟨g, hg, hcons⟩ := pcsN_cons (a := a) hpos hlf
        obtain ⟨m, hm⟩ : ∃ m, min left (8 - a % 8) = m := ⟨_, rfl⟩
        have hm1 : 1 ≤ m := by omega
        have hm2 : m ≤ left := by omega
        rw [hm] at hg hcons
        rw [hcons] at hps
        obtain ⟨fn, tmps, assign, body, hy, hR⟩ := HY.out pre (a, m) wr hJs (by rw [hps]; simp)
        have HPS := Lib.hid hps
        unfold encP at hy
        dsimp only at hy
        clear hps hcons hz
        have hend : ∀ (W3 : World), J (pre ++ [(a, m)]) W3 → PcRel ps J (.int .i64 ((a : Int) + (m : Int))) (.int .i64 ((left : Int) - (m : Int))) W3 := fun W3 hj =>
          ⟨pre ++ [(a, m)], g, a + m, left - m, by congr 1, by congr 1; omega, by rw [List.append_assoc]; exact HPS.out, hg, by omega, hj⟩
        have HE := Lib.hid hend
        clear hend
        by_cases hmc : left ≤ 8 - a % 8
        · obtain rfl : left = m := by omega
          have hle : (left : Int) ≤ 8 - (a : Int) % 8 := by omega
          clear hm hmc
          gi_wp2_with fail
          refine ⟨(fun _ => by omega), ?_⟩
          refine hR.mono ?_
          rintro e W3 (⟨rfl, hJ3⟩ | ⟨rfl, hJx3⟩)
          · gi_wp2_with fail
            go_roundw
            case rel => have h := HE.out _ hJ3; rw [Int.sub_self] at h; exact h
            case measure => simp [intOf]; omega
          · gi_wp2_with fail
            refine bodyPost_ret (results_none rfl _ _ _) rfl ?_
            exact ⟨⟨_, rfl⟩, .inr ⟨pre ++ [_], ⟨_, by rw [List.append_assoc]; exact HPS.out.symm⟩, hJx3⟩⟩
        · have hmm : (8 : Int) - (a : Int) % 8 = (m : Int) := by omega
          have hlt : (m : Int) < (left : Int) := by omega
          have hnle : ¬ (left : Int) ≤ (m : Int) := by omega
          clear hm hmc
          gi_wp2_with fail
          refine ⟨(fun _ => by omega), ?_⟩
          refine hR.mono ?_
          rintro e W3 (⟨rfl, hJ3⟩ | ⟨rfl, hJx3⟩)
          · gi_wp2_with fail
            go_roundw
            case rel => exact HE.out _ hJ3
            case measure => simp [intOf]; omega
          · gi_wp2_with fail
            refine bodyPost_ret (results_none rfl _ _ _) rfl ?_
            exact ⟨⟨_, rfl⟩, .inr ⟨pre ++ [_], ⟨_, by rw [List.append_assoc]; exact HPS.out.symm⟩, hJx3⟩⟩

theorem pieces_stops (n : Nat) (hn : 2 ≤ n) (Bn : Nat) (v : Vb) (A : Option Addr) (cap : Nat) (h0 : 0 ≤ v.at_) (h1 : v.at_ ≤ 4096) (h2 : 1 ≤ cntV v) (h3 : cntV v ≤ 4096) (w : World) (hB : Row w Bn 62 (vbC v (.slice A v.words.length cap)).toList) (n₀ : Nat) :
    SeqStopsK Fence.wide n Try.prog 181 #[.pointer (some ⟨Bn, 0, none⟩)] (fun x : Nat × Nat => #[encP x]) (Below n₀) (fun ys => ys = pcsV v) (fun pre => pre <+: pcsV v) (pcsV v).length w := fun l J Jx W hW hJ _ hY hJ0 =>
  pieces1_in n hn l Bn v A cap h0 h1 h2 h3 J Jx W (fun s o W' hs => hJ s W' _ none hs (World.grownBy_alloc W' o none) (fun r e => by cases e)) (fun s W' hs => hJ s W' _ none hs ⟨rfl, rfl, rfl, Nat.le_refl _, fun _ _ _ => rfl⟩ (fun r e => by cases e))
    (fun pre x W1 hj hl => (hY pre x W1 hj hl).mono fun e W' h => h.imp (fun h => ⟨h.1, h.2.1⟩) id) ((Upd.of_below hW).rowN hB) hJ0

end Go.Proofs.Ytlhbikiggmdolaa
