/- The walk of QueuepairNew. -/
import Derived.Test.YtlhbikiggmdolaaLaw5A
import Derived.Deep.DeepCutAuto
namespace Go.Proofs.Ytlhbikiggmdolaa
open Go.RowKit

def N5Cut (w : World) (s0 s1 s2 : Value) (wr : World) : Prop := ∃ c i n : Int, s0 = .int .i64 c ∧ s1 = .int .i64 i ∧ s2 = .int .i64 n ∧ w = wr

set_option maxRecDepth 100000 in
set_option maxHeartbeats 4000000 in
theorem queuepairNew_any (w : World) (client inc node : Int) (near : Bool) :
    Calls Try.prog 15 #[.int .i64 client, .int .i64 inc, .int .i64 node, .bool near] w fun e w' => e = .returned (.bool true) ∧ Upd Non w w' := by
  have HP1 := Lib.hid (fun w => pickN client 9 w (by decide) (by decide))
  have HP2 := Lib.hid (fun w => pickN inc 210 w (by decide) (by decide))
  have HP3 := Lib.hid (fun w => pickN node 8 w (by decide) (by decide))
  have HA := Lib.hid (fun w => awake5_calls w)
  go_enter Try.func15, Try.ntmps15
  go_upto_if 12 with fail
  go_cut [0, 1, 2] (fun s0 s1 s2 wr => N5Cut w s0 s1 s2 wr)
  case first =>
    cases near
    · go_wp2_with fail
      go_meet
      exact ⟨_, _, _, rfl, rfl, rfl, rfl⟩
    · go_wp2_with fail
      refine (HP1.out _).mono ?_
      rintro e w' ⟨a, _, _, rfl, rfl⟩
      go_wp2_with fail
      refine (HP2.out _).mono ?_
      rintro e w' ⟨b, _, _, rfl, rfl⟩
      go_wp2_with fail
      refine (HP3.out _).mono ?_
      rintro e w' ⟨c, _, _, rfl, rfl⟩
      go_wp2_with fail
      go_meet
      exact ⟨_, _, _, rfl, rfl, rfl, rfl⟩
  case rest =>
    obtain ⟨c, i, n, rfl, rfl, rfl, rfl⟩ := hcut
    clear HP1 HP2 HP3
    by_cases h1 : c < 0 ∨ 6 ≤ c
    · have HN := Lib.hid (pnew_arg c i n h1 w)
      by_cases h2 : c < 0
      all_goals
        go_wp2_with (first
          | (go_at_call 92; (with_reducible refine HN.out.mono ?_); rintro e w' ⟨rfl, rfl⟩)
          | (go_at_call 88; (with_reducible refine (HA.out _).mono ?_); rintro e w2 ⟨rfl, hu⟩; have HU := Lib.hid hu; clear hu))
        go_ret
        exact ⟨rfl, HU.out⟩
    · have c0 : 0 ≤ c := by omega
      have c1 : c < 6 := by omega
      clear h1
      by_cases h2 : i < 0 ∨ 59 < i ∨ n < 0 ∨ 5 ≤ n
      · have HN := Lib.hid (pnew_range c i n c0 c1 h2 w)
        by_cases g1 : i < 0
        · clear h2
          go_wp2_with (first
            | (go_at_call 92; (with_reducible refine HN.out.mono ?_); rintro e w' ⟨rfl, rfl⟩)
            | (go_at_call 88; (with_reducible refine (HA.out _).mono ?_); rintro e w2 ⟨rfl, hu⟩; have HU := Lib.hid hu; clear hu))
          go_ret
          exact ⟨rfl, HU.out⟩
        by_cases g2 : 59 < i
        · clear h2
          go_wp2_with (first
            | (go_at_call 92; (with_reducible refine HN.out.mono ?_); rintro e w' ⟨rfl, rfl⟩)
            | (go_at_call 88; (with_reducible refine (HA.out _).mono ?_); rintro e w2 ⟨rfl, hu⟩; have HU := Lib.hid hu; clear hu))
          go_ret
          exact ⟨rfl, HU.out⟩
        by_cases g3 : n < 0
        · clear h2
          go_wp2_with (first
            | (go_at_call 92; (with_reducible refine HN.out.mono ?_); rintro e w' ⟨rfl, rfl⟩)
            | (go_at_call 88; (with_reducible refine (HA.out _).mono ?_); rintro e w2 ⟨rfl, hu⟩; have HU := Lib.hid hu; clear hu))
          go_ret
          exact ⟨rfl, HU.out⟩
        have g4 : 5 ≤ n := by omega
        clear h2
        go_wp2_with (first
          | (go_at_call 92; (with_reducible refine HN.out.mono ?_); rintro e w' ⟨rfl, rfl⟩)
          | (go_at_call 88; (with_reducible refine (HA.out _).mono ?_); rintro e w2 ⟨rfl, hu⟩; have HU := Lib.hid hu; clear hu))
        go_ret
        exact ⟨rfl, HU.out⟩
      · have g1 : 0 ≤ i := by omega
        have g2 : i ≤ 59 := by omega
        have g3 : 0 ≤ n := by omega
        have g4 : n < 5 := by omega
        clear h2
        go_wp2_with fail
        refine (pnew_ok c i n c0 c1 g1 g2 g3 g4 _).mono ?_
        rintro e w1 ⟨p, rfl, hP, hu1⟩
        have HP := Lib.hid hP
        have HU1 := Lib.hid hu1
        clear hP hu1
        go_wp2_with fail
        refine (HA.out _).mono ?_
        rintro e w2 ⟨rfl, hu2⟩
        have hP2 := HP.out.keep hu2 (fun _ _ h => h) (fun _ _ h => h)
        have HC := Lib.hid (pclient_calls hP2)
        have HI := Lib.hid (pinc_calls hP2)
        have HN := Lib.hid (pnode_calls hP2)
        have HQ := Lib.hid (show Calls Try.prog 90 #[.pointer (some ⟨p, 0, none⟩)] w2 fun e w' => e = .returned (.int .i64 0) ∧ w2 = w' from pending_calls hP2)
        have HU2 := Lib.hid (HU1.out.tr hu2)
        clear hP2 hu2
        dsimp only [Pr.none] at HC HI HN
        go_wp2_with (first
          | (go_at_call 93; (with_reducible refine HC.out.mono ?_); rintro e w' ⟨rfl, rfl⟩)
          | (go_at_call 94; (with_reducible refine HI.out.mono ?_); rintro e w' ⟨rfl, rfl⟩)
          | (go_at_call 95; (with_reducible refine HN.out.mono ?_); rintro e w' ⟨rfl, rfl⟩)
          | (go_at_call 90; (with_reducible refine HQ.out.mono ?_); rintro e w' ⟨rfl, rfl⟩))
        go_ret
        exact ⟨rfl, HU2.out⟩
theorem queuepairNew_row (a : Int) (_wa : (Lit.int .i64 a).wf = true) (b : Int) (_wb : (Lit.int .i64 b).wf = true) (c : Int) (_wc : (Lit.int .i64 c).wf = true) (d : Bool) (w : World) :
    Calls Try.prog 15 #[.int .i64 a, .int .i64 b, .int .i64 c, .bool d] w fun e w' => e = .returned (.bool true) ∧ Upd Non w w' := queuepairNew_any w a b c d
end Go.Proofs.Ytlhbikiggmdolaa
