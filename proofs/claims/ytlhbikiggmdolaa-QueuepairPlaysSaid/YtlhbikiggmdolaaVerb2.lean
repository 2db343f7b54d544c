/- The reference's Valid; it answers as the program's. -/
import Derived.Test.YtlhbikiggmdolaaVerb
import Derived.Deep.DeepCutAuto
namespace Go.Proofs.Ytlhbikiggmdolaa
open Go.RowKit

theorem validE_1 (v : Vb) (nodes lines : Int) (h : cntV v < 1) : validE v nodes lines = 1 := by unfold validE; rw [if_pos h]
theorem validE_2 (v : Vb) (nodes lines : Int) (h : 1 ≤ cntV v) (hi : ¬ insideP v nodes lines) : validE v nodes lines = 2 := by
  unfold validE insideB; rw [if_neg (by omega), decide_eq_false hi]; rfl
theorem validE_3 (v : Vb) (nodes lines : Int) (h : 1 ≤ cntV v) (hi : insideP v nodes lines) (hl : fstL v ≤ lastL v ∧ lastL v < lstL v) : validE v nodes lines = 2 := by
  unfold validE insideB; rw [if_neg (by omega), decide_eq_true hi, if_neg (by simp), if_pos hl]
theorem validE_0 (v : Vb) (nodes lines : Int) (h : 1 ≤ cntV v) (hi : insideP v nodes lines) (hl : ¬ (fstL v ≤ lastL v ∧ lastL v < lstL v)) : validE v nodes lines = 0 := by
  unfold validE insideB; rw [if_neg (by omega), decide_eq_true hi, if_neg (by simp), if_neg hl]
def RvBad (node at_ cr nodes lines : Int) : Prop := nodes < 1 ∨ 5 < nodes ∨ lines < 1 ∨ 256 < lines ∨ node < 0 ∨ nodes ≤ node ∨ at_ < 0 ∨ lines * 8 ≤ at_ ∨ 1024 < cr
instance (node at_ cr nodes lines : Int) : Decidable (RvBad node at_ cr nodes lines) := by unfold RvBad; infer_instance
def RvCut (node at_ cr nodes lines : Int) (s : Value) : Prop := (s = .bool true ∧ RvBad node at_ cr nodes lines) ∨ (s = .bool false ∧ ¬ RvBad node at_ cr nodes lines)
theorem rv_yes {node at_ cr nodes lines : Int} (h : RvBad node at_ cr nodes lines) : RvCut node at_ cr nodes lines (.bool true) := .inl ⟨rfl, h⟩
theorem rv_no {node at_ cr nodes lines : Int} (h : ¬ RvBad node at_ cr nodes lines) : RvCut node at_ cr nodes lines (.bool false) := .inr ⟨rfl, h⟩

set_option maxRecDepth 100000 in
set_option maxHeartbeats 8000000 in
theorem refvalid_calls (v : Vb) (A : Option Addr) (cap : Nat) (nodes lines : Int) (w : World) :
    Calls Try.prog 59 #[.agg (vbC v (.slice A v.words.length cap)), .int .i64 nodes, .int .i64 lines] w fun e w' => e = .returned (.int .i64 (validE v nodes lines)) ∧ Upd Non w w' := by
  have HC := Lib.hid (fun w => refcount_calls v A cap w)
  have H1 := Lib.hid (validE_1 v nodes lines)
  have H2 := Lib.hid (validE_2 v nodes lines)
  have H3 := Lib.hid (validE_3 v nodes lines)
  have H0 := Lib.hid (validE_0 v nodes lines)
  unfold insideP at H2 H3 H0
  have HF : Hid (fstL v = v.at_ / 8) := Lib.hid rfl
  have HL : Hid (lstL v = (v.at_ + cntV v - 1) / 8) := Lib.hid rfl
  have HK : Hid (cntV v = if v.kind = 1 then v.n else if v.kind = 2 then v.words.length else if v.kind = 3 ∨ v.kind = 4 then 1 else 0) := Lib.hid rfl
  have HKR : Hid (refCntV v = if v.kind = 1 then v.n else if v.kind = 2 then v.words.length else 1) := Lib.hid rfl
  have HLA : Hid (lastL v = if v.kind = 1 then 3 else 2) := Lib.hid rfl
  unfold vbC
  unfold vbO at HC
  unfold vbC at HC
  generalize validE v nodes lines = ev at *
  generalize cntV v = cn at *
  generalize refCntV v = cr at *
  generalize fstL v = fl at *
  generalize lstL v = ll at *
  generalize lastL v = la at *
  obtain ⟨kind, node, at_, n, old, new_, words, key, boot⟩ := v
  dsimp only at *
  generalize words.length = len at *
  by_cases k1 : kind < 1
  · have e1 : cn = 0 := by have := HK.out; rw [if_neg (by omega), if_neg (by omega), if_neg (by omega)] at this; exact this
    have HZ := Lib.hid (H1.out (by omega))
    clear HK HKR H0 H1 H2 H3
    go_enter Try.func59, Try.ntmps59
    go_wp2_with fail
    go_ret
    exact ⟨ret_int HZ.out.symm, (Upd.refl _ _).alloc _⟩
  by_cases k2 : 4 < kind
  · have e1 : cn = 0 := by have := HK.out; rw [if_neg (by omega), if_neg (by omega), if_neg (by omega)] at this; exact this
    have HZ := Lib.hid (H1.out (by omega))
    clear HK HKR H0 H1 H2 H3
    go_enter Try.func59, Try.ntmps59
    go_wp2_with fail
    go_ret
    exact ⟨ret_int HZ.out.symm, (Upd.refl _ _).alloc _⟩
  by_cases k3 : kind = 1 ∧ n < 1
  · obtain ⟨rfl, k3⟩ := k3
    have e1 : cn = n := by have := HK.out; rw [if_pos rfl] at this; exact this
    clear k1 k2
    have HZ := Lib.hid (H1.out (by omega))
    clear HK HKR H0 H1 H2 H3
    go_enter Try.func59, Try.ntmps59
    go_wp2_with fail
    go_ret
    exact ⟨ret_int HZ.out.symm, (Upd.refl _ _).alloc _⟩
  by_cases k4 : kind = 2 ∧ (len : Int) < 1
  · obtain ⟨rfl, k4⟩ := k4
    have e1 : cn = len := by have := HK.out; rw [if_neg (by decide), if_pos rfl] at this; exact this
    clear k1 k2 k3
    have k4' : len < 1 := by omega
    have HZ := Lib.hid (H1.out (by omega))
    clear HK HKR H0 H1 H2 H3
    go_enter Try.func59, Try.ntmps59
    go_wp2_with fail
    go_ret
    exact ⟨ret_int HZ.out.symm, (Upd.refl _ _).alloc _⟩
  have hcn : 1 ≤ cn ∧ cr = cn := by
    have h1 := HK.out
    have h2 := HKR.out
    by_cases a1 : kind = 1
    · rw [if_pos a1] at h1 h2; omega
    · rw [if_neg a1] at h1 h2
      by_cases a2 : kind = 2
      · rw [if_pos a2] at h1 h2; omega
      · rw [if_neg a2] at h1 h2
        rw [if_pos (by omega)] at h1
        omega
  obtain ⟨g1, rfl⟩ := hcn
  have HLA2 : Hid (kind = 1 ∧ la = 3 ∨ kind ≠ 1 ∧ la = 2) := Lib.hid (by
    have := HLA.out
    by_cases a1 : kind = 1
    · rw [if_pos a1] at this; exact .inl ⟨a1, this⟩
    · rw [if_neg a1] at this; exact .inr ⟨a1, this⟩)
  have hkk : (kind = 1 ∧ 1 ≤ n) ∨ (kind = 2 ∧ 1 ≤ len) ∨ kind = 3 ∨ kind = 4 := by omega
  have HKK := Lib.hid hkk
  clear HK HKR HLA k1 k2 k3 k4 H1 hkk
  go_enter Try.func59, Try.ntmps59
  go_upto_region 1 with fail
  go_cut [38] (fun s wr => s = .bool false ∧ wr = w.alloc (.cells #[.int .i64 kind, .int .i64 node, .int .i64 at_, .int .i64 n, .int .u64 old, .int .u64 new_, .slice A len cap, .int .u64 key, .int .i64 boot] 62))
  case first =>
    rcases HKK.out with ⟨rfl, kn⟩ | ⟨rfl, kn⟩ | rfl | rfl
    · have kn2 : decide (n < 1) = false := decide_eq_false (by omega)
      go_wp2_with fail
      go_meet
      exact ⟨rfl, rfl⟩
    · have kn2 : decide (len < 1) = false := decide_eq_false (by omega)
      have kn3 : decide ((len : Int) < 1) = false := decide_eq_false (by omega)
      go_wp2_with fail
      go_meet
      exact ⟨rfl, rfl⟩
    all_goals
      go_wp2_with fail
      go_meet
      exact ⟨rfl, rfl⟩
  case rest =>
    obtain ⟨rfl, rfl⟩ := hcut
    go_upto_region 4 with (go_at_call 121; (with_reducible refine (HC.out _).mono ?_); rintro e w' ⟨rfl, rfl⟩)
    go_cut [81] (fun s wr => RvCut node at_ cr nodes lines s ∧ wr = (w.alloc (.cells #[.int .i64 kind, .int .i64 node, .int .i64 at_, .int .i64 n, .int .u64 old, .int .u64 new_, .slice A len cap, .int .u64 key, .int .i64 boot] 62)).alloc (.cells #[.int .i64 kind, .int .i64 node, .int .i64 at_, .int .i64 n, .int .u64 old, .int .u64 new_, .slice A len cap, .int .u64 key, .int .i64 boot] 62))
    case first =>
      clear H0 H2 H3 HLA2 HKK HF HL
      by_cases b0 : nodes < 1
      · have HY := Lib.hid (rv_yes (node := node) (at_ := at_) (cr := cr) (nodes := nodes) (lines := lines) (by unfold RvBad; omega))
        go_wp2_with fail
        go_meet
        exact ⟨HY.out, rfl⟩
      have c0 : 1 ≤ nodes := by omega
      clear b0
      by_cases b1 : 5 < nodes
      · have HY := Lib.hid (rv_yes (node := node) (at_ := at_) (cr := cr) (nodes := nodes) (lines := lines) (by unfold RvBad; omega))
        go_wp2_with fail
        go_meet
        exact ⟨HY.out, rfl⟩
      have c1 : nodes ≤ 5 := by omega
      clear b1
      by_cases b2 : lines < 1
      · have HY := Lib.hid (rv_yes (node := node) (at_ := at_) (cr := cr) (nodes := nodes) (lines := lines) (by unfold RvBad; omega))
        go_wp2_with fail
        go_meet
        exact ⟨HY.out, rfl⟩
      have c2 : 1 ≤ lines := by omega
      clear b2
      by_cases b3 : 256 < lines
      · have HY := Lib.hid (rv_yes (node := node) (at_ := at_) (cr := cr) (nodes := nodes) (lines := lines) (by unfold RvBad; omega))
        go_wp2_with fail
        go_meet
        exact ⟨HY.out, rfl⟩
      have c3 : lines ≤ 256 := by omega
      clear b3
      by_cases b4 : node < 0
      · have HY := Lib.hid (rv_yes (node := node) (at_ := at_) (cr := cr) (nodes := nodes) (lines := lines) (by unfold RvBad; omega))
        go_wp2_with fail
        go_meet
        exact ⟨HY.out, rfl⟩
      have c4 : 0 ≤ node := by omega
      clear b4
      by_cases b5 : nodes ≤ node
      · have HY := Lib.hid (rv_yes (node := node) (at_ := at_) (cr := cr) (nodes := nodes) (lines := lines) (by unfold RvBad; omega))
        go_wp2_with fail
        go_meet
        exact ⟨HY.out, rfl⟩
      have c5 : node < nodes := by omega
      clear b5
      by_cases b6 : at_ < 0
      · have HY := Lib.hid (rv_yes (node := node) (at_ := at_) (cr := cr) (nodes := nodes) (lines := lines) (by unfold RvBad; omega))
        go_wp2_with fail
        go_meet
        exact ⟨HY.out, rfl⟩
      have c6 : 0 ≤ at_ := by omega
      clear b6
      by_cases b7 : lines * 8 ≤ at_
      · have HY := Lib.hid (rv_yes (node := node) (at_ := at_) (cr := cr) (nodes := nodes) (lines := lines) (by unfold RvBad; omega))
        go_wp2_with fail
        go_meet
        exact ⟨HY.out, rfl⟩
      have c7 : at_ < lines * 8 := by omega
      clear b7
      by_cases b8 : 1024 < cr
      · have HY := Lib.hid (rv_yes (node := node) (at_ := at_) (cr := cr) (nodes := nodes) (lines := lines) (by unfold RvBad; omega))
        go_wp2_with fail
        go_meet
        exact ⟨HY.out, rfl⟩
      have c8 : cr ≤ 1024 := by omega
      clear b8
      have e0 : decide (nodes < 1) = false := decide_eq_false (by omega)
      have e1 : decide (5 < nodes) = false := decide_eq_false (by omega)
      have e2 : decide (lines < 1) = false := decide_eq_false (by omega)
      have e3 : decide (256 < lines) = false := decide_eq_false (by omega)
      have e4 : decide (node < 0) = false := decide_eq_false (by omega)
      have e5 : decide (nodes ≤ node) = false := decide_eq_false (by omega)
      have e6 : decide (at_ < 0) = false := decide_eq_false (by omega)
      have e7 : decide (lines * 8 ≤ at_) = false := decide_eq_false (by omega)
      have e8 : decide (1024 < cr) = false := decide_eq_false (by omega)
      have HY := Lib.hid (rv_no (node := node) (at_ := at_) (cr := cr) (nodes := nodes) (lines := lines) (by unfold RvBad; omega))
      go_wp2_with fail
      go_meet
      exact ⟨HY.out, rfl⟩
    case rest =>
      obtain ⟨hs, rfl⟩ := hcut
      have HU : Hid (Upd Non w ((w.alloc (.cells #[.int .i64 kind, .int .i64 node, .int .i64 at_, .int .i64 n, .int .u64 old, .int .u64 new_, .slice A len cap, .int .u64 key, .int .i64 boot] 62)).alloc (.cells #[.int .i64 kind, .int .i64 node, .int .i64 at_, .int .i64 n, .int .u64 old, .int .u64 new_, .slice A len cap, .int .u64 key, .int .i64 boot] 62))) := ((Upd.refl _ _).alloc _).alloc _
      rcases hs with ⟨rfl, hbad⟩ | ⟨rfl, hbad⟩
      · have HZ := Lib.hid (H2.out g1 (by unfold RvBad at hbad; omega))
        clear H0 H2 H3 hbad
        go_wp2_with fail
        go_ret
        exact ⟨ret_int HZ.out.symm, HU.out⟩
      · have hgood : 1 ≤ nodes ∧ nodes ≤ 5 ∧ 1 ≤ lines ∧ lines ≤ 256 ∧ 0 ≤ node ∧ node < nodes ∧ 0 ≤ at_ ∧ at_ < lines * 8 ∧ cr ≤ 1024 := by unfold RvBad at hbad; omega
        obtain ⟨c0, c1, c2, c3, c4, c5, c6, c7, c8⟩ := hgood
        clear hbad
        have k1 := wrapI (at_ + cr) (by omega) (by omega)
        have k2 := wrapI (at_ + cr - 1) (by omega) (by omega)
        have k3 : 0 ≤ at_ + cr - 1 := by omega
        have k4 := wrapD at_ (by omega) (by omega)
        have k5 := wrapD (at_ + cr - 1) (by omega) (by omega)
        rw [← HF.out] at k4
        rw [← HL.out] at k5
        have hfl : 0 ≤ fl := by rw [HF.out]; omega
        have hll : 0 ≤ ll := by rw [HL.out]; omega
        have hfl2 : fl ≤ 4096 := by rw [HF.out]; omega
        have hll2 : ll ≤ 4096 := by rw [HL.out]; omega
        go_wp2_with fail
        go_quiet (fail)
        clear k1 k2 k4 k5
        by_cases d1 : lines ≤ ll
        · have HZ := Lib.hid (H2.out g1 (by omega))
          clear H0 H2 H3
          go_wp2_with fail
          go_ret
          exact ⟨ret_int HZ.out.symm, HU.out.drewN _⟩
        have d1' : ll < lines := by omega
        clear d1
        by_cases d2 : 128 < ll - fl + 1
        · have HZ := Lib.hid (H2.out g1 (by omega))
          clear H0 H2 H3
          go_wp2_with fail
          go_ret
          exact ⟨ret_int HZ.out.symm, HU.out.drewN _⟩
        have d2' : ll - fl + 1 ≤ 128 := by omega
        clear d2
        rcases HLA2.out with ⟨rfl, rfl⟩ | ⟨hk1, rfl⟩
        · skip
          clear HKK
          by_cases d3 : fl ≤ 3
          · by_cases d4 : 3 < ll
            · skip
              have HZ := Lib.hid (H3.out g1 (by omega) (by omega))
              clear H0 H2 H3
              go_wp2_with fail
              go_ret
              exact ⟨ret_int HZ.out.symm, HU.out.drewN _⟩
            · skip
              have d4' : ll ≤ 3 := by omega
              have HZ := Lib.hid (H0.out g1 (by omega) (by omega))
              clear H0 H2 H3
              go_wp2_with fail
              go_ret
              exact ⟨ret_int HZ.out.symm, HU.out.drewN _⟩
          · skip
            have d3' : 3 < fl := by omega
            have HZ := Lib.hid (H0.out g1 (by omega) (by omega))
            clear H0 H2 H3
            go_wp2_with fail
            go_ret
            exact ⟨ret_int HZ.out.symm, HU.out.drewN _⟩
        · skip
          have kb : (kind == 1) = false := by simpa using hk1
          have kb2 : (kind != 1) = true := by simpa using hk1
          clear hk1 HKK
          by_cases d3 : fl ≤ 2
          · by_cases d4 : 2 < ll
            · skip
              have d5 : fl < 3 := by omega
              have d6 : 3 ≤ ll := by omega
              have HZ := Lib.hid (H3.out g1 (by omega) (by omega))
              clear H0 H2 H3
              go_wp2_with fail
              go_ret
              exact ⟨ret_int HZ.out.symm, HU.out.drewN _⟩
            · skip
              have d4' : ll < 3 := by omega
              have d5 : fl < 3 := by omega
              have HZ := Lib.hid (H0.out g1 (by omega) (by omega))
              clear H0 H2 H3
              go_wp2_with fail
              go_ret
              exact ⟨ret_int HZ.out.symm, HU.out.drewN _⟩
          · skip
            have d3' : 3 ≤ fl := by omega
            have HZ := Lib.hid (H0.out g1 (by omega) (by omega))
            clear H0 H2 H3
            go_wp2_with fail
            go_ret
            exact ⟨ret_int HZ.out.symm, HU.out.drewN _⟩
end Go.Proofs.Ytlhbikiggmdolaa
