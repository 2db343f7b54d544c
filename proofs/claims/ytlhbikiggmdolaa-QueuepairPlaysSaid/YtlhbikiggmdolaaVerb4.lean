/- What a memory node checks before it executes a piece. -/
import Derived.Test.YtlhbikiggmdolaaVerb3
namespace Go.Proofs.Ytlhbikiggmdolaa
open Go.RowKit

/-- What a node checks, of a valid verb. -/
def chkE (ctl rd : Bool) (inc door key boot vkey vboot : Int) : Int :=
  if ctl && rd then 0 else if inc < 0 ∨ inc < door then 5 else if ctl then 0 else if vboot < 0 ∨ vboot ≠ boot ∨ vkey ≠ key then 5 else 0
def rdB (v : Vb) : Bool := decide (v.kind = 1)
def chkV (v : Vb) (inc door key boot : Int) : Int := chkE (ctlB v) (rdB v) inc door key boot v.key v.boot
theorem chkE_inc {ctl rd : Bool} {inc door key boot vkey vboot : Int} (h1 : (ctl && rd) = false) (h2 : inc < 0 ∨ inc < door) : chkE ctl rd inc door key boot vkey vboot = 5 := by unfold chkE; rw [h1, if_neg (by simp), if_pos h2]
theorem chkE_ctl {rd : Bool} {inc door key boot vkey vboot : Int} (h2 : ¬ (inc < 0 ∨ inc < door)) : chkE true rd inc door key boot vkey vboot = 0 := by
  unfold chkE; cases rd
  · rw [if_neg (by simp), if_neg h2]; rfl
  · rfl
theorem chkE_bad {rd : Bool} {inc door key boot vkey vboot : Int} (h2 : ¬ (inc < 0 ∨ inc < door)) (h3 : vboot < 0 ∨ vboot ≠ boot ∨ vkey ≠ key) : chkE false rd inc door key boot vkey vboot = 5 := by
  unfold chkE; rw [if_neg (by simp), if_neg h2, if_neg (by simp), if_pos h3]
theorem chkE_ok {rd : Bool} {inc door key boot vkey vboot : Int} (h2 : ¬ (inc < 0 ∨ inc < door)) (h3 : ¬ (vboot < 0 ∨ vboot ≠ boot ∨ vkey ≠ key)) : chkE false rd inc door key boot vkey vboot = 0 := by
  unfold chkE; rw [if_neg (by simp), if_neg h2, if_neg (by simp), if_neg h3]
theorem chkE_rd {inc door key boot vkey vboot : Int} : chkE true true inc door key boot vkey vboot = 0 := rfl

set_option maxRecDepth 100000 in
set_option maxHeartbeats 8000000 in
theorem vcheck_calls (v : Vb) (A : Option Addr) (cap : Nat) (inc door key_ boot_ : Int) (w : World) (h : OkV v) (hi : inc < 9223372036854775808) (hb : v.boot < 9223372036854775808) :
    Calls Try.prog 173 #[.agg (vbC v (.slice A v.words.length cap)), .int .i64 inc, .int .u64 door, .int .u64 key_, .int .u64 boot_] w fun e w' => e = .returned (.int .i64 (chkV v inc door key_ boot_)) ∧ Upd Non w w' := by
  have HCL := Lib.hid (fun w => class_calls v A cap w h)
  have HE : Hid (chkV v inc door key_ boot_ = chkE (ctlB v) (rdB v) inc door key_ boot_ v.key v.boot) := Lib.hid rfl
  have HR : Hid (rdB v = decide (v.kind = 1)) := Lib.hid rfl
  clear h
  unfold vbC
  unfold vbC at HCL
  generalize chkV v inc door key_ boot_ = ev at *
  generalize ctlB v = cb at *
  generalize rdB v = rb at *
  obtain ⟨kind, node, at_, n, old, new_, words, key, boot⟩ := v
  dsimp only at *
  generalize words.length = len at *
  have hrow : Row (w.alloc (.cells #[.int .i64 kind, .int .i64 node, .int .i64 at_, .int .i64 n, .int .u64 old, .int .u64 new_, .slice A len cap, .int .u64 key, .int .i64 boot] 62)) w.heap.size 62 [.int .i64 kind, .int .i64 node, .int .i64 at_, .int .i64 n, .int .u64 old, .int .u64 new_, .slice A len cap, .int .u64 key, .int .i64 boot] := Row.new w _ _
  have HROW := Lib.hid hrow
  have HU0 : Hid (Upd Non w (w.alloc (.cells #[.int .i64 kind, .int .i64 node, .int .i64 at_, .int .i64 n, .int .u64 old, .int .u64 new_, .slice A len cap, .int .u64 key, .int .i64 boot] 62))) := (Upd.refl Non w).alloc _
  clear hrow
  go_enter Try.func173, Try.ntmps173
  go_wp2_with fail
  refine (HCL.out _).mono ?_
  rintro e w1 ⟨rfl, hu1⟩
  obtain ⟨d0, d1, d2, d3, d4, d5, d6, d7, d8⟩ := vb_cells (hu1.rowN HROW.out)
  have HU : Hid (Upd Non w w1) := HU0.out.tr hu1
  clear hu1 HROW HU0
  by_cases hk : kind = 1
  · subst hk
    obtain rfl : rb = true := HR.out
    cases cb
    · rw [show clsI false = 2 from rfl]
      by_cases g1 : inc < 0
      · skip
        have HZ : Hid (ev = 5) := Lib.hid (by rw [HE.out]; exact chkE_inc rfl (.inl g1))
        clear HE
        go_wp2_with fail
        go_ret
        exact ⟨ret_int HZ.out.symm, HU.out⟩
      have g1' : 0 ≤ inc := by omega
      by_cases g2 : inc < door
      · skip
        have HZ : Hid (ev = 5) := Lib.hid (by rw [HE.out]; exact chkE_inc rfl (.inr g2))
        clear HE
        go_wp2_with fail
        go_ret
        exact ⟨ret_int HZ.out.symm, HU.out⟩
      have gn : ¬ (inc < 0 ∨ inc < door) := by omega
      have GN := Lib.hid gn
      have g2' : door ≤ inc := by omega
      clear gn g1 g2
      by_cases g3 : boot < 0
      · skip
        have HZ : Hid (ev = 5) := Lib.hid (by rw [HE.out]; exact chkE_bad GN.out (.inl g3))
        clear HE
        go_wp2_with fail
        go_ret
        exact ⟨ret_int HZ.out.symm, HU.out⟩
      have g3' : 0 ≤ boot := by omega
      clear g3
      by_cases g4 : boot = boot_
      · by_cases g5 : key = key_
        · have HZ : Hid (ev = 0) := Lib.hid (by rw [HE.out]; exact chkE_ok GN.out (by omega))
          subst g4
          subst g5
          clear HE
          go_wp2_with fail
          go_ret
          exact ⟨ret_int HZ.out.symm, HU.out⟩
        · have HZ : Hid (ev = 5) := Lib.hid (by rw [HE.out]; exact chkE_bad GN.out (.inr (.inr g5)))
          subst g4
          have g6 : (key == key_) = false := by simpa using g5
          have g7 : (key != key_) = true := by simpa using g5
          clear HE g5
          go_wp2_with fail
          go_ret
          exact ⟨ret_int HZ.out.symm, HU.out⟩
      · have HZ : Hid (ev = 5) := Lib.hid (by rw [HE.out]; exact chkE_bad GN.out (.inr (.inl g4)))
        have g6 : (boot == boot_) = false := by simpa using g4
        have g7 : (boot != boot_) = true := by simpa using g4
        clear HE g4
        go_wp2_with fail
        go_ret
        exact ⟨ret_int HZ.out.symm, HU.out⟩
    · have HZ : Hid (ev = 0) := Lib.hid (by rw [HE.out]; rfl)
      rw [show clsI true = 1 from rfl]
      go_wp2_with fail
      go_ret
      exact ⟨ret_int HZ.out.symm, HU.out⟩
  · have hkb : (kind == 1) = false := by simpa using hk
    obtain rfl : rb = false := by rw [HR.out]; exact decide_eq_false hk
    clear hk
    cases cb
    · rw [show clsI false = 2 from rfl]
      by_cases g1 : inc < 0
      · skip
        have HZ : Hid (ev = 5) := Lib.hid (by rw [HE.out]; exact chkE_inc rfl (.inl g1))
        clear HE
        go_wp2_with fail
        go_ret
        exact ⟨ret_int HZ.out.symm, HU.out⟩
      have g1' : 0 ≤ inc := by omega
      by_cases g2 : inc < door
      · skip
        have HZ : Hid (ev = 5) := Lib.hid (by rw [HE.out]; exact chkE_inc rfl (.inr g2))
        clear HE
        go_wp2_with fail
        go_ret
        exact ⟨ret_int HZ.out.symm, HU.out⟩
      have gn : ¬ (inc < 0 ∨ inc < door) := by omega
      have GN := Lib.hid gn
      have g2' : door ≤ inc := by omega
      clear gn g1 g2
      by_cases g3 : boot < 0
      · skip
        have HZ : Hid (ev = 5) := Lib.hid (by rw [HE.out]; exact chkE_bad GN.out (.inl g3))
        clear HE
        go_wp2_with fail
        go_ret
        exact ⟨ret_int HZ.out.symm, HU.out⟩
      have g3' : 0 ≤ boot := by omega
      clear g3
      by_cases g4 : boot = boot_
      · by_cases g5 : key = key_
        · have HZ : Hid (ev = 0) := Lib.hid (by rw [HE.out]; exact chkE_ok GN.out (by omega))
          subst g4
          subst g5
          clear HE
          go_wp2_with fail
          go_ret
          exact ⟨ret_int HZ.out.symm, HU.out⟩
        · have HZ : Hid (ev = 5) := Lib.hid (by rw [HE.out]; exact chkE_bad GN.out (.inr (.inr g5)))
          subst g4
          have g6 : (key == key_) = false := by simpa using g5
          have g7 : (key != key_) = true := by simpa using g5
          clear HE g5
          go_wp2_with fail
          go_ret
          exact ⟨ret_int HZ.out.symm, HU.out⟩
      · have HZ : Hid (ev = 5) := Lib.hid (by rw [HE.out]; exact chkE_bad GN.out (.inr (.inl g4)))
        have g6 : (boot == boot_) = false := by simpa using g4
        have g7 : (boot != boot_) = true := by simpa using g4
        clear HE g4
        go_wp2_with fail
        go_ret
        exact ⟨ret_int HZ.out.symm, HU.out⟩
    · rw [show clsI true = 1 from rfl]
      by_cases g1 : inc < 0
      · skip
        have HZ : Hid (ev = 5) := Lib.hid (by rw [HE.out]; exact chkE_inc rfl (.inl g1))
        clear HE
        go_wp2_with fail
        go_ret
        exact ⟨ret_int HZ.out.symm, HU.out⟩
      have g1' : 0 ≤ inc := by omega
      by_cases g2 : inc < door
      · skip
        have HZ : Hid (ev = 5) := Lib.hid (by rw [HE.out]; exact chkE_inc rfl (.inr g2))
        clear HE
        go_wp2_with fail
        go_ret
        exact ⟨ret_int HZ.out.symm, HU.out⟩
      have gn : ¬ (inc < 0 ∨ inc < door) := by omega
      have GN := Lib.hid gn
      have g2' : door ≤ inc := by omega
      clear gn g1 g2
      have HZ : Hid (ev = 0) := Lib.hid (by rw [HE.out]; exact chkE_ctl GN.out)
      clear HE
      go_wp2_with fail
      go_ret
      exact ⟨ret_int HZ.out.symm, HU.out⟩
set_option maxRecDepth 100000 in
set_option maxHeartbeats 8000000 in
theorem refcheck_calls (v : Vb) (A : Option Addr) (cap : Nat) (inc door key_ boot_ : Int) (w : World) (h : OkV v) (hi : inc < 9223372036854775808) (hb : v.boot < 9223372036854775808) :
    Calls Try.prog 175 #[.agg (vbC v (.slice A v.words.length cap)), .int .i64 inc, .int .u64 door, .int .u64 key_, .int .u64 boot_] w fun e w' => e = .returned (.int .i64 (chkV v inc door key_ boot_)) ∧ Upd Non w w' := by
  have HCL := Lib.hid (fun w => control_calls v A cap w h)
  have HE : Hid (chkV v inc door key_ boot_ = chkE (ctlB v) (rdB v) inc door key_ boot_ v.key v.boot) := Lib.hid rfl
  have HR : Hid (rdB v = decide (v.kind = 1)) := Lib.hid rfl
  clear h
  unfold vbC
  unfold vbC at HCL
  generalize chkV v inc door key_ boot_ = ev at *
  generalize ctlB v = cb at *
  generalize rdB v = rb at *
  obtain ⟨kind, node, at_, n, old, new_, words, key, boot⟩ := v
  dsimp only at *
  generalize words.length = len at *
  have hrow : Row (w.alloc (.cells #[.int .i64 kind, .int .i64 node, .int .i64 at_, .int .i64 n, .int .u64 old, .int .u64 new_, .slice A len cap, .int .u64 key, .int .i64 boot] 62)) w.heap.size 62 [.int .i64 kind, .int .i64 node, .int .i64 at_, .int .i64 n, .int .u64 old, .int .u64 new_, .slice A len cap, .int .u64 key, .int .i64 boot] := Row.new w _ _
  have HROW := Lib.hid hrow
  have HU0 : Hid (Upd Non w (w.alloc (.cells #[.int .i64 kind, .int .i64 node, .int .i64 at_, .int .i64 n, .int .u64 old, .int .u64 new_, .slice A len cap, .int .u64 key, .int .i64 boot] 62))) := (Upd.refl Non w).alloc _
  clear hrow
  go_enter Try.func175, Try.ntmps175
  by_cases hk : kind = 1
  · subst hk
    obtain rfl : rb = true := HR.out
    go_wp2_with fail
    refine (HCL.out _).mono ?_
    rintro e w1 ⟨rfl, hu1⟩
    have HROW1 := Lib.hid (hu1.rowN HROW.out)
    obtain ⟨d0, d1, d2, d3, d4, d5, d6, d7, d8⟩ := vb_cells HROW1.out
    have HU : Hid (Upd Non w w1) := HU0.out.tr hu1
    clear hu1 HROW HU0
    have HROW := HROW1
    clear HROW1
    cases cb
    · skip
      by_cases g1 : inc < 0
      · skip
        have HZ : Hid (ev = 5) := Lib.hid (by rw [HE.out]; exact chkE_inc rfl (.inl g1))
        clear HE
        go_wp2_with fail
        go_ret
        exact ⟨ret_int HZ.out.symm, HU.out⟩
      have g1' : 0 ≤ inc := by omega
      by_cases g2 : inc < door
      · skip
        have HZ : Hid (ev = 5) := Lib.hid (by rw [HE.out]; exact chkE_inc rfl (.inr g2))
        clear HE
        go_wp2_with fail
        go_ret
        exact ⟨ret_int HZ.out.symm, HU.out⟩
      have gn : ¬ (inc < 0 ∨ inc < door) := by omega
      have GN := Lib.hid gn
      have g2' : door ≤ inc := by omega
      clear gn g1 g2
      go_wp2_with fail
      refine (HCL.out _).mono ?_
      rintro e w2 ⟨rfl, hu2⟩
      clear d0 d1 d2 d3 d4 d5 d6 d7 d8
      obtain ⟨d0, d1, d2, d3, d4, d5, d6, d7, d8⟩ := vb_cells (hu2.rowN HROW.out)
      have HU2 := Lib.hid (HU.out.tr hu2)
      clear hu2 HU
      have HU := HU2
      clear HU2
      by_cases g3 : boot < 0
      · skip
        have HZ : Hid (ev = 5) := Lib.hid (by rw [HE.out]; exact chkE_bad GN.out (.inl g3))
        clear HE
        go_wp2_with fail
        go_ret
        exact ⟨ret_int HZ.out.symm, HU.out⟩
      have g3' : 0 ≤ boot := by omega
      clear g3
      by_cases g4 : boot = boot_
      · by_cases g5 : key = key_
        · have HZ : Hid (ev = 0) := Lib.hid (by rw [HE.out]; exact chkE_ok GN.out (by omega))
          subst g4
          subst g5
          clear HE
          go_wp2_with fail
          go_ret
          exact ⟨ret_int HZ.out.symm, HU.out⟩
        · have HZ : Hid (ev = 5) := Lib.hid (by rw [HE.out]; exact chkE_bad GN.out (.inr (.inr g5)))
          subst g4
          have g6 : (key == key_) = false := by simpa using g5
          have g7 : (key != key_) = true := by simpa using g5
          clear HE g5
          go_wp2_with fail
          go_ret
          exact ⟨ret_int HZ.out.symm, HU.out⟩
      · have HZ : Hid (ev = 5) := Lib.hid (by rw [HE.out]; exact chkE_bad GN.out (.inr (.inl g4)))
        have g6 : (boot == boot_) = false := by simpa using g4
        have g7 : (boot != boot_) = true := by simpa using g4
        clear HE g4
        go_wp2_with fail
        go_ret
        exact ⟨ret_int HZ.out.symm, HU.out⟩
    · have HZ : Hid (ev = 0) := Lib.hid (by rw [HE.out]; rfl)
      go_wp2_with fail
      go_ret
      exact ⟨ret_int HZ.out.symm, HU.out⟩
  · have hkb : (kind == 1) = false := by simpa using hk
    obtain rfl : rb = false := by rw [HR.out]; exact decide_eq_false hk
    clear hk
    have HU := HU0
    obtain ⟨d0, d1, d2, d3, d4, d5, d6, d7, d8⟩ := vb_cells HROW.out
    clear HU0
    cases cb
    · skip
      by_cases g1 : inc < 0
      · skip
        have HZ : Hid (ev = 5) := Lib.hid (by rw [HE.out]; exact chkE_inc rfl (.inl g1))
        clear HE
        go_wp2_with fail
        go_ret
        exact ⟨ret_int HZ.out.symm, HU.out⟩
      have g1' : 0 ≤ inc := by omega
      by_cases g2 : inc < door
      · skip
        have HZ : Hid (ev = 5) := Lib.hid (by rw [HE.out]; exact chkE_inc rfl (.inr g2))
        clear HE
        go_wp2_with fail
        go_ret
        exact ⟨ret_int HZ.out.symm, HU.out⟩
      have gn : ¬ (inc < 0 ∨ inc < door) := by omega
      have GN := Lib.hid gn
      have g2' : door ≤ inc := by omega
      clear gn g1 g2
      go_wp2_with fail
      refine (HCL.out _).mono ?_
      rintro e w2 ⟨rfl, hu2⟩
      clear d0 d1 d2 d3 d4 d5 d6 d7 d8
      obtain ⟨d0, d1, d2, d3, d4, d5, d6, d7, d8⟩ := vb_cells (hu2.rowN HROW.out)
      have HU2 := Lib.hid (HU.out.tr hu2)
      clear hu2 HU
      have HU := HU2
      clear HU2
      by_cases g3 : boot < 0
      · skip
        have HZ : Hid (ev = 5) := Lib.hid (by rw [HE.out]; exact chkE_bad GN.out (.inl g3))
        clear HE
        go_wp2_with fail
        go_ret
        exact ⟨ret_int HZ.out.symm, HU.out⟩
      have g3' : 0 ≤ boot := by omega
      clear g3
      by_cases g4 : boot = boot_
      · by_cases g5 : key = key_
        · have HZ : Hid (ev = 0) := Lib.hid (by rw [HE.out]; exact chkE_ok GN.out (by omega))
          subst g4
          subst g5
          clear HE
          go_wp2_with fail
          go_ret
          exact ⟨ret_int HZ.out.symm, HU.out⟩
        · have HZ : Hid (ev = 5) := Lib.hid (by rw [HE.out]; exact chkE_bad GN.out (.inr (.inr g5)))
          subst g4
          have g6 : (key == key_) = false := by simpa using g5
          have g7 : (key != key_) = true := by simpa using g5
          clear HE g5
          go_wp2_with fail
          go_ret
          exact ⟨ret_int HZ.out.symm, HU.out⟩
      · have HZ : Hid (ev = 5) := Lib.hid (by rw [HE.out]; exact chkE_bad GN.out (.inr (.inl g4)))
        have g6 : (boot == boot_) = false := by simpa using g4
        have g7 : (boot != boot_) = true := by simpa using g4
        clear HE g4
        go_wp2_with fail
        go_ret
        exact ⟨ret_int HZ.out.symm, HU.out⟩
    · skip
      by_cases g1 : inc < 0
      · skip
        have HZ : Hid (ev = 5) := Lib.hid (by rw [HE.out]; exact chkE_inc rfl (.inl g1))
        clear HE
        go_wp2_with fail
        go_ret
        exact ⟨ret_int HZ.out.symm, HU.out⟩
      have g1' : 0 ≤ inc := by omega
      by_cases g2 : inc < door
      · skip
        have HZ : Hid (ev = 5) := Lib.hid (by rw [HE.out]; exact chkE_inc rfl (.inr g2))
        clear HE
        go_wp2_with fail
        go_ret
        exact ⟨ret_int HZ.out.symm, HU.out⟩
      have gn : ¬ (inc < 0 ∨ inc < door) := by omega
      have GN := Lib.hid gn
      have g2' : door ≤ inc := by omega
      clear gn g1 g2
      have HZ : Hid (ev = 0) := Lib.hid (by rw [HE.out]; exact chkE_ctl GN.out)
      clear HE
      go_wp2_with fail
      refine (HCL.out _).mono ?_
      rintro e w2 ⟨rfl, hu2⟩
      clear d0 d1 d2 d3 d4 d5 d6 d7 d8
      obtain ⟨d0, d1, d2, d3, d4, d5, d6, d7, d8⟩ := vb_cells (hu2.rowN HROW.out)
      have HU2 := Lib.hid (HU.out.tr hu2)
      clear hu2 HU
      have HU := HU2
      clear HU2
      go_wp2_with fail
      go_ret
      exact ⟨ret_int HZ.out.symm, HU.out⟩
end Go.Proofs.Ytlhbikiggmdolaa
