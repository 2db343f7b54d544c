/- Classes of verbs, what a memory node checks, what a completion has. -/
import Derived.Test.YtlhbikiggmdolaaVerb2
namespace Go.Proofs.Ytlhbikiggmdolaa
open Go.RowKit

/-- What is known of a valid verb. -/
structure OkV (v : Vb) : Prop where
  cnt1 : 1 ≤ cntV v
  cnt2 : cntV v ≤ 1024
  at0 : 0 ≤ v.at_
  at1 : v.at_ < 2048
  kinds : (v.kind = 1 ∧ cntV v = v.n ∧ lastL v = 3) ∨ (v.kind = 2 ∧ cntV v = v.words.length ∧ lastL v = 2) ∨ ((v.kind = 3 ∨ v.kind = 4) ∧ cntV v = 1 ∧ lastL v = 2)
  ctl : (fstL v ≤ lastL v ∧ lstL v ≤ lastL v) ∨ (lastL v < fstL v ∧ lastL v < lstL v)
theorem kinds_of {v : Vb} (h1 : 1 ≤ cntV v) : (v.kind = 1 ∧ cntV v = v.n ∧ lastL v = 3) ∨ (v.kind = 2 ∧ cntV v = v.words.length ∧ lastL v = 2) ∨ ((v.kind = 3 ∨ v.kind = 4) ∧ cntV v = 1 ∧ lastL v = 2) := by
  have hl : ∀ k, v.kind = k → lastL v = if k = 1 then 3 else 2 := fun k e => by unfold lastL; rw [e]
  by_cases a1 : v.kind = 1
  · left; exact ⟨a1, by unfold cntV; rw [if_pos a1], by rw [hl _ a1]; rfl⟩
  · by_cases a2 : v.kind = 2
    · right; left; exact ⟨a2, by unfold cntV; rw [if_neg a1, if_pos a2], by rw [hl _ a2]; rfl⟩
    · by_cases a3 : v.kind = 3 ∨ v.kind = 4
      · right; right
        refine ⟨a3, by unfold cntV; rw [if_neg a1, if_neg a2, if_pos a3], ?_⟩
        rcases a3 with h | h <;> (rw [hl _ h]; rfl)
      · exfalso
        unfold cntV at h1
        rw [if_neg a1, if_neg a2, if_neg a3] at h1
        omega
theorem validE_ok {v : Vb} {nodes lines : Int} (h : validE v nodes lines = 0) : OkV v ∧ 0 ≤ v.node ∧ v.node < nodes ∧ v.at_ < lines * 8 ∧ lstL v < lines ∧ lines ≤ 256 ∧ 1 ≤ lines ∧ nodes ≤ 5 := by
  by_cases h1 : cntV v < 1
  · rw [validE_1 v nodes lines h1] at h; omega
  · by_cases hi : insideP v nodes lines
    · by_cases hl : fstL v ≤ lastL v ∧ lastL v < lstL v
      · rw [validE_3 v nodes lines (by omega) hi hl] at h; omega
      · obtain ⟨⟨a1, a2, a3, a4⟩, ⟨a5, a6, a7, a8, a9⟩, a10, a11⟩ := hi
        have hfl : fstL v = v.at_ / 8 := rfl
        have hll : lstL v = (v.at_ + cntV v - 1) / 8 := rfl
        exact ⟨⟨by omega, by omega, by omega, by omega, kinds_of (by omega), by omega⟩, by omega, by omega, by omega, by omega, by omega, by omega, by omega⟩
    · rw [validE_2 v nodes lines (by omega) hi] at h; omega

def clsI (b : Bool) : Int := if b then 1 else 2
def ctlB (v : Vb) : Bool := decide (fstL v ≤ lastL v)

set_option maxHeartbeats 1000000 in
theorem class_calls (v : Vb) (A : Option Addr) (cap : Nat) (w : World) (h : OkV v) :
    Calls Try.prog 124 #[.agg (vbC v (.slice A v.words.length cap))] w fun e w' => e = .returned (.int .i64 (clsI (ctlB v))) ∧ Upd Non w w' := by
  have HLL := Lib.hid (fun w => lastline_calls v (.slice A v.words.length cap) w ⟨_, _, _, rfl⟩)
  have HF : Hid (fstL v = v.at_ / 8) := Lib.hid rfl
  obtain ⟨_, _, h0, h1, _, _⟩ := h
  have hla : lastL v ≤ 3 ∧ 2 ≤ lastL v := by unfold lastL; split <;> omega
  have HLA := Lib.hid hla
  clear hla
  have HB : Hid (ctlB v = decide (fstL v ≤ lastL v)) := Lib.hid rfl
  unfold vbC
  unfold vbO vbC at HLL
  generalize ctlB v = cb at *
  generalize fstL v = fl at *
  generalize lastL v = la at *
  obtain ⟨kind, node, at_, n, old, new_, words, key, boot⟩ := v
  dsimp only at *
  generalize words.length = len at *
  have k4 := wrapD at_ h0 (by omega)
  rw [← HF.out] at k4
  by_cases g : fl ≤ la
  · have HZ : Hid (cb = true) := Lib.hid (by rw [HB.out]; exact decide_eq_true g)
    go_enter Try.func124, Try.ntmps124
    go_wp2_with fail
    go_region_held3 (fun w' => w'.cell? ⟨w.heap.size, 0, none⟩ = some (.int .i64 kind) ∧ w'.cell? ⟨w.heap.size, 1, none⟩ = some (.int .i64 node) ∧ w'.cell? ⟨w.heap.size, 2, none⟩ = some (.int .i64 at_) ∧ w'.cell? ⟨w.heap.size, 3, none⟩ = some (.int .i64 n) ∧ w'.cell? ⟨w.heap.size, 4, none⟩ = some (.int .u64 old) ∧ w'.cell? ⟨w.heap.size, 5, none⟩ = some (.int .u64 new_) ∧ w'.cell? ⟨w.heap.size, 6, none⟩ = some (.slice A len cap) ∧ w'.cell? ⟨w.heap.size, 7, none⟩ = some (.int .u64 key) ∧ w'.cell? ⟨w.heap.size, 8, none⟩ = some (.int .i64 boot)) (go_keep)
      ((go_at_call 163; (with_reducible refine (HLL.out _).mono ?_); rintro e w' ⟨rfl, rfl⟩))
    clear k4
    go_wp2_with fail
    go_ret
    exact ⟨ret_int (by rw [HZ.out]; rfl), (((Upd.refl _ _).alloc _).alloc _).drew⟩
  · have HZ : Hid (cb = false) := Lib.hid (by rw [HB.out]; exact decide_eq_false g)
    have g' : la < fl := by omega
    go_enter Try.func124, Try.ntmps124
    go_wp2_with fail
    go_region_held3 (fun w' => w'.cell? ⟨w.heap.size, 0, none⟩ = some (.int .i64 kind) ∧ w'.cell? ⟨w.heap.size, 1, none⟩ = some (.int .i64 node) ∧ w'.cell? ⟨w.heap.size, 2, none⟩ = some (.int .i64 at_) ∧ w'.cell? ⟨w.heap.size, 3, none⟩ = some (.int .i64 n) ∧ w'.cell? ⟨w.heap.size, 4, none⟩ = some (.int .u64 old) ∧ w'.cell? ⟨w.heap.size, 5, none⟩ = some (.int .u64 new_) ∧ w'.cell? ⟨w.heap.size, 6, none⟩ = some (.slice A len cap) ∧ w'.cell? ⟨w.heap.size, 7, none⟩ = some (.int .u64 key) ∧ w'.cell? ⟨w.heap.size, 8, none⟩ = some (.int .i64 boot)) (go_keep)
      ((go_at_call 163; (with_reducible refine (HLL.out _).mono ?_); rintro e w' ⟨rfl, rfl⟩))
    clear k4
    go_wp2_with fail
    go_ret
    exact ⟨ret_int (by rw [HZ.out]; rfl), (((Upd.refl _ _).alloc _).alloc _).drew⟩

theorem refCnt_eq {v : Vb} (h : OkV v) : refCntV v = cntV v := by
  unfold refCntV
  rcases h.kinds with ⟨a, b, _⟩ | ⟨a, b, _⟩ | ⟨a, b, _⟩
  · rw [if_pos a, b]
  · rw [if_neg (by omega), if_pos a, b]
  · rw [if_neg (by omega), if_neg (by omega), b]
set_option maxHeartbeats 2000000 in
theorem control_calls (v : Vb) (A : Option Addr) (cap : Nat) (w : World) (h : OkV v) :
    Calls Try.prog 185 #[.agg (vbC v (.slice A v.words.length cap))] w fun e w' => e = .returned (.bool (ctlB v)) ∧ Upd Non w w' := by
  have HC := Lib.hid (fun w => refcount_calls v A cap w)
  rw [refCnt_eq h] at HC
  have HL : Hid (lstL v = (v.at_ + cntV v - 1) / 8) := Lib.hid rfl
  have HB : Hid (ctlB v = decide (fstL v ≤ lastL v)) := Lib.hid rfl
  obtain ⟨g1, g2, h0, h1, hk, hc⟩ := h
  have HK : Hid ((v.kind = 1 ∧ lastL v = 3) ∨ (v.kind ≠ 1 ∧ lastL v = 2)) := Lib.hid (by rcases hk with h | h | h <;> omega)
  have HCT := Lib.hid hc
  clear hk hc
  unfold vbC
  unfold vbO vbC at HC
  generalize ctlB v = cb at *
  generalize cntV v = cn at *
  generalize fstL v = fl at *
  generalize lstL v = ll at *
  generalize lastL v = la at *
  obtain ⟨kind, node, at_, n, old, new_, words, key, boot⟩ := v
  dsimp only at *
  generalize words.length = len at *
  have k1 := wrapI (at_ + cn) (by omega) (by omega)
  have k2 := wrapI (at_ + cn - 1) (by omega) (by omega)
  have k3 : 0 ≤ at_ + cn - 1 := by omega
  have k5 := wrapD (at_ + cn - 1) (by omega) (by omega)
  rw [← HL.out] at k5
  have hcc : (cb = true ∧ ll ≤ la) ∨ (cb = false ∧ la < ll) := by
    rcases HCT.out with ⟨a, b⟩ | ⟨a, b⟩
    · left; exact ⟨by rw [HB.out]; exact decide_eq_true a, b⟩
    · right; exact ⟨by rw [HB.out]; exact decide_eq_false (by omega), b⟩
  have HCC := Lib.hid hcc
  clear hcc
  go_enter Try.func185, Try.ntmps185
  go_wp2_with fail
  go_region_held3 (fun w' => w'.cell? ⟨w.heap.size, 0, none⟩ = some (.int .i64 kind) ∧ w'.cell? ⟨w.heap.size, 1, none⟩ = some (.int .i64 node) ∧ w'.cell? ⟨w.heap.size, 2, none⟩ = some (.int .i64 at_) ∧ w'.cell? ⟨w.heap.size, 3, none⟩ = some (.int .i64 n) ∧ w'.cell? ⟨w.heap.size, 4, none⟩ = some (.int .u64 old) ∧ w'.cell? ⟨w.heap.size, 5, none⟩ = some (.int .u64 new_) ∧ w'.cell? ⟨w.heap.size, 6, none⟩ = some (.slice A len cap) ∧ w'.cell? ⟨w.heap.size, 7, none⟩ = some (.int .u64 key) ∧ w'.cell? ⟨w.heap.size, 8, none⟩ = some (.int .i64 boot)) (go_keep)
    ((go_at_call 121; (with_reducible refine (HC.out _).mono ?_); rintro e w' ⟨rfl, rfl⟩))
  clear k1 k2 k5
  have hcell : ∀ (W : World), True := fun _ => trivial
  clear hcell
  rcases HK.out with ⟨rfl, rfl⟩ | ⟨hk1, rfl⟩
  · rcases HCC.out with ⟨rfl, g⟩ | ⟨rfl, g⟩
    · by_cases g3 : ll < 3
      · go_wp2_with fail
        go_ret
        exact ⟨rfl, (((Upd.refl _ _).alloc _).alloc _).drew⟩
      · obtain rfl : ll = 3 := by omega
        go_wp2_with fail
        go_ret
        exact ⟨rfl, (((Upd.refl _ _).alloc _).alloc _).drew⟩
    · have g3 : ¬ ll < 3 := by omega
      have g4 : (ll == 3) = false := by rw [beq_eq_false_iff_ne]; omega
      go_wp2_with fail
      go_ret
      exact ⟨rfl, (((Upd.refl _ _).alloc _).alloc _).drew⟩
  · have kb : (kind == 1) = false := by simpa using hk1
    clear hk1
    rcases HCC.out with ⟨rfl, g⟩ | ⟨rfl, g⟩
    · have g3 : ll < 3 := by omega
      go_wp2_with fail
      go_ret
      exact ⟨rfl, (((Upd.refl _ _).alloc _).alloc _).drew⟩
    · have g3 : ¬ ll < 3 := by omega
      have g4 : 3 ≤ ll := by omega
      go_wp2_with fail
      go_ret
      exact ⟨rfl, (((Upd.refl _ _).alloc _).alloc _).drew⟩
end Go.Proofs.Ytlhbikiggmdolaa
