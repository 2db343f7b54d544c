/- The parts of a verb: the reference's Pieces. -/
import Derived.Test.YtlhbikiggmdolaaPieces2
import Derived.Test.YtlhbikiggmdolaaImg
namespace Go.Proofs.Ytlhbikiggmdolaa
open Go.RowKit

theorem pcC_append (l m : List (Nat × Nat)) : pcC (l ++ m) = pcC l ++ pcC m := by simp [pcC]
theorem info_rpiece : (Try.prog.info? 122).map (fun i => (i.zero, i.size, i.bytes)) = some (some (.agg #[.int .i64 0, .int .i64 0]), 2, 16) := by kernel_rfl
def RpRel (w0 : World) (ps : List (Nat × Nat)) (v x y : Value) (wr : World) : Prop :=
  ∃ (pre : List (Nat × Nat)) (f a left : Nat), x = .int .i64 a ∧ y = .int .i64 left ∧ ps = pre ++ pcsN f a left ∧ left ≤ f ∧ a + left ≤ 8192 ∧ Own wr (Past w0) 122 2 v pre.length (pcC pre) ∧ Upd Non w0 wr
theorem own_new {w w' : World} {e : TypeId} {s n : Nat} {v : Value} {xs : List Value} (h : Own w' (Past w) e s v n xs) : Own w' (New w w') e s v n xs := h.mono fun _ hk hl => ⟨hk, hl⟩

set_option maxRecDepth 100000 in
set_option maxHeartbeats 2000000 in
theorem refpieces_calls (v : Vb) (A : Option Addr) (cap : Nat) (w : World) (hv : OkV v) :
    Calls Try.prog 96 #[.agg (vbC v (.slice A v.words.length cap))] w fun e w' => ∃ x, e = .returned x ∧ Own w' (New w w') 122 2 x (pcsV v).length (pcC (pcsV v)) ∧ Upd Non w w' := by
  have HC := Lib.hid (fun w => refcount_calls v A cap w)
  rw [refCnt_eq hv] at HC
  have HP : Hid (pcsV v = pcsN (cntV v).toNat v.at_.toNat (cntV v).toNat) := Lib.hid rfl
  have hlen : (pcsV v).length ≤ 4096 := Nat.le_trans (pcsN_length _ _ _) (by have := hv.cnt2; omega)
  obtain ⟨h2, h3, h0, h1, _, _⟩ := hv
  unfold vbC
  unfold vbO vbC at HC
  generalize pcsV v = ps at *
  generalize cntV v = cn at *
  obtain ⟨kind, node, at_, n, old, new_, words, key, boot⟩ := v
  dsimp only at *
  generalize words.length = len at *
  go_enter Try.func96, Try.ntmps96
  go_wp2_with fail
  go_region_held3 (fun w' => w'.cell? ⟨w.heap.size, 0, none⟩ = some (.int .i64 kind) ∧ w'.cell? ⟨w.heap.size, 1, none⟩ = some (.int .i64 node) ∧ w'.cell? ⟨w.heap.size, 2, none⟩ = some (.int .i64 at_) ∧ w'.cell? ⟨w.heap.size, 3, none⟩ = some (.int .i64 n) ∧ w'.cell? ⟨w.heap.size, 4, none⟩ = some (.int .u64 old) ∧ w'.cell? ⟨w.heap.size, 5, none⟩ = some (.int .u64 new_) ∧ w'.cell? ⟨w.heap.size, 6, none⟩ = some (.slice A len cap) ∧ w'.cell? ⟨w.heap.size, 7, none⟩ = some (.int .u64 key) ∧ w'.cell? ⟨w.heap.size, 8, none⟩ = some (.int .i64 boot)) (go_keep)
    ((go_at_call 121; (with_reducible refine (HC.out _).mono ?_); rintro e w' ⟨rfl, rfl⟩))
  go_wp2_with fail
  have hu0 : Upd Non w ((w.alloc (.cells #[.int .i64 kind, .int .i64 node, .int .i64 at_, .int .i64 n, .int .u64 old, .int .u64 new_, .slice A len cap, .int .u64 key, .int .i64 boot] 62)).alloc (.cells #[.int .i64 kind, .int .i64 node, .int .i64 at_, .int .i64 n, .int .u64 old, .int .u64 new_, .slice A len cap, .int .u64 key, .int .i64 boot] 62)).drew := (((Upd.refl _ _).alloc _).alloc _).drew
  have HU0 := Lib.hid hu0
  clear hu0
  go_loopw [3, 4, 5] (fun v x y wr => RpRel w ps v x y wr) (fun _ _ y _ => (intOf y).toNat)
  case atStart => exact ⟨[], cn.toNat, at_.toNat, cn.toNat, by congr 1; omega, by congr 1; omega, HP.out, Nat.le_refl _, by omega, Own.nil _ _ _ _, HU0.out⟩
  case round =>
    obtain ⟨pre, f, a, left, rfl, rfl, hps, hlf, hal, hown, hupd⟩ := hrel
    have HO := Lib.hid hown
    have HU := Lib.hid hupd
    have HPS := Lib.hid hps
    clear hown hupd HU0 hps
    by_cases hz : left = 0
    · subst hz
      go_wp2_with fail
      go_ret
      have hpe : ps = pre := by rw [HPS.out, pcsN_zero, List.append_nil]
      exact ⟨_, rfl, by rw [hpe]; exact own_new HO.out, HU.out⟩
    · have hpos : 0 < left := by omega
      obtain ⟨g, hg, hcons⟩ := pcsN_cons (a := a) hpos hlf
      obtain ⟨m, hm⟩ : ∃ m, min left (8 - a % 8) = m := ⟨_, rfl⟩
      have hm1 : 1 ≤ m := by omega
      have hm2 : m ≤ left := by omega
      rw [hm] at hg hcons
      have hpl : pre.length ≤ 4096 := by have := HPS.out; rw [this, List.length_append] at hlen; omega
      have HE : Hid (∀ (V : Value) (W3 : World), Own W3 (Past w) 122 2 V (pre.length + 1) (pcC (pre ++ [(a, m)])) → Upd Non w W3 → RpRel w ps V (.int .i64 ((a : Int) + (m : Int))) (.int .i64 ((left : Int) - (m : Int))) W3) := fun V W3 ho hu =>
        ⟨pre ++ [(a, m)], g, a + m, left - m, by congr 1, by congr 1; omega, by rw [HPS.out, hcons, List.append_assoc]; rfl, hg, by omega, by rw [List.length_append]; exact ho, hu⟩
      have HO2 := Lib.hid (HO.out.keep (M := Non) ((Upd.refl Non wr).alloc (.cells #[.int .i64 (a : Int), .int .i64 (m : Int)] 122)) (fun _ _ h => h))
      have hV : View (wr.alloc (.cells #[.int .i64 (a : Int), .int .i64 (m : Int)] 122)) (fun _ => True) 2 (some ⟨wr.heap.size, 0, none⟩) 1 (pcC [(a, m)]) := view_new2 wr #[.int .i64 (a : Int), .int .i64 (m : Int)] 122 2 1 rfl
      have HV := Lib.hid hV
      have HF := Lib.hid (fun k hk => (HO.out.block (k := k) hk).1)
      clear hV hcons hz
      have hcase : (left ≤ 8 - a % 8 ∧ m = left) ∨ (8 - a % 8 < left ∧ m = 8 - a % 8) := by omega
      clear hm
      rcases hcase with ⟨hmc, rfl⟩ | ⟨hmc, hmm⟩
      · have hle : (m : Int) ≤ 8 - (a : Int) % 8 := by omega
        clear hmc
        go_wp2_with (at_builtin; refine wpList_app _ rfl (.tmp 18) (.tmp 22) 119 122 rfl _ 2 16 Try.underlying119 info_rpiece rfl (by decide) u3 pre.length _ rfl HO2.out (some ⟨wr.heap.size, 0, none⟩) 1 1 (pcC [(a, m)]) rfl (by simp) HV.out (pcC_one _) (by omega) (by decide) ?_; intro v' w3 hO hA hnil hblk)
        obtain ⟨hO3, hU3⟩ := app_past (HU.out.alloc (.cells #[.int .i64 (a : Int), .int .i64 (m : Int)] 122)) HF.out hO hA
        rw [← pcC_append] at hO3
        have HO3 := Lib.hid hO3
        have HU3 := Lib.hid hU3
        clear hO hA hnil hblk hO3 hU3
        go_wp2_with fail
        go_roundw
        case rel => have h := HE.out _ _ HO3.out HU3.out; rw [Int.sub_self] at h; exact h
        case measure => simp [intOf]; omega
      · have hmi : (8 : Int) - (a : Int) % 8 = (m : Int) := by omega
        have hlt : (m : Int) < (left : Int) := by omega
        have hnle : ¬ (left : Int) ≤ (m : Int) := by omega
        clear hmc hmm
        go_wp2_with (at_builtin; refine wpList_app _ rfl (.tmp 18) (.tmp 22) 119 122 rfl _ 2 16 Try.underlying119 info_rpiece rfl (by decide) u3 pre.length _ rfl HO2.out (some ⟨wr.heap.size, 0, none⟩) 1 1 (pcC [(a, m)]) rfl (by simp) HV.out (pcC_one _) (by omega) (by decide) ?_; intro v' w3 hO hA hnil hblk)
        obtain ⟨hO3, hU3⟩ := app_past (HU.out.alloc (.cells #[.int .i64 (a : Int), .int .i64 (m : Int)] 122)) HF.out hO hA
        rw [← pcC_append] at hO3
        have HO3 := Lib.hid hO3
        have HU3 := Lib.hid hU3
        clear hO hA hnil hblk hO3 hU3
        go_wp2_with fail
        go_roundw
        case rel => exact HE.out _ _ HO3.out HU3.out
        case measure => simp [intOf]; omega
end Go.Proofs.Ytlhbikiggmdolaa
