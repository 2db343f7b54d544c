/- The walk of MemnodeNew. -/
import Derived.Test.YtlhbikiggmdolaaLaw3
namespace Go.Proofs.Ytlhbikiggmdolaa
open Go.RowKit

theorem memnodeNew_bad (n L : Int) (w : World) (h : L < 1 ∨ 256 < L) (hL : (n = L ∧ (n ≤ 300 ∨ n % 3 ≤ 0)) ∨ (n % 300 = L ∧ 300 < n ∧ 0 < n % 3)) :
    Calls Try.prog 4 #[.int .i64 n] w fun e w' => e = .returned (.bool true) ∧ Upd Non w w' := by
  have HP := Lib.hid (pick_calls n 3 w (by decide) (by decide))
  have HB := Lib.hid (new_bad (w := w) L h)
  have HA := Lib.hid (awake3_calls w)
  have h3 : 0 ≤ n % 3 := by omega
  have h4 : 0 ≤ n % 300 := by omega
  rcases hL with ⟨rfl, g⟩ | ⟨rfl, g1, g2⟩
  · rcases h with h | h <;> rcases g with g | g
    all_goals
      go_enter Try.func4, Try.ntmps4
      go_wp2_with (first
        | (go_at_call 23; refine HP.out.mono ?_; rintro e w' ⟨rfl, rfl⟩)
        | (go_at_call 24; refine HB.out.mono ?_; rintro e w' ⟨rfl, rfl⟩)
        | (go_at_call 25; refine HA.out.mono ?_; rintro e w1 ⟨rfl, hu⟩; have HU := Lib.hid hu; clear hu))
    all_goals (go_ret; exact ⟨rfl, HU.out⟩)
  · rcases h with h | h
    all_goals
      go_enter Try.func4, Try.ntmps4
      go_wp2_with (first
        | (go_at_call 23; refine HP.out.mono ?_; rintro e w' ⟨rfl, rfl⟩)
        | (go_at_call 24; refine HB.out.mono ?_; rintro e w' ⟨rfl, rfl⟩)
        | (go_at_call 25; refine HA.out.mono ?_; rintro e w1 ⟨rfl, hu⟩; have HU := Lib.hid hu; clear hu))
    all_goals (go_ret; exact ⟨rfl, HU.out⟩)

theorem memnodeNew_good (n L : Int) (w : World) (h1 : 1 ≤ L) (h2 : L ≤ 256) (hL : (n = L ∧ (n ≤ 300 ∨ n % 3 ≤ 0)) ∨ (n % 300 = L ∧ 300 < n ∧ 0 < n % 3)) :
    Calls Try.prog 4 #[.int .i64 n] w fun e w' => e = .returned (.bool true) ∧ Upd Non w w' := by
  have HP := Lib.hid (pick_calls n 3 w (by decide) (by decide))
  have HB := Lib.hid (new_okI (w := w) L h1 h2)
  have h3 : 0 ≤ n % 3 := by omega
  have h4 : 0 ≤ n % 300 := by omega
  have hs : (List.replicate (L.toNat * 8) (0 : Int)).length = L.toNat * 8 := by simp
  have ha : accE (List.replicate (L.toNat * 8) (0 : Int)).length true 0 (L * 8) = 0 := by rw [hs]; unfold accE; simp; omega
  have hw2 : 2 ≤ (List.replicate (L.toNat * 8) (0 : Int)).length := by rw [hs]; omega
  have hb0 : (List.replicate (L.toNat * 8) (0 : Int)).getD 1 0 = 0 := by simp [List.getD_eq_getElem?_getD, List.getElem?_replicate]; split <;> rfl
  have hcs : (u64s (((List.replicate (L.toNat * 8) (0 : Int)).drop (0 : Int).toNat).take (L * 8).toNat)) = List.replicate (L * 8).toNat (.int .u64 0) := by
    have : L.toNat * 8 = (L * 8).toNat := by omega
    rw [this]; simp [u64s]
  have HCS := Lib.hid hcs
  have HAC := Lib.hid ha
  have HB0 := Lib.hid hb0
  have HW2 := Lib.hid hw2
  obtain ⟨N, hN⟩ : ∃ N : Nat, L * 8 = N := ⟨(L * 8).toNat, by omega⟩
  have HNN := Lib.hid hN
  have hN1 : 8 ≤ N := by omega
  have hN2 : N ≤ 2048 := by omega
  clear hs ha hw2 hb0 hcs
  have hcase : (L = n ∧ n % 3 ≤ 0) ∨ (L = n ∧ n ≤ 300 ∧ 0 < n % 3) ∨ (n % 300 = L ∧ 300 < n ∧ 0 < n % 3) := by omega
  clear hL hN
  rcases hcase with ⟨hh, g⟩ | ⟨hh, g1, g2⟩ | ⟨hh, g1, g2⟩
  · obtain rfl := hh
    go_enter Try.func4, Try.ntmps4
    go_wp2_with (go_at_call 23; refine HP.out.mono ?_; rintro e w' ⟨rfl, rfl⟩)
    try rw [HX.out]
    refine HB.out.mono ?_
    rintro e w1 ⟨p, rfl, hN1, hu1⟩
    have HN := Lib.hid hN1
    clear hN1
    go_wp2_with fail
    refine (awake3_calls _).mono ?_
    rintro e w2 ⟨rfl, hu2⟩
    have HN2 := Lib.hid (HN.out.keep hu2 (fun _ _ h => h))
    clear HN
    go_wp2_with fail
    refine (read_okI HN2.out 0 _ HAC.out).mono ?_
    rintro e w3 ⟨v, rfl, hO, hu3, hv⟩
    have HN3 := Lib.hid (HN2.out.keep hu3 (fun _ _ h => h))
    have HU := Lib.hid ((hu1.tr hu2).tr hu3)
    obtain ⟨A, cap, rfl, hA, hV⟩ := hO.shape
    rw [HCS.out] at hV
    obtain ⟨b, off, rfl, _, _, hc⟩ := hV.open (by intro h; have := congrArg List.length h; simp at this; omega)
    have HC := Lib.hid hc
    have hM : (L * 8).toNat ≤ 2048 := by omega
    generalize hMM : (L * 8).toNat = M at *
    have HMM := Lib.hid hMM
    clear hO hA hV hv hc hu1 hu2 hu3 HN2 hMM
    go_wp2_with fail
    go_loop [7] (fun i => ∃ k : Nat, k ≤ M ∧ i = .int .i64 k) (fun i => M - (intOf i).toNat)
    case atStart => exact ⟨0, Nat.zero_le _, rfl⟩
    case round =>
      obtain ⟨k, hk, rfl⟩ := hrel
      by_cases hlt : k < M
      · have hcell := HC.out k (.int .u64 0) (by rw [List.getElem?_replicate, if_pos hlt])
        go_wp2
        go_round
        case rel => exact ⟨k + 1, by omega, by go_num⟩
        case measure => simp [intOf]; omega
      · have hk' : k = M := by omega
        subst hk'
        have hE : ((k : Int) == L * 8) = true := by rw [beq_iff_eq]; have := HMM.out; omega
        go_wp2_with (go_at_call 27; refine (boot_calls HN3.out HW2.out).mono ?_; rw [HB0.out]; rintro e w' ⟨rfl, rfl⟩)
        go_ret
        exact ⟨rfl, HU.out⟩
  · obtain rfl := hh
    go_enter Try.func4, Try.ntmps4
    go_wp2_with (go_at_call 23; refine HP.out.mono ?_; rintro e w' ⟨rfl, rfl⟩)
    try rw [HX.out]
    refine HB.out.mono ?_
    rintro e w1 ⟨p, rfl, hN1, hu1⟩
    have HN := Lib.hid hN1
    clear hN1
    go_wp2_with fail
    refine (awake3_calls _).mono ?_
    rintro e w2 ⟨rfl, hu2⟩
    have HN2 := Lib.hid (HN.out.keep hu2 (fun _ _ h => h))
    clear HN
    go_wp2_with fail
    refine (read_okI HN2.out 0 _ HAC.out).mono ?_
    rintro e w3 ⟨v, rfl, hO, hu3, hv⟩
    have HN3 := Lib.hid (HN2.out.keep hu3 (fun _ _ h => h))
    have HU := Lib.hid ((hu1.tr hu2).tr hu3)
    obtain ⟨A, cap, rfl, hA, hV⟩ := hO.shape
    rw [HCS.out] at hV
    obtain ⟨b, off, rfl, _, _, hc⟩ := hV.open (by intro h; have := congrArg List.length h; simp at this; omega)
    have HC := Lib.hid hc
    have hM : (L * 8).toNat ≤ 2048 := by omega
    generalize hMM : (L * 8).toNat = M at *
    have HMM := Lib.hid hMM
    clear hO hA hV hv hc hu1 hu2 hu3 HN2 hMM
    go_wp2_with fail
    go_loop [7] (fun i => ∃ k : Nat, k ≤ M ∧ i = .int .i64 k) (fun i => M - (intOf i).toNat)
    case atStart => exact ⟨0, Nat.zero_le _, rfl⟩
    case round =>
      obtain ⟨k, hk, rfl⟩ := hrel
      by_cases hlt : k < M
      · have hcell := HC.out k (.int .u64 0) (by rw [List.getElem?_replicate, if_pos hlt])
        go_wp2
        go_round
        case rel => exact ⟨k + 1, by omega, by go_num⟩
        case measure => simp [intOf]; omega
      · have hk' : k = M := by omega
        subst hk'
        have hE : ((k : Int) == L * 8) = true := by rw [beq_iff_eq]; have := HMM.out; omega
        go_wp2_with (go_at_call 27; refine (boot_calls HN3.out HW2.out).mono ?_; rw [HB0.out]; rintro e w' ⟨rfl, rfl⟩)
        go_ret
        exact ⟨rfl, HU.out⟩
  · have HX := Lib.hid hh
    clear hh
    go_enter Try.func4, Try.ntmps4
    go_wp2_with (go_at_call 23; refine HP.out.mono ?_; rintro e w' ⟨rfl, rfl⟩)
    try rw [HX.out]
    refine HB.out.mono ?_
    rintro e w1 ⟨p, rfl, hN1, hu1⟩
    have HN := Lib.hid hN1
    clear hN1
    go_wp2_with fail
    refine (awake3_calls _).mono ?_
    rintro e w2 ⟨rfl, hu2⟩
    have HN2 := Lib.hid (HN.out.keep hu2 (fun _ _ h => h))
    clear HN
    go_wp2_with fail
    refine (read_okI HN2.out 0 _ HAC.out).mono ?_
    rintro e w3 ⟨v, rfl, hO, hu3, hv⟩
    have HN3 := Lib.hid (HN2.out.keep hu3 (fun _ _ h => h))
    have HU := Lib.hid ((hu1.tr hu2).tr hu3)
    obtain ⟨A, cap, rfl, hA, hV⟩ := hO.shape
    rw [HCS.out] at hV
    obtain ⟨b, off, rfl, _, _, hc⟩ := hV.open (by intro h; have := congrArg List.length h; simp at this; omega)
    have HC := Lib.hid hc
    have hM : (L * 8).toNat ≤ 2048 := by omega
    generalize hMM : (L * 8).toNat = M at *
    have HMM := Lib.hid hMM
    clear hO hA hV hv hc hu1 hu2 hu3 HN2 hMM
    go_wp2_with fail
    go_loop [7] (fun i => ∃ k : Nat, k ≤ M ∧ i = .int .i64 k) (fun i => M - (intOf i).toNat)
    case atStart => exact ⟨0, Nat.zero_le _, rfl⟩
    case round =>
      obtain ⟨k, hk, rfl⟩ := hrel
      by_cases hlt : k < M
      · have hcell := HC.out k (.int .u64 0) (by rw [List.getElem?_replicate, if_pos hlt])
        go_wp2
        go_round
        case rel => exact ⟨k + 1, by omega, by go_num⟩
        case measure => simp [intOf]; omega
      · have hk' : k = M := by omega
        subst hk'
        have hE : ((k : Int) == L * 8) = true := by rw [beq_iff_eq]; have := HMM.out; omega
        go_wp2_with (go_at_call 27; refine (boot_calls HN3.out HW2.out).mono ?_; rw [HB0.out]; rintro e w' ⟨rfl, rfl⟩)
        go_ret
        exact ⟨rfl, HU.out⟩

theorem memnodeNew_any (n : Int) (_wf : (Lit.int .i64 n).wf = true) (w : World) :
    Calls Try.prog 4 #[.int .i64 n] w fun e w' => e = .returned (.bool true) ∧ Upd Non w w' := by
  by_cases h : 300 < n ∧ 0 < n % 3
  · by_cases g : 1 ≤ n % 300 ∧ n % 300 ≤ 256
    · exact memnodeNew_good n (n % 300) w g.1 g.2 (.inr ⟨rfl, h⟩)
    · exact memnodeNew_bad n (n % 300) w (by omega) (.inr ⟨rfl, h⟩)
  · by_cases g : 1 ≤ n ∧ n ≤ 256
    · exact memnodeNew_good n n w g.1 g.2 (.inl ⟨rfl, by omega⟩)
    · exact memnodeNew_bad n n w (by omega) (.inl ⟨rfl, by omega⟩)
end Go.Proofs.Ytlhbikiggmdolaa
