/- The walk of MemnodeReturns. -/
import Derived.Test.YtlhbikiggmdolaaPlay3
namespace Go.Proofs.Ytlhbikiggmdolaa
open Go.RowKit

def RetRel (w w1 w6 : World) (p : Nat) (ws : List Int) (m : Nat) (i : Value) (wr : World) : Prop :=
  ∃ j : Nat, j ≤ m + 1 ∧ i = .int .i64 j ∧ NodeR wr (New w w1) p (ws.set 1 (1 + j)) true ∧ Upd (New w w1) w6 wr ∧ Upd Non w wr

set_option maxRecDepth 100000 in
set_option maxHeartbeats 1000000 in
theorem memnodeReturns_any (w : World) (A : Option Addr) (len cap : Nat) (z : List (List Int)) (hz : RowsR w opK A len z ∧ len ≤ cap ∧ cap ≤ maxLen ∧ (A = none → len = 0 ∧ cap = 0)) (t : Int) (_wf : (Lit.int .i64 t).wf = true) :
    Calls Try.prog 6 #[.slice A len cap, .int .i64 t] w fun e w' => e = .returned (.bool true) ∧ Upd Non w w' := by
  obtain ⟨hz0, hlc, hcm, _⟩ := hz
  have hO := hz0.ops
  have HO := Lib.hid hO
  have HP := Lib.hid (fun k n hk hk2 w => pick_calls n k w hk hk2)
  clear hz0 hO
  clear hcm
  by_cases hl : 30 < len
  · go_enter Try.func6, Try.ntmps6
    go_wp2
    go_ret
    exact ⟨rfl, Upd.refl _ _⟩
  · have hl' : len ≤ 30 := by omega
    clear hl
    go_enter Try.func6, Try.ntmps6
    go_wp2_with fail
    refine (new_okI 2 (by decide) (by decide)).mono ?_
    rintro e w1 ⟨p, rfl, hN1, hu1⟩
    have HN := Lib.hid hN1
    have HU1 := Lib.hid hu1
    clear hN1 hu1
    go_wp2_with fail
    refine (awake3_calls _).mono ?_
    rintro e w2 ⟨rfl, hu2⟩
    have HU2 := Lib.hid hu2
    clear hu2
    go_wp2_with fail
    refine (newnode_calls 2 (by decide) (by decide)).mono ?_
    rintro e w3 ⟨q, rfl, hq, hr, hu3⟩
    have hS := play_start (L := 2) HN.out HU1.out HU2.out hq hr hu3 (by decide) true
    have HS := Lib.hid hS
    clear hq hr hu3 hS
    go_wp2_with fail
    go_loopw [8] (fun i wr => PlayRel w w1 p w3.heap.size len 16 true i wr) (fun i _ => 31 - (intOf i).toNat)
    case atStart => exact ⟨0, _, _, Nat.zero_le _, rfl, HS.out⟩
    case round =>
      obtain ⟨k, ws, up, hk, rfl, hpl⟩ := hrel
      have HB := Lib.hid hpl
      clear hpl HS HN
      by_cases hlt : k < len
      · obtain ⟨kd, at_, cn, a, v, ha, b, off, rfl, hbl, h0, h1, h2, h3, h4⟩ := (HO.out.keep HB.out.upd) k hlt
        have HA := Lib.hid ha
        clear ha hbl
        by_cases hkd : kd % 10 < 6
        · have HK := Lib.hid hkd
          have hd : decide (kd % 10 < 6) = true := by simpa using hkd
          go_wp2_with fail
          go_at_call 23
          refine (HP.out 10 kd (by decide) (by decide) _).mono ?_
          rintro e w' ⟨rfl, rfl⟩
          go_wp2_with fail
          refine (((HB.out.keep ((Upd.refl _ _).alloc _)).do HU1.out.size (by decide) kd at_ cn a v HA.out (fun _ => HK.out))).mono ?_
          rintro e w' ⟨rfl, ws', up', hpl⟩
          have HC := Lib.hid hpl
          clear hpl HB
          go_wp2_with fail
          go_round
          case rel => exact ⟨k + 1, ws', up', by omega, by go_num, HC.out⟩
          case measure => simp [intOf]; omega
        · have hd : decide (kd % 10 < 6) = false := by simpa using hkd
          go_wp2_with fail
          go_at_call 23
          refine (HP.out 10 kd (by decide) (by decide) _).mono ?_
          rintro e w' ⟨rfl, rfl⟩
          go_wp2_with fail
          go_round
          case rel => exact ⟨k + 1, ws, up, by omega, by go_num, HB.out.keep ((Upd.refl _ _).alloc _)⟩
          case measure => simp [intOf]; omega
      · have hk' : k = len := by omega
        subst hk'
        obtain rfl := HB.out.up
        have hlen := HB.out.len
        have hac : accE ws.length true 1 (1 : Nat) = 0 := by rw [hlen]; decide
        have hW := HB.out.wf
        have HU := Lib.hid HB.out.upd
        have HN := Lib.hid HB.out.node
        have HAC := Lib.hid hac
        have HL := Lib.hid hlen
        have HS1 := Lib.hid HB.out.size1
        have HW := Lib.hid hW
        clear hac hlen hW
        go_wp2_with fail
        refine (write_okI (G := fun _ => True) (HN.out.keep (M := Non) ((Upd.refl _ _).alloc _) (fun _ _ h => h)) 1 _ 1 1 [1] (view_new2 _ _ _ 1 1 rfl) HAC.out).mono ?_
        rintro e w5 ⟨rfl, hN5, hu5⟩
        have hP : putW ws (1 : Int).toNat [1] = ws.set 1 1 := putW_one _ _ _ (by rw [HL.out]; decide)
        rw [hP] at hN5
        have HN5 := Lib.hid hN5
        have hU5 : Upd Non w w5 := (HU.out.alloc _).trans hu5 fun i hi h => absurd h.1 (by omega)
        have HU5 := Lib.hid hU5
        have hs5 : w1.heap.size ≤ w5.heap.size := Nat.le_trans HS1.out (Nat.le_trans ((Upd.refl Non wr).alloc (.cells #[.int .u64 1] 36)).size hu5.size)
        have HS5 := Lib.hid hs5
        clear hs5
        clear hP hN5 hu5 hU5 HN HAC
        have hac : accE (ws.set 1 1).length true 0 16 = 0 := by rw [List.length_set, HL.out]; decide
        have HAC := Lib.hid hac
        clear hac
        go_wp2_with fail
        refine (read_okI HN5.out 0 16 HAC.out).mono ?_
        rintro e w6 ⟨v, rfl, hO, hu6, _⟩
        have HN6 := Lib.hid (HN5.out.keep hu6 (fun _ _ h => h))
        have HU6 := Lib.hid (HU5.out.tr hu6)
        have HO6 := Lib.hid hO
        clear hO hu6 HN5
        go_wp2_with fail
        have hm1 : 0 ≤ t % 5 := by omega
        have hm2 : t % 5 < 5 := by omega
        obtain ⟨m, hm⟩ : ∃ m : Nat, t % 5 = m := ⟨(t % 5).toNat, by omega⟩
        have HM := Lib.hid hm
        have hm4 : m < 5 := by omega
        clear hm hm1 hm2 HAC hlt hk hl' hlc HO
        go_loopw [12] (fun i wr => RetRel w w1 w6 p ws m i wr) (fun i _ => 31 - (intOf i).toNat)
        case atStart => exact ⟨0, by omega, rfl, by simpa using HN6.out, Upd.refl _ _, HU6.out⟩
        case round =>
          obtain ⟨j, hj, rfl, hN, hU, hUw⟩ := hrel
          have HNj := Lib.hid hN
          have HUj := Lib.hid hU
          have HVj := Lib.hid hUw
          clear hN hU hUw
          by_cases hlt : j < m + 1
          · go_wp2_with (go_at_call 23; refine (HP.out 5 t (by decide) (by decide) _).mono ?_; rw [HM.out]; rintro e w' ⟨rfl, rfl⟩)
            refine (fail_calls HNj.out).mono ?_
            rintro e w7 ⟨rfl, hN7, hU7⟩
            have HN7 := Lib.hid hN7
            have HU7 := Lib.hid (HUj.out.tr hU7)
            have hl7 : (ws.set 1 (1 + (j : Int))).length = 16 := by rw [List.length_set]; exact HL.out
            have HL7 := Lib.hid hl7
            have hac : ∀ c, 1 ≤ c → c ≤ 16 → accE (ws.set 1 (1 + (j : Int))).length false 0 c = 4 := by
              intro c h1 h2; rw [hl7]; unfold accE; rw [if_neg (by omega)]; simp
            have HAC := Lib.hid hac
            have hV7 : Upd Non w w7 := HVj.out.trans hU7 fun i hi h => absurd h.1 (by omega)
            have HV7 := Lib.hid hV7
            clear hN7 hU7 hl7 hac hV7
            go_wp2_with fail
            refine (read_bad HN7.out 0 1 (by rw [HAC.out 1 (by decide) (by decide)]; decide)).mono ?_
            rw [HAC.out 1 (by decide) (by decide)]
            rintro e w' ⟨rfl, rfl⟩
            go_wp2_with fail
            refine (cas_bad HN7.out 0 0 1 (by rw [HAC.out 1 (by decide) (by decide)]; decide)).mono ?_
            rw [HAC.out 1 (by decide) (by decide)]
            rintro e w' ⟨rfl, rfl⟩
            go_wp2_with fail
            refine (add_bad HN7.out 0 1 (by rw [HAC.out 1 (by decide) (by decide)]; decide)).mono ?_
            rw [HAC.out 1 (by decide) (by decide)]
            rintro e w' ⟨rfl, rfl⟩
            go_wp2_with fail
            have hua : Upd Non w7 (w7.alloc (.cells #[.int .u64 9] 36)) := (Upd.refl _ _).alloc _
            have HUA := Lib.hid hua
            have HN8 := Lib.hid (HN7.out.keep hua (fun _ _ h => h))
            clear hua
            refine (write_bad HN8.out 0 _ 1 1 (by decide) (by rw [show ((1 : Nat) : Int) = 1 from rfl, HAC.out 1 (by decide) (by decide)]; decide)).mono ?_
            rw [show ((1 : Nat) : Int) = 1 from rfl, HAC.out 1 (by decide) (by decide)]
            rintro e w' ⟨rfl, rfl⟩
            go_wp2_with fail
            refine (up_calls HN8.out).mono ?_
            rintro e w' ⟨rfl, rfl⟩
            go_wp2_with fail
            have hg1 : (ws.set 1 (1 + (j : Int))).getD 1 0 = 1 + j := by
              rw [List.getD_eq_getElem?_getD, List.getElem?_set_self (by rw [HL.out]; decide)]; rfl
            have HG1 := Lib.hid hg1
            clear hg1
            refine (back_yes HN8.out (by rw [HL7.out]; decide) (by rw [HG1.out]; omega) (by rw [HG1.out]; omega)).mono ?_
            rintro e w9 ⟨rfl, hN9, hU9⟩
            have e9 : (ws.set 1 (1 + (j : Int))).set 1 ((ws.set 1 (1 + (j : Int))).getD 1 0 + 1) = ws.set 1 (1 + ((j + 1 : Nat) : Int)) := by
              rw [HG1.out, List.set_set, show (1 + (j : Int) + 1) = 1 + ((j + 1 : Nat) : Int) by omega]
            rw [e9] at hN9
            have HN9 := Lib.hid hN9
            have HU9 := Lib.hid ((HU7.out.tr (HUA.out.of_non)).tr hU9)
            have hV9 : Upd Non w w9 := (HV7.out.tr HUA.out).trans hU9 fun i hi h => absurd h.1 (by omega)
            have HV9 := Lib.hid hV9
            clear e9 hN9 hU9 hV9
            go_wp2_with fail
            refine (back_no HN9.out (by rw [List.length_set, HL.out]; decide) (.inl rfl)).mono ?_
            rintro e w' ⟨rfl, rfl⟩
            go_wp2_with fail
            go_round
            case rel => exact ⟨j + 1, by omega, by go_num, HN9.out, HU9.out, HV9.out⟩
            case measure => simp [intOf]; omega
          · have hj' : j = m + 1 := by omega
            subst hj'
            have hl7 : (ws.set 1 (1 + ((m + 1 : Nat) : Int))).length = 16 := by rw [List.length_set]; exact HL.out
            have HL7 := Lib.hid hl7
            have hac : accE (ws.set 1 (1 + ((m + 1 : Nat) : Int))).length true 0 16 = 0 := by rw [hl7]; decide
            have HAC := Lib.hid hac
            clear hl7 hac
            go_wp2_with (go_at_call 23; refine (HP.out 5 t (by decide) (by decide) _).mono ?_; rw [HM.out]; rintro e w' ⟨rfl, rfl⟩)
            refine (read_okI HNj.out 0 16 HAC.out).mono ?_
            rintro e wa ⟨va, rfl, hOa, hua, _⟩
            have hx : List.take (Int.toNat 16) (List.drop (Int.toNat 0) (ws.set 1 (1 + ((m + 1 : Nat) : Int)))) = ws.set 1 (1 + ((m + 1 : Nat) : Int)) := by
              rw [show Int.toNat 0 = 0 from rfl, List.drop_zero, List.take_of_length_le (by rw [HL7.out]; decide)]
            have hx0 : List.take (Int.toNat 16) (List.drop (Int.toNat 0) (ws.set 1 1)) = ws.set 1 1 := by
              rw [show Int.toNat 0 = 0 from rfl, List.drop_zero, List.take_of_length_le (by rw [List.length_set, HL.out]; decide)]
            rw [hx] at hOa
            have hO6 := HO6.out
            rw [hx0] at hO6
            have s5 := HU5.out
            have hO7 := (hO6.keep HUj.out (by intro k h1 h2; have := h1.1; have := h2.2; have := HS5.out; omega)).keep hua (fun _ _ h => h)
            obtain ⟨hln, ⟨_, h0⟩ | ⟨g, ca, sp, rfl, hgF, hgr, _, hgn, hgc⟩⟩ := hOa
            · exact absurd h0 (by decide)
            obtain ⟨A6, c6, rfl, hA6, hV6⟩ := hO7.shape
            have hv1 : (u64s (ws.set 1 1))[1]? = some (.int .u64 1) := by
              rw [u64s_get, List.getElem?_set_self (by rw [HL.out]; decide)]; rfl
            obtain ⟨bv, ov, rfl, hbF, _, hcv⟩ := hV6.cell hv1
            have hcg : wa.cell? ⟨g, 1, none⟩ = some (.int .u64 (1 + ((m + 1 : Nat) : Int))) := by
              refine hgr.cell 1 ?_
              rw [u64s_at (by rw [HL7.out]; decide), List.getD_eq_getElem?_getD, List.getElem?_set_self (by rw [HL.out]; decide)]; rfl
            have hfg := hgr.frozen 1
            have hgr2 := hgr.set 1 (.int .u64 1)
            rw [u64s_set _ _ _ _ (by rw [HL7.out]; decide), List.set_set] at hgr2
            have hne : g ≠ bv := by have h1 := hgF.1; have h2 := hbF.2; have := HUj.out.size; omega
            have hset : Upd (One g) wa (wa.setCell ⟨g, 1, none⟩ (.int .u64 1)) := (Upd.refl (One g) wa).setCell (p := ⟨g, 1, none⟩) (.inl rfl) _
            have hpq : ∀ w, Calls Try.prog 23 #[.int .i64 t, .int .i64 5] w fun e w' => e = .returned (.int .i64 m) ∧ w = w' := by
              intro w; have := HP.out 5 t (by decide) (by decide) w; rw [HM.out] at this; exact this
            have HPQ := Lib.hid hpq
            clear hpq
            have hV8 : View (wa.setCell ⟨g, 1, none⟩ (.int .u64 1)) (fun k => k ≠ g) 1 (some ⟨bv, ov, none⟩) 16 (u64s (ws.set 1 1)) :=
              (hV6.mono (F' := fun k => k ≠ g) (fun k hk e => by subst e; have h1 := hgF.1; have h2 := hk.2; have := HUj.out.size; omega)).keep (M := One g) hset (fun k hk e => hk e)
            have hV9 : View (wa.setCell ⟨g, 1, none⟩ (.int .u64 1)) (fun _ => True) 1 (some ⟨g, 0, none⟩) 16 (u64s (ws.set 1 1)) :=
              View.ofRow hgr2 _ trivial 1 16 0 _ (by rw [u64s_length, List.length_set, HL.out]) (by simp)
            have hUe : Upd Non w (wa.setCell ⟨g, 1, none⟩ (.int .u64 1)) := (HVj.out.tr hua).setCell (.inr (by have h1 := hgF.1; have := HVj.out.size; show w.heap.size ≤ g; omega)) _
            have HV8 := Lib.hid hV8
            have HV9 := Lib.hid hV9
            have HUE := Lib.hid hUe
            have h16 : Int.toNat 16 = 16 := rfl
            have hq1 : (1 + ((m + 1 : Nat) : Int) != (m : Int) + 2) = false := by
              have : 1 + ((m + 1 : Nat) : Int) = (m : Int) + 2 := by omega
              rw [this]; simp
            rw [h16] at *
            clear hx hx0 hO6 hO7 HO6 s5 hln hgr hgr2 hV8 hV9 hUe hV6 hA6 hua hv1 hgF hbF hgc h16 hlt hj hset
            go_wp2_with fail
            go_quiet (exact (HPQ.out _).mono fun e w' h => ⟨h.1, _, h.2.symm⟩)
            go_wp2_with fail
            have hq8 : View ((wa.drewN nq).setCell ⟨g, 1, none⟩ (.int .u64 1)) (fun k => k ≠ g) 1 (some ⟨bv, ov, none⟩) 16 (u64s (ws.set 1 1)) := HV8.out
            have hq9 : View ((wa.drewN nq).setCell ⟨g, 1, none⟩ (.int .u64 1)) (fun _ => True) 1 (some ⟨g, 0, none⟩) 16 (u64s (ws.set 1 1)) := HV9.out
            have hqu : Upd Non w ((wa.drewN nq).setCell ⟨g, 1, none⟩ (.int .u64 1)) := ⟨HUE.out.os, HUE.out.tape, HUE.out.output, HUE.out.size, HUE.out.block⟩
            refine (same_calls (ca := c6) (cb := ca) hq8 hq9 (by decide) (by decide)).mono ?_
            rw [show decide (ws.set 1 1 = ws.set 1 1) = true by simp]
            rintro e wz ⟨rfl, huz⟩
            have HZ := Lib.hid (hqu.tr huz)
            clear hq8 hq9 hqu huz
            go_wp2_with fail
            go_ret
            exact ⟨rfl, HZ.out⟩
end Go.Proofs.Ytlhbikiggmdolaa
