/- The walk of MemnodeCopies. -/
import Derived.Test.YtlhbikiggmdolaaSame
import Derived.Test.YtlhbikiggmdolaaCopy3
namespace Go.Proofs.Ytlhbikiggmdolaa
open Go.RowKit

def CpRel (w w0 : World) (F G : Blk) (p g n L : Nat) (i : Value) (wr : World) : Prop :=
  ∃ (k : Nat) (ws : List Int) (up : Bool), k ≤ n ∧ i = .int .i64 k ∧ Duo F G p g L ws up wr ∧ Upd Non w wr ∧ Nat.le w0.heap.size wr.heap.size
/-- The run of one pair, the other pair beside it as it was. -/
def CpRel2 (w : World) (F G : Blk) (p g n L : Nat) (D : World → Prop) (i : Value) (wr : World) : Prop :=
  ∃ (k : Nat) (ws : List Int) (up : Bool), k ≤ n ∧ i = .int .i64 k ∧ Duo F G p g L ws up wr ∧ Upd Non w wr ∧ D wr

theorem upd_past {w : World} {F G : Blk} {a b : World} (h : Upd Non w a) (hu : Upd (Or2 F G) a b) (hF : ∀ k, F k → w.heap.size ≤ k) (hG : ∀ k, G k → w.heap.size ≤ k) : Upd Non w b :=
  h.trans hu fun i hi hm => by rcases hm with hm | hm; { have := hF i hm; omega }; { have := hG i hm; omega }

theorem cp_arm {wc W w' : World} {v : Value} {n g : Nat} {ws : List Int} {x y : Value} (hW : Upd Non wc W) (hl : ws.length = n) (h0 : 0 < n) (hO : Own w' (fun k => Non k ∨ New W w' k) 36 1 v (0 + n) ([] ++ u64s ws)) (hu0 : Upd (fun k => (Value.slice none 0 0).ownBlock = some k) W w')
    (HC : ∀ w2, Upd Non wc w2 → w2.cell? ⟨g, 0, none⟩ = some x ∧ w2.cell? ⟨g, 1, none⟩ = some y) :
    ∃ A cap, v = .slice (some A) n cap ∧ w'.cell? ⟨g, 0, none⟩ = some x ∧ w'.cell? ⟨g, 1, none⟩ = some y ∧ (∀ o, (w'.alloc o).cell? ⟨g, 1, none⟩ = some y) ∧ Hid (Own w' (New wc w') 36 1 (.slice (some A) n cap) ws.length (u64s ws)) ∧ Hid (Upd Non wc w') ∧
      (∀ b, Row W b 46 [.slice none 0 0, .bool false] → w'.cell? ⟨b, 0, none⟩ = some (.slice none 0 0) ∧ w'.cell? ⟨b, 1, none⟩ = some (.bool false) ∧ w'.frozen? ⟨b, 0, none⟩ = false ∧ w'.frozen? ⟨b, 1, none⟩ = false ∧ Hid (Row w' b 46 [.slice none 0 0, .bool false])) := by
  have hu1 : Upd Non W w' := ⟨hu0.os, hu0.tape, hu0.output, hu0.size, fun k hk _ => hu0.block k hk (by simp [Value.ownBlock])⟩
  have hu : Upd Non wc w' := hW.tr hu1
  rw [Nat.zero_add, List.nil_append] at hO
  have hO2 : Own w' (New wc w') 36 1 v n (u64s ws) := hO.mono fun k hk _ => hk.elim (fun h => h.elim) (fun h => ⟨Nat.le_trans hW.size h.1, h.2⟩)
  obtain ⟨e0, e1⟩ := HC w' hu
  subst hl
  obtain ⟨A, cap, rfl, hA, _⟩ := hO2.shape
  cases A with
  | none => have := (hA rfl).1; omega
  | some A =>
    refine ⟨A, cap, rfl, e0, e1, fun o => (HC _ (hu.alloc o)).2, Lib.hid hO2, Lib.hid hu, fun b hb => ?_⟩
    have hb' := hu1.rowN hb
    exact ⟨hb'.cell 0 rfl, hb'.cell 1 rfl, hb'.frozen 0, hb'.frozen 1, Lib.hid hb'⟩

theorem cp_done {w wa wb : World} {F G : Blk} (h : Upd Non w wa) (hu : Upd (Or2 F G) wa wb) (hF : ∀ k, F k → w.heap.size ≤ k) (hG : ∀ k, G k → w.heap.size ≤ k) : Upd Non w wb := upd_past h hu hF hG

set_option maxRecDepth 100000 in
set_option maxHeartbeats 1600000 in
theorem memnodeCopies_any (w : World) (A1 : Option Addr) (la ca : Nat) (z1 : List (List Int)) (hz1 : RowsR w opK A1 la z1 ∧ la ≤ ca ∧ ca ≤ maxLen ∧ (A1 = none → la = 0 ∧ ca = 0))
    (A2 : Option Addr) (lb cb : Nat) (z2 : List (List Int)) (hz2 : RowsR w opK A2 lb z2 ∧ lb ≤ cb ∧ cb ≤ maxLen ∧ (A2 = none → lb = 0 ∧ cb = 0))
    (A3 : Option Addr) (lc cc : Nat) (z3 : List (List Int)) (hz3 : RowsR w opK A3 lc z3 ∧ lc ≤ cc ∧ cc ≤ maxLen ∧ (A3 = none → lc = 0 ∧ cc = 0)) :
    Calls Try.prog 10 #[.slice A1 la ca, .slice A2 lb cb, .slice A3 lc cc] w fun e w' => e = .returned (.bool true) ∧ Upd Non w w' := by
  have HO1 := Lib.hid hz1.1.ops
  have HO2 := Lib.hid hz2.1.ops
  have HO3 := Lib.hid hz3.1.ops
  clear hz1 hz2 hz3
  by_cases ha : 20 < la
  · go_enter Try.func10, Try.ntmps10
    go_wp2
    go_ret
    exact ⟨rfl, Upd.refl _ _⟩
  by_cases hb : 20 < lb
  · go_enter Try.func10, Try.ntmps10
    go_wp2
    go_ret
    exact ⟨rfl, Upd.refl _ _⟩
  by_cases hc : 20 < lc
  · go_enter Try.func10, Try.ntmps10
    go_wp2
    go_ret
    exact ⟨rfl, Upd.refl _ _⟩
  have ha' : la ≤ 20 := by omega
  have hb' : lb ≤ 20 := by omega
  have hc' : lc ≤ 20 := by omega
  go_enter Try.func10, Try.ntmps10
  go_wp2_with fail
  refine (new_okI 2 (by decide) (by decide)).mono ?_
  rintro e w1 ⟨p, rfl, hN1, hu1⟩
  have HN := Lib.hid hN1
  have HU1 := Lib.hid hu1
  clear hN1 hu1
  go_wp2_with fail
  refine (awake3_calls _).mono ?_
  rintro e w2 ⟨rfl, hu2⟩
  have HU2 := Lib.hid hu2
  clear hu2
  go_wp2_with fail
  refine (newnode_calls 2 (by decide) (by decide)).mono ?_
  rintro e w3 ⟨q, rfl, hq, hr, hu3⟩
  have hS := duo_start (L := 2) HN.out HU2.out hq hr hu3 (by decide)
  have HS := Lib.hid hS
  have hU4 : Upd Non w (w3.alloc (.cells #[.slice (some ⟨q, 0, none⟩) (2 * 8) (2 * 8), .bool true] 46)) := ((HU1.out.tr HU2.out).tr hu3).alloc _
  have HU4 := Lib.hid hU4
  have hs1 : w.heap.size ≤ w1.heap.size := HU1.out.size
  have HS1 := Lib.hid hs1
  have hs14 : Nat.le w1.heap.size (w3.alloc (.cells #[.slice (some ⟨q, 0, none⟩) 16 16, .bool true] 46)).heap.size := Nat.le_trans HU2.out.size (Nat.le_trans hu3.size ((Upd.refl Non w3).alloc _).size)
  have HS14 := Lib.hid hs14
  clear hs14
  clear hq hr hu3 hS hU4 hs1
  go_wp2_with fail
  obtain ⟨W4, hW4⟩ : ∃ W4, W4 = w3.alloc (.cells #[.slice (some ⟨q, 0, none⟩) 16 16, .bool true] 46) := ⟨_, rfl⟩
  have HS' : Hid (Duo (New w w1) (New w1 W4) p w3.heap.size 16 (List.replicate 16 0) true W4) := by rw [hW4]; exact HS.out
  have HU4' : Hid (Upd Non w W4) := by rw [hW4]; exact HU4.out
  have HS14' : Hid (Nat.le w1.heap.size W4.heap.size) := by rw [hW4]; exact HS14.out
  rw [← hW4]
  clear hW4 HS HU4 HS14
  generalize w3.heap.size = g at *
  go_loopw [10] (fun i wr => CpRel w W4 (New w w1) (New w1 W4) p g la 16 i wr) (fun i _ => 21 - (intOf i).toNat)
  case atStart => exact ⟨0, _, _, Nat.zero_le _, rfl, HS'.out, HU4'.out, Nat.le_refl _⟩
  case round =>
    obtain ⟨k, ws, up, hk, rfl, hpl, hur, hsz⟩ := hrel
    have HSZ := Lib.hid hsz
    have HB := Lib.hid hpl
    have HUR := Lib.hid hur
    clear hpl HS' HU4' HN hur hsz
    by_cases hlt : k < la
    · obtain ⟨kd, at_, cn, a, v, hA0, b, off, rfl, hbl, h0, h1, h2, h3, h4⟩ := (HO1.out.keep HUR.out) k hlt
      have HA := Lib.hid hA0
      clear hA0 hbl
      go_wp2_with fail
      refine (HB.out.do (new_disj (Nat.le_refl _)) (by decide) kd at_ cn a v HA.out).mono ?_
      rintro e w' ⟨rfl, ws', up', hpl, hup⟩
      have HC := Lib.hid hpl
      have HV := Lib.hid (upd_past HUR.out hup (fun k h => h.1) (fun k h => Nat.le_trans HS1.out h.1))
      have HUP := Lib.hid hup.size
      clear hpl hup
      go_wp2_with fail
      go_round
      case rel => exact ⟨k + 1, ws', up', by omega, by go_num, HC.out, HV.out, Nat.le_trans HSZ.out HUP.out⟩
      case measure => simp [intOf]; omega
    · have hk' : k = la := by omega
      subst hk'
      go_wp2_with fail
      refine (copy_calls HB.out.node).mono ?_
      rintro e wk ⟨p2, rfl, hN2, huc⟩
      have HN2 := Lib.hid hN2
      have HBc := Lib.hid (HB.out.keepN huc)
      have HUC := Lib.hid (HUR.out.tr huc)
      have hsr : W4.heap.size ≤ wr.heap.size := HSZ.out
      have HSR := Lib.hid hsr
      have HSC := Lib.hid huc.size
      clear hN2 huc HB HUR hsr
      go_wp2_with fail
      go_upto_region 16 with fail
      go_cut [12] (fun s12 we => CpCut wk (New wr wk) p2 16 ws up s12 we)
      case first =>
        obtain ⟨cR, hR⟩ := HBc.out.ref
        obtain ⟨hRb, qr, spr, r1, r2, ⟨sparer, hss, hRq⟩, _, gq, _, hRl⟩ := hR
        have c0 := hRb.cell 0 r1
        have c1 := hRb.cell 1 r2
        have hV : View wk (fun _ => True) 1 (some ⟨qr, 0, none⟩) ws.length (u64s ws) := View.ofRow hRq _ trivial 1 _ 0 _ (by simp [u64s]) (by simp [u64s])
        have HV := Lib.hid hV
        have HC := Lib.hid (fun w2 (hu : Upd Non wk w2) => (⟨(hu.rowN hRb).cell 0 r1, (hu.rowN hRb).cell 1 r2⟩ : w2.cell? ⟨g, 0, none⟩ = _ ∧ w2.cell? ⟨g, 1, none⟩ = _))
        have hl16 : ws.length = 16 := HBc.out.len
        have HL := Lib.hid hl16
        have HWF := Lib.hid HBc.out.wf
        clear hRb r1 r2 hss hRq gq hV
        rw [hl16] at c0
        clear hl16
        have HVK := Lib.hid (fun w2 (hu : Upd Non wk w2) => HV.out.keep hu (fun _ _ h => h))
        have ca0 : ∀ o, (wk.alloc o).cell? ⟨g, 0, none⟩ = _ := fun o => (HC.out _ ((Upd.refl Non wk).alloc o)).1
        have ca1 : ∀ o, (wk.alloc o).cell? ⟨g, 1, none⟩ = _ := fun o => (HC.out _ ((Upd.refl Non wk).alloc o)).2
        rw [HL.out] at ca0
        have hnew : Row (wk.alloc (.cells #[.slice none 0 0, .bool false] 46)).drew wk.heap.size 46 [.slice none 0 0, .bool false] := Row.new _ _ _
        have HNW := Lib.hid hnew
        clear hnew
        go_region_law (first
          | (refine step_app (w := wk.drew) (F := Non) (fun _ => True) rfl _ _ 33 36 rfl (.int .u64 0) 1 8 Try.underlying33 info_u64 rfl (by decide) (.slice none 0 0) 0 [] rfl (Own.nil _ _ _ _) (some ⟨qr, 0, none⟩) 16 (16 + spr) (u64s ws) rfl (by simp) (by have h := HVK.out _ ((Upd.refl Non wk).drew); rw [HL.out] at h; exact h) (wf_u64s _) (by decide) (by decide) ?_; intro v' w' hown hupd hnil hblk; obtain ⟨A4, cp4, rfl, e0, e1, e2, HO, HUD, _⟩ := cp_arm ((Upd.refl Non wk).drew) HL.out (by decide) hown hupd HC.out; clear hown hupd hnil hblk)
          | (refine step_app (w := (wk.alloc (.cells #[.slice none 0 0, .bool false] 46)).drew) (F := Non) (fun _ => True) rfl _ _ 33 36 rfl (.int .u64 0) 1 8 Try.underlying33 info_u64 rfl (by decide) (.slice none 0 0) 0 [] rfl (Own.nil _ _ _ _) (some ⟨qr, 0, none⟩) 16 (16 + spr) (u64s ws) rfl (by simp) (by have h := HVK.out _ (((Upd.refl Non wk).alloc (.cells #[.slice none 0 0, .bool false] 46)).drew); rw [HL.out] at h; exact h) (wf_u64s _) (by decide) (by decide) ?_; intro v' w' hown hupd hnil hblk; obtain ⟨A4, cp4, rfl, e0, e1, e2, HO, HUD, hNW⟩ := cp_arm (((Upd.refl Non wk).alloc _).drew) HL.out (by decide) hown hupd HC.out; obtain ⟨f0, f1, f2, f3, HROW⟩ := hNW _ HNW.out; clear hown hupd hnil hblk hNW))
        all_goals go_wp2_with fail
        all_goals go_meet
        all_goals first
          | exact cp_cut1 HN2.out HL.out HWF.out HUD.out HO.out (by decide) (by decide)
          | exact cp_cut2 HN2.out HL.out HWF.out HUD.out HO.out (by decide) (by decide) HROW.out rfl (Nat.le_refl _)
      case rest =>
        obtain ⟨g2, rfl, hD2, hue⟩ := hcut
        have HD2 := Lib.hid hD2
        have HD1 := Lib.hid (HBc.out.keepN hue)
        have HUW := Lib.hid (HUC.out.tr hue)
        have x1 : Nat.le w1.heap.size wr.heap.size := Nat.le_trans HS14'.out HSR.out
        have x2 : Nat.le w1.heap.size wk.heap.size := Nat.le_trans x1 HSC.out
        have x3 : Nat.le W4.heap.size wk.heap.size := Nat.le_trans HSR.out HSC.out
        have HF2 := Lib.hid (or2_not (F := New wr wk) (A := New w w1) (B := New w1 W4) (new_disj' x1) (new_disj' HSR.out))
        have HG2 := Lib.hid (or2_not (F := New wk wc) (A := New w w1) (B := New w1 W4) (new_disj' x2) (new_disj' x3))
        have HF1 := Lib.hid (or2_not (F := New w w1) (A := New wr wk) (B := New wk wc) (new_disj x1) (new_disj x2))
        have HG1 := Lib.hid (or2_not (F := New w1 W4) (A := New wr wk) (B := New wk wc) (new_disj HSR.out) (new_disj x3))
        have HFG : Hid (∀ k, New wr wk k → ¬ New wk wc k) := new_disj (Nat.le_refl _)
        have HP2 : Hid (∀ k, New wr wk k → Nat.le w.heap.size k) := fun k h => Nat.le_trans HS1.out (Nat.le_trans x1 h.1)
        have HQ2 : Hid (∀ k, New wk wc k → Nat.le w.heap.size k) := fun k h => Nat.le_trans HS1.out (Nat.le_trans x2 h.1)
        clear hD2 hue HBc HUC x1 x2 x3
        generalize New wr wk = F2 at *
        generalize New wk wc = G2 at *
        go_wp2_with fail
        go_loopw [13] (fun i wl => CpRel2 w (New w w1) (New w1 W4) p g lb 16 (fun W => Duo F2 G2 p2 g2 16 ws up W) i wl) (fun i _ => 21 - (intOf i).toNat)
        case atStart => exact ⟨0, _, _, Nat.zero_le _, rfl, HD1.out, HUW.out, HD2.out⟩
        case round =>
          obtain ⟨j, ws1, up1, hj, rfl, hpl, hur, hd2⟩ := hrel
          have HB := Lib.hid hpl
          have HUR := Lib.hid hur
          have HDD := Lib.hid hd2
          clear hpl hur hd2 HD1 HD2 HUW
          by_cases hlt2 : j < lb
          · obtain ⟨kd, at_, cn, a, v, hA0, b, off, rfl, hbl, h0, h1, h2, h3, h4⟩ := (HO2.out.keep HUR.out) j hlt2
            have HA := Lib.hid hA0
            clear hA0 hbl
            go_wp2_with fail
            refine (HB.out.do (new_disj (Nat.le_refl _)) (by decide) kd at_ cn a v HA.out).mono ?_
            rintro e w' ⟨rfl, ws', up', hpl, hup⟩
            have HC := Lib.hid hpl
            have HV := Lib.hid (upd_past HUR.out hup (fun k h => h.1) (fun k h => Nat.le_trans HS1.out h.1))
            have HE := Lib.hid (HDD.out.keep hup HF2.out HG2.out)
            clear hpl hup
            go_wp2_with fail
            go_round
            case rel => exact ⟨j + 1, ws', up', by omega, by go_num, HC.out, HV.out, HE.out⟩
            case measure => simp [intOf]; omega
          · have hj' : j = lb := by omega
            subst hj'
            go_wp2_with fail
            go_loopw [14] (fun i wl => CpRel2 w F2 G2 p2 g2 lc 16 (fun W => Duo (New w w1) (New w1 W4) p g 16 ws1 up1 W) i wl) (fun i _ => 21 - (intOf i).toNat)
            case atStart => exact ⟨0, _, _, Nat.zero_le _, rfl, HDD.out, HUR.out, HB.out⟩
            case round =>
              obtain ⟨i, ws2, up2, hi, rfl, hpl, hur, hd1⟩ := hrel
              have HB2 := Lib.hid hpl
              have HUR2 := Lib.hid hur
              have HD1 := Lib.hid hd1
              clear hpl hur hd1 HB HUR HDD
              by_cases hlt3 : i < lc
              · obtain ⟨kd, at_, cn, a, v, hA0, b, off, rfl, hbl, h0, h1, h2, h3, h4⟩ := (HO3.out.keep HUR2.out) i hlt3
                have HA := Lib.hid hA0
                clear hA0 hbl
                go_wp2_with fail
                refine (HB2.out.do HFG.out (by decide) kd at_ cn a v HA.out).mono ?_
                rintro e w' ⟨rfl, ws', up', hpl, hup⟩
                have HC := Lib.hid hpl
                have HV := Lib.hid (upd_past HUR2.out hup HP2.out HQ2.out)
                have HE := Lib.hid (HD1.out.keep hup HF1.out HG1.out)
                clear hpl hup
                go_wp2_with fail
                go_round
                case rel => exact ⟨i + 1, ws', up', by omega, by go_num, HC.out, HV.out, HE.out⟩
                case measure => simp [intOf]; omega
              · have hi' : i = lc := by omega
                subst hi'
                obtain ⟨cA, hA⟩ := HD1.out.ref
                obtain ⟨cB, hB⟩ := HB2.out.ref
                have HRA := Lib.hid hA
                have HRB := Lib.hid hB
                have HNA := Lib.hid HD1.out.node
                have HNB := Lib.hid HB2.out.node
                have HWA := Lib.hid HD1.out.wf
                have HWB := Lib.hid HB2.out.wf
                clear hA hB
                go_wp2_with fail
                refine (image_calls HNA.out HWA.out).mono ?_
                rintro e w5 ⟨v, rfl, hO5, hU5⟩
                obtain ⟨A5, cp5, rfl, _, hV5⟩ := hO5.shape
                have HV5 := Lib.hid hV5
                have HR5 := Lib.hid (HRA.out.keep hU5 (fun _ _ h => h))
                have HU5 := Lib.hid hU5
                clear hO5 hV5 hU5
                go_wp2_with fail
                refine (sameImage_calls (cap := cp5) HR5.out HWA.out HV5.out).mono ?_
                rintro e w6 ⟨rfl, hU6⟩
                have HU6 := Lib.hid (HU5.out.tr hU6)
                have HNB6 := Lib.hid (HNB.out.keep HU6.out (fun _ _ h => h))
                have HRB6 := Lib.hid (HRB.out.keep HU6.out (fun _ _ h => h))
                clear hU6
                go_wp2_with fail
                refine (image_calls HNB6.out HWB.out).mono ?_
                rintro e w7 ⟨v, rfl, hO7, hU7⟩
                obtain ⟨A7, cp7, rfl, _, hV7⟩ := hO7.shape
                have HV7 := Lib.hid hV7
                have HR7 := Lib.hid (HRB6.out.keep hU7 (fun _ _ h => h))
                have HU7 := Lib.hid (HU6.out.tr hU7)
                clear hO7 hV7 hU7
                go_wp2_with fail
                refine (sameImage_calls (cap := cp7) HR7.out HWB.out HV7.out).mono ?_
                rintro e w8 ⟨rfl, hU8⟩
                have HU8 := Lib.hid ((HUR2.out.tr HU7.out).tr hU8)
                clear hU8
                go_wp2_with fail
                go_ret
                exact ⟨rfl, HU8.out⟩
end Go.Proofs.Ytlhbikiggmdolaa
