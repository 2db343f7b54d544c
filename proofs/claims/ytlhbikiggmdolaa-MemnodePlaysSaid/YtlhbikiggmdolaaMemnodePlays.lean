/- The walk of MemnodePlays. -/
import Derived.Test.YtlhbikiggmdolaaSame
import Derived.Deep.RegionHeld3
namespace Go.Proofs.Ytlhbikiggmdolaa
open Go.RowKit

theorem PlayAt.ref {w w1 wr : World} {p g L : Nat} {kp up : Bool} {ws : List Int} (h : PlayAt w w1 p g L kp ws up wr) : ∃ c, RefN wr (Past w1) g 0 46 c ws up := by
  obtain ⟨c, h1, h2, h3, h4, h5, h6⟩ := h; exact ⟨c, h5.2⟩

theorem op_keep {w : World} {b o : Nat} {v0 v1 v2 v3 v4 : Value} (hb : b < w.heap.size) (h0 : w.cell? ⟨b, o, none⟩ = some v0) (h1 : w.cell? ⟨b, o + 1, none⟩ = some v1) (h2 : w.cell? ⟨b, o + 2, none⟩ = some v2) (h3 : w.cell? ⟨b, o + 3, none⟩ = some v3) (h4 : w.cell? ⟨b, o + 4, none⟩ = some v4) :
    ∀ w', Upd Non w w' → w'.cell? ⟨b, o, none⟩ = some v0 ∧ w'.cell? ⟨b, o + 1, none⟩ = some v1 ∧ w'.cell? ⟨b, o + 2, none⟩ = some v2 ∧ w'.cell? ⟨b, o + 3, none⟩ = some v3 ∧ w'.cell? ⟨b, o + 4, none⟩ = some v4 := by
  intro w' hu
  have hk := hu.block b hb (fun h => h)
  exact ⟨(World.cell?_of_block (a := ⟨b, o, none⟩) hk).trans h0, (World.cell?_of_block (a := ⟨b, o + 1, none⟩) hk).trans h1, (World.cell?_of_block (a := ⟨b, o + 2, none⟩) hk).trans h2, (World.cell?_of_block (a := ⟨b, o + 3, none⟩) hk).trans h3, (World.cell?_of_block (a := ⟨b, o + 4, none⟩) hk).trans h4⟩

theorem plays_arm {w w1 w' : World} {p g m : Nat} {ws : List Int} {up : Bool} (h : PlayAt w w1 p g ((m + 1) * 8) false ws up w') :
    ∃ (q n cp : Nat) (x : Int), w'.cell? ⟨g, 0, none⟩ = some (.slice (some ⟨q, 0, none⟩) n cp) ∧ w'.cell? ⟨g, 1, none⟩ = some (.bool up) ∧ w'.cell? ⟨q, 1, none⟩ = some (.int .u64 x) ∧ 2 ≤ n ∧ (up != up) = false ∧ (x != x) = false ∧
      Hid (Calls Try.prog 55 #[.pointer (some ⟨p, 0, none⟩)] w' fun e w'' => e = .returned (.bool up) ∧ w' = w'') ∧
      Hid (Calls Try.prog 27 #[.pointer (some ⟨p, 0, none⟩)] w' fun e w'' => e = .returned (.int .u64 x) ∧ w' = w'') ∧
      Hid (Calls Try.prog 77 #[.pointer (some ⟨p, 0, none⟩)] w' fun e w'' => e = .returned (.int .i64 ((m : Int) + 1)) ∧ w' = w'') := by
  have hl := h.len
  have hn := h.node
  obtain ⟨c, hb, q, sp, h1, h2, ⟨spare, hs, hq⟩, _, _, _, _⟩ := h.ref
  have hlin := lines_calls hn
  rw [hl, show (m + 1) * 8 / 8 = m + 1 by omega] at hlin
  exact ⟨q, _, _, ws.getD 1 0, hb.cell 0 h1, hb.cell 1 h2, hq.cell 1 (u64s_at (by omega)), by omega, by simp, by simp, Lib.hid (up_calls hn), Lib.hid (boot_calls hn (by omega)), Lib.hid hlin⟩

set_option maxRecDepth 100000 in
set_option maxHeartbeats 8000000 in
theorem memnodePlays_any (w : World) (t : Int) (_wf : (Lit.int .i64 t).wf = true) (A : Option Addr) (len cap : Nat) (z : List (List Int)) (hz : RowsR w opK A len z ∧ len ≤ cap ∧ cap ≤ maxLen ∧ (A = none → len = 0 ∧ cap = 0)) :
    Calls Try.prog 9 #[.int .i64 t, .slice A len cap] w fun e w' => e = .returned (.bool true) ∧ Upd Non w w' := by
  obtain ⟨hz0, hlc, hcm, _⟩ := hz
  have hO := hz0.ops
  have HO := Lib.hid hO
  obtain ⟨m, hm⟩ : ∃ m : Nat, t % 5 = m := ⟨(t % 5).toNat, by omega⟩
  have hm4 : m < 5 := by omega
  have hp := fun w => pick_calls t 5 w (by decide) (by decide)
  rw [hm] at hp
  have HP := Lib.hid hp
  clear hz0 hO hcm hm hp
  go_enter Try.func9, Try.ntmps9
  go_wp2_with fail
  refine (HP.out _).mono ?_
  rintro e w' ⟨rfl, rfl⟩
  go_wp2_with fail
  refine (new_okI ((m : Int) + 1) (by omega) (by omega)).mono ?_
  rintro e w1 ⟨p, rfl, hN1, hu1⟩
  rw [show ((m : Int) + 1).toNat = m + 1 by omega] at hN1
  have HN := Lib.hid hN1
  have HU1 := Lib.hid hu1
  clear hN1 hu1
  by_cases hl : 60 < len
  · go_wp2_with fail
    go_ret
    exact ⟨rfl, HU1.out⟩
  · have hl' : len ≤ 60 := by omega
    clear hl
    go_wp2_with fail
    refine (awake3_calls _).mono ?_
    rintro e w2 ⟨rfl, hu2⟩
    have HU2 := Lib.hid hu2
    clear hu2
    go_wp2_with fail
    refine (newnode_calls (m + 1) (by omega) (by omega)).mono ?_
    rintro e w3 ⟨q, rfl, hq, hr, hu3⟩
    have hS := play_start (L := m + 1) HN.out HU1.out HU2.out hq hr hu3 (by omega) false
    have HS := Lib.hid hS
    clear hq hr hu3 hS
    go_wp2_with fail
    go_loopw [8] (fun i wr => PlayRel w w1 p w3.heap.size len ((m + 1) * 8) false i wr) (fun i _ => 61 - (intOf i).toNat)
    case atStart => exact ⟨0, _, _, Nat.zero_le _, rfl, HS.out⟩
    case round =>
      obtain ⟨k, ws, up, hk, rfl, hpl⟩ := hrel
      have HB := Lib.hid hpl
      clear hpl HS HN
      by_cases hlt : k < len
      · obtain ⟨kd, at_, cn, a, v, ha, b, off, rfl, hbl, g0, g1, g2, g3, g4⟩ := HO.out k hlt
        have HG := Lib.hid (op_keep hbl g0 g1 g2 g3 g4)
        clear g0 g1 g2 g3 g4
        obtain ⟨h0, h1, h2, h3, h4⟩ := HG.out _ HB.out.upd
        have HA := Lib.hid ha
        have HD := Lib.hid (HB.out.keep (wr' := wr.drew) ((Upd.refl Non wr).drew))
        clear ha hbl
        go_wp2_with fail
        have hk0 : (0 : Int) ≤ (k : Int) := by omega
        have hk1 : (k : Int) < (len : Int) := by omega
        go_region_with (first
          | (go_at_call 50; refine (HD.out.do HU1.out.size (by omega) kd at_ cn a v HA.out (fun h => by cases h)).mono ?_; rintro e w' ⟨rfl, ws', up', hpl⟩; obtain ⟨q2, n2, cp2, x2, d0, d1, d2, d3, d4, d5, HUp, HBo, HLi⟩ := plays_arm hpl; obtain ⟨e0, e1, e2, e3, e4⟩ := HG.out _ hpl.upd; have HPL := Lib.hid hpl; clear hpl)
          | (go_at_call 55; refine HUp.out.mono ?_; rintro e w' ⟨rfl, rfl⟩)
          | (go_at_call 27; refine HBo.out.mono ?_; rintro e w' ⟨rfl, rfl⟩)
          | (go_at_call 77; refine HLi.out.mono ?_; rintro e w' ⟨rfl, rfl⟩))
        all_goals go_wp2_with fail
        all_goals go_round
        all_goals first
          | exact ⟨k + 1, _, _, by omega, by go_num, HPL.out⟩
          | (simp [intOf]; omega)
      · have hk' : k = len := by omega
        subst hk'
        obtain ⟨c, hc⟩ := HB.out.ref
        have HR := Lib.hid hc
        have HN := Lib.hid HB.out.node
        have HW := Lib.hid HB.out.wf
        have HU := Lib.hid HB.out.upd
        clear hc
        go_wp2_with fail
        refine (image_calls HN.out HW.out).mono ?_
        rintro e w5 ⟨v, rfl, hO5, hU5⟩
        obtain ⟨A5, cp5, rfl, _, hV5⟩ := hO5.shape
        have HV5 := Lib.hid hV5
        have HR5 := Lib.hid (HR.out.keep hU5 (fun _ _ h => h))
        have HU5 := Lib.hid (HU.out.tr hU5)
        clear hO5 hV5 hU5
        go_wp2_with fail
        refine (sameImage_calls (cap := cp5) HR5.out HW.out HV5.out).mono ?_
        rintro e w6 ⟨rfl, hU6⟩
        have HU6 := Lib.hid (HU5.out.tr hU6)
        clear hU6
        go_wp2_with fail
        go_ret
        exact ⟨rfl, HU6.out⟩
end Go.Proofs.Ytlhbikiggmdolaa
