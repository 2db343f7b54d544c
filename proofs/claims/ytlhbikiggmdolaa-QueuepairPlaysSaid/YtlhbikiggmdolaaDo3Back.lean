/- bodegalaw3.do: Back. -/
import Derived.Test.YtlhbikiggmdolaaDo3
namespace Go.Proofs.Ytlhbikiggmdolaa
open Go.RowKit

set_option maxRecDepth 100000 in
set_option maxHeartbeats 4000000 in
theorem do_Back {w : World} {F G : Blk} {p b off : Nat} {T : TypeId} {c : List Value} {ws : List Int} {up : Bool} (h : Both w F G p b off T c ws up) (hd : ∀ k, F k → ¬ G k) (hFb : ∀ k, F k → k < w.heap.size) (hGb : ∀ k, G k → k < w.heap.size) (h2 : 2 ≤ ws.length) (hwf : Wf ws) (kd at0 cn a v : Int) (ha0 : 0 ≤ a) (hkd : kd % 10 = 7 ∨ kd % 10 = 8) :
    Calls Try.prog 50 #[.pointer (some ⟨p, 0, none⟩), .pointer (some ⟨b, off, none⟩), opV kd at0 cn a v] w fun e w' => e = .returned (.bool true) ∧ DoPost w F G p b off T c ws up (decide (kd % 10 < 6)) w' := by
  have HB := Lib.hid (fun w' hu => h.keepN (w' := w') hu)
  have HW : Hid (Upd Non w (w.alloc (.cells (opC kd at0 cn a v) 49))) := (Upd.refl _ _).alloc _
  have HRW : Hid (Row (w.alloc (.cells (opC kd at0 cn a v) 49)) w.heap.size 49 (opC kd at0 cn a v).toList) := Row.new _ _ _
  obtain ⟨hN, hR, q, sp, h1, h2', ⟨spare, hs, hrq⟩, gb, gq, hne, hl⟩ := h
  have H1 := Lib.hid h1
  have H2 := Lib.hid h2'
  have HRQ := Lib.hid hrq
  have HRB := Lib.hid hR
  have HNE := Lib.hid hne
  have HGB := Lib.hid gb
  have HGQ := Lib.hid gq
  have HFB := Lib.hid hFb
  have HGBd := Lib.hid hGb
  have HDD := Lib.hid hd
  have HWF := Lib.hid hwf
  have HS := Lib.hid hs
  have c0 : (w.alloc (.cells (opC kd at0 cn a v) 49)).cell? ⟨b, off, none⟩ = _ := (HW.out.rowN hR).cell _ h1
  have hpos : 1 ≤ ws.length := by omega
  clear hN hR h1 h2' hs hrq gb gq hne hFb hGb hd hwf
  unfold opV
  unfold opC at c0
  go_enter Try.func50, Try.ntmps50
  go_wp2_with fail
  go_quiet (fail)
  go_upto_if 26 with fail
  go_cut [7, 8] (fun s7 s8 wc => CutRel w w.heap.size kd at0 cn a v s7 s8 wc)
  case first =>
    go_wp2_with (go_at_call 23; refine (pick_calls _ _ _ (by omega) (by omega)).mono ?_; rintro e w' ⟨rfl, rfl⟩)
    all_goals (go_meet; exact ⟨_, _, rfl, rfl, HRW.out.drewN _, HW.out.drewN _⟩)
  case rest =>
    obtain ⟨at_, ct, rfl, rfl, hbx, hu⟩ := hcut
    have HBX := Lib.hid hbx
    have HU := Lib.hid hu
    obtain ⟨m, hm⟩ : ∃ m : Nat, ct % 20 = m := ⟨(ct % 20).toNat, by omega⟩
    have hm20 : m < 20 := by omega
    have HM := Lib.hid hm
    have hmk := run_make_row' (P := Try.prog) 33 36 (.int .u64 0) 8 Try.underlying33 info_u64 rfl .i64 .i64 m (by omega) (by omega)
    clear hbx hu hm c0
    go_wp2_with fail
    refine (pick_calls _ _ _ (by omega) (by omega)).mono ?_
    rintro e w' ⟨rfl, rfl⟩
    rw [HM.out]
    go_wp2_with fail
    have HW1 := Lib.hid (HU.out.alloc (.cells (madeCells #[.int .u64 0] m) 36))
    have hrow1 : Row (wc.alloc (.cells (madeCells #[.int .u64 0] m) 36)) wc.heap.size 36 (u64s ((fillW v m).take 0 ++ List.replicate (m - 0) 0)) := by
      have := Row.new wc (madeCells #[.int .u64 0] m) 36
      rw [toList_made] at this
      simpa using this
    have HR1 := Lib.hid hrow1
    have hbx1 : Row (wc.alloc (.cells (madeCells #[.int .u64 0] m) 36)) w.heap.size 49 (opC kd at0 cn a v).toList := HBX.out.alloc _
    have HBX1 := Lib.hid hbx1
    have HLT := Lib.hid HBX.out.lt
    have HSZ := Lib.hid HU.out.size
    clear hrow1 hbx1 hmk HBX HRW HW HU
    generalize wc.alloc (.cells (madeCells #[.int .u64 0] m) 36) = W1 at *
    generalize wc.heap.size = wb at *
    go_loopw [10] (fun i wr => FillRel wb v m W1 i wr) (fun i _ => m - (intOf i).toNat)
    case atStart => exact ⟨0, Nat.zero_le _, rfl, HR1.out, Upd.refl _ _⟩
    case round =>
      obtain ⟨k, hk, rfl, hrow, hu⟩ := hrel
      have HROW := Lib.hid hrow
      have HUR := Lib.hid hu
      have hbr : Row wr w.heap.size 49 (opC kd at0 cn a v).toList := HUR.out.row HBX1.out (fun h => by have := HLT.out; cases h; omega)
      have HBR := Lib.hid hbr
      clear hrow hu hbr HR1 HBX1
      by_cases hlt : k < m
      · have cb : wr.cell? ⟨w.heap.size, 4, none⟩ = some (.int .u64 v) := HBR.out.cell 4 rfl
        have cw : wr.cell? ⟨wb, k, none⟩ = some (.int .u64 0) := HROW.out.cell k (fill_zero v m k hlt)
        have zw := HROW.out.frozen k
        go_wp2
        go_roundw
        case rel =>
          have := HROW.out.set k (.int .u64 ((v + (k : Int)) % 18446744073709551616))
          rw [fill_set v m k hlt] at this
          exact ⟨k + 1, by omega, by go_num, this, HUR.out.setCell (p := ⟨wb, k, none⟩) (.inl rfl) _⟩
        case measure => simp [intOf]; omega
      · have hkm : k = m := by omega
        have hrow : Row wr wb 36 (u64s (fillW v m)) := by
          rw [← fill_done v m k hkm]; exact HROW.out
        have HV := Lib.hid (View.ofRow hrow (One wb) rfl 1 m 0 (u64s (fillW v m)) (by simp [u64s, fillW_length]) (by rw [List.drop_zero, List.take_length]))
        have hU : Upd Non w wr := HW1.out.trans HUR.out fun i hi h => by have := HSZ.out; cases h; omega
        have HU := Lib.hid hU
        have HBO := Lib.hid (HB.out wr hU)
        have c5 : wr.cell? ⟨w.heap.size, 0, none⟩ = some (.int .i64 kd) := HBR.out.cell 0 rfl
        clear hkm hrow hU HROW HUR
        go_wp2_with fail
        refine (pick_calls _ _ _ (by omega) (by omega)).mono ?_
        rintro e w' ⟨rfl, rfl⟩
        have HCC := Lib.hid (set_same H2.out)
        have HKK : Hid (¬ kd % 10 < 6) := by show ¬ _; omega
        by_cases hcase : up = true ∨ 31 ≤ ws.getD 1 0
        · have HCA := Lib.hid hcase
          clear hcase
          rcases hkd with hkd | hkd
          all_goals
            rw [hkd]
            clear hkd
            go_wp2_with fail
            refine (back_no HBO.out.1 h2 HCA.out).mono ?_
            rintro e w' ⟨rfl, rfl⟩
            go_wp2_with fail
            refine (refback_no HBO.out.2 h2 HCA.out).mono ?_
            rintro e w' ⟨rfl, rfl⟩
            go_wp2_with fail
            go_ret
            exact ⟨rfl, ws, up, rfl, id, fun _ => rfl, by rw [HCC.out]; exact HBO.out, HU.out.of_non⟩
        · have hup : up = false := by cases up <;> simp_all
          subst hup
          have HX : Hid (ws.getD 1 0 < 31) := by show _ < _; omega
          have HX0 := Lib.hid (HWF.out.getD 1)
          clear hcase
          rcases hkd with hkd | hkd
          all_goals
            rw [hkd]
            clear hkd
            go_wp2_with fail
            refine (back_yes HBO.out.1 h2 HX.out HX0.out).mono ?_
            rintro e w2 ⟨rfl, hn2, hu2⟩
            have HN2 := Lib.hid hn2
            have HU2 := Lib.hid hu2
            have HR2 := Lib.hid (HBO.out.2.keep hu2 (fun k hg hf => HDD.out k hf hg))
            clear hn2 hu2
            go_wp2_with fail
            refine (refback_yes HR2.out h2 HX.out HX0.out).mono ?_
            rintro e w3 ⟨rfl, hr3, hu3⟩
            have HR3 := Lib.hid hr3
            have HU3 := Lib.hid hu3
            have HN3 := Lib.hid (HN2.out.keep hu3 HDD.out)
            clear hr3 hu3
            go_wp2_with fail
            go_ret
            exact ⟨rfl, _, true, by simp, fun h => h.set 1 (by have := HX0.out; omega), fun h => absurd (of_decide_eq_true h) (by have := HKK.out; omega), ⟨HN3.out, HR3.out⟩, ((HU.out.of_non).tr (HU2.out.mono fun _ _ h => .inl h)).tr (HU3.out.mono fun _ _ h => .inr h)⟩
end Go.Proofs.Ytlhbikiggmdolaa
