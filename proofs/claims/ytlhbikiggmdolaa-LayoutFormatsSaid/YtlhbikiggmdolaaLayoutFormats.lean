/- The walk of LayoutFormats. -/
import Derived.Test.YtlhbikiggmdolaaFormat
import Derived.Test.YtlhbikiggmdolaaArgs2
import Derived.Test.YtlhbikiggmdolaaRLoad
namespace Go.Proofs.Ytlhbikiggmdolaa
open Go.RowKit

theorem format_arg {w : World} (p : Nat) (c : Int) (h : c < 1 ∨ 5 < c) :
    Calls Try.prog 83 #[.pointer (some ⟨p, 0, none⟩), .int .i64 c] w fun e w' => e = .returned (.int .i64 1) ∧ w = w' := by
  go_enter Try.func83, Try.ntmps83
  go_wp2_with (go_at_call 28; refine (initial_calls_bad c h _).mono ?_; rintro e w' ⟨rfl, rfl⟩)
  go_ret
  exact ⟨rfl, rfl⟩
theorem format_limit {w : World} {F : Blk} {p : Nat} {ws : List Int} {up : Bool} (h : NodeR w F p ws up) (c : Int) (h1 : 1 ≤ c) (h2 : c ≤ 5) (lines : Nat) (hws : ws.length = lines * 8) (hl : lines < 98) :
    Calls Try.prog 83 #[.pointer (some ⟨p, 0, none⟩), .int .i64 c] w fun e w' => e = .returned (.int .i64 18) ∧ w = w' := by
  have hd : ws.length / 8 = lines := by omega
  have HD := Lib.hid hd
  have HN := Lib.hid h
  clear hws h hd
  go_enter Try.func83, Try.ntmps83
  go_wp2_with (first
    | (go_at_call 28; refine (initial_calls c h1 h2 _).mono ?_; rintro e w' ⟨rfl, rfl⟩)
    | (go_at_call 77; refine (lines_calls HN.out).mono ?_; rw [HD.out]; rintro e w' ⟨rfl, rfl⟩))
  go_ret
  exact ⟨rfl, rfl⟩
theorem format_gone {w : World} {F : Blk} {p : Nat} {ws : List Int} (h : NodeR w F p ws false) (c : Int) (h1 : 1 ≤ c) (h2 : c ≤ 5) (lines : Nat) (hws : ws.length = lines * 8) (hl : 98 ≤ lines) :
    Calls Try.prog 83 #[.pointer (some ⟨p, 0, none⟩), .int .i64 c] w fun e w' => e = .returned (.int .i64 4) ∧ w = w' := by
  have hd : ws.length / 8 = lines := by omega
  have HD := Lib.hid hd
  have HN := Lib.hid h
  clear hws h hd
  go_enter Try.func83, Try.ntmps83
  go_wp2_with (first
    | (go_at_call 28; refine (initial_calls c h1 h2 _).mono ?_; rintro e w' ⟨rfl, rfl⟩)
    | (go_at_call 77; refine (lines_calls HN.out).mono ?_; rw [HD.out]; rintro e w' ⟨rfl, rfl⟩)
    | (go_at_call 55; refine (up_calls HN.out).mono ?_; rintro e w' ⟨rfl, rfl⟩))
  go_ret
  exact ⟨rfl, rfl⟩

theorem strB_beq {l m : List Nat} (hl : Byt l) (hm : Byt m) : ((strB l).toList == (strB m).toList) = decide (l = m) := by
  by_cases h : l = m
  · subst h; simp
  · rw [decide_eq_false h, beq_eq_false_iff_ne]
    intro e
    refine h (strB_inj hl hm ?_)
    have e2 := congrArg List.toArray e
    rw [ByteArray.toList_eq, ByteArray.toList_eq] at e2
    cases ha : strB l; cases hc : strB m
    simp_all
def SbPost (xs ys : List Nat) (e : Ending) : Prop := e = .returned (.bool (decide (xs = ys)))
theorem sameBytes_calls {w : World} {F G : Blk} {A B : Option Addr} {n m ca cb : Nat} {xs ys : List Nat} (hx : View w F 1 A n (u8s xs)) (hy : View w G 1 B m (u8s ys)) (bx : Byt xs) (bby : Byt ys) (nx : xs ≠ []) (ny : ys ≠ []) :
    Calls Try.prog 75 #[.slice A n ca, .slice B m cb] w fun e w' => SbPost xs ys e ∧ w = w' := by
  have h1 : (convert 89 9 (.slice A n ca)).run Try.prog w = .ok (.string (strB xs)) w := conv_str hx bx nx
  have h2 : (convert 89 9 (.slice B m cb)).run Try.prog w = .ok (.string (strB ys)) w := conv_str hy bby ny
  have HB := Lib.hid (strB_beq bx bby)
  clear hx hy bx bby nx ny
  go_enter Try.func75, Try.ntmps75
  go_wp2_with fail
  go_ret
  exact ⟨by unfold SbPost; rw [← HB.out]; rfl, rfl⟩

def FmtA (w w1 : World) (p n : Nat) (up : Bool) (wr : World) : Prop := ∃ ws, ws.length = n ∧ Wf ws ∧ NodeR wr (New w w1) p ws up ∧ Upd Non w wr

set_option maxRecDepth 100000 in
set_option maxHeartbeats 2000000 in
theorem layoutFormats_any (w : World) (t : Int) (_wf : (Lit.int .i64 t).wf = true) (c : Int) (_wf2 : (Lit.int .i64 c).wf = true) (down : Bool) (A : Option Addr) (len cap : Nat) (z : List Int) (hz : U64sR w A len cap z) :
    Calls Try.prog 12 #[.int .i64 t, .int .i64 c, .bool down, .slice A len cap] w fun e w' => e = .returned (.bool true) ∧ Upd Non w w' := by
  obtain ⟨hv, hw64, hlc, hcm, _⟩ := hz
  have HVZ := Lib.hid hv
  have HWZ := Lib.hid hw64.wf
  have hzl : z.length = len := by have := hv.1; simpa [u64s] using this
  have HZL := Lib.hid hzl
  obtain ⟨m, hm⟩ : ∃ m : Nat, t % 12 = m := ⟨(t % 12).toNat, by omega⟩
  have hm2 : m < 12 := by omega
  have hp := fun w => pick_calls t 12 w (by decide) (by decide)
  rw [hm] at hp
  have HP := Lib.hid hp
  clear hv hw64 hzl hm hp hcm
  by_cases hl : 200 < len
  · go_enter Try.func12, Try.ntmps12
    go_wp2_with (go_at_call 23; refine (HP.out _).mono ?_; rintro e w' ⟨rfl, rfl⟩)
    go_ret
    exact ⟨rfl, Upd.refl _ _⟩
  have hl' : len ≤ 200 := by omega
  clear hl
  go_enter Try.func12, Try.ntmps12
  go_wp2_with fail
  refine (HP.out _).mono ?_
  rintro e w' ⟨rfl, rfl⟩
  go_wp2_with fail
  rw [show (m : Int) + 98 - 4 = ((m + 94 : Nat) : Int) by omega]
  obtain ⟨L, hL⟩ : ∃ L : Nat, m + 94 = L := ⟨_, rfl⟩
  have hL1 : 94 ≤ L := by omega
  have hL2 : L ≤ 105 := by omega
  rw [hL]
  clear hL hm2
  refine (new_ok L (by omega) (by omega)).mono ?_
  rintro e w1 ⟨p, rfl, hN1, hu1⟩
  have HN := Lib.hid hN1
  have HU1 := Lib.hid hu1
  clear hN1 hu1
  go_upto_region 7 with (go_at_call 22; refine (awake7_calls _).mono ?_; rintro e w2 ⟨rfl, hu2⟩; have HN2 := Lib.hid (HN.out.keep hu2 (fun _ _ h => h)); have HU2 := Lib.hid (HU1.out.tr hu2); clear hu2 HN HU1)
  go_cut [45] (fun s45 wr => s45 = .bool false ∧ FmtA w w1 p (L * 8) true wr)
  case first =>
    by_cases h0 : len = 0
    · subst h0
      go_wp2_with fail
      go_meet
      exact ⟨rfl, _, by simp, wf_zeros _, HN2.out, HU2.out⟩
    · have h0' : 0 < len := by omega
      have hac : accE (List.replicate (L * 8) (0 : Int)).length true 20 (len : Int) = 0 := by rw [List.length_replicate]; unfold accE; rw [if_neg (by omega)]; rfl
      have HAC := Lib.hid hac
      clear hac
      go_wp2_with fail
      refine (write_okI HN2.out 20 A len cap z (HVZ.out.keep HU2.out (fun _ _ h => h)) HAC.out).mono ?_
      rintro e w3 ⟨rfl, hN3, hu3⟩
      have HN3 := Lib.hid hN3
      have HU3 := Lib.hid (HU2.out.trans hu3 fun i hi h => absurd h.1 (by omega))
      clear hN3 hu3
      go_wp2_with fail
      go_meet
      exact ⟨rfl, _, by rw [putW_length _ _ _ (by rw [List.length_replicate]; have := HZL.out; omega)]; simp, (wf_zeros _).put HWZ.out _, HN3.out, HU3.out⟩
  case rest =>
    obtain ⟨rfl, ws, hws, hwf, hn, hu⟩ := hcut
    have HLW := Lib.hid hws
    have HWF := Lib.hid hwf
    have HN3 := Lib.hid hn
    have HU3 := Lib.hid hu
    clear hws hwf hn hu HN2 HU2
    go_upto_if 46 with fail
    go_cut [] (fun wr => FmtA w w1 p (L * 8) (!down) wr)
    case first =>
      cases down
      · go_wp2_with fail
        go_meet
        exact ⟨_, HLW.out, HWF.out, HN3.out, HU3.out⟩
      · go_wp2_with fail
        refine (fail_calls HN3.out).mono ?_
        rintro e w4 ⟨rfl, hN4, hu4⟩
        have HN4 := Lib.hid hN4
        have HU4 := Lib.hid (HU3.out.trans hu4 fun i hi h => absurd h.1 (by omega))
        clear hN4 hu4
        go_wp2_with fail
        go_meet
        exact ⟨_, HLW.out, HWF.out, HN4.out, HU4.out⟩
    case rest =>
      clear HLW HWF HN3 HU3
      obtain ⟨ws, hws, hwf, hn, hu⟩ := hcut
      have HLW := Lib.hid hws
      have HWF := Lib.hid hwf
      have HN4 := Lib.hid hn
      have HU4 := Lib.hid hu
      clear hws hwf hn hu
      go_wp2_with fail
      refine (image_calls HN4.out HWF.out).mono ?_
      rintro e w5 ⟨v, rfl, hO5, hU5⟩
      obtain ⟨A5, cp5, rfl, _, hV5⟩ := hO5.shape
      have HV5 := Lib.hid hV5
      have HN5 := Lib.hid (HN4.out.keep hU5 (fun _ _ h => h))
      have HU5 := Lib.hid (HU4.out.tr hU5)
      clear hO5 hV5 hU5
      have HIMG : Hid (∀ w', Upd Non w5 w' → Calls Try.prog 79 #[.pointer (some ⟨p, 0, none⟩)] w' fun e w6 => ∃ A6 cp6, e = .returned (.slice A6 (7 + 8 * ws.length + 8) cp6) ∧ (Calls Try.prog 75 #[.slice A6 (7 + 8 * ws.length + 8) cp6, .slice A5 (7 + 8 * ws.length + 8) cp5] w6 fun e w7 => SbPost (imgB ws !down) (imgB ws !down) e ∧ w6 = w7) ∧ Upd Non w w6) := by
        intro w' hu'
        refine (image_calls (HN5.out.keep hu' (fun _ _ h => h)) HWF.out).mono ?_
        rintro e w6 ⟨v, rfl, hO6, hU6⟩
        obtain ⟨A6, cp6, rfl, _, hV6⟩ := hO6.shape
        exact ⟨A6, cp6, rfl, sameBytes_calls hV6 (HV5.out.keep (hu'.tr hU6) (fun _ _ h => h)) (imgB_byt _ _) (imgB_byt _ _) (imgB_ne _ _) (imgB_ne _ _), (HU5.out.tr hu').tr hU6⟩
      by_cases hc : c < 1 ∨ 5 < c
      · have HC := Lib.hid hc
        rcases hc with hc | hc
        all_goals
          go_wp2_with fail
          refine (format_arg p c HC.out).mono ?_
          rintro e w' ⟨rfl, rfl⟩
          go_wp2_with fail
          refine (HIMG.out _ (Upd.refl _ _)).mono ?_
          rintro e w6 ⟨A6, cp6, rfl, hs, hu6⟩
          have HS := Lib.hid hs
          have HU6 := Lib.hid hu6
          clear hs hu6
          go_wp2_with fail
          refine HS.out.mono ?_
          rintro e w7 ⟨hsb, rfl⟩
          unfold SbPost at hsb
          rw [decide_eq_true rfl] at hsb
          subst hsb
          go_wp2_with fail
          go_ret
          exact ⟨rfl, HU6.out⟩
      · have hc1 : 1 ≤ c := by omega
        have hc2 : c ≤ 5 := by omega
        clear hc
        by_cases h98 : L < 98
        · go_wp2_with fail
          refine (format_limit HN5.out c hc1 hc2 L HLW.out h98).mono ?_
          rintro e w' ⟨rfl, rfl⟩
          go_wp2_with fail
          refine (HIMG.out _ (Upd.refl _ _)).mono ?_
          rintro e w6 ⟨A6, cp6, rfl, hs, hu6⟩
          have HS := Lib.hid hs
          have HU6 := Lib.hid hu6
          clear hs hu6
          go_wp2_with fail
          refine HS.out.mono ?_
          rintro e w7 ⟨hsb, rfl⟩
          unfold SbPost at hsb
          rw [decide_eq_true rfl] at hsb
          subst hsb
          go_wp2_with fail
          go_ret
          exact ⟨rfl, HU6.out⟩
        · have h98' : 98 ≤ L := by omega
          clear h98
          cases down
          · go_wp2_with fail
            refine (format_ok HN5.out c hc1 hc2 L HLW.out h98' (by omega)).mono ?_
            rintro e w6 ⟨rfl, hN6, hu6⟩
            have HN6 := Lib.hid hN6
            have HU6 := Lib.hid (HU5.out.trans hu6 fun i hi h => absurd h.1 (by omega))
            clear hN6 hu6
            go_wp2_with fail
            refine (formatted_calls c hc1 hc2 L h98' (by omega) _).mono ?_
            rintro e w7 ⟨q, rfl, hq, hr, hu7⟩
            have hrz : RefN (w7.alloc (.cells #[.slice (some ⟨q, 0, none⟩) (L * 8) (L * 8), .bool true] 46)) (fun _ => True) w7.heap.size 0 46 [.slice (some ⟨q, 0, none⟩) (L * 8) (L * 8), .bool true] (fmtW L (4504699138998272 + initV c)) true :=
              ⟨Row.new w7 _ _, q, 0, by simp [fmtW_length], rfl, ⟨[], rfl, by rw [List.append_nil]; exact hr.alloc _⟩, trivial, trivial, by have := hr.lt; omega, by rw [fmtW_length]; omega⟩
            have HRZ := Lib.hid hrz
            have HN7 := Lib.hid ((HN6.out.keep hu7 (fun _ _ h => h)).keep (M := Non) ((Upd.refl Non w7).alloc (.cells #[.slice (some ⟨q, 0, none⟩) (L * 8) (L * 8), .bool true] 46)) (fun _ _ h => h))
            have HU7 := Lib.hid ((HU6.out.tr hu7).alloc (.cells #[.slice (some ⟨q, 0, none⟩) (L * 8) (L * 8), .bool true] 46))
            have HWV := Lib.hid (fmtW_wf L (4504699138998272 + initV c) (by have := (initV_lt c).1; omega))
            clear hq hr hu7 hrz
            go_wp2_with fail
            refine (image_calls HN7.out HWV.out).mono ?_
            rintro e w8 ⟨v, rfl, hO8, hU8⟩
            obtain ⟨A8, cp8, rfl, _, hV8⟩ := hO8.shape
            have HV8 := Lib.hid hV8
            have HR8 := Lib.hid (HRZ.out.keep hU8 (fun _ _ h => h))
            have HU8 := Lib.hid (HU7.out.tr hU8)
            clear hO8 hV8 hU8
            go_wp2_with fail
            refine (sameImage_calls (cap := cp8) HR8.out HWV.out HV8.out).mono ?_
            rintro e w9 ⟨rfl, hU9⟩
            have HU9 := Lib.hid (HU8.out.tr hU9)
            clear hU9
            go_wp2_with fail
            go_ret
            exact ⟨rfl, HU9.out⟩
          · go_wp2_with fail
            refine (format_gone HN5.out c hc1 hc2 L HLW.out h98').mono ?_
            rintro e w' ⟨rfl, rfl⟩
            go_wp2_with fail
            refine (HIMG.out _ (Upd.refl _ _)).mono ?_
            rintro e w6 ⟨A6, cp6, rfl, hs, hu6⟩
            have HS := Lib.hid hs
            have HU6 := Lib.hid hu6
            clear hs hu6
            go_wp2_with fail
            refine HS.out.mono ?_
            rintro e w7 ⟨hsb, rfl⟩
            unfold SbPost at hsb
            rw [decide_eq_true rfl] at hsb
            subst hsb
            go_wp2_with fail
            go_ret
            exact ⟨rfl, HU6.out⟩
end Go.Proofs.Ytlhbikiggmdolaa
