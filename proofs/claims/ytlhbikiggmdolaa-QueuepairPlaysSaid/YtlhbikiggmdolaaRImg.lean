/- The reference's image of a memory node. -/
import Derived.Test.YtlhbikiggmdolaaImg
namespace Go.Proofs.Ytlhbikiggmdolaa
open Go.RowKit

set_option maxRecDepth 100000 in
theorem refimage_true {w : World} {G : Blk} {b off : Nat} {T : TypeId} {c : List Value} {ws : List Int} (h : RefN w G b off T c ws true) (hwf : Wf ws) :
    Calls Try.prog 135 #[.pointer (some ⟨b, off, none⟩)] w fun e w' => ∃ v, e = .returned v ∧ Own w' (Past w) 5 1 v (7 + 8 * ws.length + 8) (u8s (imgB ws true)) ∧ Upd Non w w' := by
  obtain ⟨hb, q, sp, h1, h2, ⟨spare, hs, hq⟩, _, _, _, hl⟩ := h
  have HB := Lib.hid hb
  have HQ := Lib.hid hq
  have HW := Lib.hid hwf
  have H1 := Lib.hid h1
  have c0 := hb.cell off h1
  have c1 := hb.cell (off + 1) h2
  have hbl := hb.lt
  have hne0 : w.heap.size ≠ b := by omega
  clear hb hq hs hwf h1 h2
  generalize hlin : ws.length / 8 = lin at *
  have hd9 : lin ≤ 256 := by omega
  have HLIN := Lib.hid hlin
  have hlq : ((ws.length : Nat) : Int) / 8 = (lin : Int) := by omega
  clear hlin
  have hh : (#[Value.int .u8 77, .int .u8 69, .int .u8 77, .int .u8 49, .int .u8 ((lin : Int) % 256), .int .u8 ((lin : Int) / 256), .int .u8 1] : Array Value).toList = u8s (imgH lin true) := by
    unfold imgH
    rw [Nat.mod_eq_of_lt (show lin / 256 < 256 by omega)]; rfl
  have ho0 := Own.fresh w (Past w) #[Value.int .u8 77, .int .u8 69, .int .u8 77, .int .u8 49, .int .u8 ((lin : Int) % 256), .int .u8 ((lin : Int) / 256), .int .u8 1] 5 (Nat.le_refl _) (by show 7 ≤ maxLen; decide)
  rw [hh] at ho0
  have HO0 := Lib.hid ho0
  have HU0 := Lib.hid ((Upd.refl Non w).alloc (.cells #[Value.int .u8 77, .int .u8 69, .int .u8 77, .int .u8 49, .int .u8 ((lin : Int) % 256), .int .u8 ((lin : Int) / 256), .int .u8 1] 5))
  clear hh ho0
  go_enter Try.func135, Try.ntmps135
  go_wp2_with fail
  go_loopw [4, 5] (fun v i wr => ImgRel w ws true v i wr) (fun _ i _ => ws.length - (intOf i).toNat)
  case atStart => exact ⟨0, by omega, rfl, by rw [HLIN.out]; simpa [imgW] using HO0.out, HU0.out⟩
  case round =>
    obtain ⟨k, hk, rfl, hown, hupd⟩ := hrel
    have HO := Lib.hid hown
    have HU := Lib.hid hupd
    have d0 := (hupd.rowN HB.out).cell off H1.out
    clear hown hupd c0 c1
    by_cases hlt : k < ws.length
    · have hx0 := HW.out.getD k
      obtain ⟨x, hx⟩ := Int.eq_ofNat_of_zero_le hx0
      have hcell := (HU.out.rowN HQ.out).cell k (u64s_at hlt)
      rw [hx] at hcell
      have hsn := imgW_snoc ws k hlt
      rw [hx] at hsn
      have HSN : Hid (imgW (ws.take (k + 1)) = imgW (ws.take k) ++ leB x) := Lib.hid hsn
      clear hx0 hx hsn
      go_wp2_with fail
      refine (little_calls x).mono ?_
      rintro e w4 ⟨g, rfl, hg, hr4, hu4⟩
      have HU4 := Lib.hid (HU.out.tr hu4)
      have HO4 := Lib.hid (HO.out.keep hu4 (fun _ _ h => h))
      have HV4 := Lib.hid (View.ofRow hr4 (fun _ => True) trivial 1 8 0 (u8s (leB x)) (by rw [u8s_length, leB_length]) (by simp))
      have HF := Lib.hid (fun k hk => (HO.out.block (k := k) hk).1)
      clear hg hr4 hu4
      go_wp2_with (at_builtin; refine wpList_app _ rfl (.tmp 33) (.tmp 41) 89 5 rfl _ 1 1 Try.underlying89 info_u8 rfl (by decide) u4 (7 + 8 * k) _ rfl HO4.out (some ⟨g, 0, none⟩) 8 8 (u8s (leB x)) rfl (by simp) HV4.out (u8s_one _) (by omega) (by decide) ?_; intro v' w5 hO hA hnil hblk)
      obtain ⟨hO3, hU3⟩ := app_past HU4.out HF.out hO hA
      rw [← u8s_append, List.append_assoc, ← HSN.out] at hO3
      have HO3 := Lib.hid hO3
      have HU3 := Lib.hid hU3
      clear hO hA hnil hblk hO3 hU3
      go_wp2_with fail
      go_roundw
      case rel => exact ⟨k + 1, by omega, by go_num, HO3.out, HU3.out⟩
      case measure => simp [intOf]; omega
    · have hk' : k = ws.length := by omega
      rw [hk', List.take_length] at HO
      have hpp := imgP_byt ws true
      have HPP := Lib.hid hpp
      have HO2 : Hid (Own wr (Past w) 5 1 u4 (7 + 8 * ws.length) (u8s (imgP ws true))) := HO
      have HF := Lib.hid (fun k hk => (HO2.out.block (k := k) hk).1)
      obtain ⟨A5, cp5, hu4, hA5, hV5⟩ := HO2.out.shape
      have HV5 := Lib.hid hV5
      have hcl := crcN_lt hpp
      have HIB : Hid (imgP ws true ++ leB (crcN (imgP ws true)) = imgB ws true) := Lib.hid rfl
      have HCB := Lib.hid (refbytes_calls (cap := cp5) HV5.out HPP.out (by omega))
      rw [← hu4] at HCB
      generalize crcN (imgP ws true) = y at *
      subst hk'
      clear hpp hV5 hA5 hlt HO hcl hu4
      go_wp2_with fail
      refine HCB.out.mono ?_
      rintro e w5 ⟨rfl, rfl⟩
      go_wp2_with fail
      refine (little_calls y).mono ?_
      rintro e w4 ⟨g, rfl, hg, hr4, hu4⟩
      have HU4 := Lib.hid (HU.out.tr hu4)
      have HO4 := Lib.hid (HO2.out.keep hu4 (fun _ _ h => h))
      have HV4 := Lib.hid (View.ofRow hr4 (fun _ => True) trivial 1 8 0 (u8s (leB y)) (by rw [u8s_length, leB_length]) (by simp))
      clear hg hr4 hu4
      go_wp2_with (at_builtin; refine wpList_app _ rfl (.tmp 43) (.tmp 46) 89 5 rfl _ 1 1 Try.underlying89 info_u8 rfl (by decide) u4 (7 + 8 * ws.length) _ rfl HO4.out (some ⟨g, 0, none⟩) 8 8 (u8s (leB y)) rfl (by simp) HV4.out (u8s_one _) (by omega) (by decide) ?_; intro v' w6 hO hA hnil hblk)
      obtain ⟨hO3, hU3⟩ := app_past HU4.out HF.out hO hA
      rw [← u8s_append, HIB.out] at hO3
      have HO3 := Lib.hid hO3
      have HU3 := Lib.hid hU3
      clear hO hA hnil hblk hO3 hU3
      go_wp2_with fail
      go_ret
      exact ⟨v', rfl, HO3.out, HU3.out⟩

set_option maxRecDepth 100000 in
theorem refimage_false {w : World} {G : Blk} {b off : Nat} {T : TypeId} {c : List Value} {ws : List Int} (h : RefN w G b off T c ws false) (hwf : Wf ws) :
    Calls Try.prog 135 #[.pointer (some ⟨b, off, none⟩)] w fun e w' => ∃ v, e = .returned v ∧ Own w' (Past w) 5 1 v (7 + 8 * ws.length + 8) (u8s (imgB ws false)) ∧ Upd Non w w' := by
  obtain ⟨hb, q, sp, h1, h2, ⟨spare, hs, hq⟩, _, _, _, hl⟩ := h
  have HB := Lib.hid hb
  have HQ := Lib.hid hq
  have HW := Lib.hid hwf
  have H1 := Lib.hid h1
  have c0 := hb.cell off h1
  have c1 := hb.cell (off + 1) h2
  have hbl := hb.lt
  have hne0 : w.heap.size ≠ b := by omega
  clear hb hq hs hwf h1 h2
  generalize hlin : ws.length / 8 = lin at *
  have hd9 : lin ≤ 256 := by omega
  have HLIN := Lib.hid hlin
  have hlq : ((ws.length : Nat) : Int) / 8 = (lin : Int) := by omega
  clear hlin
  have hh : (#[Value.int .u8 77, .int .u8 69, .int .u8 77, .int .u8 49, .int .u8 ((lin : Int) % 256), .int .u8 ((lin : Int) / 256), .int .u8 0] : Array Value).toList = u8s (imgH lin false) := by
    unfold imgH
    rw [Nat.mod_eq_of_lt (show lin / 256 < 256 by omega)]; rfl
  have ho0 := Own.fresh w (Past w) #[Value.int .u8 77, .int .u8 69, .int .u8 77, .int .u8 49, .int .u8 ((lin : Int) % 256), .int .u8 ((lin : Int) / 256), .int .u8 0] 5 (Nat.le_refl _) (by show 7 ≤ maxLen; decide)
  rw [hh] at ho0
  have HO0 := Lib.hid ho0
  have HU0 := Lib.hid ((Upd.refl Non w).alloc (.cells #[Value.int .u8 77, .int .u8 69, .int .u8 77, .int .u8 49, .int .u8 ((lin : Int) % 256), .int .u8 ((lin : Int) / 256), .int .u8 0] 5))
  clear hh ho0
  go_enter Try.func135, Try.ntmps135
  go_wp2_with fail
  go_loopw [4, 5] (fun v i wr => ImgRel w ws false v i wr) (fun _ i _ => ws.length - (intOf i).toNat)
  case atStart => exact ⟨0, by omega, rfl, by rw [HLIN.out]; simpa [imgW] using HO0.out, HU0.out⟩
  case round =>
    obtain ⟨k, hk, rfl, hown, hupd⟩ := hrel
    have HO := Lib.hid hown
    have HU := Lib.hid hupd
    have d0 := (hupd.rowN HB.out).cell off H1.out
    clear hown hupd c0 c1
    by_cases hlt : k < ws.length
    · have hx0 := HW.out.getD k
      obtain ⟨x, hx⟩ := Int.eq_ofNat_of_zero_le hx0
      have hcell := (HU.out.rowN HQ.out).cell k (u64s_at hlt)
      rw [hx] at hcell
      have hsn := imgW_snoc ws k hlt
      rw [hx] at hsn
      have HSN : Hid (imgW (ws.take (k + 1)) = imgW (ws.take k) ++ leB x) := Lib.hid hsn
      clear hx0 hx hsn
      go_wp2_with fail
      refine (little_calls x).mono ?_
      rintro e w4 ⟨g, rfl, hg, hr4, hu4⟩
      have HU4 := Lib.hid (HU.out.tr hu4)
      have HO4 := Lib.hid (HO.out.keep hu4 (fun _ _ h => h))
      have HV4 := Lib.hid (View.ofRow hr4 (fun _ => True) trivial 1 8 0 (u8s (leB x)) (by rw [u8s_length, leB_length]) (by simp))
      have HF := Lib.hid (fun k hk => (HO.out.block (k := k) hk).1)
      clear hg hr4 hu4
      go_wp2_with (at_builtin; refine wpList_app _ rfl (.tmp 33) (.tmp 41) 89 5 rfl _ 1 1 Try.underlying89 info_u8 rfl (by decide) u4 (7 + 8 * k) _ rfl HO4.out (some ⟨g, 0, none⟩) 8 8 (u8s (leB x)) rfl (by simp) HV4.out (u8s_one _) (by omega) (by decide) ?_; intro v' w5 hO hA hnil hblk)
      obtain ⟨hO3, hU3⟩ := app_past HU4.out HF.out hO hA
      rw [← u8s_append, List.append_assoc, ← HSN.out] at hO3
      have HO3 := Lib.hid hO3
      have HU3 := Lib.hid hU3
      clear hO hA hnil hblk hO3 hU3
      go_wp2_with fail
      go_roundw
      case rel => exact ⟨k + 1, by omega, by go_num, HO3.out, HU3.out⟩
      case measure => simp [intOf]; omega
    · have hk' : k = ws.length := by omega
      rw [hk', List.take_length] at HO
      have hpp := imgP_byt ws false
      have HPP := Lib.hid hpp
      have HO2 : Hid (Own wr (Past w) 5 1 u4 (7 + 8 * ws.length) (u8s (imgP ws false))) := HO
      have HF := Lib.hid (fun k hk => (HO2.out.block (k := k) hk).1)
      obtain ⟨A5, cp5, hu4, hA5, hV5⟩ := HO2.out.shape
      have HV5 := Lib.hid hV5
      have hcl := crcN_lt hpp
      have HIB : Hid (imgP ws false ++ leB (crcN (imgP ws false)) = imgB ws false) := Lib.hid rfl
      have HCB := Lib.hid (refbytes_calls (cap := cp5) HV5.out HPP.out (by omega))
      rw [← hu4] at HCB
      generalize crcN (imgP ws false) = y at *
      subst hk'
      clear hpp hV5 hA5 hlt HO hcl hu4
      go_wp2_with fail
      refine HCB.out.mono ?_
      rintro e w5 ⟨rfl, rfl⟩
      go_wp2_with fail
      refine (little_calls y).mono ?_
      rintro e w4 ⟨g, rfl, hg, hr4, hu4⟩
      have HU4 := Lib.hid (HU.out.tr hu4)
      have HO4 := Lib.hid (HO2.out.keep hu4 (fun _ _ h => h))
      have HV4 := Lib.hid (View.ofRow hr4 (fun _ => True) trivial 1 8 0 (u8s (leB y)) (by rw [u8s_length, leB_length]) (by simp))
      clear hg hr4 hu4
      go_wp2_with (at_builtin; refine wpList_app _ rfl (.tmp 43) (.tmp 46) 89 5 rfl _ 1 1 Try.underlying89 info_u8 rfl (by decide) u4 (7 + 8 * ws.length) _ rfl HO4.out (some ⟨g, 0, none⟩) 8 8 (u8s (leB y)) rfl (by simp) HV4.out (u8s_one _) (by omega) (by decide) ?_; intro v' w6 hO hA hnil hblk)
      obtain ⟨hO3, hU3⟩ := app_past HU4.out HF.out hO hA
      rw [← u8s_append, HIB.out] at hO3
      have HO3 := Lib.hid hO3
      have HU3 := Lib.hid hU3
      clear hO hA hnil hblk hO3 hU3
      go_wp2_with fail
      go_ret
      exact ⟨v', rfl, HO3.out, HU3.out⟩

theorem refimage_calls {w : World} {G : Blk} {b off : Nat} {T : TypeId} {c : List Value} {ws : List Int} {up : Bool} (h : RefN w G b off T c ws up) (hwf : Wf ws) :
    Calls Try.prog 135 #[.pointer (some ⟨b, off, none⟩)] w fun e w' => ∃ v, e = .returned v ∧ Own w' (Past w) 5 1 v (7 + 8 * ws.length + 8) (u8s (imgB ws up)) ∧ Upd Non w w' := by
  cases up
  · exact refimage_false h hwf
  · exact refimage_true h hwf
end Go.Proofs.Ytlhbikiggmdolaa
