/- The walk of LayoutAddresses. -/
import Derived.Test.YtlhbikiggmdolaaLayout
namespace Go.Proofs.Ytlhbikiggmdolaa
open Go.RowKit

set_option maxHeartbeats 4000000 in
set_option maxRecDepth 100000 in
theorem layoutAddresses_near (c0 v0 l0 li0 n0 : Int) (w : World) :
    Calls Try.prog 5 #[.int .i64 c0, .int .i64 v0, .int .i64 l0, .int .i64 li0, .int .i64 n0, .bool true] w fun e w' => e = .returned (.bool true) ∧ Upd Non w w' := by
    have b0 : 0 ≤ c0 % 9 ∧ c0 % 9 < 9 := by omega
    have b1 : 0 ≤ v0 % 19 ∧ v0 % 19 < 19 := by omega
    have b2 : 0 ≤ l0 % 270 ∧ l0 % 270 < 270 := by omega
    have b3 : 0 ≤ li0 % 270 ∧ li0 % 270 < 270 := by omega
    have b4 : 0 ≤ n0 % 8 ∧ n0 % 8 < 8 := by omega
    go_enter Try.func5, Try.ntmps5
    go_wp2_with (go_at_call 23; refine (pick_calls _ _ _ (by decide) (by decide)).mono ?_; rintro e w' ⟨rfl, rfl⟩)
    generalize c0 % 9 - 1 = c
    generalize v0 % 19 - 1 = v
    generalize l0 % 270 - 4 = l
    generalize li0 % 270 - 4 = li
    generalize n0 % 8 - 1 = n
    have HU := Lib.hid (Upd.refl Non w)
    rcases wordsF_cases li with ⟨hl, hW⟩ | ⟨hl, hl', hW⟩ | ⟨hl, hW⟩
    all_goals
      go_wp2_with (first
        | (go_at_call 28; refine (initial_all _ _).mono ?_; rintro e w' ⟨rfl, rfl⟩)
        | (go_at_call 29; refine (refInitial_all _ _).mono ?_; rintro e w' ⟨rfl, rfl⟩)
        | (go_at_call 30; refine (door_calls _ _).mono ?_; rintro e w' ⟨rfl, hu⟩; have HU := Lib.hid (HU.out.tr hu); clear hu)
        | (go_at_call 32; refine (clock_calls _ _).mono ?_; rintro e w' ⟨rfl, hu⟩; have HU := Lib.hid (HU.out.tr hu); clear hu)
        | (go_at_call 34; refine (lease_calls _ _).mono ?_; rintro e w' ⟨rfl, hu⟩; have HU := Lib.hid (HU.out.tr hu); clear hu)
        | (go_at_call 36; refine (cons_calls _ _).mono ?_; rintro e w' ⟨rfl, hu⟩; have HU := Lib.hid (HU.out.tr hu); clear hu)
        | (go_at_call 38; refine (mark_calls _ _).mono ?_; rintro e w' ⟨rfl, hu⟩; have HU := Lib.hid (HU.out.tr hu); clear hu)
        | (go_at_call 40; refine (tag_calls _ _).mono ?_; rintro e w' ⟨rfl, hu⟩; have HU := Lib.hid (HU.out.tr hu); clear hu)
        | (go_at_call 42; refine (body_calls _ _).mono ?_; rintro e w' ⟨rfl, hu⟩; have HU := Lib.hid (HU.out.tr hu); clear hu)
        | (go_at_call 44; refine (page_calls _ _).mono ?_; rintro e w' ⟨rfl, hu⟩; have HU := Lib.hid (HU.out.tr hu); clear hu)
        | (go_at_call 48; refine (words_calls _ _).mono ?_; rintro e w' ⟨rfl, hu⟩; have HU := Lib.hid (HU.out.tr hu); clear hu)
        | (go_at_call 31; refine (refDoor_calls _ _).mono ?_; rintro e w' ⟨rfl, hu⟩; have HU := Lib.hid (HU.out.tr hu); clear hu)
        | (go_at_call 33; refine (refClock_calls _ _).mono ?_; rintro e w' ⟨rfl, hu⟩; have HU := Lib.hid (HU.out.tr hu); clear hu)
        | (go_at_call 35; refine (refLease_calls _ _).mono ?_; rintro e w' ⟨rfl, hu⟩; have HU := Lib.hid (HU.out.tr hu); clear hu)
        | (go_at_call 37; refine (refCons_calls _ _).mono ?_; rintro e w' ⟨rfl, hu⟩; have HU := Lib.hid (HU.out.tr hu); clear hu)
        | (go_at_call 39; refine (refMark_calls _ _).mono ?_; rintro e w' ⟨rfl, hu⟩; have HU := Lib.hid (HU.out.tr hu); clear hu)
        | (go_at_call 41; refine (refTag_calls _ _).mono ?_; rintro e w' ⟨rfl, hu⟩; have HU := Lib.hid (HU.out.tr hu); clear hu)
        | (go_at_call 43; refine (refBody_calls _ _).mono ?_; rintro e w' ⟨rfl, hu⟩; have HU := Lib.hid (HU.out.tr hu); clear hu)
        | (go_at_call 45; refine (refPage_calls _ _).mono ?_; rintro e w' ⟨rfl, hu⟩; have HU := Lib.hid (HU.out.tr hu); clear hu)
        | (go_at_call 46; refine (heap_calls _ _ _).mono ?_; rintro e w' ⟨rfl, hu⟩; have HU := Lib.hid (HU.out.tr hu); clear hu)
        | (go_at_call 47; refine (refHeap_calls _ _ _).mono ?_; rintro e w' ⟨rfl, hu⟩; have HU := Lib.hid (HU.out.tr hu); clear hu)
        | (go_at_call 22; refine (awake7_calls _).mono ?_; rintro e w' ⟨rfl, hu⟩; have HU := Lib.hid (HU.out.tr hu); clear hu))
    all_goals (go_ret; exact ⟨rfl, HU.out⟩)

end Go.Proofs.Ytlhbikiggmdolaa
