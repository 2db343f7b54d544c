/- The walk of LayoutAddresses. -/
import Derived.Test.YtlhbikiggmdolaaLayout
namespace Go.Proofs.Ytlhbikiggmdolaa
open Go.RowKit

set_option maxHeartbeats 4000000 in
set_option maxRecDepth 100000 in
theorem layoutAddresses_far (c v l li n : Int) (w : World) :
    Calls Try.prog 5 #[.int .i64 c, .int .i64 v, .int .i64 l, .int .i64 li, .int .i64 n, .bool false] w fun e w' => e = .returned (.bool true) ∧ Upd Non w w' := by
    go_enter Try.func5, Try.ntmps5
    go_wp2_with fail
    have HU := Lib.hid (Upd.refl Non w)
    rcases wordsF_cases li with ⟨hl, hW⟩ | ⟨hl, hl', hW⟩ | ⟨hl, hW⟩
    all_goals
      go_wp2_with (first
        | (go_at_call 28; refine (initial_all _ _).mono ?_; rintro e w' ⟨rfl, rfl⟩)
        | (go_at_call 29; refine (refInitial_all _ _).mono ?_; rintro e w' ⟨rfl, rfl⟩)
        | (go_at_call 30; refine (door_calls _ _).mono ?_; rintro e w' ⟨rfl, hu⟩; have HU := Lib.hid (HU.out.tr hu); clear hu)
        | (go_at_call 32; refine (clock_calls _ _).mono ?_; rintro e w' ⟨rfl, hu⟩; have HU := Lib.hid (HU.out.tr hu); clear hu)
        | (go_at_call 34; refine (lease_calls _ _).mono ?_; rintro e w' ⟨rfl, hu⟩; have HU := Lib.hid (HU.out.tr hu); clear hu)
        | (go_at_call 36; refine (cons_calls _ _).mono ?_; rintro e w' ⟨rfl, hu⟩; have HU := Lib.hid (HU.out.tr hu); clear hu)
        | (go_at_call 38; refine (mark_calls _ _).mono ?_; rintro e w' ⟨rfl, hu⟩; have HU := Lib.hid (HU.out.tr hu); clear hu)
        | (go_at_call 40; refine (tag_calls _ _).mono ?_; rintro e w' ⟨rfl, hu⟩; have HU := Lib.hid (HU.out.tr hu); clear hu)
        | (go_at_call 42; refine (body_calls _ _).mono ?_; rintro e w' ⟨rfl, hu⟩; have HU := Lib.hid (HU.out.tr hu); clear hu)
        | (go_at_call 44; refine (page_calls _ _).mono ?_; rintro e w' ⟨rfl, hu⟩; have HU := Lib.hid (HU.out.tr hu); clear hu)
        | (go_at_call 48; refine (words_calls _ _).mono ?_; rintro e w' ⟨rfl, hu⟩; have HU := Lib.hid (HU.out.tr hu); clear hu)
        | (go_at_call 31; refine (refDoor_calls _ _).mono ?_; rintro e w' ⟨rfl, hu⟩; have HU := Lib.hid (HU.out.tr hu); clear hu)
        | (go_at_call 33; refine (refClock_calls _ _).mono ?_; rintro e w' ⟨rfl, hu⟩; have HU := Lib.hid (HU.out.tr hu); clear hu)
        | (go_at_call 35; refine (refLease_calls _ _).mono ?_; rintro e w' ⟨rfl, hu⟩; have HU := Lib.hid (HU.out.tr hu); clear hu)
        | (go_at_call 37; refine (refCons_calls _ _).mono ?_; rintro e w' ⟨rfl, hu⟩; have HU := Lib.hid (HU.out.tr hu); clear hu)
        | (go_at_call 39; refine (refMark_calls _ _).mono ?_; rintro e w' ⟨rfl, hu⟩; have HU := Lib.hid (HU.out.tr hu); clear hu)
        | (go_at_call 41; refine (refTag_calls _ _).mono ?_; rintro e w' ⟨rfl, hu⟩; have HU := Lib.hid (HU.out.tr hu); clear hu)
        | (go_at_call 43; refine (refBody_calls _ _).mono ?_; rintro e w' ⟨rfl, hu⟩; have HU := Lib.hid (HU.out.tr hu); clear hu)
        | (go_at_call 45; refine (refPage_calls _ _).mono ?_; rintro e w' ⟨rfl, hu⟩; have HU := Lib.hid (HU.out.tr hu); clear hu)
        | (go_at_call 46; refine (heap_calls _ _ _).mono ?_; rintro e w' ⟨rfl, hu⟩; have HU := Lib.hid (HU.out.tr hu); clear hu)
        | (go_at_call 47; refine (refHeap_calls _ _ _).mono ?_; rintro e w' ⟨rfl, hu⟩; have HU := Lib.hid (HU.out.tr hu); clear hu)
        | (go_at_call 22; refine (awake7_calls _).mono ?_; rintro e w' ⟨rfl, hu⟩; have HU := Lib.hid (HU.out.tr hu); clear hu))
    all_goals (go_ret; exact ⟨rfl, HU.out⟩)

end Go.Proofs.Ytlhbikiggmdolaa
