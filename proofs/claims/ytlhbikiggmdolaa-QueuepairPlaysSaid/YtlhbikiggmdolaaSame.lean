/- bodegahand.SameImage: equal images are found equal. -/
import Derived.Test.YtlhbikiggmdolaaRImg
import Derived.Laws.IdiomStrings
import Derived.Deep.RegionWith
namespace Go.Proofs.Ytlhbikiggmdolaa
open Go.RowKit

/-- Bytes as a string. -/
def strB (bs : List Nat) : ByteArray := ⟨(bs.map UInt8.ofNat).toArray⟩
theorem conv_str {w : World} {F : Blk} {A : Option Addr} {n cap : Nat} {bs : List Nat} (hV : View w F 1 A n (u8s bs)) (hb : Byt bs) (hne : bs ≠ []) :
    (convert 89 9 (.slice A n cap)).run Try.prog w = .ok (.string (strB bs)) w := by
  have hl : (bs.map UInt8.ofNat).length = n := by have := hV.1; simpa [u8s] using this
  obtain ⟨b, off, rfl, _, _, hc⟩ := hV.2 (by intro e; apply hne; have := congrArg List.length e; simpa [u8s] using this)
  rw [← hl]
  refine run_convert_bytes_back w 89 9 5 ⟨b, off, none⟩ cap (bs.map UInt8.ofNat) Try.underlying89 Try.underlying5 Try.underlying9 fun j hj => ?_
  rw [Addr.add_lit]
  have hj' : j < bs.length := by simpa using hj
  have := hc j (.int .u8 (bs[j] : Nat)) (by rw [u8s_get, List.getElem?_eq_getElem hj']; rfl)
  rw [this, List.getElem_map]
  have hlt := hb.get hj'
  simp [Nat.mod_eq_of_lt hlt]
theorem imgB_byt (ws : List Int) (up : Bool) : Byt (imgB ws up) := (imgP_byt ws up).app (leB_byt _)
theorem imgB_ne (ws : List Int) (up : Bool) : imgB ws up ≠ [] := by unfold imgB imgP imgH; simp
theorem imgB_length (ws : List Int) (up : Bool) : (imgB ws up).length = 7 + 8 * ws.length + 8 := by
  unfold imgB imgP
  rw [List.length_append, List.length_append, imgW_length, leB_length]; simp [imgH]

theorem same_arm {w w2 : World} {F : Blk} {A : Option Addr} {n cap m : Nat} {bs : List Nat} {v : Value} (hV : View w F 1 A n (u8s bs)) (hb : Byt bs) (hne : bs ≠ []) (hO : Own w2 (Past w.drew) 5 1 v m (u8s bs)) (hU : Upd Non w.drew w2) :
    ∃ A2 cp2, v = .slice A2 m cp2 ∧ (convert 89 9 (.slice A2 m cp2)).run Try.prog w2 = .ok (.string (strB bs)) w2 ∧ (convert 89 9 (.slice A n cap)).run Try.prog w2 = .ok (.string (strB bs)) w2 ∧ Hid (Upd Non w w2) := by
  obtain ⟨A2, cp2, rfl, _, hV2⟩ := hO.shape
  have hu : Upd Non w w2 := ⟨hU.os, hU.tape, hU.output, hU.size, hU.block⟩
  exact ⟨A2, cp2, rfl, conv_str hV2 hb hne, conv_str (hV.keep hu (fun _ _ h => h)) hb hne, Lib.hid hu⟩

set_option maxRecDepth 100000 in
theorem sameImage_calls {w : World} {F G : Blk} {b off : Nat} {T : TypeId} {c : List Value} {ws : List Int} {up : Bool} {A : Option Addr} {n cap : Nat} (h : RefN w G b off T c ws up) (hwf : Wf ws) (hV : View w F 1 A n (u8s (imgB ws up))) :
    Calls Try.prog 78 #[.slice A n cap, .pointer (some ⟨b, off, none⟩)] w fun e w' => e = .returned (.bool true) ∧ Upd Non w w' := by
  have hc0 : (convert 89 9 (.slice A n cap)).run Try.prog w = .ok (.string (strB (imgB ws up))) w := conv_str hV (imgB_byt ws up) (imgB_ne ws up)
  have hc1 : (convert 89 9 (.slice A n cap)).run Try.prog w.drew = .ok (.string (strB (imgB ws up))) w.drew := conv_str (w := w.drew) hV (imgB_byt ws up) (imgB_ne ws up)
  have HR := Lib.hid (refimage_calls (w := w.drew) (h : RefN w.drew G b off T c ws up) hwf)
  have HV := Lib.hid hV
  have HB := Lib.hid (imgB_byt ws up)
  have HN := Lib.hid (imgB_ne ws up)
  clear h hwf hV
  generalize imgB ws up = bs at *
  go_enter Try.func78, Try.ntmps78
  go_wp2_with fail
  go_region_with (go_at_call 135; refine HR.out.mono ?_; rintro e w2 ⟨v, rfl, hO, hU⟩; obtain ⟨A2, cp2, rfl, d0, d1, HU⟩ := same_arm (n := n) (cap := cap) HV.out HB.out HN.out hO hU; clear hO hU)
  all_goals go_wp2_with fail
  all_goals go_ret
  all_goals exact ⟨ret_bool (by simp), HU.out⟩
end Go.Proofs.Ytlhbikiggmdolaa
