/- bodegalaw3.do, whatever the operation: both nodes do the same. -/
import Derived.Test.YtlhbikiggmdolaaDo3Read
import Derived.Test.YtlhbikiggmdolaaDo3Write
import Derived.Test.YtlhbikiggmdolaaDo3Swap
import Derived.Test.YtlhbikiggmdolaaDo3Fail
import Derived.Test.YtlhbikiggmdolaaDo3Back
import Derived.Test.YtlhbikiggmdolaaDo3Boot
namespace Go.Proofs.Ytlhbikiggmdolaa
open Go.RowKit

theorem do_calls {w : World} {F G : Blk} {p b off : Nat} {T : TypeId} {c : List Value} {ws : List Int} {up : Bool} (h : Both w F G p b off T c ws up) (hd : ∀ k, F k → ¬ G k) (h2 : 2 ≤ ws.length) (hwf : Wf ws) (kd at0 cn a v : Int) (ha0 : 0 ≤ a) :
    Calls Try.prog 50 #[.pointer (some ⟨p, 0, none⟩), .pointer (some ⟨b, off, none⟩), opV kd at0 cn a v] w fun e w' => e = .returned (.bool true) ∧ DoPost w F G p b off T c ws up (decide (kd % 10 < 6)) w' := by
  have h' : Both w (fun k => F k ∧ k < w.heap.size) (fun k => G k ∧ k < w.heap.size) p b off T c ws up := ⟨h.1.mono fun _ hk hl => ⟨hk, hl⟩, h.2.mono fun _ hk hl => ⟨hk, hl⟩⟩
  have hd' : ∀ k, (F k ∧ k < w.heap.size) → ¬ (G k ∧ k < w.heap.size) := fun k hf hg => hd k hf.1 hg.1
  have fin : ∀ (e : Ending) (w' : World), e = .returned (.bool true) ∧ DoPost w (fun k => F k ∧ k < w.heap.size) (fun k => G k ∧ k < w.heap.size) p b off T c ws up (decide (kd % 10 < 6)) w' → e = .returned (.bool true) ∧ DoPost w F G p b off T c ws up (decide (kd % 10 < 6)) w' :=
    fun e w' ⟨he, ws', up', h1, h2, h3, h4, h5⟩ => ⟨he, ws', up', h1, h2, h3, ⟨h4.1.mono fun _ hk _ => hk.1, h4.2.mono fun _ hk _ => hk.1⟩, h5.mono fun _ _ hk => hk.imp (fun h => h.1) (fun h => h.1)⟩
  rcases (show (kd % 10 = 0 ∨ kd % 10 = 1) ∨ (kd % 10 = 2 ∨ kd % 10 = 3) ∨ (kd % 10 = 4 ∨ kd % 10 = 5) ∨ kd % 10 = 6 ∨ (kd % 10 = 7 ∨ kd % 10 = 8) ∨ kd % 10 = 9 by omega) with hk | hk | hk | hk | hk | hk
  · exact (do_Read h' hd' (fun _ h => h.2) (fun _ h => h.2) h2 hwf kd at0 cn a v ha0 hk).mono fin
  · exact (do_Write h' hd' (fun _ h => h.2) (fun _ h => h.2) h2 hwf kd at0 cn a v ha0 hk).mono fin
  · exact (do_Swap h' hd' (fun _ h => h.2) (fun _ h => h.2) h2 hwf kd at0 cn a v ha0 hk).mono fin
  · exact (do_Fail h' hd' (fun _ h => h.2) (fun _ h => h.2) h2 hwf kd at0 cn a v ha0 hk).mono fin
  · exact (do_Back h' hd' (fun _ h => h.2) (fun _ h => h.2) h2 hwf kd at0 cn a v ha0 hk).mono fin
  · exact (do_Boot h' hd' (fun _ h => h.2) (fun _ h => h.2) h2 hwf kd at0 cn a v ha0 hk).mono fin
end Go.Proofs.Ytlhbikiggmdolaa
