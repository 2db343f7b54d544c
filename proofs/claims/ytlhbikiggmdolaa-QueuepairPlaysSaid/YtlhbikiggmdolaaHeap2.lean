/- Heap words, continued. -/
import Derived.Test.YtlhbikiggmdolaaHeap
namespace Go.Proofs.Ytlhbikiggmdolaa
open Go.RowKit

theorem View.bound {F : Blk} {w : World} {s : Nat} {A : Option Addr} {n : Nat} {c : List Value} (h : View w F s A n c) : View w (fun b => F b ∧ b < w.heap.size) s A n c :=
  ⟨h.1, fun hc => by obtain ⟨b, off, hA, hF, hl, he⟩ := h.2 hc; exact ⟨b, off, hA, ⟨hF, hl⟩, hl, he⟩⟩
theorem Own.bound {w : World} {F : Blk} {e : TypeId} {s : Nat} {v : Value} {n : Nat} {xs : List Value} (h : Own w F e s v n xs) : Own w (fun b => F b ∧ b < w.heap.size) e s v n xs :=
  h.mono fun _ hk hl => ⟨hk, hl⟩
end Go.Proofs.Ytlhbikiggmdolaa
