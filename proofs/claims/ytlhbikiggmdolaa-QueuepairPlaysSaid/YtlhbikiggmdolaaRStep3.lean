/- Queue pairs of the reference: Step, whatever the pair. -/
import Derived.Test.YtlhbikiggmdolaaRStep2
namespace Go.Proofs.Ytlhbikiggmdolaa
open Go.RowKit

set_option maxRecDepth 100000 in
set_option maxHeartbeats 4000000 in
theorem rstep_idle {w : World} {G H : Blk} {b off : Nat} {T : TypeId} {c : List Value} {P : Pr} {sl : List Int} {b2 off2 : Nat} {T2 : TypeId} {c2 : List Value} {ws : List Int} {up : Bool} (h : RPairR w G b off T c P sl) (hv : P.verbs = []) (hn : RefN w H b2 off2 T2 c2 ws up) :
    Calls Try.prog 150 #[.pointer (some ⟨b, off, none⟩), .pointer (some ⟨b2, off2, none⟩)] w (RStepPost w G H b off T c P sl b2 off2 T2 c2 ws up) := by
  have hu : Upd Non w (w.alloc (.cells #[.int .i64 0, .slice none 0 0] 69)) := (Upd.refl _ _).alloc _
  have h1 := h.keep hu (fun h => h) (fun _ _ h => h)
  obtain ⟨A, cap, c0, c1, c2', c3, z3⟩ := h1.cells
  rw [hv, List.length_nil] at c3
  have HH := Lib.hid h
  have HN := Lib.hid (hn.keep hu (fun _ _ h => h))
  have HS := Lib.hid (stepV_nil hv ws up)
  have HV := Lib.hid hv
  clear h h1 hn hv hu
  go_enter Try.func150, Try.ntmps150
  go_wp2_with fail
  refine bodyPost_ret (v := .tuple #[.agg #[.int .i64 0, .slice none 0 0], .int .i64 (-1), .bool false, .bool false]) (by simp [results, Try.results150, go_sem]) rfl ?_
  unfold RStepPost
  rw [HS.out, HV.out]
  obtain ⟨sv, sw, l, h0, h1, h2, h3, h4, h5, h6, h7, h8, h9, h10⟩ := HH.out
  have hu : Upd Non w (w.alloc (.cells #[.int .i64 0, .slice none 0 0] 69)) := (Upd.refl _ _).alloc _
  have hset : c.set (off + 3) sv = c := set_same h4
  have hbl := h0.lt
  refine ⟨none, 0, sv, rfl, ?_, HN.out, Own.nil _ _ _ _, hu.of_non⟩
  rw [hset]
  refine (HH.out.keep hu (fun h => h) (fun _ _ h => h)).mono (fun k hk _ => .inl hk) ?_
  rintro (h | h)
  · exact h10 h
  · have := h.1; omega

theorem RStepPost.mono {w w' : World} {G H G' H' : Blk} {b off : Nat} {T : TypeId} {c : List Value} {P : Pr} {sl : List Int} {b2 off2 : Nat} {T2 : TypeId} {c2 : List Value} {ws : List Int} {up : Bool} {e : Ending} (h : RStepPost w G H b off T c P sl b2 off2 T2 c2 ws up e w') (hG : ∀ k, G k → G' k) (hb : ¬ G' b) (hbl : b < w.heap.size) (hH : ∀ k, H k → H' k) : RStepPost w G' H' b off T c P sl b2 off2 T2 c2 ws up e w' := by
  obtain ⟨A, cap, x, h1, h2, h3, h4, h5⟩ := h
  refine ⟨A, cap, x, h1, h2.mono (fun k hk _ => hk.imp (hG k) id) ?_, h3.mono fun k hk _ => hH k hk, h4.mono fun k hk _ => hk.imp (hG k) id, h5.mono fun k _ h => h.imp id (hH k)⟩
  rintro (h | h)
  · exact hb h
  · have := h.1; omega
/-- One step of the reference's pair. -/
theorem rstep_calls {w : World} {G H : Blk} {b off : Nat} {T : TypeId} {c : List Value} {P : Pr} {sl : List Int} {b2 off2 : Nat} {T2 : TypeId} {c2 : List Value} {ws : List Int} {up : Bool} (h : RPairR w G b off T c P sl) (hok : P.Ok) (hn : RefN w H b2 off2 T2 c2 ws up) (hGH : ∀ k, G k → ¬ H k) (hbH : ¬ H b) :
    Calls Try.prog 150 #[.pointer (some ⟨b, off, none⟩), .pointer (some ⟨b2, off2, none⟩)] w (RStepPost w G H b off T c P sl b2 off2 T2 c2 ws up) := by
  obtain hv | ⟨v, l, hv⟩ : P.verbs = [] ∨ ∃ v l, P.verbs = v :: l := by
    cases P.verbs with
    | nil => exact .inl rfl
    | cons v l => exact .inr ⟨v, l, rfl⟩
  · exact rstep_idle h hv hn
  · have hb : ¬ G b ∧ b < w.heap.size := by obtain ⟨_, _, _, h0, _, _, _, _, _, _, _, _, _, h10⟩ := h; exact ⟨h10, h0.lt⟩
    refine (rstep_some (G := fun k => G k ∧ k < w.heap.size) (H := fun k => H k ∧ k < w.heap.size) (h.mono (fun _ h hl => ⟨h, hl⟩) (fun h => hb.1 h.1)) hok hv (hn.mono fun _ h hl => ⟨h, hl⟩) (fun k h1 h2 => hGH k h1.1 h2.1) (fun h => hbH h.1) (fun _ h => h.2) (fun _ h => h.2)).mono fun e w' hp => hp.mono (fun _ h => h.1) hb.1 hb.2 (fun _ h => h.1)
end Go.Proofs.Ytlhbikiggmdolaa
