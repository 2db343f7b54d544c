/- A run of operations on both nodes: what holds at the head of each round. -/
import Derived.Test.YtlhbikiggmdolaaOps3
namespace Go.Proofs.Ytlhbikiggmdolaa
open Go.RowKit

def Past (w : World) : Blk := fun k => w.heap.size ≤ k
def PlayAt (w w1 : World) (p g L : Nat) (kp : Bool) (ws : List Int) (up : Bool) (wr : World) : Prop :=
  ∃ c : List Value, ws.length = L ∧ Wf ws ∧ (kp = true → up = true) ∧ c.length = 2 ∧ Both wr (New w w1) (Past w1) p g 0 46 c ws up ∧ Upd Non w wr
def PlayRel (w w1 : World) (p g n L : Nat) (kp : Bool) (i : Value) (wr : World) : Prop :=
  ∃ (k : Nat) (ws : List Int) (up : Bool), k ≤ n ∧ i = .int .i64 k ∧ PlayAt w w1 p g L kp ws up wr

theorem new_past {w w1 : World} : ∀ k, New w w1 k → ¬ Past w1 k := fun k h g => by have h1 := h.2; have h2 : w1.heap.size ≤ k := g; omega
theorem wf_zeros (n : Nat) : Wf (List.replicate n 0) := fun x hx => by rw [List.mem_replicate] at hx; omega

theorem play_start {w w1 w2 w3 : World} {p q L : Nat} (hN : NodeR w1 (New w w1) p (List.replicate (L * 8) 0) true) (hu1 : Upd Non w w1) (hu2 : Upd Non w1 w2) (hq : w2.heap.size ≤ q) (hr : Row w3 q 36 (u64s (List.replicate (L * 8) 0))) (hu3 : Upd Non w2 w3) (hL : L ≤ 256) (kp : Bool) :
    PlayAt w w1 p w3.heap.size (L * 8) kp (List.replicate (L * 8) 0) true (w3.alloc (.cells #[.slice (some ⟨q, 0, none⟩) (L * 8) (L * 8), .bool true] 46)) := by
  have hu4 : Upd Non w3 (w3.alloc (.cells #[.slice (some ⟨q, 0, none⟩) (L * 8) (L * 8), .bool true] 46)) := (Upd.refl _ _).alloc _
  have hN' := ((hN.keep hu2 (fun _ _ h => h)).keep hu3 (fun _ _ h => h)).keep hu4 (fun _ _ h => h)
  have s2 := hu2.size
  have s3 := hu3.size
  refine ⟨[.slice (some ⟨q, 0, none⟩) (L * 8) (L * 8), .bool true], by simp, wf_zeros _, fun _ => rfl, rfl, ⟨hN', ?_⟩, ((hu1.tr hu2).tr hu3).tr hu4⟩
  refine ⟨Row.new w3 _ _, q, 0, by simp, rfl, ⟨[], rfl, ?_⟩, ?_, ?_, ?_, by simp; omega⟩
  · rw [List.append_nil]; exact hr.alloc _
  · show w1.heap.size ≤ w3.heap.size; omega
  · show w1.heap.size ≤ q; omega
  · have := hr.lt; omega

theorem PlayAt.keep {w w1 wr wr' : World} {p g L : Nat} {kp up : Bool} {ws : List Int} (h : PlayAt w w1 p g L kp ws up wr) (hu : Upd Non wr wr') : PlayAt w w1 p g L kp ws up wr' := by
  obtain ⟨c, h1, h2, h3, h4, h5, h6⟩ := h
  exact ⟨c, h1, h2, h3, h4, h5.keepN hu, h6.tr hu⟩
theorem PlayAt.node {w w1 wr : World} {p g L : Nat} {kp up : Bool} {ws : List Int} (h : PlayAt w w1 p g L kp ws up wr) : NodeR wr (New w w1) p ws up := by
  obtain ⟨c, h1, h2, h3, h4, h5, h6⟩ := h; exact h5.1
theorem PlayAt.upd {w w1 wr : World} {p g L : Nat} {kp up : Bool} {ws : List Int} (h : PlayAt w w1 p g L kp ws up wr) : Upd Non w wr := by
  obtain ⟨c, h1, h2, h3, h4, h5, h6⟩ := h; exact h6
theorem PlayAt.len {w w1 wr : World} {p g L : Nat} {kp up : Bool} {ws : List Int} (h : PlayAt w w1 p g L kp ws up wr) : ws.length = L := h.choose_spec.1
theorem PlayAt.wf {w w1 wr : World} {p g L : Nat} {kp up : Bool} {ws : List Int} (h : PlayAt w w1 p g L kp ws up wr) : Wf ws := h.choose_spec.2.1
theorem PlayAt.up {w w1 wr : World} {p g L : Nat} {up : Bool} {ws : List Int} (h : PlayAt w w1 p g L true ws up wr) : up = true := h.choose_spec.2.2.1 rfl

theorem PlayAt.size1 {w w1 wr : World} {p g L : Nat} {kp up : Bool} {ws : List Int} (h : PlayAt w w1 p g L kp ws up wr) : w1.heap.size ≤ wr.heap.size := by
  obtain ⟨c, h1, h2, h3, h4, h5, h6⟩ := h
  have h7 := h5.2.1.lt
  obtain ⟨hb, q, sp, _, _, _, gb, _⟩ := h5.2
  have : w1.heap.size ≤ g := gb
  omega

/-- One operation more. -/
theorem PlayAt.do {w w1 wr : World} {p g L : Nat} {kp up : Bool} {ws : List Int} (h : PlayAt w w1 p g L kp ws up wr) (hs : w.heap.size ≤ w1.heap.size) (h2 : 2 ≤ L) (kd at0 cn a v : Int) (ha0 : 0 ≤ a) (hk : kp = true → kd % 10 < 6) :
    Calls Try.prog 50 #[.pointer (some ⟨p, 0, none⟩), .pointer (some ⟨g, 0, none⟩), opV kd at0 cn a v] wr fun e w' => e = .returned (.bool true) ∧ ∃ ws' up', PlayAt w w1 p g L kp ws' up' w' := by
  obtain ⟨c, h1, hw, h3, h4, h5, h6⟩ := h
  refine (do_calls h5 new_past (by omega) hw kd at0 cn a v ha0).mono ?_
  rintro e w' ⟨rfl, ws', up', e1, e2, e3, e4, e5⟩
  refine ⟨rfl, ws', up', _, by omega, e2 hw, fun hkp => ?_, by rw [List.length_set]; exact h4, e4, ?_⟩
  · rw [e3 (by simpa using hk hkp)]; exact h3 hkp
  · refine h6.trans e5 fun i hi hm => ?_
    rcases hm with hm | hm
    · have := hm.1; omega
    · have : w1.heap.size ≤ i := hm; omega
end Go.Proofs.Ytlhbikiggmdolaa
