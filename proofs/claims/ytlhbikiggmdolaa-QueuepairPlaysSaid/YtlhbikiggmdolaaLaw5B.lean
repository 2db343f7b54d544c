/- The statements about queue pairs: fresh. -/
import Derived.Test.YtlhbikiggmdolaaLaw5A
import Derived.Test.YtlhbikiggmdolaaRPair
import Derived.Deep.DeepCutAuto
namespace Go.Proofs.Ytlhbikiggmdolaa
open Go.RowKit

/-- A pair with its node, the program's and the reference's: 4: the reference's queues, 5: its pair, 6: its node. -/
structure Q5 (w0 : World) (lab : Nat → Nat) (w : World) (p q b r : Nat) (P : Pr) (sl : List Int) (ws : List Int) (up : Bool) : Prop where
  l5 : L5 w0 lab w p q P ws up
  rp : ∃ x, RPairR w (At lab 4) b 0 134 [.int .i64 P.client, .int .i64 P.inc, .int .i64 P.node, x] P sl
  lb : lab b = 5
  rn : ∃ x, RefN w (At lab 6) r 0 46 [x, .bool up] ws up
  len : ws.length = 320

def ws5 : List Int := 1 :: 1 :: List.replicate 318 0
theorem ws5_eq : putW (List.replicate 320 0) 0 [1, 1] = ws5 := by decide +kernel
theorem ws5_set : ((List.replicate 320 (0 : Int)).set 0 1).set 1 1 = ws5 := by decide +kernel
theorem ws5_len : ws5.length = 320 := by decide +kernel
theorem ws5_wf : Wf ws5 := fun x hx => by
  unfold ws5 at hx
  simp only [List.mem_cons, List.mem_replicate] at hx
  omega
def quadV (p q b r : Nat) : Value := .agg #[.pointer (some ⟨p, 0, none⟩), .pointer (some ⟨q, 0, none⟩), .pointer (some ⟨b, 0, none⟩), .pointer (some ⟨r, 0, none⟩)]
def FreshPost (w : World) (c i : Int) (e : Ending) (w' : World) : Prop :=
  ∃ (p q b r : Nat) (lab : Nat → Nat), e = .returned (.tuple #[quadV p q b r, .bool true]) ∧ Q5 w lab w' p q b r (Pr.none c i 0) [] ws5 true

theorem fresh_fin {w W0 w1 w2 w3 w6 : World} {p q g r : Nat} {c i : Int} (h0 : 0 ≤ c) (h1 : c < 6) (h2 : 0 ≤ i) (h3 : i < 4) (hu0 : Upd Non w W0) (hP : PairR w1 (New W0 w1) Non p (Pr.none c i 0)) (hu1 : Upd Non W0 w1) (hu2 : Upd Non w1 w2) (hr : w2.heap.size ≤ r) (hg : w2.heap.size ≤ g) (hgr : g ≠ r) (hu3 : Upd Non w2 w3) (hR : Row w3 r 46 [.slice (some ⟨g, 0, none⟩) 320 320, .bool true]) (hG : Row w3 g 36 (u64s ws5))
    (hN : NodeR w6 (New w1 w2) q ws5 true) (hW0 : w.heap.size < W0.heap.size) (hu6 : Upd (fun k => New w1 w2 k ∨ k = w.heap.size) w3 w6) :
    ∃ lab, Q5 w lab (w6.alloc (.cells #[.int .i64 c, .int .i64 i, .int .i64 0, .slice none 0 0] 134)) p q w6.heap.size r (Pr.none c i 0) [] ws5 true ∧ Upd Non w (w6.alloc (.cells #[.int .i64 c, .int .i64 i, .int .i64 0, .slice none 0 0] 134)) := by
  have s0 := hu0.size
  have s1 := hu1.size
  have s2 := hu2.size
  have s3 := hu3.size
  have s6 := hu6.size
  have hrl := hR.lt
  have hgl := hG.lt
  have hu7 : Upd Non w6 (w6.alloc (.cells #[.int .i64 c, .int .i64 i, .int .i64 0, .slice none 0 0] 134)) := (Upd.refl _ _).alloc _
  have hP6 := ((hP.keep hu2 (fun _ _ h => h) (fun _ _ h => h)).keep hu3 (fun _ _ h => h) (fun _ _ h => h)).keep hu6 (fun k hk h => by have := hk.1; have := hk.2; rcases h with h | h; (have := h.1; omega); omega) (fun _ h => h.elim)
  have hR6 := hu6.row hR (fun h => by rcases h with h | h; (have := h.2; omega); omega)
  have hG6 := hu6.row hG (fun h => by rcases h with h | h; (have := h.2; omega); omega)
  have hup : Upd Non w (w6.alloc (.cells #[.int .i64 c, .int .i64 i, .int .i64 0, .slice none 0 0] 134)) := ((((hu0.tr hu1).tr hu2).tr hu3).trans hu6 fun k hk h => by rcases h with h | h; (have := h.1; omega); omega).tr hu7
  refine ⟨fun k => if k < w.heap.size then 0 else if k < w1.heap.size then 1 else if k < w2.heap.size then 3 else if k = w6.heap.size then 5 else 6, ⟨⟨?_, ?_, fun k hk => by simp [hk], pr_none_ok c i 0 h0 h1 h2 (by omega) (by decide) (by decide), ws5_wf, hup⟩, ?_, ?_, ?_, by decide +kernel⟩, hup⟩
  · refine (hP6.keep hu7 (fun _ _ h => h) (fun _ _ h => h)).mono (fun k hk hl => ?_) (fun k hk _ => hk.elim)
    have := hk.1; have := hk.2
    show (if k < w.heap.size then 0 else if k < w1.heap.size then 1 else if k < w2.heap.size then 3 else if k = w6.heap.size then 5 else 6) = 1
    rw [if_neg (by omega), if_pos (by omega)]
  · refine (hN.keep hu7 (fun _ _ h => h)).mono (fun k hk hl => ?_)
    have := hk.1; have := hk.2
    show (if k < w.heap.size then 0 else if k < w1.heap.size then 1 else if k < w2.heap.size then 3 else if k = w6.heap.size then 5 else 6) = 3
    rw [if_neg (by omega), if_neg (by omega), if_pos (by omega)]
  · refine ⟨.slice none 0 0, .slice none 0 0, .slice none 0 0, [], Row.new _ _ _, rfl, rfl, rfl, rfl, rfl, rfl, fun x hx => by simp at hx, Own.nil _ _ _ _, Own.nil _ _ _ _, ?_⟩
    show ¬ (if w6.heap.size < w.heap.size then 0 else if w6.heap.size < w1.heap.size then 1 else if w6.heap.size < w2.heap.size then 3 else if w6.heap.size = w6.heap.size then 5 else 6) = 4
    rw [if_neg (by omega), if_neg (by omega), if_neg (by omega), if_pos rfl]; decide
  · show (if w6.heap.size < w.heap.size then 0 else if w6.heap.size < w1.heap.size then 1 else if w6.heap.size < w2.heap.size then 3 else if w6.heap.size = w6.heap.size then 5 else 6) = 5
    rw [if_neg (by omega), if_neg (by omega), if_neg (by omega), if_pos rfl]
  · refine ⟨.slice (some ⟨g, 0, none⟩) 320 320, hR6.alloc _, g, 0, by rw [ws5_len]; rfl, rfl, ⟨[], rfl, by rw [List.append_nil]; exact hG6.alloc _⟩, ?_, ?_, hgr, by rw [ws5_len]; decide⟩
    · show (if r < w.heap.size then 0 else if r < w1.heap.size then 1 else if r < w2.heap.size then 3 else if r = w6.heap.size then 5 else 6) = 6
      rw [if_neg (by omega), if_neg (by omega), if_neg (by omega), if_neg (by omega)]
    · show (if g < w.heap.size then 0 else if g < w1.heap.size then 1 else if g < w2.heap.size then 3 else if g = w6.heap.size then 5 else 6) = 6
      rw [if_neg (by omega), if_neg (by omega), if_neg (by omega), if_neg (by omega)]

set_option maxRecDepth 100000 in
set_option maxHeartbeats 4000000 in
theorem fresh_calls (client inc : Int) (w : World) : Calls Try.prog 87 #[.int .i64 client, .int .i64 inc] w (FreshPost w (client % 6) (inc % 4)) := by
  have HP1 := Lib.hid (fun w => pickN client 6 w (by decide) (by decide))
  have HP2 := Lib.hid (fun w => pickN inc 4 w (by decide) (by decide))
  have HPOST : Hid (∀ e w', FreshPost w (client % 6) (inc % 4) e w' → FreshPost w (client % 6) (inc % 4) e w') := Lib.hid fun _ _ h => h
  clear HPOST
  go_enter Try.func87, Try.ntmps87
  go_wp2_with fail
  refine (HP1.out _).mono ?_
  rintro e w' ⟨c, hc, hc6, rfl, rfl⟩
  have HC := Lib.hid hc
  clear hc
  go_wp2_with fail
  refine (HP2.out _).mono ?_
  rintro e w' ⟨i, hi, hi4, rfl, rfl⟩
  have HI := Lib.hid hi
  clear hi
  go_wp2_with fail
  have HU0 : Hid (Upd Non w (w.alloc (.cells #[.pointer none, .pointer none, .pointer none, .pointer none] 109))) := (Upd.refl _ _).alloc _
  have HZ0 : Hid (Row (w.alloc (.cells #[.pointer none, .pointer none, .pointer none, .pointer none] 109)) w.heap.size 109 [.pointer none, .pointer none, .pointer none, .pointer none]) := Row.new _ _ _
  generalize w.alloc (.cells #[.pointer none, .pointer none, .pointer none, .pointer none] 109) = W0 at *
  refine (pnew_ok c i 0 (by omega) (by omega) (by omega) (by omega) (by decide) (by decide) _).mono ?_
  rintro e w1 ⟨p, rfl, hP, hu1⟩
  have HP := Lib.hid hP
  have HU1 := Lib.hid hu1
  clear hP hu1
  go_wp2_with fail
  refine (new_ok 40 (by decide) (by decide)).mono ?_
  rintro e w2 ⟨q, rfl, hN, hu2⟩
  have HN := Lib.hid hN
  have HU2 := Lib.hid hu2
  clear hN hu2
  go_wp2_with fail
  refine (newnode_calls 40 (by decide) (by decide)).mono ?_
  rintro e w3 ⟨g, rfl, hg, hr, hu3⟩
  have hr : Row w3 g 36 (u64s (List.replicate 320 0)) := hr
  have HG := Lib.hid hg
  have HU3 := Lib.hid hu3
  have hgl := hr.lt
  have hgs : w3.heap.size ≠ g := by omega
  have x0 := hr.cell 0 (v := .int .u64 0) (by rw [u64s_get]; rfl)
  have x1 := hr.cell 1 (v := .int .u64 0) (by rw [u64s_get]; rfl)
  have y0 := hr.frozen 0
  have y1 := hr.frozen 1
  have hr5 : Row ((w3.setCell ⟨g, 0, none⟩ (.int .u64 1)).setCell ⟨g, 1, none⟩ (.int .u64 1)) g 36 (u64s ws5) := by
    have := (hr.set 0 (.int .u64 1)).set 1 (.int .u64 1)
    rw [← ws5_set]
    simpa [u64s] using this
  have HR5 := Lib.hid hr5
  clear hr hu3 hr5
  go_upto_region 6 with fail
  have hu5 : Upd Non w2 (((w3.setCell ⟨g, 0, none⟩ (.int .u64 1)).setCell ⟨g, 1, none⟩ (.int .u64 1)).alloc (.cells #[.slice (some ⟨g, 0, none⟩) 320 320, .bool true] 46)) :=
    ((HU3.out.setCell (p := ⟨g, 0, none⟩) (.inr HG.out) _).setCell (p := ⟨g, 1, none⟩) (.inr HG.out) _).alloc _
  have HR6 := Lib.hid (HR5.out.alloc (.cells #[.slice (some ⟨g, 0, none⟩) 320 320, .bool true] 46))
  have hb6 : Row (((w3.setCell ⟨g, 0, none⟩ (.int .u64 1)).setCell ⟨g, 1, none⟩ (.int .u64 1)).alloc (.cells #[.slice (some ⟨g, 0, none⟩) 320 320, .bool true] 46)) w3.heap.size 46 [.slice (some ⟨g, 0, none⟩) 320 320, .bool true] := by
    have := Row.new ((w3.setCell ⟨g, 0, none⟩ (.int .u64 1)).setCell ⟨g, 1, none⟩ (.int .u64 1)) #[.slice (some ⟨g, 0, none⟩) 320 320, .bool true] 46
    simpa [World.setCell] using this
  have HU5 := Lib.hid hu5
  have HB6 := Lib.hid hb6
  have HRS : Hid (w2.heap.size ≤ w3.heap.size) := Lib.hid HU3.out.size
  clear hu5 hb6 x0 x1 y0 y1 HR5 HU3
  generalize ((w3.setCell ⟨g, 0, none⟩ (.int .u64 1)).setCell ⟨g, 1, none⟩ (.int .u64 1)).alloc (.cells #[.slice (some ⟨g, 0, none⟩) 320 320, .bool true] 46) = W5 at *
  have HGR : Hid (g ≠ w3.heap.size) := Lib.hid fun e => hgs e.symm
  clear hgl hgs
  generalize w3.heap.size = r at *
  have HN6 := Lib.hid ((HN.out.keep HU5.out (fun _ _ h => h)).keep ((Upd.refl Non W5).alloc (.cells #[.int .u64 1, .int .u64 1] 36)) (fun _ _ h => h))
  go_wp2_with fail
  refine (write_ok (G := fun _ => True) HN6.out 0 (some ⟨W5.heap.size, 0, none⟩) 2 2 [1, 1] (view_new2 W5 #[.int .u64 1, .int .u64 1] 36 1 2 rfl) (by decide +kernel)).mono ?_
  rintro e w6 ⟨rfl, hN6, hu6⟩
  have hN6 : NodeR w6 (New w1 w2) q ws5 true := by rw [← ws5_eq]; exact hN6
  have hu7 : Upd (New w1 w2) W5 w6 := (Upd.of_non ((Upd.refl Non W5).alloc (.cells #[.int .u64 1, .int .u64 1] 36))).tr hu6
  have HW0 := Lib.hid HZ0.out.lt
  have HN7 := Lib.hid hN6
  have HU7 := Lib.hid hu7
  have hz := hu7.row (HU5.out.rowN (HU2.out.rowN (HU1.out.rowN HZ0.out))) (fun h => by have := HU0.out.size; have := HU1.out.size; have h1 := HZ0.out.lt; have := h.1; omega)
  have hzz : w6.cell? ⟨w.heap.size, 0, none⟩ = some (.pointer none) ∧ w6.cell? ⟨w.heap.size, 1, none⟩ = some (.pointer none) ∧ w6.cell? ⟨w.heap.size, 2, none⟩ = some (.pointer none) ∧ w6.cell? ⟨w.heap.size, 3, none⟩ = some (.pointer none) := ⟨hz.cell 0 rfl, hz.cell 1 rfl, hz.cell 2 rfl, hz.cell 3 rfl⟩
  have hzf : w6.frozen? ⟨w.heap.size, 0, none⟩ = false ∧ w6.frozen? ⟨w.heap.size, 1, none⟩ = false ∧ w6.frozen? ⟨w.heap.size, 2, none⟩ = false ∧ w6.frozen? ⟨w.heap.size, 3, none⟩ = false := ⟨hz.frozen 0, hz.frozen 1, hz.frozen 2, hz.frozen 3⟩
  obtain ⟨z0, z1, z2, z3⟩ := hzz
  obtain ⟨y0, y1, y2, y3⟩ := hzf
  have hrow : Row (((((w6.setCell ⟨w.heap.size, 0, none⟩ (.pointer (some ⟨p, 0, none⟩))).setCell ⟨w.heap.size, 1, none⟩ (.pointer (some ⟨q, 0, none⟩))).setCell ⟨w.heap.size, 2, none⟩ (.pointer (some ⟨w6.heap.size, 0, none⟩))).setCell ⟨w.heap.size, 3, none⟩ (.pointer (some ⟨r, 0, none⟩))).alloc (.cells #[.int .i64 c, .int .i64 i, .int .i64 0, .slice none 0 0] 134)) w.heap.size 109 [.pointer (some ⟨p, 0, none⟩), .pointer (some ⟨q, 0, none⟩), .pointer (some ⟨w6.heap.size, 0, none⟩), .pointer (some ⟨r, 0, none⟩)] :=
    ((((hz.set 0 (.pointer (some ⟨p, 0, none⟩))).set 1 (.pointer (some ⟨q, 0, none⟩))).set 2 (.pointer (some ⟨w6.heap.size, 0, none⟩))).set 3 (.pointer (some ⟨r, 0, none⟩))).alloc _
  have HROW := Lib.hid hrow
  have hzl := hz.lt
  clear hrow
  have hzn : w6.heap.size ≠ w.heap.size := by omega
  clear hN6 hu6 hu7 hz
  go_wp2_with fail
  have k0 := HROW.out.cell 0 rfl
  have k1 := HROW.out.cell 1 rfl
  have k2 := HROW.out.cell 2 rfl
  have k3 := HROW.out.cell 3 rfl
  refine bodyPost_ret (v := .tuple #[.agg #[.pointer (some ⟨p, 0, none⟩), .pointer (some ⟨q, 0, none⟩), .pointer (some ⟨w6.heap.size, 0, none⟩), .pointer (some ⟨r, 0, none⟩)], .bool true]) (by simp [results, Try.results87, go_sem, k0, k1, k2, k3]) rfl ?_
  have hq : Upd (fun k => k = w.heap.size) w6 ((((w6.setCell ⟨w.heap.size, 0, none⟩ (.pointer (some ⟨p, 0, none⟩))).setCell ⟨w.heap.size, 1, none⟩ (.pointer (some ⟨q, 0, none⟩))).setCell ⟨w.heap.size, 2, none⟩ (.pointer (some ⟨w6.heap.size, 0, none⟩))).setCell ⟨w.heap.size, 3, none⟩ (.pointer (some ⟨r, 0, none⟩))) :=
    ((((Upd.refl (fun k => k = w.heap.size) w6).setCell (p := ⟨w.heap.size, 0, none⟩) (.inl rfl) _).setCell (p := ⟨w.heap.size, 1, none⟩) (.inl rfl) _).setCell (p := ⟨w.heap.size, 2, none⟩) (.inl rfl) _).setCell (p := ⟨w.heap.size, 3, none⟩) (.inl rfl) _
  have hN8 := HN7.out.keep hq (fun k hk e => by have := hk.1; have := HW0.out; have := HU0.out.size; have := HU1.out.size; omega)
  obtain ⟨lab, hF, _⟩ := fresh_fin (by omega) (by omega) (by omega) (by omega) HU0.out HP.out HU1.out HU2.out HRS.out HG.out HGR.out HU5.out HB6.out HR6.out hN8 HW0.out ((HU7.out.mono fun _ _ h => .inl h).trans hq fun _ _ h => .inr h)
  unfold FreshPost
  rw [← HC.out, ← HI.out]
  refine ⟨p, q, w6.heap.size, r, lab, rfl, ?_⟩
  have e : ((((w6.setCell ⟨w.heap.size, 0, none⟩ (.pointer (some ⟨p, 0, none⟩))).setCell ⟨w.heap.size, 1, none⟩ (.pointer (some ⟨q, 0, none⟩))).setCell ⟨w.heap.size, 2, none⟩ (.pointer (some ⟨w6.heap.size, 0, none⟩))).setCell ⟨w.heap.size, 3, none⟩ (.pointer (some ⟨r, 0, none⟩))).heap.size = w6.heap.size := by simp [World.setCell]
  rw [e] at hF
  exact hF
end Go.Proofs.Ytlhbikiggmdolaa
