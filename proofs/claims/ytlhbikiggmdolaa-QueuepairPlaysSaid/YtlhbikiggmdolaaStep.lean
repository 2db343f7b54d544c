/- Queue pairs of the program: what a step asks and does. -/
import Derived.Test.YtlhbikiggmdolaaPair2
namespace Go.Proofs.Ytlhbikiggmdolaa
open Go.RowKit

theorem qword_calls {w : World} {F : Blk} {p : Nat} {ws : List Int} (h : NodeR w F p ws true) (at_ : Nat) :
    Calls Try.prog 172 #[.pointer (some ⟨p, 0, none⟩), .int .i64 at_] w fun e w' => e = .returned (.int .u64 (ws.getD at_ 0)) ∧ Upd Non w w' := by
  by_cases hlt : at_ < ws.length
  · have hac : accE ws.length true at_ ((1 : Nat) : Int) = 0 := by unfold accE; rw [if_neg (by omega)]; rfl
    have HRD := Lib.hid (read_ok h at_ 1 hac)
    have hx : u64s ((ws.drop at_).take 1) = [.int .u64 (ws.getD at_ 0)] := by
      rw [List.drop_eq_getElem_cons hlt, List.take_succ_cons, List.take_zero, List.getD_eq_getElem?_getD, List.getElem?_eq_getElem hlt]; rfl
    have HX := Lib.hid hx
    clear h hac hx hlt
    generalize ws.getD at_ 0 = x at *
    go_enter Try.func172, Try.ntmps172
    go_wp2_with fail
    refine HRD.out.mono ?_
    rintro e w2 ⟨v, rfl, hO, hU, hnn⟩
    rw [HX.out] at hO
    obtain ⟨A, cap, rfl, _, hV⟩ := hO.shape
    obtain ⟨b, off, rfl, _, _, hc⟩ := hV.cell (i := 0) rfl
    rw [Nat.add_zero] at hc
    have HU := Lib.hid hU
    clear hO hV hU hnn
    go_wp2_with fail
    go_ret
    exact ⟨rfl, HU.out⟩
  · have hac : accE ws.length true at_ 1 = 2 := by unfold accE; rw [if_pos (by omega)]
    have HRD := Lib.hid (read_bad h at_ 1 (by rw [hac]; decide))
    rw [hac] at HRD
    have HX := Lib.hid (show ws.getD at_ 0 = 0 by rw [List.getD_eq_getElem?_getD, List.getElem?_eq_none (by omega)]; rfl)
    clear h hac hlt
    generalize ws.getD at_ 0 = x at *
    go_enter Try.func172, Try.ntmps172
    go_wp2_with fail
    refine HRD.out.mono ?_
    rintro e w2 ⟨rfl, rfl⟩
    go_wp2_with fail
    go_ret
    exact ⟨ret_int HX.out.symm, Upd.refl _ _⟩

/-- Why the next piece is not executed. -/
def refE (P : Pr) (v : Vb) (ws : List Int) (up : Bool) : Int :=
  if up = false then 4 else if validE v 5 ((ws.length / 8 : Nat) : Int) ≠ 0 then 2 else chkV v P.inc (ws.getD (24 + P.client).toNat 0) (ws.getD 0 0) (ws.getD 1 0)

set_option maxRecDepth 100000 in
set_option maxHeartbeats 4000000 in
theorem refusal_calls {w : World} {M I J F : Blk} {p q : Nat} {P : Pr} {v : Vb} {s : Value} {ws : List Int} {up : Bool} (h : PairR w M I p P) (hv : VWords w J v s) (hn : NodeR w F q ws up) (hc0 : 0 ≤ P.client) (hc1 : P.client ≤ 100) (hi : P.inc < 9223372036854775808) (hb : v.boot < 9223372036854775808) :
    Calls Try.prog 145 #[.pointer (some ⟨p, 0, none⟩), .agg (vbC v s), .pointer (some ⟨q, 0, none⟩)] w fun e w' => e = .returned (.int .i64 (refE P v ws up)) ∧ Upd Non w w' := by
  obtain ⟨A, cap, rfl, _, _, _⟩ := hv
  have HE : Hid (refE P v ws up = if up = false then 4 else if validE v 5 ((ws.length / 8 : Nat) : Int) ≠ 0 then 2 else chkV v P.inc (ws.getD (24 + P.client).toNat 0) (ws.getD 0 0) (ws.getD 1 0)) := Lib.hid rfl
  have HVAL := Lib.hid (fun w l => valid_calls v A cap 5 l w)
  have HCHK : Hid (validE v 5 ((ws.length / 8 : Nat) : Int) = 0 → ∀ d k b w, Calls Try.prog 173 #[.agg (vbC v (.slice A v.words.length cap)), .int .i64 P.inc, .int .u64 d, .int .u64 k, .int .u64 b] w fun e w' => e = .returned (.int .i64 (chkV v P.inc d k b)) ∧ Upd Non w w') := Lib.hid fun h0 d k b w => vcheck_calls v A cap P.inc d k b w (validE_ok h0).1 hi hb
  have HK : Hid (∀ w', Upd Non w w' → w'.cell? ⟨p, 0, none⟩ = some (.int .i64 P.client) ∧ w'.cell? ⟨p, 1, none⟩ = some (.int .i64 P.inc) ∧ NodeR w' F q ws up) := Lib.hid fun w' hu => by
    obtain ⟨Av, cv, _, _, h0, h1, _⟩ := (h.keep hu (fun _ _ h => h) (fun _ _ h => h)).cells
    exact ⟨h0, h1, hn.keep hu (fun _ _ h => h)⟩
  have HLIN : Hid (∀ w', Upd Non w w' → Calls Try.prog 77 #[.pointer (some ⟨q, 0, none⟩)] w' fun e w'' => e = .returned (.int .i64 ((ws.length / 8 : Nat) : Int)) ∧ w' = w'') := Lib.hid fun w' hu => lines_calls (hn.keep hu (fun _ _ h => h))
  clear h hn
  generalize ((ws.length / 8 : Nat) : Int) = ln at *
  generalize refE P v ws up = re at *
  unfold vbC
  unfold vbC at HVAL HCHK
  obtain ⟨client, inc, pnode, verbs, ex, pw⟩ := P
  dsimp only at *
  clear hi hb
  obtain ⟨c, rfl⟩ := Int.eq_ofNat_of_zero_le hc0
  rw [show (24 + (c : Int)).toNat = 24 + c by omega] at HE
  have hrow : ∀ (kind node at_ n old new_ : Int) (words : List Int) (key boot : Int), v = ⟨kind, node, at_, n, old, new_, words, key, boot⟩ → True := fun _ _ _ _ _ _ _ _ _ _ => trivial
  clear hrow
  have hrow : Row (w.alloc (.cells #[.int .i64 v.kind, .int .i64 v.node, .int .i64 v.at_, .int .i64 v.n, .int .u64 v.old, .int .u64 v.new_, .slice A v.words.length cap, .int .u64 v.key, .int .i64 v.boot] 62)) w.heap.size 62 [.int .i64 v.kind, .int .i64 v.node, .int .i64 v.at_, .int .i64 v.n, .int .u64 v.old, .int .u64 v.new_, .slice A v.words.length cap, .int .u64 v.key, .int .i64 v.boot] := Row.new w _ _
  have HROW := Lib.hid hrow
  have HU1 : Hid (Upd Non w (w.alloc (.cells #[.int .i64 v.kind, .int .i64 v.node, .int .i64 v.at_, .int .i64 v.n, .int .u64 v.old, .int .u64 v.new_, .slice A v.words.length cap, .int .u64 v.key, .int .i64 v.boot] 62))) := (Upd.refl _ _).alloc _
  clear hrow
  go_enter Try.func145, Try.ntmps145
  go_wp2_with fail
  obtain ⟨p0, p1, hN1⟩ := HK.out _ HU1.out
  refine (up_calls hN1).mono ?_
  rintro e w' ⟨rfl, rfl⟩
  cases up
  · have HZ : Hid (re = 4) := Lib.hid (by rw [HE.out, if_pos rfl])
    clear hN1
    go_wp2_with fail
    go_ret
    exact ⟨ret_int HZ.out.symm, HU1.out⟩
  · have HE2 : Hid (re = if validE v 5 ln ≠ 0 then 2 else chkV v inc (ws.getD (24 + c) 0) (ws.getD 0 0) (ws.getD 1 0)) := Lib.hid (by rw [HE.out, if_neg (by simp)])
    have HN1 := Lib.hid hN1
    obtain ⟨d0, d1, d2, d3, d4, d5, d6, d7, d8⟩ := vb_cells HROW.out
    clear HE hN1
    go_wp2_with fail
    go_region_held3 (fun w' => w'.cell? ⟨w.heap.size, 0, none⟩ = some (.int .i64 v.kind) ∧ w'.cell? ⟨w.heap.size, 1, none⟩ = some (.int .i64 v.node) ∧ w'.cell? ⟨w.heap.size, 2, none⟩ = some (.int .i64 v.at_) ∧ w'.cell? ⟨w.heap.size, 3, none⟩ = some (.int .i64 v.n) ∧ w'.cell? ⟨w.heap.size, 4, none⟩ = some (.int .u64 v.old) ∧ w'.cell? ⟨w.heap.size, 5, none⟩ = some (.int .u64 v.new_) ∧ w'.cell? ⟨w.heap.size, 6, none⟩ = some (.slice A v.words.length cap) ∧ w'.cell? ⟨w.heap.size, 7, none⟩ = some (.int .u64 v.key) ∧ w'.cell? ⟨w.heap.size, 8, none⟩ = some (.int .i64 v.boot)) (go_keep)
      (first
        | (go_at_call 77; (with_reducible refine (HLIN.out _ HU1.out.drew).mono ?_); rintro e w' ⟨rfl, rfl⟩)
        | (go_at_call 123; (with_reducible refine (HVAL.out _ _).mono ?_); rintro e w2 ⟨rfl, hu2⟩; have hr2 := hu2.nodraw.rowN HROW.out; obtain ⟨d0, d1, d2, d3, d4, d5, d6, d7, d8⟩ := vb_cells hr2; have HU2 := Lib.hid (HU1.out.tr hu2.nodraw); have HR2 := Lib.hid hr2; clear hu2 hr2))
    clear d0 d1 d2 d3 d4 d5 d6 d7 d8 p0 p1
    obtain ⟨d0, d1, d2, d3, d4, d5, d6, d7, d8⟩ := vb_cells HR2.out
    obtain ⟨p0, p1, hN2⟩ := HK.out _ HU2.out
    have HN2 := Lib.hid hN2
    clear hN2 HU1 HROW HN1
    by_cases hv0 : validE v 5 ln = 0
    · have HE3 : Hid (re = chkV v inc (ws.getD (24 + c) 0) (ws.getD 0 0) (ws.getD 1 0)) := Lib.hid (by rw [HE2.out, if_neg (by simp [hv0])])
      have HCH := Lib.hid (HCHK.out hv0)
      rw [hv0]
      clear hv0 HE2 HCHK
      go_wp2_with fail
      have hq := qword_calls HN2.out (24 + c)
      rw [show ((24 + c : Nat) : Int) = 24 + (c : Int) by omega] at hq
      refine hq.mono ?_
      rintro e w3 ⟨rfl, hu3⟩
      have hr3 := hu3.rowN HR2.out
      have hU3 := HU2.out.tr hu3
      clear d0 d1 d2 d3 d4 d5 d6 d7 d8 p0 p1 hq
      obtain ⟨d0, d1, d2, d3, d4, d5, d6, d7, d8⟩ := vb_cells hr3
      obtain ⟨p0, p1, hN3⟩ := HK.out _ hU3
      have HR3 := Lib.hid hr3
      have HU3 := Lib.hid hU3
      have HN3 := Lib.hid hN3
      clear hu3 hr3 hU3 hN3 HR2 HU2 HN2
      generalize ws.getD (24 + c) 0 = dv at *
      go_wp2_with fail
      have HQ0 : Hid (∀ W, Upd Non w W → Calls Try.prog 172 #[.pointer (some ⟨q, 0, none⟩), .int .i64 0] W fun e w' => e = .returned (.int .u64 (ws.getD 0 0)) ∧ Upd Non W w') := Lib.hid fun W hu => qword_calls (HK.out W hu).2.2 0
      have HQ1 : Hid (∀ W, Upd Non w W → Calls Try.prog 172 #[.pointer (some ⟨q, 0, none⟩), .int .i64 1] W fun e w' => e = .returned (.int .u64 (ws.getD 1 0)) ∧ Upd Non W w') := Lib.hid fun W hu => qword_calls (HK.out W hu).2.2 1
      have hub3 : Hid (∀ W, Upd Non w W → Row W w.heap.size 62 [.int .i64 v.kind, .int .i64 v.node, .int .i64 v.at_, .int .i64 v.n, .int .u64 v.old, .int .u64 v.new_, .slice A v.words.length cap, .int .u64 v.key, .int .i64 v.boot] ∨ True) := Lib.hid fun _ _ => .inr trivial
      clear hub3
      generalize ws.getD 0 0 = x0 at *
      generalize ws.getD 1 0 = x1 at *
      go_region_held3 (fun w' => w'.cell? ⟨p, 1, none⟩ = some (.int .i64 inc) ∧ w'.cell? ⟨w.heap.size, 0, none⟩ = some (.int .i64 v.kind) ∧ w'.cell? ⟨w.heap.size, 1, none⟩ = some (.int .i64 v.node) ∧ w'.cell? ⟨w.heap.size, 2, none⟩ = some (.int .i64 v.at_) ∧ w'.cell? ⟨w.heap.size, 3, none⟩ = some (.int .i64 v.n) ∧ w'.cell? ⟨w.heap.size, 4, none⟩ = some (.int .u64 v.old) ∧ w'.cell? ⟨w.heap.size, 5, none⟩ = some (.int .u64 v.new_) ∧ w'.cell? ⟨w.heap.size, 6, none⟩ = some (.slice A v.words.length cap) ∧ w'.cell? ⟨w.heap.size, 7, none⟩ = some (.int .u64 v.key) ∧ w'.cell? ⟨w.heap.size, 8, none⟩ = some (.int .i64 v.boot)) (go_keep)
        (first
          | (go_at_call 172; (with_reducible refine (HQ0.out _ HU3.out.drew).mono ?_); rintro e wa ⟨rfl, hu⟩; have hub := HU3.out.drew.tr hu; have hra := hu.nodraw.rowN HR3.out; obtain ⟨d0, d1, d2, d3, d4, d5, d6, d7, d8⟩ := vb_cells hra; have p1 := (HK.out _ hub).2.1; have HUa := Lib.hid hub; have HRa := Lib.hid hra; clear hu hub hra)
          | (go_at_call 172; (with_reducible refine (HQ1.out _ HU3.out.drew).mono ?_); rintro e wa ⟨rfl, hu⟩; have hub := HU3.out.drew.tr hu; have hra := hu.nodraw.rowN HR3.out; obtain ⟨d0, d1, d2, d3, d4, d5, d6, d7, d8⟩ := vb_cells hra; have p1 := (HK.out _ hub).2.1; have HUa := Lib.hid hub; have HRa := Lib.hid hra; clear hu hub hra)
          | (go_at_call 172; (with_reducible refine (HQ0.out _ HUa.out).mono ?_); rintro e wb ⟨rfl, hu⟩; have hub := HUa.out.tr hu; obtain ⟨d0, d1, d2, d3, d4, d5, d6, d7, d8⟩ := vb_cells (hu.rowN HRa.out); have p1 := (HK.out _ hub).2.1; have HRb := Lib.hid (hu.rowN HRa.out); have HUb := Lib.hid hub; clear hu hub)
          | (go_at_call 172; (with_reducible refine (HQ1.out _ HUa.out).mono ?_); rintro e wb ⟨rfl, hu⟩; have hub := HUa.out.tr hu; obtain ⟨d0, d1, d2, d3, d4, d5, d6, d7, d8⟩ := vb_cells (hu.rowN HRa.out); have p1 := (HK.out _ hub).2.1; have HRb := Lib.hid (hu.rowN HRa.out); have HUb := Lib.hid hub; clear hu hub)
          | (go_at_call 173; (with_reducible refine (HCH.out _ _ _ _).mono ?_); rintro e wc ⟨rfl, hu⟩; have hub := HUb.out.tr hu; obtain ⟨d0, d1, d2, d3, d4, d5, d6, d7, d8⟩ := vb_cells (hu.rowN HRb.out); have p1 := (HK.out _ hub).2.1; have HUc := Lib.hid hub; clear hu hub))
      all_goals go_wp2_with fail
      all_goals go_ret
      all_goals exact ⟨ret_int HE3.out.symm, HUc.out⟩
    · have HZ : Hid (re = 2) := Lib.hid (by rw [HE2.out, if_pos hv0])
      have hb : (validE v 5 ln == 0) = false := by simpa using hv0
      have hb' : (validE v 5 ln != 0) = true := by simpa using hv0
      clear hv0
      generalize validE v 5 ln = ve at *
      go_wp2_with fail
      go_ret
      exact ⟨ret_int HZ.out.symm, HU2.out⟩
end Go.Proofs.Ytlhbikiggmdolaa
