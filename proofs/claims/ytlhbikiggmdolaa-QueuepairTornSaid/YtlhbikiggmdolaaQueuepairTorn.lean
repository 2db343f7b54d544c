/- The walk of QueuepairTorn. -/
import Derived.Test.YtlhbikiggmdolaaLaw5C
namespace Go.Proofs.Ytlhbikiggmdolaa
open Go.RowKit

/-- The words of the write in these statements, and the write. -/
def TwRel (w : World) (bx p q b r wb : Nat) (seed : Int) (m : Nat) (i : Value) (wr : World) : Prop :=
  ∃ k : Nat, k ≤ m ∧ i = .int .i64 k ∧ Row wr wb 36 (u64s ((fillW seed m).take k ++ List.replicate (m - k) 0)) ∧ XRow wr bx p q b r ∧ K5 w (fun k => k = bx ∨ k = wb) wr p q (Pr.none 0 1 0) ws5 true

def Pj (v : Vb) (j : Nat) : Pr := ⟨0, 1, 0, [v], j, []⟩
def wsT (a : Nat) (wd : List Int) (j : Nat) : List Int := putW ws5 a (wd.take (posV (wrV a wd) j - a))
theorem wsT_zero {a : Nat} {wd : List Int} (h : 1 ≤ wd.length) : wsT a wd 0 = ws5 := by
  obtain ⟨n, hn⟩ := pcsN_first (cntV (wrV a wd)).toNat (wrV a wd).at_.toNat (cntV (wrV a wd)).toNat (by rw [cnt_wrV]; omega) (Nat.le_refl _)
  have hp : posV (wrV a wd) 0 = a := by
    have := posV_get (v := wrV a wd) (j := 0) hn
    rw [this]; show ((a : Int)).toNat = a; omega
  unfold wsT
  rw [hp, Nat.sub_self, List.take_zero, putW_nil]
theorem torn_mid {a j : Nat} {wd : List Int} (h1 : 1 ≤ wd.length) (h2 : 25 ≤ a) (h3 : a + wd.length ≤ 320) (hj : j + 1 < (pcsV (wrV a wd)).length) :
    stepV (Pj (wrV a wd) j) (wsT a wd j) true = ⟨Pj (wrV a wd) (j + 1), wsT a wd (j + 1), 0, [], false⟩ := by
  obtain ⟨_, _, h⟩ := step_wrV (P := Pj (wrV a wd) j) (l := []) (ws := ws5) (a := a) (wd := wd) (j := j) rfl rfl rfl rfl rfl h1 h2 h3 open_ws5 (by omega)
  unfold wsT
  rw [h, if_pos hj]; rfl
theorem posV_le {a j : Nat} {wd : List Int} (h1 : 1 ≤ wd.length) (h2 : 25 ≤ a) (h3 : a + wd.length ≤ 320) (hj : j < (pcsV (wrV a wd)).length) : a ≤ posV (wrV a wd) j ∧ posV (wrV a wd) j ≤ a + wd.length := by
  obtain ⟨e1, e2, _⟩ := step_wrV (P := Pj (wrV a wd) j) (l := []) (ws := ws5) (a := a) (wd := wd) (j := j) rfl rfl rfl rfl rfl h1 h2 h3 open_ws5 hj
  exact ⟨e1, e2⟩
theorem wsT_open {a j : Nat} {wd : List Int} (h1 : 1 ≤ wd.length) (h2 : 25 ≤ a) (h3 : a + wd.length ≤ 320) (hj : j < (pcsV (wrV a wd)).length) : Open5 (wsT a wd j) := by
  have := posV_le h1 h2 h3 hj
  exact open_ws5.put h2 (by rw [List.length_take]; omega)
theorem torn_down {a j : Nat} {wd ws : List Int} : stepV (Pj (wrV a wd) j) ws false = ⟨(Pj (wrV a wd) j).rest, ws, 4, [], true⟩ := by
  have hr : refE (Pj (wrV a wd) j) (wrV a wd) ws false = 4 := by unfold refE; rw [if_pos rfl]
  rw [stepV_ref (v := wrV a wd) (l := []) rfl (by rw [hr]; decide), hr]
theorem wsT_wf {a : Nat} {wd : List Int} (h : Wf wd) (j : Nat) : Wf (wsT a wd j) := ws5_wf.put (fun x hx => h x (List.mem_of_mem_take hx)) a
/-- What is found behind the failure. -/
def gotT (a : Nat) (wd : List Int) (j : Nat) (x : Nat) : Int := if a ≤ x ∧ x < posV (wrV a wd) j then wd.getD (x - a) 0 else 0
theorem got_torn {a j : Nat} {wd : List Int} (h1 : 1 ≤ wd.length) (h2 : 25 ≤ a) (h3 : a + wd.length ≤ 320) (hj : j < (pcsV (wrV a wd)).length) (x : Nat) (hx : 2 ≤ x) (hx2 : x < 320) : ((wsT a wd j).set 1 2).getD x 0 = gotT a wd j x := by
  have hb := posV_le h1 h2 h3 hj
  have hl : (wd.take (posV (wrV a wd) j - a)).length = posV (wrV a wd) j - a := by rw [List.length_take]; omega
  have h5 : ws5.getD x 0 = 0 := by
    obtain ⟨y, rfl⟩ : ∃ y, x = y + 2 := ⟨x - 2, by omega⟩
    simp only [ws5, List.getD_eq_getElem?_getD, List.getElem?_cons_succ, List.getElem?_replicate]
    rw [if_pos (by omega)]; rfl
  have e : ((wsT a wd j).set 1 2).getD x 0 = (wsT a wd j).getD x 0 := by
    simp only [List.getD_eq_getElem?_getD]
    rw [List.getElem?_set_ne (by omega)]
  rw [e]
  unfold wsT gotT
  rw [getD_putW _ _ _ _ (by rw [hl, ws5_len]; omega), hl, h5]
  by_cases g1 : x < a
  · rw [if_pos g1, if_neg (by omega)]
  · rw [if_neg g1]
    by_cases g2 : x < posV (wrV a wd) j
    · rw [if_pos (by omega), if_pos (by omega)]
      simp only [List.getD_eq_getElem?_getD]
      rw [List.getElem?_take, if_pos (by omega)]
    · rw [if_neg (by omega), if_neg (by omega)]
theorem K5Step_eq {w0 w : World} {A : Blk} {p q : Nat} {P P' : Pr} {ws ws' done : List Int} {up is : Bool} {code : Int} (h : stepV P ws up = ⟨P', ws', code, done, is⟩) :
    K5Step w0 w A p q P ws up = fun e w' => ∃ (X : Option Addr) (cap : Nat) (R : Blk), e = .returned (.tuple #[.agg #[.int .i64 code, .slice X done.length cap], .bool is]) ∧ K5 w0 (fun k => A k ∧ k < w.heap.size) w' p q P' ws' up ∧ Own w' R 36 1 (.slice X done.length cap) done.length (u64s done) ∧ Keep5 A w w' := by
  unfold K5Step
  rw [h]
def TsRel (w : World) (bx p q b r wb gp op a : Nat) (wd : List Int) (ka : Nat) (i : Value) (wr : World) : Prop :=
  ∃ j : Nat, j ≤ ka ∧ i = .int .i64 j ∧ K5 w (fun k => k = bx ∨ k = wb ∨ k = gp) wr p q (Pj (wrV a wd) j) (wsT a wd j) true ∧ XRow wr bx p q b r ∧ Row wr wb 36 (u64s wd) ∧ View wr (fun k => k = gp) 2 (some ⟨gp, op, none⟩) (pcsV (wrV a wd)).length (pcC (pcsV (wrV a wd)))

set_option maxRecDepth 100000 in
set_option maxHeartbeats 8000000 in
theorem queuepairTorn_any (w : World) (from_ n_ after seed : Int) :
    Calls Try.prog 16 #[.int .i64 from_, .int .i64 n_, .int .i64 after, .int .u64 seed] w fun e w' => e = .returned (.bool true) ∧ Upd Non w w' := by
  obtain ⟨f, hf⟩ : ∃ f : Nat, from_ % 100 = f := ⟨(from_ % 100).toNat, by omega⟩
  obtain ⟨m, hm⟩ : ∃ m : Nat, n_ % 60 = m := ⟨(n_ % 60).toNat, by omega⟩
  have hf100 : f < 100 := by omega
  have hm60 : m < 60 := by omega
  have HP1 : Hid (∀ w, Calls Try.prog 23 #[.int .i64 from_, .int .i64 100] w fun e w' => e = .returned (.int .i64 f) ∧ w = w') := Lib.hid fun w => by have := pick_calls from_ 100 w (by decide) (by decide); rw [hf] at this; exact this
  have HP2 : Hid (∀ w, Calls Try.prog 23 #[.int .i64 n_, .int .i64 60] w fun e w' => e = .returned (.int .i64 m) ∧ w = w') := Lib.hid fun w => by have := pick_calls n_ 60 w (by decide) (by decide); rw [hm] at this; exact this
  have hmk := run_make_row' (P := Try.prog) 33 36 (.int .u64 0) 8 Try.underlying33 info_u64 rfl .i64 .i64 (m + 1) (by omega) (by omega)
  have hmk : ∀ w, (Instr.makeSlice 33 (.int .i64 ((m : Int) + 1)) (.int .i64 ((m : Int) + 1))).run Try.prog w = .ok (.slice (some ⟨w.heap.size, 0, none⟩) (m + 1) (m + 1)) (w.alloc (.cells (madeCells #[.int .u64 0] (m + 1)) 36)) := hmk
  clear hf hm
  go_enter Try.func16, Try.ntmps16
  go_wp2_with fail
  refine (HP1.out _).mono ?_
  rintro e w' ⟨rfl, rfl⟩
  go_wp2_with fail
  refine (HP2.out _).mono ?_
  rintro e w' ⟨rfl, rfl⟩
  go_wp2_with fail
  refine (fresh01 _).mono ?_
  rintro e w1 ⟨p, q, b, r, rfl, hK⟩
  have HK1 := Lib.hid (hK.keepN ((Upd.refl Non w1).alloc (.cells #[.pointer (some ⟨p, 0, none⟩), .pointer (some ⟨q, 0, none⟩), .pointer (some ⟨b, 0, none⟩), .pointer (some ⟨r, 0, none⟩)] 109)))
  have HB : Hid (XRow (w1.alloc (.cells #[.pointer (some ⟨p, 0, none⟩), .pointer (some ⟨q, 0, none⟩), .pointer (some ⟨b, 0, none⟩), .pointer (some ⟨r, 0, none⟩)] 109)) w1.heap.size p q b r) := Row.new w1 _ _
  clear hK HP1 HP2
  go_wp2_with fail
  generalize w1.alloc (.cells #[.pointer (some ⟨p, 0, none⟩), .pointer (some ⟨q, 0, none⟩), .pointer (some ⟨b, 0, none⟩), .pointer (some ⟨r, 0, none⟩)] 109) = W1 at *
  have HK1 := Lib.hid (HK1.out.mono (B := fun k => k = w1.heap.size) fun k hk => .inl (.inr (by omega)))
  generalize w1.heap.size = bx at *
  refine (awake5_calls _).mono ?_
  rintro e w2 ⟨rfl, hu2⟩
  have HK2 := Lib.hid (HK1.out.keepN hu2)
  have HB2 : Hid (XRow w2 bx p q b r) := Lib.hid (hu2.rowN HB.out)
  clear hu2 HK1 HB
  go_wp2_with fail
  have hu3 : Upd Non w2 (w2.alloc (.cells (madeCells #[.int .u64 0] (m + 1)) 36)) := (Upd.refl _ _).alloc _
  have hrow3 : Row (w2.alloc (.cells (madeCells #[.int .u64 0] (m + 1)) 36)) w2.heap.size 36 (u64s ((fillW seed (m + 1)).take 0 ++ List.replicate (m + 1 - 0) 0)) := by
    have := Row.new w2 (madeCells #[.int .u64 0] (m + 1)) 36
    rw [toList_made] at this
    simpa using this
  have HS3 : Hid (TwRel w bx p q b r w2.heap.size seed (m + 1) (.int .i64 0) (w2.alloc (.cells (madeCells #[.int .u64 0] (m + 1)) 36))) := Lib.hid ⟨0, Nat.zero_le _, rfl, hrow3, hu3.rowN HB2.out, (HK2.out.keepN hu3).mono fun k hk => by
    rcases hk with hk | hk
    · exact .inl (.inl (.inl hk))
    · exact .inl (.inr (by omega))⟩
  clear hu3 hrow3 HB2 HK2 hmk
  generalize w2.alloc (.cells (madeCells #[.int .u64 0] (m + 1)) 36) = W3 at *
  generalize w2.heap.size = wb at *
  go_loopw [12] (fun i wr => TwRel w bx p q b r wb seed (m + 1) i wr) (fun i _ => m + 1 - (intOf i).toNat)
  case atStart => exact HS3.out
  case round =>
    obtain ⟨k, hk, rfl, hrow, hx, hK⟩ := hrel
    have HROW := Lib.hid hrow
    have HX := Lib.hid hx
    have HK := Lib.hid hK
    clear hrow hx hK HS3
    by_cases hlt : k < m + 1
    · have cw : wr.cell? ⟨wb, k, none⟩ = some (.int .u64 0) := HROW.out.cell k (fill_zero seed (m + 1) k hlt)
      have zw := HROW.out.frozen k
      go_wp2
      go_roundw
      case rel =>
        have := HROW.out.set k (.int .u64 ((seed + (k : Int)) % 18446744073709551616))
        rw [fill_set seed (m + 1) k hlt] at this
        have hu : Upd (One wb) wr (wr.setCell ⟨wb, k, none⟩ (.int .u64 ((seed + (k : Int)) % 18446744073709551616))) := (Upd.refl (One wb) wr).setCell (p := ⟨wb, k, none⟩) (.inl rfl) _
        exact ⟨k + 1, by omega, by go_num, this, hu.row HX.out (fun e => by have e : bx = wb := e; subst e; have := (Row.uniq HX.out HROW.out).1; exact absurd this (by decide)), HK.out.keepA hu fun k hk => .inr hk⟩
      case measure => simp [intOf]; omega
    · have hkm : k = m + 1 := by omega
      have hrow : Row wr wb 36 (u64s (fillW seed (m + 1))) := by
        rw [← fill_done seed (m + 1) k hkm]; exact HROW.out
      have HW := Lib.hid hrow
      clear hkm hrow HROW
      go_upto_region 11 with fail
      clear hlt hk
      have hu4 : Upd Non wr (wr.alloc (.cells #[.int .i64 2, .int .i64 0, .int .i64 (40 + (f : Int)), .int .i64 0, .int .u64 0, .int .u64 0, .slice (some ⟨wb, 0, none⟩) (m + 1) (m + 1), .int .u64 1, .int .i64 1] 62)) := (Upd.refl _ _).alloc _
      have HVB4 : Hid (Row (wr.alloc (.cells #[.int .i64 2, .int .i64 0, .int .i64 (40 + (f : Int)), .int .i64 0, .int .u64 0, .int .u64 0, .slice (some ⟨wb, 0, none⟩) (m + 1) (m + 1), .int .u64 1, .int .i64 1] 62)) wr.heap.size 62 [.int .i64 2, .int .i64 0, .int .i64 (40 + (f : Int)), .int .i64 0, .int .u64 0, .int .u64 0, .slice (some ⟨wb, 0, none⟩) (m + 1) (m + 1), .int .u64 1, .int .i64 1]) := Row.new wr _ _
      have HX4 : Hid (XRow (wr.alloc (.cells #[.int .i64 2, .int .i64 0, .int .i64 (40 + (f : Int)), .int .i64 0, .int .u64 0, .int .u64 0, .slice (some ⟨wb, 0, none⟩) (m + 1) (m + 1), .int .u64 1, .int .i64 1] 62)) bx p q b r) := Lib.hid (hu4.rowN HX.out)
      have HW4 := Lib.hid (hu4.rowN HW.out)
      have HK4 := Lib.hid ((HK.out.keepN hu4).mono (B := fun k => k = bx ∨ k = wb ∨ k = wr.heap.size) fun k hk => by
        rcases hk with hk | hk | hk
        · exact .inl (.inl (.inl hk))
        · exact .inl (.inl (.inr hk))
        · exact .inl (.inr (by omega)))
      clear hu4 HX HW HK
      generalize wr.alloc (.cells #[.int .i64 2, .int .i64 0, .int .i64 (40 + (f : Int)), .int .i64 0, .int .u64 0, .int .u64 0, .slice (some ⟨wb, 0, none⟩) (m + 1) (m + 1), .int .u64 1, .int .i64 1] 62) = W4 at *
      generalize wr.heap.size = vb at *
      generalize hwd : fillW seed (m + 1) = wd at *
      have hwl : wd.length = m + 1 := by rw [← hwd, fillW_length]
      have HWF : Hid (Wf wd) := Lib.hid (by rw [← hwd]; exact fillW_wf _ _)
      have HWL := Lib.hid hwl
      have HWD := Lib.hid hwd
      clear hwd
      have hvw : ∀ W, Row W wb 36 (u64s wd) → VWords W (fun k => k = wb) (wrV (40 + f) wd) (.slice (some ⟨wb, 0, none⟩) (m + 1) (m + 1)) := fun W h =>
        ⟨some ⟨wb, 0, none⟩, m + 1, by show _ = Value.slice _ wd.length _; rw [hwl], by show wd.length ≤ _; omega, fun e => by simp at e, by
          show View W _ 1 _ wd.length (u64s wd)
          exact View.ofRow h (fun k => k = wb) rfl 1 wd.length 0 (u64s wd) (by simp [u64s]) (by rw [List.drop_zero]; exact List.take_length)⟩
      have eF : ((40 + f : Nat) : Int) = 40 + (f : Int) := by omega
      have HPOST : Hid (Calls Try.prog 89 #[.pointer (some ⟨p, 0, none⟩), .agg #[.int .i64 2, .int .i64 0, .int .i64 (40 + (f : Int)), .int .i64 0, .int .u64 0, .int .u64 0, .slice (some ⟨wb, 0, none⟩) (m + 1) (m + 1), .int .u64 1, .int .i64 1], .int .i64 40] W4 (K5Post w W4 (fun k => k = bx ∨ k = wb ∨ k = vb) p q (Pr.none 0 1 0) ws5 true (wrV (40 + f) wd))) := Lib.hid (by
        rw [← eF]
        exact HK4.out.post (hvw W4 HW4.out) (goodV_wrV (by omega) (by omega) (by omega) HWF.out) (by unfold postE; rw [validE_wrV (by omega) (by omega) (by omega)]; rfl) (by decide))
      have HPCS : Hid (∀ W, Calls Try.prog 96 #[.agg #[.int .i64 2, .int .i64 0, .int .i64 (40 + (f : Int)), .int .i64 0, .int .u64 0, .int .u64 0, .slice (some ⟨wb, 0, none⟩) (m + 1) (m + 1), .int .u64 1, .int .i64 1]] W fun e w' => ∃ x, e = .returned x ∧ Own w' (New W w') 122 2 x (pcsV (wrV (40 + f) wd)).length (pcC (pcsV (wrV (40 + f) wd))) ∧ Upd Non W w') := Lib.hid fun W => by
        have := refpieces_calls (wrV (40 + f) wd) (some ⟨wb, 0, none⟩) (m + 1) W (validE_ok (validE_wrV (a := 40 + f) (wd := wd) (by omega) (by omega) (by omega))).1
        rw [← eF]
        have e : (wrV (40 + f) wd).words.length = m + 1 := hwl
        rw [e] at this
        exact this
      have HVW := Lib.hid hvw
      clear hvw hwl
      obtain ⟨d0, d1, d2, d3, d4, d5, d6, d7, d8⟩ := vb_cells HVB4.out
      obtain ⟨x0, x1, x2, x3⟩ := HX4.out.cells
      go_wp2_with fail
      refine HPOST.out.mono ?_
      rintro e w5 ⟨rfl, hK, hkeep⟩
      have hlx : ∀ k, (k = bx ∨ k = wb ∨ k = vb) → k < W4.heap.size := by
        have h1 := Row.lt HX4.out
        have h2 := HW4.out.lt
        have h3 := HVB4.out.lt
        intro k hk; omega
      have HK5 := Lib.hid (hK.mono (B := fun k => k = bx ∨ k = wb ∨ k = vb) fun k hk => .inl ⟨hk, hlx k hk⟩)
      have hv5 := hkeep.row HVB4.out (.inr (.inr rfl))
      have HV5 := Lib.hid hv5
      have HX5 : Hid (XRow w5 bx p q b r) := Lib.hid (hkeep.row HX4.out (.inl rfl))
      have HW5 := Lib.hid (hkeep.row HW4.out (.inr (.inl rfl)))
      clear hK hkeep hlx d0 d1 d2 d3 d4 d5 d6 d7 d8 x0 x1 x2 x3 HPOST HVB4 HX4 HW4 HK4
      obtain ⟨d0, d1, d2, d3, d4, d5, d6, d7, d8⟩ := vb_cells hv5
      clear hv5
      go_wp2_with fail
      refine (HPCS.out _).mono ?_
      rintro e w6 ⟨x, rfl, hO6, hu6⟩
      obtain ⟨hnp1, hnp2⟩ : 1 ≤ (pcsV (wrV (40 + f) wd)).length ∧ (pcsV (wrV (40 + f) wd)).length ≤ 60 := ⟨pcsV_pos (by rw [cnt_wrV, HWL.out]; omega), by have := pcsV_length (wrV (40 + f) wd); rw [cnt_wrV, HWL.out] at this; omega⟩
      have hgp : ∃ gp cp, x = .slice (some ⟨gp, 0, none⟩) (pcsV (wrV (40 + f) wd)).length cp ∧ w5.heap.size ≤ gp ∧ View w6 (fun k => k = gp) 2 (some ⟨gp, 0, none⟩) (pcsV (wrV (40 + f) wd)).length (pcC (pcsV (wrV (40 + f) wd))) := by
        rcases hO6.2 with ⟨_, h0⟩ | ⟨g, cp, sp, e, hF, hr, h1, h2, h3⟩
        · omega
        · exact ⟨g, cp, e, hF.1, View.ofRow hr (fun k => k = g) rfl 2 _ 0 _ hO6.1 (by simp)⟩
      obtain ⟨gp, cp, rfl, hgl, hVp⟩ := hgp
      have HS7 : Hid (TsRel w bx p q b r wb gp 0 (40 + f) wd 0 (.int .i64 0) w6) := Lib.hid ⟨0, Nat.le_refl _, rfl, by
        rw [wsT_zero (by rw [HWL.out]; omega)]
        exact (HK5.out.keepN hu6).mono fun k hk => by
          rcases hk with hk | hk | hk
          · exact .inl (.inl (.inl hk))
          · exact .inl (.inl (.inr (.inl hk)))
          · exact .inl (.inr (by omega)), hu6.rowN HX5.out, hu6.rowN HW5.out, hVp⟩
      clear hO6 hu6 hVp hgl HK5 HV5 HX5 HW5 HPCS d0 d1 d2 d3 d4 d5 d6 d7 d8 HVW
      generalize hnp : (pcsV (wrV (40 + f) wd)).length = np at *
      have HNP := Lib.hid hnp
      clear hnp
      obtain ⟨ka, hka⟩ : ∃ ka : Nat, after % (np : Int) = ka := ⟨(after % (np : Int)).toNat, by have := Int.emod_nonneg after (show (np : Int) ≠ 0 by omega); omega⟩
      have hkan : ka < np := by have := Int.emod_lt_of_pos after (show (0 : Int) < np by omega); omega
      have HP3 : Hid (∀ w, Calls Try.prog 23 #[.int .i64 after, .int .i64 np] w fun e w' => e = .returned (.int .i64 ka) ∧ w = w') := Lib.hid fun w => by have := pick_calls after np w (by omega) (by omega); rw [hka] at this; exact this
      clear hka
      go_wp2_with fail
      refine (HP3.out _).mono ?_
      rintro e w' ⟨rfl, rfl⟩
      clear HP3
      go_wp2_with fail
      go_loopw [15] (fun i wr => TsRel w bx p q b r wb gp 0 (40 + f) wd ka i wr) (fun i _ => 60 - (intOf i).toNat)
      case atStart =>
        obtain ⟨j, hj, e1, e2⟩ := HS7.out
        exact ⟨j, by omega, e1, e2⟩
      case round =>
        obtain ⟨j, hj, rfl, hK, hx, hw, hv⟩ := hrel
        have HKj := Lib.hid hK
        have HXj := Lib.hid hx
        have HWj := Lib.hid hw
        have HVj := Lib.hid hv
        obtain ⟨x0, x1, x2, x3⟩ := hx.cells
        clear hK hx hw hv HS7
        by_cases hlt : j < ka
        · have hst := HKj.out.step
          rw [K5Step_eq (torn_mid (by rw [HWL.out]; omega) (by omega) (by rw [HWL.out]; omega) (by rw [HNP.out]; omega))] at hst
          have HST := Lib.hid hst
          clear hst
          go_wp2_with fail
          refine HST.out.mono ?_
          rintro e w8 ⟨X, cap, R, rfl, hK8, _, hkeep⟩
          have hu9 : Upd Non w8 (w8.alloc (.cells #[.int .i64 0, .slice X 0 cap] 69)) := (Upd.refl _ _).alloc _
          have hlx : ∀ k, (k = bx ∨ k = wb ∨ k = gp) → k < wr.heap.size := by
            have h1 := Row.lt HXj.out
            have h2 := HWj.out.lt
            have h3 := (HVj.out.2 (by intro e; have := congrArg List.length e; rw [pcC_length, HNP.out] at this; simp at this; omega))
            obtain ⟨b', o', e', rfl, hl', _⟩ := h3
            intro k hk; omega
          have HR : Hid (TsRel w bx p q b r wb gp 0 (40 + f) wd ka (.int .i64 ((j : Int) + 1)) (w8.alloc (.cells #[.int .i64 0, .slice X 0 cap] 69))) := Lib.hid ⟨j + 1, by omega, by congr 1, (hK8.keepN hu9).mono fun k hk => .inl (.inl ⟨hk, hlx k hk⟩), hu9.rowN (hkeep.row HXj.out (.inl rfl)), hu9.rowN (hkeep.row HWj.out (.inr (.inl rfl))), (hkeep.view HVj.out fun k hk => .inr (.inr hk)).keep hu9 fun _ _ h => h⟩
          clear hK8 hkeep hu9 hlx
          go_wp2_with fail
          go_roundw
          case rel => exact HR.out
          case measure => simp [intOf]; omega
        · obtain rfl : j = ka := by omega
          go_wp2_with fail
          have hlx : ∀ k, (k = bx ∨ k = wb ∨ k = gp) → k < wr.heap.size := by
            have h1 := Row.lt HXj.out
            have h2 := HWj.out.lt
            have h3 := (HVj.out.2 (by intro e; have := congrArg List.length e; rw [pcC_length, HNP.out] at this; simp at this; omega))
            obtain ⟨b', o', e', rfl, hl', _⟩ := h3
            intro k hk; omega
          have HLX := Lib.hid hlx
          clear hlx hlt hj
          obtain ⟨F0, hn, hset⟩ := HKj.out.setNode
          refine (fail_calls hn).mono ?_
          rintro e w9 ⟨rfl, hn9, hu9⟩
          obtain ⟨hK9, hkeep⟩ := hset _ _ _ hn9 hu9 (wsT_wf HWF.out j)
          have HK9 := Lib.hid hK9
          have HX9 : Hid (XRow w9 bx p q b r) := Lib.hid (hkeep.row HXj.out (.inl rfl))
          have HW9 := Lib.hid (hkeep.row HWj.out (.inr (.inl rfl)))
          have HV9 := Lib.hid (hkeep.view HVj.out fun k hk => .inr (.inr hk))
          have HLX9 : Hid (∀ k, (k = bx ∨ k = wb ∨ k = gp) → k < w9.heap.size) := Lib.hid fun k hk => Nat.lt_of_lt_of_le (HLX.out k hk) hkeep.1
          clear hn hset hn9 hu9 hK9 hkeep x0 x1 x2 x3 HKj HXj HWj HVj HLX
          obtain ⟨x0, x1, x2, x3⟩ := HX9.out.cells
          have hst := HK9.out.step
          rw [K5Step_eq torn_down] at hst
          have HST := Lib.hid hst
          clear hst
          go_wp2_with fail
          refine HST.out.mono ?_
          rintro e w10 ⟨X, cap, R, rfl, hK10, _, hkeep⟩
          have hu11 : Upd Non w10 (w10.alloc (.cells #[.int .i64 4, .slice X 0 cap] 69)) := (Upd.refl _ _).alloc _
          have hz11 : Row (w10.alloc (.cells #[.int .i64 4, .slice X 0 cap] 69)) w10.heap.size 69 [.int .i64 4, .slice X 0 cap] := Row.new _ _ _
          have HK11 := Lib.hid ((hK10.keepN hu11).mono (B := fun k => k = bx ∨ k = wb ∨ k = gp) fun k hk => .inl (.inl ⟨hk, HLX9.out k hk⟩))
          have HX11 : Hid (XRow (w10.alloc (.cells #[.int .i64 4, .slice X 0 cap] 69)) bx p q b r) := Lib.hid (hu11.rowN (hkeep.row HX9.out (.inl rfl)))
          have HW11 := Lib.hid (hu11.rowN (hkeep.row HW9.out (.inr (.inl rfl))))
          have HV11 := Lib.hid ((hkeep.view HV9.out fun k hk => .inr (.inr hk)).keep hu11 fun _ _ h => h)
          obtain ⟨z0, z1, _, _⟩ := done_cells hz11
          clear hK10 hkeep hu11 hz11 x0 x1 x2 x3 HX9 HW9 HV9 HK9 HST
          go_upto_region 23 with fail
          generalize w10.alloc (.cells #[.int .i64 4, .slice X 0 cap] 69) = W11 at *
          obtain ⟨x0, x1, x2, x3⟩ := HX11.out.cells
          obtain ⟨F1, hn, hset⟩ := HK11.out.setNode
          have hop := wsT_open (a := 40 + f) (wd := wd) (j := j) (by rw [HWL.out]; omega) (by omega) (by rw [HWL.out]; omega) (by rw [HNP.out]; omega)
          have hbk := back_yes hn (by rw [hop.1]; omega) (by rw [hop.2.2.2]; decide) (by rw [hop.2.2.2]; decide)
          rw [hop.2.2.2] at hbk
          have HBK := Lib.hid hbk
          have HSET := Lib.hid hset
          have HOP := Lib.hid hop
          clear hn hset hop hbk
          go_wp2_with fail
          refine HBK.out.mono ?_
          rintro e w12 ⟨rfl, hn12, hu12⟩
          obtain ⟨hK12, hkeep⟩ := HSET.out _ _ _ hn12 hu12 ((wsT_wf HWF.out j).set 1 (by decide))
          have HK12 := Lib.hid hK12
          have HX12 : Hid (XRow w12 bx p q b r) := Lib.hid (hkeep.row HX11.out (.inl rfl))
          have HW12 := Lib.hid (hkeep.row HW11.out (.inr (.inl rfl)))
          have hv12 := hkeep.view HV11.out fun k hk => .inr (.inr hk)
          obtain ⟨E, nE, hpx⟩ : ∃ E nE, (pcsV (wrV (40 + f) wd))[j]? = some (E, nE) := ⟨_, _, List.getElem?_eq_getElem (by rw [HNP.out]; exact hkan)⟩
          obtain ⟨gp', op', e', -, -, hpc0⟩ := hv12.cell (pcC_get hpx).1
          cases e'
          rw [Nat.zero_add] at hpc0
          have HEP := Lib.hid (posV_get hpx)
          have HGOT := Lib.hid (got_torn (a := 40 + f) (wd := wd) (j := j) (by rw [HWL.out]; omega) (by omega) (by rw [HWL.out]; omega) (by rw [HNP.out]; omega))
          have hEb := posV_le (a := 40 + f) (wd := wd) (j := j) (by rw [HWL.out]; omega) (by omega) (by rw [HWL.out]; omega) (by rw [HNP.out]; omega)
          rw [HEP.out] at hEb
          have HEB := Lib.hid hEb
          clear hn12 hu12 hK12 hkeep hpx hv12 x0 x1 x2 x3 z0 z1 HX11 HW11 HV11 HK11 HBK HSET hEb
          obtain ⟨x0, x1, x2, x3⟩ := HX12.out.cells
          obtain ⟨F2, hn, -⟩ := HK12.out.node
          have hacc : accE ((wsT (40 + f) wd j).set 1 2).length true ((32 : Nat) : Int) ((200 : Nat) : Int) = 0 := by
            rw [List.length_set, HOP.out.1]; decide
          have HRD := Lib.hid (show Calls Try.prog 26 #[.pointer (some ⟨q, 0, none⟩), .int .i64 32, .int .i64 200] w12 _ from read_ok hn 32 200 hacc)
          have hjI : (j : Int) < (np : Int) := by omega
          clear hn hacc
          go_wp2_with fail
          refine HRD.out.mono ?_
          rintro e w13 ⟨x, rfl, hO13, hu13, _⟩
          obtain ⟨A13, c13, rfl, -, hV13⟩ := hO13.shape
          have hl13 : (((wsT (40 + f) wd j).set 1 (1 + 1)).drop 32).length = 288 := by rw [List.length_drop, List.length_set, HOP.out.1]
          obtain ⟨gb, go, rfl, -, -, hgc⟩ := hV13.open (by intro e; have := congrArg List.length e; simp only [u64s, List.length_map, List.length_take, hl13, List.length_nil] at this; omega)
          have HGC : Hid (∀ i, i < 200 → w13.cell? ⟨gb, go + i, none⟩ = some (.int .u64 (if 40 + f ≤ 32 + i ∧ 32 + i < E then wd.getD (32 + i - (40 + f)) 0 else 0))) := Lib.hid fun i hi => by
            refine hgc i _ ?_
            have hx := HGOT.out (32 + i) (by omega) (by omega)
            unfold gotT at hx
            rw [HEP.out] at hx
            have hlt' : 32 + i < ((wsT (40 + f) wd j).set 1 2).length := by rw [List.length_set, HOP.out.1]; omega
            rw [u64s_get, List.getElem?_take, if_pos hi, List.getElem?_drop, ← hx, List.getD_eq_getElem?_getD]
            show Option.map (Value.int .u64) (((wsT (40 + f) wd j).set 1 2)[32 + i]?) = _
            rw [List.getElem?_eq_getElem hlt']; rfl
          have hw13 := hu13.rowN HW12.out
          have HWC : Hid (∀ i, i < m + 1 → w13.cell? ⟨wb, i, none⟩ = some (.int .u64 (wd.getD i 0))) := Lib.hid fun i hi => by
            refine hw13.cell i ?_
            rw [u64s_get, List.getD_eq_getElem?_getD, List.getElem?_eq_getElem (by rw [HWL.out]; exact hi)]; rfl
          have HU13 := Lib.hid (HK12.out.upd.tr hu13)
          have heb1 := HEB.out.1
          have heb2 : E ≤ 40 + f + (m + 1) := by have := HEB.out.2; rw [HWL.out] at this; exact this
          clear hO13 hV13 hu13 hgc hw13 hl13 x0 x1 x2 x3 HRD HK12 HX12 HW12 HGOT HEP HOP hpc0 hjI
          go_wp2_with fail
          go_loop [23] (fun i => ∃ k : Nat, k ≤ 200 ∧ i = .int .i64 k) (fun i => 200 - (intOf i).toNat)
          case atStart => exact ⟨0, Nat.zero_le _, rfl⟩
          case round =>
            obtain ⟨i, hi, rfl⟩ := hrel
            by_cases hlt : i < 200
            · have hgi := HGC.out i hlt
              by_cases g1 : 40 + f ≤ 32 + i
              · by_cases g2 : 32 + i < E
                · rw [if_pos ⟨g1, g2⟩] at hgi
                  obtain ⟨y, hy⟩ : ∃ y, 32 + i - (40 + f) = y := ⟨_, rfl⟩
                  have hyI : (32 + (i : Int)) - (40 + (f : Int)) = (y : Int) := by omega
                  have hym : y < m + 1 := by omega
                  have hym2 : (y : Int) < (m : Int) + 1 := by omega
                  have hwi := HWC.out y hym
                  rw [hy] at hgi
                  have g1I : (40 : Int) + (f : Int) ≤ 32 + (i : Int) := by omega
                  have g2I : (32 : Int) + (i : Int) < (E : Int) := by omega
                  clear hy
                  generalize wd.getD y 0 = v at *
                  go_wp2
                  go_round
                  case rel => exact ⟨i + 1, by omega, by go_num⟩
                  case measure => simp [intOf]; omega
                · rw [if_neg (fun h => g2 h.2)] at hgi
                  have g1I : (40 : Int) + (f : Int) ≤ 32 + (i : Int) := by omega
                  have g2I : ¬ (32 : Int) + (i : Int) < (E : Int) := by omega
                  go_wp2
                  go_round
                  case rel => exact ⟨i + 1, by omega, by go_num⟩
                  case measure => simp [intOf]; omega
              · rw [if_neg (fun h => g1 h.1)] at hgi
                have g1I : ¬ (40 : Int) + (f : Int) ≤ 32 + (i : Int) := by omega
                go_wp2
                go_round
                case rel => exact ⟨i + 1, by omega, by go_num⟩
                case measure => simp [intOf]; omega
            · go_wp2
              go_ret
              exact ⟨rfl, HU13.out⟩
theorem queuepairTorn_row (a : Int) (_wa : (Lit.int .i64 a).wf = true) (b : Int) (_wb : (Lit.int .i64 b).wf = true) (c : Int) (_wc : (Lit.int .i64 c).wf = true) (d : Int) (_wd : (Lit.int .u64 d).wf = true) (w : World) :
    Calls Try.prog 16 #[.int .i64 a, .int .i64 b, .int .i64 c, .int .u64 d] w fun e w' => e = .returned (.bool true) ∧ Upd Non w w' :=
  queuepairTorn_any w a b c d
end Go.Proofs.Ytlhbikiggmdolaa
