/- The walk of QueuepairOrder. -/
import Derived.Test.YtlhbikiggmdolaaOrderLaw
import Derived.Test.YtlhbikiggmdolaaArgs2
import Derived.Deep.QuietTactic
import Derived.BigQuiet
namespace Go.Proofs.Ytlhbikiggmdolaa
open Go.RowKit

theorem pick_q (n k : Int) (w : World) (hk : 1 ≤ k) (hk2 : k ≤ 4611686018427387904) : Calls Try.prog 23 #[.int .i64 n, .int .i64 k] w fun e w' => e = .returned (.int .i64 (n % k)) ∧ w' = w := (pick_calls n k w hk hk2).mono fun _ _ ⟨h1, h2⟩ => ⟨h1, h2.symm⟩
def OoRel (w : World) (bx p q b r wt len : Nat) (i : Value) (wr : World) : Prop :=
  ∃ L : List Wr, L.length ≤ len ∧ i = .int .i64 L.length ∧ K5 w (fun k => k = bx ∨ k = wt) wr p q (PrL L 0) ws5 true ∧ XRow wr bx p q b r ∧ Row wr wt 36 (u64s (runL L (List.replicate 320 0))) ∧ (∀ x ∈ L, GoodW x)

/-- Inside: the words of one write, and the words that are wanted. -/
def OiRel (w : World) (bx p q b r wt wb : Nat) (L : List Wr) (a n : Nat) (sd : Int) (i : Value) (wr : World) : Prop :=
  ∃ k : Nat, k ≤ n ∧ i = .int .i64 k ∧ K5 w (fun k => k = bx ∨ k = wt ∨ k = wb) wr p q (PrL L 0) ws5 true ∧ XRow wr bx p q b r ∧
    Row wr wb 36 (u64s ((fillW sd n).take k ++ List.replicate (n - k) 0)) ∧ Row wr wt 36 (u64s (putW (runL L (List.replicate 320 0)) a ((fillW sd n).take k)))
theorem fill_get (sd : Int) (n k : Nat) (h : k < n) : (fillW sd n)[k]? = some ((sd + (k : Int)) % 18446744073709551616) := by simp [fillW, h]
theorem put_fill {ws : List Int} {sd : Int} {a n k : Nat} (h : k < n) (hl : a + n ≤ ws.length) : (u64s (putW ws a ((fillW sd n).take k))).set (a + k) (.int .u64 ((sd + (k : Int)) % 18446744073709551616)) = u64s (putW ws a ((fillW sd n).take (k + 1))) := by
  rw [putW_snoc _ _ _ _ (by rw [fillW_length]; exact h) (by rw [fillW_length]; exact hl)]
  have e : (fillW sd n).getD k 0 = (sd + (k : Int)) % 18446744073709551616 := by rw [List.getD_eq_getElem?_getD, fill_get sd n k h]; rfl
  rw [e]
  simp [u64s]
theorem k5step_of {w0 w : World} {A : Blk} {p q : Nat} {P P' : Pr} {ws ws' done : List Int} {up is : Bool} {code : Int} (h : stepV P ws up = ⟨P', ws', code, done, is⟩) :
    K5Step w0 w A p q P ws up = fun e w' => ∃ (X : Option Addr) (cap : Nat) (R : Blk), e = .returned (.tuple #[.agg #[.int .i64 code, .slice X done.length cap], .bool is]) ∧ K5 w0 (fun k => A k ∧ k < w.heap.size) w' p q P' ws' up ∧ Own w' R 36 1 (.slice X done.length cap) done.length (u64s done) ∧ Keep5 A w w' := by
  unfold K5Step
  rw [h]
def OsRel (w : World) (bx p q b r wt : Nat) (fin zfin : List Int) (i : Value) (wr : World) : Prop :=
  ∃ (n : Nat) (l : List Wr) (j : Nat) (base : List Int), i = .int .i64 n ∧ K5 w (fun k => k = bx ∨ k = wt) wr p q (PrL l j) (curL base l j) true ∧ XRow wr bx p q b r ∧ Row wr wt 36 (u64s zfin) ∧ RunAt fin n l j base
set_option maxRecDepth 100000 in
set_option maxHeartbeats 8000000 in
theorem queuepairOrder_any (w : World) (A : Option Addr) (len cap : Nat) (z : List Int) (hz : I64sR w A len cap z) (seed : Int) (_ws : (Lit.int .u64 seed).wf = true) :
    Calls Try.prog 14 #[.slice A len cap, .int .u64 seed] w fun e w' => e = .returned (.bool true) ∧ Upd Non w w' := by
  obtain ⟨hv, hlc, hcm, _⟩ := hz
  by_cases hl : 30 < len
  · clear hv hlc hcm
    go_enter Try.func14, Try.ntmps14
    go_wp2_with fail
    go_ret
    exact ⟨rfl, Upd.refl _ _⟩
  have hl30 : len ≤ 30 := by omega
  have HVI : Hid (∀ W, Upd Non w W → ∀ k, k < len → ∃ b off x, A = some ⟨b, off, none⟩ ∧ W.cell? ⟨b, off + k, none⟩ = some (.int .i64 x)) := Lib.hid fun W hu k hk => by
    have hlz : z.length = len := by have := hv.1; simpa [i64s] using this
    obtain ⟨b, off, e, _, _, hc⟩ := (hv.keep hu (fun _ _ h => h)).cell (i := k) (v := .int .i64 z[k]) (by simp [i64s])
    exact ⟨b, off, _, e, hc⟩
  have hmk := run_make_row' (P := Try.prog) 33 36 (.int .u64 0) 8 Try.underlying33 info_u64 rfl .i64 .i64 320 (by decide) (by decide)
  have hmk : ∀ w, (Instr.makeSlice 33 (.int .i64 320) (.int .i64 320)).run Try.prog w = .ok (.slice (some ⟨w.heap.size, 0, none⟩) 320 320) (w.alloc (.cells (madeCells #[.int .u64 0] 320) 36)) := hmk
  clear hv hcm hl hlc
  go_enter Try.func14, Try.ntmps14
  go_wp2_with fail
  refine (fresh01 _).mono ?_
  rintro e w1 ⟨p, q, b, r, rfl, hK⟩
  have HK1 := Lib.hid (hK.keepN ((Upd.refl Non w1).alloc (.cells #[.pointer (some ⟨p, 0, none⟩), .pointer (some ⟨q, 0, none⟩), .pointer (some ⟨b, 0, none⟩), .pointer (some ⟨r, 0, none⟩)] 109)))
  have HB : Hid (XRow (w1.alloc (.cells #[.pointer (some ⟨p, 0, none⟩), .pointer (some ⟨q, 0, none⟩), .pointer (some ⟨b, 0, none⟩), .pointer (some ⟨r, 0, none⟩)] 109)) w1.heap.size p q b r) := Row.new w1 _ _
  clear hK
  go_wp2_with fail
  generalize w1.alloc (.cells #[.pointer (some ⟨p, 0, none⟩), .pointer (some ⟨q, 0, none⟩), .pointer (some ⟨b, 0, none⟩), .pointer (some ⟨r, 0, none⟩)] 109) = W1 at *
  have HK1 := Lib.hid (HK1.out.mono (B := fun k => k = w1.heap.size) fun k hk => .inl (.inr (by omega)))
  generalize w1.heap.size = bx at *
  refine (awake5_calls _).mono ?_
  rintro e w2 ⟨rfl, hu2⟩
  have HK2 := Lib.hid (HK1.out.keepN hu2)
  have HB2 : Hid (XRow w2 bx p q b r) := Lib.hid (hu2.rowN HB.out)
  clear hu2 HK1 HB
  go_wp2_with fail
  have hu3 : Upd Non w2 (w2.alloc (.cells (madeCells #[.int .u64 0] 320) 36)) := (Upd.refl _ _).alloc _
  have hrow3 : Row (w2.alloc (.cells (madeCells #[.int .u64 0] 320) 36)) w2.heap.size 36 (u64s (runL [] (List.replicate 320 0))) := by
    have := Row.new w2 (madeCells #[.int .u64 0] 320) 36
    rw [toList_made] at this
    exact this
  have HS3 : Hid (OoRel w bx p q b r w2.heap.size len (.int .i64 0) (w2.alloc (.cells (madeCells #[.int .u64 0] 320) 36))) := Lib.hid ⟨[], Nat.zero_le _, rfl, (HK2.out.keepN hu3).mono fun k hk => by
    rcases hk with hk | hk
    · exact .inl (.inl (.inl hk))
    · exact .inl (.inr (by omega)), hu3.rowN HB2.out, hrow3, fun x hx => by simp at hx⟩
  clear hu3 hrow3 HB2 HK2 hmk
  generalize w2.alloc (.cells (madeCells #[.int .u64 0] 320) 36) = W3 at *
  generalize w2.heap.size = wt at *
  go_loopw [8] (fun i wr => OoRel w bx p q b r wt len i wr) (fun i _ => 31 - (intOf i).toNat)
  case atStart => exact HS3.out
  case round =>
    obtain ⟨L, hk, rfl, hK, hx, hrow, hgood⟩ := hrel
    have HROW := Lib.hid hrow
    have HX := Lib.hid hx
    have HK := Lib.hid hK
    have HGOOD := Lib.hid hgood
    clear hrow hx hK HS3 hgood
    generalize hkl : L.length = k at *
    have HKL := Lib.hid hkl
    clear hkl
    by_cases hlt : k < len
    · obtain ⟨ab, ao, x, rfl, hc⟩ := HVI.out wr HK.out.upd k hlt
      have hkI0 : (0 : Int) ≤ (k : Int) := by omega
      have hkI1 : (k : Int) < (len : Int) := by omega
      go_wp2_with fail
      go_quiet ((go_at_call 23; exact Calls.quiet_of_same (pick_q _ _ _ (by decide) (by decide))))
      obtain ⟨f, hf⟩ : ∃ f : Nat, x % 200 = f := ⟨(x % 200).toNat, by omega⟩
      obtain ⟨m, hm⟩ : ∃ m : Nat, wrap64 (x.tdiv 200) % 30 = m := ⟨(wrap64 (x.tdiv 200) % 30).toNat, by omega⟩
      have hf200 : f < 200 := by omega
      have hm30 : m < 30 := by omega
      rw [hf, hm]
      have hmk := run_make_row' (P := Try.prog) 33 36 (.int .u64 0) 8 Try.underlying33 info_u64 rfl .i64 .i64 (m + 1) (by omega) (by omega)
      have hmk : ∀ w, (Instr.makeSlice 33 (.int .i64 ((m : Int) + 1)) (.int .i64 ((m : Int) + 1))).run Try.prog w = .ok (.slice (some ⟨w.heap.size, 0, none⟩) (m + 1) (m + 1)) (w.alloc (.cells (madeCells #[.int .u64 0] (m + 1)) 36)) := hmk
      have huq : Upd Non wr (wr.drewN nq) := (Upd.refl _ _).drewN _
      have HKq := Lib.hid ((HK.out.keepN huq).mono (B := fun k => k = bx ∨ k = wt) fun k hk => .inl (.inl hk))
      have HXq : Hid (XRow (wr.drewN nq) bx p q b r) := Lib.hid (huq.rowN HX.out)
      have HROWq := Lib.hid (huq.rowN HROW.out)
      have HLT := Lib.hid hlt
      clear hf hm hc huq HK HX HROW hlt hkI0 hkI1
      generalize wr.drewN nq = Wq at *
      go_wp2_with fail
      have hu4 : Upd Non Wq (Wq.alloc (.cells (madeCells #[.int .u64 0] (m + 1)) 36)) := (Upd.refl _ _).alloc _
      have hrow4 : Row (Wq.alloc (.cells (madeCells #[.int .u64 0] (m + 1)) 36)) Wq.heap.size 36 (u64s ((fillW (seed + 100 * (k : Int)) (m + 1)).take 0 ++ List.replicate (m + 1 - 0) 0)) := by
        have := Row.new Wq (madeCells #[.int .u64 0] (m + 1)) 36
        rw [toList_made] at this
        simpa using this
      have HS4 : Hid (OiRel w bx p q b r wt Wq.heap.size L (40 + f) (m + 1) (seed + 100 * (k : Int)) (.int .i64 0) (Wq.alloc (.cells (madeCells #[.int .u64 0] (m + 1)) 36))) := Lib.hid ⟨0, Nat.zero_le _, rfl, (HKq.out.keepN hu4).mono fun k hk => by
        rcases hk with hk | hk | hk
        · exact .inl (.inl (.inl hk))
        · exact .inl (.inl (.inr hk))
        · exact .inl (.inr (by omega)), hu4.rowN HXq.out, hrow4, by rw [List.take_zero, putW_nil]; exact hu4.rowN HROWq.out⟩
      have HNE : Hid (wt ≠ Wq.heap.size) := Lib.hid (by have := HROWq.out.lt; omega)
      clear hu4 hrow4 hmk HKq HXq HROWq
      generalize Wq.alloc (.cells (madeCells #[.int .u64 0] (m + 1)) 36) = W4 at *
      generalize Wq.heap.size = wb at *
      go_loopw [12] (fun i wl => OiRel w bx p q b r wt wb L (40 + f) (m + 1) (seed + 100 * (k : Int)) i wl) (fun i _ => m + 1 - (intOf i).toNat)
      case atStart => exact HS4.out
      case round =>
        obtain ⟨y, hy, rfl, hK, hx, hrb, hrt⟩ := hrel
        have HKy := Lib.hid hK
        have HXy := Lib.hid hx
        have HRB := Lib.hid hrb
        have HRT := Lib.hid hrt
        have hL := runL_length (l := L) HGOOD.out (List.replicate 320 0) List.length_replicate
        have HL := Lib.hid hL
        clear hK hx hrb hrt HS4 hL
        by_cases hlt : y < m + 1
        · have cw : wr.cell? ⟨wb, y, none⟩ = some (.int .u64 0) := HRB.out.cell y (fill_zero _ (m + 1) y hlt)
          have zw := HRB.out.frozen y
          have hpl : (putW (runL L (List.replicate 320 0)) (40 + f) ((fillW (seed + 100 * (k : Int)) (m + 1)).take y)).length = 320 := by
            rw [putW_length _ _ _ (by rw [HL.out, List.length_take, fillW_length]; omega)]; exact HL.out
          have ct : wr.cell? ⟨wt, 40 + f + y, none⟩ = some (.int .u64 ((putW (runL L (List.replicate 320 0)) (40 + f) ((fillW (seed + 100 * (k : Int)) (m + 1)).take y)).getD (40 + f + y) 0)) := by
            exact HRT.out.cell (40 + f + y) (by have := u64s_at (spare := []) (ws := putW (runL L (List.replicate 320 0)) (40 + f) ((fillW (seed + 100 * (k : Int)) (m + 1)).take y)) (i := 40 + f + y) (by rw [hpl]; omega); rw [List.append_nil] at this; exact this)
          have zt := HRT.out.frozen (40 + f + y)
          have i1 : (40 : Int) + f + y < 320 := by omega
          have i2 : ((40 : Int) + f + y).toNat = 40 + f + y := by omega
          have i3 : (0 : Int) ≤ 40 + f + y := by omega
          have hne : wb ≠ wt := fun e => HNE.out e.symm
          have hne2 : wt ≠ wb := HNE.out
          have hk30 : k ≤ 30 := by omega
          clear hpl
          generalize (putW (runL L (List.replicate 320 0)) (40 + f) ((fillW (seed + 100 * (k : Int)) (m + 1)).take y)).getD (40 + f + y) 0 = old at *
          go_wp2
          go_roundw
          case rel =>
            have hv : IntKind.u64.wrap (seed + (100 * (k : Int) + (y : Int))) = (seed + 100 * (k : Int) + (y : Int)) % 18446744073709551616 := by rw [wrapU]; congr 1; omega
            rw [hv]
            have hu1 : Upd (One wb) wr (wr.setCell ⟨wb, y, none⟩ (.int .u64 ((seed + 100 * (k : Int) + (y : Int)) % 18446744073709551616))) := (Upd.refl (One wb) wr).setCell (p := ⟨wb, y, none⟩) (.inl rfl) _
            have hr1 := HRB.out.set y (.int .u64 ((seed + 100 * (k : Int) + (y : Int)) % 18446744073709551616))
            rw [fill_set _ (m + 1) y hlt] at hr1
            have ht1 := (hu1.row HRT.out hne2).set (40 + f + y) (.int .u64 ((seed + 100 * (k : Int) + (y : Int)) % 18446744073709551616))
            rw [put_fill hlt (by rw [HL.out]; omega)] at ht1
            have hxb : ∀ c, XRow wr c p q b r → c ≠ wb ∧ c ≠ wt := fun c h => ⟨fun e => absurd (Row.uniq h (e ▸ HRB.out)).1 (by decide), fun e => absurd (Row.uniq h (e ▸ HRT.out)).1 (by decide)⟩
            obtain ⟨n1, n2⟩ := hxb bx HXy.out
            generalize (seed + 100 * (k : Int) + (y : Int)) % 18446744073709551616 = val at *
            have hu2 : Upd (One wt) (wr.setCell ⟨wb, y, none⟩ (.int .u64 val)) ((wr.setCell ⟨wb, y, none⟩ (.int .u64 val)).setCell ⟨wt, 40 + f + y, none⟩ (.int .u64 val)) := (Upd.refl (One wt) _).setCell (p := ⟨wt, 40 + f + y, none⟩) (.inl rfl) _
            exact ⟨y + 1, by omega, by go_num, (HKy.out.keepA hu1 fun k hk => .inr (.inr hk)).keepA hu2 fun k hk => .inr (.inl hk), hu2.row (hu1.row HXy.out n1) n2, hu2.row hr1 hne, ht1⟩
          case measure => simp [intOf]; omega
        · have hym : y = m + 1 := by omega
          have hrb : Row wr wb 36 (u64s (fillW (seed + 100 * (k : Int)) (m + 1))) := by
            rw [← fill_done _ (m + 1) y hym]; exact HRB.out
          have hrt : Row wr wt 36 (u64s (putW (runL L (List.replicate 320 0)) (40 + f) (fillW (seed + 100 * (k : Int)) (m + 1)))) := by
            have := HRT.out
            rw [List.take_of_length_le (by rw [fillW_length]; omega)] at this
            exact this
          have HWB := Lib.hid hrb
          have HWT := Lib.hid hrt
          clear hym hrb hrt HRB HRT
          generalize hwd : fillW (seed + 100 * (k : Int)) (m + 1) = wd at *
          have HWL : Hid (wd.length = m + 1) := Lib.hid (by rw [← hwd, fillW_length])
          have HWF : Hid (Wf wd) := Lib.hid (by rw [← hwd]; exact fillW_wf _ _)
          have HGW : Hid (GoodW (40 + f, wd)) := Lib.hid ⟨by show 40 ≤ 40 + f; omega, by show 40 + f + wd.length ≤ 300; rw [HWL.out]; omega, by show 1 ≤ wd.length; rw [HWL.out]; omega, by show wd.length ≤ 30; rw [HWL.out]; omega, HWF.out⟩
          clear hwd
          have eF : ((40 + f : Nat) : Int) = 40 + (f : Int) := by omega
          have hvw : VWords wr (fun k => k = wb) (wrV (40 + f) wd) (.slice (some ⟨wb, 0, none⟩) (m + 1) (m + 1)) :=
            ⟨some ⟨wb, 0, none⟩, m + 1, by show _ = Value.slice _ wd.length _; rw [HWL.out], by show wd.length ≤ _; rw [HWL.out]; omega, fun e => by simp at e, by
              show View wr _ 1 _ wd.length (u64s wd)
              exact View.ofRow HWB.out (fun k => k = wb) rfl 1 wd.length 0 (u64s wd) (by simp [u64s]) (by rw [List.drop_zero]; exact List.take_length)⟩
          have HPOST : Hid (Calls Try.prog 89 #[.pointer (some ⟨p, 0, none⟩), .agg #[.int .i64 2, .int .i64 0, .int .i64 (40 + (f : Int)), .int .i64 0, .int .u64 0, .int .u64 0, .slice (some ⟨wb, 0, none⟩) (m + 1) (m + 1), .int .u64 1, .int .i64 1], .int .i64 40] wr (K5Post w wr (fun k => k = bx ∨ k = wt ∨ k = wb) p q (PrL L 0) ws5 true (wrV (40 + f) wd))) := Lib.hid (by
            have hl : (PrL L 0).verbs.length = k := by show (L.map _).length = k; rw [List.length_map, HKL.out]
            have h1 : validE (wrV (40 + f) wd) 5 40 = 0 := validE_wrV (by rw [HWL.out]; omega) (by omega) (by rw [HWL.out]; omega)
            rw [← eF]
            exact HKy.out.post hvw (goodV_wrV (by rw [HWL.out]; omega) (by omega) (by rw [HWL.out]; omega) HWF.out) (by unfold postE; rw [h1, hl, if_neg (by decide), if_neg (show ¬ (wrV (40 + f) wd).node ≠ (PrL L 0).node from fun h => h rfl), if_neg (by omega)]) (by rw [hl]; omega))
          clear hvw
          obtain ⟨x0, x1, x2, x3⟩ := HXy.out.cells
          go_wp2_with fail
          refine HPOST.out.mono ?_
          rintro e w5 ⟨rfl, hK, hkeep⟩
          have hxl := Row.lt HXy.out
          have htl := HWT.out.lt
          have HR : Hid (OoRel w bx p q b r wt len (.int .i64 ((k : Int) + 1)) w5) := Lib.hid ⟨L ++ [(40 + f, wd)], by rw [List.length_append, HKL.out]; have := HLT.out; simp only [List.length_cons, List.length_nil]; omega, by rw [List.length_append, HKL.out]; simp, by
            have e : (PrL L 0).push (wrV (40 + f) wd) = PrL (L ++ [(40 + f, wd)]) 0 := by simp [PrL, Pr.push, vbL]
            rw [← e]
            exact hK.mono fun k hk => by
              rcases hk with hk | hk
              · exact .inl ⟨.inl hk, by omega⟩
              · exact .inl ⟨.inr (.inl hk), by omega⟩, hkeep.row HXy.out (.inl rfl), by rw [runL_append]; exact hkeep.row HWT.out (.inr (.inl rfl)), fun x hx => by
              rcases List.mem_append.1 hx with hx | hx
              · exact HGOOD.out x hx
              · rw [List.mem_singleton] at hx; subst hx; exact HGW.out⟩
          clear hK hkeep hxl htl HKy HXy HWB HWT HPOST x0 x1 x2 x3
          go_wp2_with fail
          go_roundw
          case rel => exact HR.out
          case measure => simp [intOf]; omega
    · have HLE : Hid (L.length ≤ 30) := Lib.hid (by rw [HKL.out]; omega)
      have HZL := Lib.hid (runL_length (l := L) HGOOD.out (List.replicate 320 0) List.length_replicate)
      have HFL := Lib.hid (runL_length (l := L) HGOOD.out ws5 ws5_len)
      have HSM := Lib.hid (runL_same (l := L) HGOOD.out)
      have HS : Hid (OsRel w bx p q b r wt (runL L ws5) (runL L (List.replicate 320 0)) (.int .i64 0) wr) := Lib.hid ⟨0, L, 0, ws5, rfl, by rw [curL_zero HGOOD.out]; exact HK.out, HX.out, HROW.out, RunAt.start HGOOD.out HLE.out⟩
      clear HROW HX HK HGOOD HLE
      generalize runL L ws5 = fin at *
      generalize runL L (List.replicate 320 0) = zfin at *
      go_wp2_with fail
      go_loopw [13] (fun i wr => OsRel w bx p q b r wt fin zfin i wr) (fun i _ => 151 - (intOf i).toNat)
      case atStart => exact HS.out
      case round =>
        obtain ⟨n, l, j, base, rfl, hK, hx, hrow, hrun⟩ := hrel
        have HKn := Lib.hid hK
        have HXn := Lib.hid hx
        have HRn := Lib.hid hrow
        have HRUN := Lib.hid hrun
        obtain ⟨x0, x1, x2, x3⟩ := hx.cells
        obtain ⟨M, I, hp⟩ := hK.pair
        have hq := pending_calls hp
        rw [show (PrL l j).verbs.length = l.length by simp [PrL, vbL]] at hq
        have HQ := Lib.hid hq
        clear hK hx hrow hrun HS hp hq
        cases l with
        | nil =>
          have HFIN : Hid (base = fin) := Lib.hid HRUN.out.fin_
          have hK := HKn.out
          rw [show curL base [] j = base from rfl, HFIN.out] at hK
          obtain ⟨F2, hn, -⟩ := hK.node
          have hacc : accE fin.length true ((40 : Nat) : Int) ((230 : Nat) : Int) = 0 := by rw [HFL.out]; decide
          have HRD := Lib.hid (show Calls Try.prog 26 #[.pointer (some ⟨q, 0, none⟩), .int .i64 40, .int .i64 230] wr _ from read_ok hn 40 230 hacc)
          have HU := Lib.hid hK.upd
          clear hK hn hacc HFIN HKn HRUN
          rw [List.length_nil] at HQ
          go_wp2_with fail
          refine HQ.out.mono ?_
          rintro e w' ⟨rfl, rfl⟩
          go_wp2_with fail
          refine HRD.out.mono ?_
          rintro e w6 ⟨x, rfl, hO6, hu6, _⟩
          obtain ⟨A6, c6, rfl, -, hV6⟩ := hO6.shape
          have hVt : View w6 (fun _ => True) 1 (some ⟨wt, 40, none⟩) 230 (u64s ((zfin.drop 40).take 230)) :=
            View.ofRow (hu6.rowN HRn.out) _ trivial 1 230 40 _ (by simp [u64s, HZL.out]) (by simp [u64s, HZL.out])
          have hsm := fun c1 c2 => same_calls (ca := c1) (cb := c2) hV6 hVt (by decide) (by decide)
          rw [decide_eq_true HSM.out] at hsm
          have HSW := Lib.hid hsm
          have HU6 := Lib.hid (HU.out.tr hu6)
          clear hO6 hu6 hV6 hVt hsm
          go_wp2_with fail
          refine (HSW.out _ _).mono ?_
          rintro e w7 ⟨rfl, hu7⟩
          have HU7 := Lib.hid (HU6.out.tr hu7)
          clear hu7
          go_wp2_with fail
          go_ret
          exact ⟨rfl, HU7.out⟩
        | cons x l =>
          obtain ⟨is, l', j', base', hs, hrun'⟩ := HRUN.out.step
          have hn150 := HRUN.out.few
          have hst := HKn.out.step
          rw [k5step_of hs] at hst
          have HST := Lib.hid hst
          have HRUN' := Lib.hid hrun'
          have hlx : ∀ k, (k = bx ∨ k = wt) → k < wr.heap.size := by
            have h1 := Row.lt HXn.out
            have h2 := HRn.out.lt
            intro k hk; omega
          have HLX := Lib.hid hlx
          have hpos : (0 : Int) < ((x :: l).length : Int) := by simp
          clear hst hrun' hs HRUN hlx
          generalize (x :: l).length = nl at *
          cases is
          all_goals
            go_wp2_with fail
            refine HQ.out.mono ?_
            rintro e w' ⟨rfl, rfl⟩
            go_wp2_with fail
            refine HST.out.mono ?_
            rintro e w8 ⟨X, cx, R, rfl, hK8, _, hkeep⟩
            have hu9 : Upd Non w8 (w8.alloc (.cells #[.int .i64 0, .slice X 0 cx] 69)) := (Upd.refl _ _).alloc _
            have hz9 : Row (w8.alloc (.cells #[.int .i64 0, .slice X 0 cx] 69)) w8.heap.size 69 [.int .i64 0, .slice X 0 cx] := Row.new _ _ _
            obtain ⟨z0, z1, _, _⟩ := done_cells hz9
            have HR : Hid (OsRel w bx p q b r wt fin zfin (.int .i64 ((n : Int) + 1)) (w8.alloc (.cells #[.int .i64 0, .slice X 0 cx] 69))) := Lib.hid ⟨n + 1, l', j', base', by congr 1, (hK8.keepN hu9).mono fun k hk => .inl (.inl ⟨hk, HLX.out k hk⟩), hu9.rowN (hkeep.row HXn.out (.inl rfl)), hu9.rowN (hkeep.row HRn.out (.inr rfl)), HRUN'.out⟩
            clear hK8 hkeep hu9 hz9
            go_wp2_with fail
            go_roundw
            case rel => exact HR.out
            case measure => simp [intOf]; omega
end Go.Proofs.Ytlhbikiggmdolaa
