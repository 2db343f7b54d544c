/- The walk of MemnodeImages. -/
import Derived.Test.YtlhbikiggmdolaaRLoad
import Derived.Test.YtlhbikiggmdolaaCopy3
import Derived.Test.YtlhbikiggmdolaaArgs2
namespace Go.Proofs.Ytlhbikiggmdolaa
open Go.RowKit

def ImRel (w : World) (F G : Blk) (p g n L : Nat) (i : Value) (wr : World) : Prop :=
  ∃ (k : Nat) (ws : List Int) (up : Bool), k ≤ n ∧ i = .int .i64 k ∧ Duo F G p g L ws up wr ∧ Upd Non w wr
theorem upd_past' {w : World} {F G : Blk} {a b : World} (h : Upd Non w a) (hu : Upd (Or2 F G) a b) (hF : ∀ k, F k → w.heap.size ≤ k) (hG : ∀ k, G k → w.heap.size ≤ k) : Upd Non w b :=
  h.trans hu fun i hi hm => by rcases hm with hm | hm; { have := hF i hm; omega }; { have := hG i hm; omega }

/-- What a loaded image is, where one is loaded. -/
theorem load_yes {bs : List Nat} {w w' : World} {e : Ending} (h : LoadPost bs w e w') (hi : IsImg bs) : ∃ p ws up, e = .returned (.tuple #[.pointer (some ⟨p, 0, none⟩), .int .i64 0]) ∧ NodeR w' (New w w') p ws up ∧ W64 ws ∧ bs = imgB ws up ∧ Upd Non w w' := by
  obtain ⟨hu, ⟨p, L, ws, up, h1, h2, h3, h4, h5, h6, h7⟩ | ⟨hn, _⟩⟩ := h
  · exact ⟨p, ws, up, h6, h7, h4, h5, hu⟩
  · exact absurd hi hn
theorem load_not {bs : List Nat} {w w' : World} {e : Ending} (h : LoadPost bs w e w') (hi : ¬ IsImg bs) : e = .returned (.tuple #[.pointer none, .int .i64 14]) ∧ Upd Non w w' := by
  obtain ⟨hu, ⟨p, L, ws, up, h1, h2, h3, h4, h5, h6, h7⟩ | ⟨_, he⟩⟩ := h
  · exact absurd ⟨L, ws, up, h1, h2, h3, h4, h5⟩ hi
  · exact ⟨he, hu⟩
theorem rload_yes {bs : List Nat} {w w' : World} {e : Ending} (h : RLoadPost bs w e w') (hi : IsImg bs) : ∃ q n ws up, e = .returned (.tuple #[.agg #[.slice (some ⟨q, 0, none⟩) n n, .bool up], .bool true]) ∧ ws.length = n ∧ n ≤ 2048 ∧ Row w' q 36 (u64s ws) ∧ W64 ws ∧ bs = imgB ws up ∧ Upd Non w w' := by
  obtain ⟨hu, ⟨q, L, ws, up, h1, h2, h3, h4, h5, h6, h7, h8⟩ | ⟨hn, _⟩⟩ := h
  · exact ⟨q, L * 8, ws, up, h6, h3, by omega, h8, h4, h5, hu⟩
  · exact absurd hi hn
theorem rload_not {bs : List Nat} {w w' : World} {e : Ending} (h : RLoadPost bs w e w') (hi : ¬ IsImg bs) : ∃ A n c u, e = .returned (.tuple #[.agg #[.slice A n c, .bool u], .bool false]) ∧ Upd Non w w' := by
  obtain ⟨hu, ⟨q, L, ws, up, h1, h2, h3, h4, h5, h6, h7, h8⟩ | ⟨_, A, n, c, u, he⟩⟩ := h
  · exact absurd ⟨L, ws, up, h1, h2, h3, h4, h5⟩ hi
  · exact ⟨A, n, c, u, he, hu⟩
theorem u8s_set (bs : List Nat) (i y : Nat) : (u8s bs).set i (.int .u8 (y : Nat)) = u8s (bs.set i y) := by simp [u8s, List.map_set]
theorem Byt.set {bs : List Nat} (h : Byt bs) (i : Nat) {y : Nat} (hy : y < 256) : Byt (bs.set i y) := by
  intro x hx
  rcases List.mem_or_eq_of_mem_set hx with h1 | h1
  · exact h x h1
  · omega

theorem pick_nat (n k : Int) (w : World) (hk : 1 ≤ k) (hk2 : k ≤ 4611686018427387904) :
    Calls Try.prog 23 #[.int .i64 n, .int .i64 k] w fun e w' => ∃ i : Nat, (i : Int) < k ∧ e = .returned (.int .i64 i) ∧ w = w' :=
  (pick_calls n k w hk hk2).mono fun e w' ⟨he, hw⟩ => by
    have h0 := Int.emod_nonneg n (show k ≠ 0 by omega)
    have h1 := Int.emod_lt_of_pos n (show 0 < k by omega)
    generalize n % k = r at *
    obtain ⟨i, rfl⟩ := Int.eq_ofNat_of_zero_le h0
    exact ⟨i, h1, he, hw⟩

set_option maxRecDepth 100000 in
set_option maxHeartbeats 4000000 in
theorem memnodeImages_any (w : World) (t : Int) (_wf : (Lit.int .i64 t).wf = true) (A1 : Option Addr) (la ca : Nat) (z1 : List (List Int)) (hz1 : RowsR w opK A1 la z1 ∧ la ≤ ca ∧ ca ≤ maxLen ∧ (A1 = none → la = 0 ∧ ca = 0))
    (at_ : Int) (_wf2 : (Lit.int .i64 at_).wf = true) (by_ : Int) (hby : (Lit.int .u8 by_).wf = true) (A2 : Option Addr) (lr cr : Nat) (raw : List Nat) (hraw : U8sR w A2 lr cr raw) :
    Calls Try.prog 11 #[.int .i64 t, .slice A1 la ca, .int .i64 at_, .int .u8 by_, .slice A2 lr cr] w fun e w' => e = .returned (.bool true) ∧ Upd Non w w' := by
  have HO1 := Lib.hid hz1.1.ops
  obtain ⟨hrv, hrb, hlc, hrc, hrn⟩ := hraw
  have HRV := Lib.hid hrv
  have HRBy := Lib.hid hrb
  obtain ⟨y, hy⟩ : ∃ y : Nat, by_ = (y : Int) := ⟨by_.toNat, by simp [Lit.wf, IntKind.min, IntKind.signed] at hby; omega⟩
  subst hy
  have hy8 : y < 256 := by simp [Lit.wf, IntKind.min, IntKind.max, IntKind.signed, IntKind.bits] at hby; omega
  obtain ⟨m, hm⟩ : ∃ m : Nat, t % 3 = m := ⟨(t % 3).toNat, by omega⟩
  have hm2 : m < 3 := by omega
  have hp := fun w => pick_calls t 3 w (by decide) (by decide)
  rw [hm] at hp
  have HP := Lib.hid hp
  clear hz1 hrv hrb hrn hby hm hp hrc
  by_cases ha : 30 < la
  · go_enter Try.func11, Try.ntmps11
    go_wp2_with fail
    refine (HP.out _).mono ?_
    rintro e w' ⟨rfl, rfl⟩
    go_wp2_with fail
    go_ret
    exact ⟨rfl, Upd.refl _ _⟩
  by_cases hb : 400 < lr
  · go_enter Try.func11, Try.ntmps11
    go_wp2_with fail
    refine (HP.out _).mono ?_
    rintro e w' ⟨rfl, rfl⟩
    go_wp2_with fail
    go_ret
    exact ⟨rfl, Upd.refl _ _⟩
  have ha' : la ≤ 30 := by omega
  have hb' : lr ≤ 400 := by omega
  clear ha hb
  go_enter Try.func11, Try.ntmps11
  go_wp2_with fail
  refine (HP.out _).mono ?_
  rintro e w' ⟨rfl, rfl⟩
  go_wp2_with fail
  refine (new_okI ((m : Int) + 1) (by omega) (by omega)).mono ?_
  rintro e w1 ⟨p, rfl, hN1, hu1⟩
  rw [show ((m : Int) + 1).toNat = m + 1 by omega] at hN1
  have HN := Lib.hid hN1
  have HU1 := Lib.hid hu1
  clear hN1 hu1
  go_wp2_with fail
  refine (awake3_calls _).mono ?_
  rintro e w2 ⟨rfl, hu2⟩
  have HU2 := Lib.hid hu2
  clear hu2
  go_wp2_with fail
  refine (newnode_calls (m + 1) (by omega) (by omega)).mono ?_
  rintro e w3 ⟨q, rfl, hq, hr, hu3⟩
  have hS := duo_start (L := m + 1) HN.out HU2.out hq hr hu3 (by omega)
  have HS := Lib.hid hS
  have hU4 : Upd Non w (w3.alloc (.cells #[.slice (some ⟨q, 0, none⟩) ((m + 1) * 8) ((m + 1) * 8), .bool true] 46)) := ((HU1.out.tr HU2.out).tr hu3).alloc _
  have HU4 := Lib.hid hU4
  have hs1 : w.heap.size ≤ w1.heap.size := HU1.out.size
  have HS1 := Lib.hid hs1
  clear hq hr hu3 hS hU4 hs1
  go_wp2_with fail
  obtain ⟨W4, hW4⟩ : ∃ W4, W4 = w3.alloc (.cells #[.slice (some ⟨q, 0, none⟩) ((m + 1) * 8) ((m + 1) * 8), .bool true] 46) := ⟨_, rfl⟩
  rw [← hW4] at HS HU4 ⊢
  clear hW4
  generalize w3.heap.size = g at *
  obtain ⟨L, hL⟩ : ∃ L, L = (m + 1) * 8 := ⟨_, rfl⟩
  have HL := Lib.hid hL
  rw [← hL] at HS
  clear hL
  go_loopw [14] (fun i wr => ImRel w (New w w1) (New w1 W4) p g la L i wr) (fun i _ => 31 - (intOf i).toNat)
  case atStart => exact ⟨0, _, _, Nat.zero_le _, rfl, HS.out, HU4.out⟩
  case round =>
    obtain ⟨k, ws, up, hk, rfl, hpl, hur⟩ := hrel
    have HB := Lib.hid hpl
    have HUR := Lib.hid hur
    clear hpl HS HN hur HU4
    by_cases hlt : k < la
    · obtain ⟨kd, at2, cn, a, v, hA0, b, off, rfl, hbl, h0, h1, h2, h3, h4⟩ := (HO1.out.keep HUR.out) k hlt
      have HA := Lib.hid hA0
      clear hA0 hbl
      go_wp2_with fail
      refine (HB.out.do (new_disj (Nat.le_refl _)) (by have := HL.out; omega) kd at2 cn a v HA.out).mono ?_
      rintro e w' ⟨rfl, ws', up', hpl, hup⟩
      have HC := Lib.hid hpl
      have HV := Lib.hid (upd_past' HUR.out hup (fun k h => h.1) (fun k h => Nat.le_trans HS1.out h.1))
      clear hpl hup
      go_wp2_with fail
      go_round
      case rel => exact ⟨k + 1, ws', up', by omega, by go_num, HC.out, HV.out⟩
      case measure => simp [intOf]; omega
    · have hk' : k = la := by omega
      subst hk'
      go_wp2_with fail
      refine (image_calls HB.out.node HB.out.wf).mono ?_
      rintro e w5 ⟨v, rfl, hO5, hU5⟩
      have hlw := HB.out.len
      have hlb : 7 + 8 * ws.length + 8 = 15 + 64 * (m + 1) := by have := HL.out; omega
      have HLI : Hid ((imgB ws up).length = 15 + 64 * (m + 1)) := by rw [imgB_length]; exact hlb
      rw [hlb] at hO5
      have HLW := Lib.hid hlw
      have hOs : Own w5 (fun b => w.heap.size ≤ b) 5 1 v (15 + 64 * (m + 1)) (u8s (imgB ws up)) := hO5.mono fun b hb _ => Nat.le_trans HUR.out.size hb
      obtain ⟨hln, ⟨_, h0⟩ | ⟨g5, c5, sp5, rfl, hg5, hr5, hl5, hn5, hc5⟩⟩ := hOs
      · omega
      have hV5 : View w5 (One g5) 1 (some ⟨g5, 0, none⟩) (15 + 64 * (m + 1)) (u8s (imgB ws up)) := View.ofRow hr5 (One g5) rfl 1 _ 0 _ hln (by simp)
      have HV5 := Lib.hid hV5
      have HR5 := Lib.hid hr5
      have HU5 := Lib.hid (HUR.out.tr hU5)
      have HB5 := Lib.hid (HB.out.keepN hU5)
      have HIMG := Lib.hid (isImg_of (up := up) HB.out.wf (show ws.length = (m + 1) * 8 by have := HL.out; omega) (by omega) (by omega))
      have HG5 := Lib.hid hg5
      clear hU5 hO5 hlw hlb hln hg5 hr5 hl5 hn5 hc5 hV5
      go_wp2_with fail
      refine (load_calls (cap := c5) HV5.out (imgB_byt ws up) (by omega)).mono ?_
      intro e w6 hLP
      obtain ⟨p6, ws6, up6, rfl, hN6, hw6, hi6, hU6⟩ := load_yes hLP HIMG.out
      have HN6 := Lib.hid hN6
      have HW6 := Lib.hid hw6
      have HI6 := Lib.hid hi6
      have HU6 := Lib.hid (HU5.out.tr hU6)
      have HB6 := Lib.hid (HB5.out.keepN hU6)
      have HR6 := Lib.hid (hU6.rowN HR5.out)
      clear hLP hN6 hw6 hi6 hU6
      go_wp2_with fail
      refine (image_calls HN6.out HW6.out.wf).mono ?_
      rintro e w7 ⟨v, rfl, hO7, hU7⟩
      obtain ⟨A7, cp7, rfl, _, hV7⟩ := hO7.shape
      rw [← HI6.out] at hV7
      have HV7 := Lib.hid hV7
      obtain ⟨c7, hr7⟩ := (HB6.out.keepN hU7).ref
      have HRF := Lib.hid hr7
      have HU7 := Lib.hid (HU6.out.tr hU7)
      have HR7 := Lib.hid (hU7.rowN HR6.out)
      clear hO7 hV7 hU7 hr7
      go_wp2_with fail
      refine (sameImage_calls (cap := cp7) HRF.out HB.out.wf HV7.out).mono ?_
      rintro e w8 ⟨rfl, hU8⟩
      have HU8 := Lib.hid (HU7.out.tr hU8)
      have HR8 := Lib.hid (hU8.rowN HR7.out)
      clear hU8
      have hle1 : (((15 + 64 * (m + 1) : Nat) : Int) == 15 + 64 * ((m : Int) + 1)) = true := by rw [beq_iff_eq]; omega
      have hle2 : (((15 + 64 * (m + 1) : Nat) : Int) != 15 + 64 * ((m : Int) + 1)) = false := by rw [bne_eq_false_iff_eq]; omega
      go_wp2_with fail
      refine (pick_nat at_ _ _ (by omega) (by omega)).mono ?_
      rintro e w' ⟨i, hi, rfl, rfl⟩
      have hi2 : i < 15 + 64 * (m + 1) := by omega
      have hi3 : (i : Int) < ((15 + 64 * (m + 1) : Nat) : Int) := by omega
      have hi0 : (0 : Int) ≤ (i : Int) := by omega
      have hil : i < (imgB ws up).length := by rw [HLI.out]; exact hi2
      have hx0 : (imgB ws up)[i]? = some ((imgB ws up)[i]) := List.getElem?_eq_getElem hil
      have hx8 := (imgB_byt ws up).get hil
      have hc8 : w8.cell? ⟨g5, i, none⟩ = some (.int .u8 ((imgB ws up)[i] : Nat)) := HR8.out.cell i (by
        rw [List.getElem?_append_left (by simpa [u8s] using hil), u8s_get, hx0]; rfl)
      have hz8 := HR8.out.frozen i
      have HX0 := Lib.hid hx0
      have hxr : bits .xor .u8 (((imgB ws up)[i] : Nat) : Int) (y : Int) = (((imgB ws up)[i] ^^^ y : Nat) : Int) := u8_xor_nat _ _ hx8 hy8
      have hxy : (imgB ws up)[i] ^^^ y < 256 := Nat.xor_lt_two_pow (n := 8) hx8 hy8
      have HXZ : Hid (y = 0 → (imgB ws up)[i] ^^^ y = (imgB ws up)[i]) := fun h => by rw [h]; simp
      have HXN : Hid (y ≠ 0 → (imgB ws up)[i] ^^^ y ≠ (imgB ws up)[i]) := fun h e => h (xor_cancel (a := (imgB ws up)[i]) (by rw [e]; simp))
      clear hx0
      generalize (imgB ws up)[i] ^^^ y = xy at *
      generalize (imgB ws up)[i] = x0 at *
      clear hle1 hle2
      go_wp2_with fail
      have hr9 : Row (w8.setCell ⟨g5, i, none⟩ (.int .u8 xy)) g5 5 (u8s ((imgB ws up).set i xy) ++ sp5) := by
        rw [← u8s_set, ← List.set_append_left _ _ (by simpa [u8s] using hil)]; exact HR8.out.set i _
      have hV9 : View (w8.setCell ⟨g5, i, none⟩ (.int .u8 xy)) (One g5) 1 (some ⟨g5, 0, none⟩) (15 + 64 * (m + 1)) (u8s ((imgB ws up).set i xy)) := View.ofRow hr9 (One g5) rfl 1 _ 0 _ (by simp [u8s, HLI.out]) (by simp)
      have HV9 := Lib.hid hV9
      have HU9 := Lib.hid (HU8.out.setCell (p := ⟨g5, i, none⟩) (.inr HG5.out) (.int .u8 (xy : Nat)))
      have HB9 := Lib.hid ((imgB_byt ws up).set i hxy)
      have HCASE : Hid ((y = 0 ∧ IsImg ((imgB ws up).set i xy)) ∨ (y ≠ 0 ∧ ¬ IsImg ((imgB ws up).set i xy))) := by
        by_cases h : y = 0
        · left
          refine ⟨h, ?_⟩
          have e : (imgB ws up).set i xy = imgB ws up := by
            rw [HXZ.out h]
            refine List.ext_getElem? fun j => ?_
            rw [List.getElem?_set]
            split
            · rename_i e; subst e; exact HX0.out.symm
            · rfl
          rw [e]; exact HIMG.out
        · right
          exact ⟨h, img_changed ws up i xy hil hxy (by rw [HX0.out]; intro e; exact HXN.out h (Option.some.inj e).symm)⟩
      clear hr9 hV9 hc8 hz8 hxr
      generalize w8.setCell ⟨g5, i, none⟩ (.int .u8 (xy : Nat)) = w9 at *
      refine (load_calls (cap := c5) HV9.out HB9.out (by omega)).mono ?_
      intro e w10 hLP
      have hcase : (y = 0 ∧ ∃ x : Option Addr, e = .returned (.tuple #[.pointer x, .int .i64 0]) ∧ (∃ a, x = some a) ∧ Hid (Upd Non w9 w10)) ∨ (y ≠ 0 ∧ e = .returned (.tuple #[.pointer none, .int .i64 14]) ∧ Hid (Upd Non w9 w10)) := by
        rcases HCASE.out with ⟨h1, h2⟩ | ⟨h1, h2⟩
        · obtain ⟨p6, ws6, up6, he, _, _, _, hu⟩ := load_yes hLP h2
          exact .inl ⟨h1, _, he, ⟨_, rfl⟩, Lib.hid hu⟩
        · obtain ⟨he, hu⟩ := load_not hLP h2
          exact .inr ⟨h1, he, Lib.hid hu⟩
      clear hLP HCASE HXZ HXN HX0 hil
      rcases hcase with ⟨rfl, x, rfl, ⟨a, rfl⟩, HU10⟩ | ⟨hy0, rfl, HU10⟩
      · clear hxy hx8
        go_wp2_with fail
        refine (load_calls (cap := cr) (HRV.out.keep (HU9.out.tr HU10.out) (fun _ _ h => h)) HRBy.out (by omega)).mono ?_
        intro e w11 hL2
        by_cases hi : IsImg raw
        · obtain ⟨py, wsy, upy, rfl, hNy, hWy, hIy, hUy⟩ := load_yes hL2 hi
          have HNy := Lib.hid hNy
          have HWy := Lib.hid hWy
          have HIy := Lib.hid hIy
          have HUy := Lib.hid ((HU9.out.tr HU10.out).tr hUy)
          have HI := Lib.hid hi
          clear hL2 hNy hWy hIy hUy hi
          go_wp2_with fail
          refine (refload_calls (cap := cr) (HRV.out.keep HUy.out (fun _ _ h => h)) HRBy.out (by omega) hlc).mono ?_
          intro e w12 hR2
          obtain ⟨q2, n2, wz, uz, rfl, hl2, hn2, hr2, hw2, hi2', hu2'⟩ := rload_yes hR2 HI.out
          have hq2 := hr2.lt
          have hrz : RefN (w12.alloc (.cells #[.slice (some ⟨q2, 0, none⟩) n2 n2, .bool uz] 46)) (fun _ => True) w12.heap.size 0 46 [.slice (some ⟨q2, 0, none⟩) n2 n2, .bool uz] wz uz :=
            ⟨Row.new w12 _ _, q2, 0, by simp [hl2], rfl, ⟨[], rfl, by rw [List.append_nil]; exact hr2.alloc _⟩, trivial, trivial, by omega, by omega⟩
          have HRZ := Lib.hid hrz
          have HN12 := Lib.hid ((HNy.out.keep hu2' (fun _ _ h => h)).keep (M := Non) ((Upd.refl Non w12).alloc (.cells #[.slice (some ⟨q2, 0, none⟩) n2 n2, .bool uz] 46)) (fun _ _ h => h))
          have HU12 := Lib.hid ((HUy.out.tr hu2').alloc (.cells #[.slice (some ⟨q2, 0, none⟩) n2 n2, .bool uz] 46))
          have HW2 := Lib.hid hw2
          have HI2 := Lib.hid hi2'
          clear hR2 hl2 hn2 hr2 hw2 hi2' hu2' hq2 hrz
          go_wp2_with fail
          refine (image_calls HN12.out HWy.out.wf).mono ?_
          rintro e w13 ⟨v, rfl, hO, hU⟩
          obtain ⟨A13, cp13, rfl, _, hV13⟩ := hO.shape
          rw [← HIy.out, HI2.out] at hV13
          have HV13 := Lib.hid hV13
          have HRZ2 := Lib.hid (HRZ.out.keep hU (fun _ _ h => h))
          have HU13 := Lib.hid (HU12.out.tr hU)
          clear hO hV13 hU
          go_wp2_with fail
          refine (sameImage_calls (cap := cp13) HRZ2.out HW2.out.wf HV13.out).mono ?_
          rintro e w14 ⟨rfl, hU⟩
          have HU14 := Lib.hid (HU13.out.tr hU)
          clear hU
          go_wp2_with fail
          go_ret
          exact ⟨rfl, HU14.out⟩
        · obtain ⟨rfl, hUy⟩ := load_not hL2 hi
          have HUy := Lib.hid ((HU9.out.tr HU10.out).tr hUy)
          have HI := Lib.hid hi
          clear hL2 hUy hi
          go_wp2_with fail
          refine (refload_calls (cap := cr) (HRV.out.keep HUy.out (fun _ _ h => h)) HRBy.out (by omega) hlc).mono ?_
          intro e w12 hR2
          obtain ⟨Az, nz, cz, uz, rfl, hu2'⟩ := rload_not hR2 HI.out
          have HU12 := Lib.hid ((HUy.out.tr hu2').alloc (.cells #[.slice Az nz cz, .bool uz] 46))
          clear hR2 hu2'
          go_wp2_with fail
          go_ret
          exact ⟨rfl, HU12.out⟩
      · have hyb : ((y : Int) == 0) = false := by rw [beq_eq_false_iff_ne]; omega
        have hyb2 : ((y : Int) != 0) = true := by rw [bne_iff_ne]; omega
        clear hy0 hxy hx8
        go_wp2_with fail
        refine (load_calls (cap := cr) (HRV.out.keep (HU9.out.tr HU10.out) (fun _ _ h => h)) HRBy.out (by omega)).mono ?_
        intro e w11 hL2
        by_cases hi : IsImg raw
        · obtain ⟨py, wsy, upy, rfl, hNy, hWy, hIy, hUy⟩ := load_yes hL2 hi
          have HNy := Lib.hid hNy
          have HWy := Lib.hid hWy
          have HIy := Lib.hid hIy
          have HUy := Lib.hid ((HU9.out.tr HU10.out).tr hUy)
          have HI := Lib.hid hi
          clear hL2 hNy hWy hIy hUy hi
          go_wp2_with fail
          refine (refload_calls (cap := cr) (HRV.out.keep HUy.out (fun _ _ h => h)) HRBy.out (by omega) hlc).mono ?_
          intro e w12 hR2
          obtain ⟨q2, n2, wz, uz, rfl, hl2, hn2, hr2, hw2, hi2', hu2'⟩ := rload_yes hR2 HI.out
          have hq2 := hr2.lt
          have hrz : RefN (w12.alloc (.cells #[.slice (some ⟨q2, 0, none⟩) n2 n2, .bool uz] 46)) (fun _ => True) w12.heap.size 0 46 [.slice (some ⟨q2, 0, none⟩) n2 n2, .bool uz] wz uz :=
            ⟨Row.new w12 _ _, q2, 0, by simp [hl2], rfl, ⟨[], rfl, by rw [List.append_nil]; exact hr2.alloc _⟩, trivial, trivial, by omega, by omega⟩
          have HRZ := Lib.hid hrz
          have HN12 := Lib.hid ((HNy.out.keep hu2' (fun _ _ h => h)).keep (M := Non) ((Upd.refl Non w12).alloc (.cells #[.slice (some ⟨q2, 0, none⟩) n2 n2, .bool uz] 46)) (fun _ _ h => h))
          have HU12 := Lib.hid ((HUy.out.tr hu2').alloc (.cells #[.slice (some ⟨q2, 0, none⟩) n2 n2, .bool uz] 46))
          have HW2 := Lib.hid hw2
          have HI2 := Lib.hid hi2'
          clear hR2 hl2 hn2 hr2 hw2 hi2' hu2' hq2 hrz
          go_wp2_with fail
          refine (image_calls HN12.out HWy.out.wf).mono ?_
          rintro e w13 ⟨v, rfl, hO, hU⟩
          obtain ⟨A13, cp13, rfl, _, hV13⟩ := hO.shape
          rw [← HIy.out, HI2.out] at hV13
          have HV13 := Lib.hid hV13
          have HRZ2 := Lib.hid (HRZ.out.keep hU (fun _ _ h => h))
          have HU13 := Lib.hid (HU12.out.tr hU)
          clear hO hV13 hU
          go_wp2_with fail
          refine (sameImage_calls (cap := cp13) HRZ2.out HW2.out.wf HV13.out).mono ?_
          rintro e w14 ⟨rfl, hU⟩
          have HU14 := Lib.hid (HU13.out.tr hU)
          clear hU
          go_wp2_with fail
          go_ret
          exact ⟨rfl, HU14.out⟩
        · obtain ⟨rfl, hUy⟩ := load_not hL2 hi
          have HUy := Lib.hid ((HU9.out.tr HU10.out).tr hUy)
          have HI := Lib.hid hi
          clear hL2 hUy hi
          go_wp2_with fail
          refine (refload_calls (cap := cr) (HRV.out.keep HUy.out (fun _ _ h => h)) HRBy.out (by omega) hlc).mono ?_
          intro e w12 hR2
          obtain ⟨Az, nz, cz, uz, rfl, hu2'⟩ := rload_not hR2 HI.out
          have HU12 := Lib.hid ((HUy.out.tr hu2').alloc (.cells #[.slice Az nz cz, .bool uz] 46))
          clear hR2 hu2'
          go_wp2_with fail
          go_ret
          exact ⟨rfl, HU12.out⟩
end Go.Proofs.Ytlhbikiggmdolaa
