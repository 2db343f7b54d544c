/- Queue pairs of the reference: at, execute. -/
import Derived.Test.YtlhbikiggmdolaaRPair
import Derived.Test.YtlhbikiggmdolaaSwap3
namespace Go.Proofs.Ytlhbikiggmdolaa
open Go.RowKit

theorem rat_calls {w : World} {G : Blk} {b off : Nat} {T : TypeId} {c : List Value} {ws : List Int} {up : Bool} (h : RefN w G b off T c ws up) (i : Nat) :
    Calls Try.prog 176 #[.pointer (some ⟨b, off, none⟩), .int .i64 i] w fun e w' => e = .returned (.int .u64 (ws.getD i 0)) ∧ w = w' := by
  obtain ⟨hb, q, sp, h1, h2, ⟨spare, hs, hq⟩, gb, gq, hne, hl⟩ := h
  have c0 := hb.cell off h1
  by_cases hlt : i < ws.length
  · have cx := hq.cell i (u64s_at (spare := spare) hlt)
    have hlI : (i : Int) < (ws.length : Int) := by omega
    generalize ws.getD i 0 = x at *
    generalize ws.length = L at *
    clear hb hq h1 h2
    go_enter Try.func176, Try.ntmps176
    go_wp2_with fail
    go_ret
    exact ⟨rfl, rfl⟩
  · have HX := Lib.hid (show ws.getD i 0 = 0 by rw [List.getD_eq_getElem?_getD, List.getElem?_eq_none (by omega)]; rfl)
    have hlI : (ws.length : Int) ≤ (i : Int) := by omega
    generalize ws.getD i 0 = x at *
    generalize ws.length = L at *
    clear hb hq h1 h2 hlt
    go_enter Try.func176, Try.ntmps176
    go_wp2_with fail
    go_ret
    exact ⟨ret_int HX.out.symm, rfl⟩

theorem putW_step (ws l : List Int) (a k : Nat) (x : Int) (hx : l[k]? = some x) (hl : a + l.length ≤ ws.length) : (putW ws a (l.take k)).set (a + k) x = putW ws a (l.take (k + 1)) := by
  have hk := (List.getElem?_eq_some_iff.1 hx).1
  have h1 : (l.take k).length = k := by rw [List.length_take]; omega
  have h2 : (l.take (k + 1)).length = k + 1 := by rw [List.length_take]; omega
  have h3 : l.take (k + 1) = l.take k ++ [x] := by
    rw [List.take_add_one, hx]; rfl
  unfold putW
  rw [h1, h2, h3]
  have h4 : (ws.take a).length = a := by rw [List.length_take]; omega
  have h5 : ws.drop (a + k) = ws.getD (a + k) 0 :: ws.drop (a + (k + 1)) := by
    rw [List.drop_eq_getElem_cons (by omega), List.getD_eq_getElem?_getD, List.getElem?_eq_getElem (by omega)]; rfl
  rw [h5, List.set_append_right _ _ (by omega), h4, List.set_append_right _ _ (by omega), h1, show a + k - a - k = 0 by omega]
  simp
def RwRel (w : World) (G : Blk) (b off : Nat) (T : TypeId) (c : List Value) (ws src : List Int) (v : Vb) (A : Option Addr) (cap a n : Nat) (i : Value) (W : World) : Prop :=
  ∃ k : Nat, k ≤ n ∧ i = .int .i64 k ∧ RefN W G b off T c (putW ws a (src.take k)) true ∧ Upd G w W ∧ Row W w.heap.size 62 [.int .i64 v.kind, .int .i64 v.node, .int .i64 v.at_, .int .i64 v.n, .int .u64 v.old, .int .u64 v.new_, .slice A v.words.length cap, .int .u64 v.key, .int .i64 v.boot] ∧ Row W (w.heap.size + 1) 122 [.int .i64 a, .int .i64 n]
def RExPost (w : World) (G : Blk) (b off : Nat) (T : TypeId) (c : List Value) (ws : List Int) (v : Vb) (a n : Nat) (e : Ending) (w' : World) : Prop :=
  ∃ A cap, e = .returned (.slice A (exW v a n ws).length cap) ∧ Own w' (New w w') 36 1 (.slice A (exW v a n ws).length cap) (exW v a n ws).length (u64s (exW v a n ws)) ∧ RefN w' G b off T c (exM v a n ws) true ∧ Upd G w w'
/-- Behind the first line: a copy of the piece's words. -/
def RWas (w : World) (v : Vb) (A : Option Addr) (cap a n : Nat) (ws : List Int) (s : Value) (W : World) : Prop :=
  Upd Non w W ∧ Row W w.heap.size 62 [.int .i64 v.kind, .int .i64 v.node, .int .i64 v.at_, .int .i64 v.n, .int .u64 v.old, .int .u64 v.new_, .slice A v.words.length cap, .int .u64 v.key, .int .i64 v.boot] ∧ Row W (w.heap.size + 1) 122 [.int .i64 a, .int .i64 n] ∧ ∃ A1 c1, s = .slice A1 n c1 ∧ Own W (fun k => w.heap.size + 2 ≤ k) 36 1 (.slice A1 n c1) n (u64s ((ws.drop a).take n))

theorem rex_fin {w wc W : World} {G : Blk} {b off q c1 n cap a : Nat} {T : TypeId} {c : List Value} {ws : List Int} {A : Option Addr} {x y : Int} (hU : Upd Non w wc) (hW : Upd Non wc W) (hO : Own wc (fun k => w.heap.size + 2 ≤ k) 36 1 (.slice A 1 c1) 1 (u64s [x])) (hN : RefN wc G b off T c ws true) (hq : c[off]? = some (.slice (some ⟨q, 0, none⟩) n cap)) (hG : G q) (hB : ∀ k, G k → k < w.heap.size) (ha : a < ws.length) :
    ∃ A' cap', Ending.returned (.slice A 1 c1) = .returned (.slice A' [x].length cap') ∧ Own (W.setCell ⟨q, a, none⟩ (.int .u64 y)) (New w (W.setCell ⟨q, a, none⟩ (.int .u64 y))) 36 1 (.slice A' [x].length cap') [x].length (u64s [x]) ∧ RefN (W.setCell ⟨q, a, none⟩ (.int .u64 y)) G b off T c (ws.set a y) true ∧ Upd G w (W.setCell ⟨q, a, none⟩ (.int .u64 y)) := by
  have hs : Upd (One q) W (W.setCell ⟨q, a, none⟩ (.int .u64 y)) := (Upd.refl (One q) W).setCell (p := ⟨q, a, none⟩) (.inl rfl) _
  refine ⟨A, c1, rfl, ?_, (hN.keep hW (fun _ _ h => h)).put hq a ha y, ((hU.tr hW).of_non).trans hs fun k _ e => by cases e; exact hG⟩
  exact ((hO.keep hW (fun _ _ h => h)).keep hs fun k hk e => by cases e; have := hB _ hG; omega).mono fun k hk hl => ⟨by omega, hl⟩

set_option maxRecDepth 100000 in
set_option maxHeartbeats 4000000 in
theorem rexecute_calls {w : World} {J G : Blk} {b off : Nat} {T : TypeId} {c : List Value} {v : Vb} {s : Value} {ws : List Int} (hv : VWords w J v s) (hn : RefN w G b off T c ws true) (hGb : ∀ k, G k → k < w.heap.size) (hJG : ∀ k, J k → ¬ G k) (a n : Nat) (hp : PieceOk v a n ws.length) (hwl : v.words.length ≤ 1024) :
    Calls Try.prog 177 #[.pointer (some ⟨b, off, none⟩), .agg (vbC v s), encP (a, n)] w (RExPost w G b off T c ws v a n) := by
  obtain ⟨A, cap, rfl, hc1, hA, hV⟩ := hv
  have HN := Lib.hid hn
  have HP := Lib.hid hp
  have HVV := Lib.hid hV
  obtain ⟨hat, hle, hpos, hend, hlen, hk⟩ := hp
  obtain ⟨hb, q, sp, h1, h2, ⟨spare, hs, hq⟩, gb, gq, hne, hl⟩ := hn
  have HU1 : Hid (Upd Non w ((w.alloc (.cells #[.int .i64 v.kind, .int .i64 v.node, .int .i64 v.at_, .int .i64 v.n, .int .u64 v.old, .int .u64 v.new_, .slice A v.words.length cap, .int .u64 v.key, .int .i64 v.boot] 62)).alloc (.cells #[.int .i64 a, .int .i64 n] 122))) := ((Upd.refl _ _).alloc _).alloc _
  have HV1 : Hid (Row ((w.alloc (.cells #[.int .i64 v.kind, .int .i64 v.node, .int .i64 v.at_, .int .i64 v.n, .int .u64 v.old, .int .u64 v.new_, .slice A v.words.length cap, .int .u64 v.key, .int .i64 v.boot] 62)).alloc (.cells #[.int .i64 a, .int .i64 n] 122)) w.heap.size 62 [.int .i64 v.kind, .int .i64 v.node, .int .i64 v.at_, .int .i64 v.n, .int .u64 v.old, .int .u64 v.new_, .slice A v.words.length cap, .int .u64 v.key, .int .i64 v.boot]) := Lib.hid ((Row.new _ _ _).alloc _)
  have HP1 : Hid (Row ((w.alloc (.cells #[.int .i64 v.kind, .int .i64 v.node, .int .i64 v.at_, .int .i64 v.n, .int .u64 v.old, .int .u64 v.new_, .slice A v.words.length cap, .int .u64 v.key, .int .i64 v.boot] 62)).alloc (.cells #[.int .i64 a, .int .i64 n] 122)) (w.heap.size + 1) 122 [.int .i64 a, .int .i64 n]) := Lib.hid (by
    have := Row.new (w.alloc (.cells #[.int .i64 v.kind, .int .i64 v.node, .int .i64 v.at_, .int .i64 v.n, .int .u64 v.old, .int .u64 v.new_, .slice A v.words.length cap, .int .u64 v.key, .int .i64 v.boot] 62)) #[.int .i64 a, .int .i64 n] 122
    rw [World.size_alloc] at this; exact this)
  have HC0 : Hid (∀ W, Upd Non w W → W.cell? ⟨b, off, none⟩ = some (.slice (some ⟨q, 0, none⟩) ws.length (ws.length + sp))) := Lib.hid fun W hu => (hu.rowN hb).cell off h1
  have HQV : Hid (∀ W, Upd Non w W → View W (fun _ => True) 1 (some ⟨q, a, none⟩) n (u64s ((ws.drop a).take n))) := Lib.hid fun W hu =>
    View.ofRow (hu.rowN hq) _ trivial 1 n a _ (by simp [u64s]; omega) (by
      have : ((u64s ws ++ spare).drop a) = u64s (ws.drop a) ++ spare := by rw [List.drop_append_of_le_length (by simp [u64s]; omega)]; simp [u64s]
      rw [this, List.take_append_of_le_length (by simp [u64s]; omega)]; simp [u64s])
  have g1 : IntKind.i64.wrap ((a : Int) + n) = (a : Int) + n := wrapI _ (by omega) (by omega)
  have g2 : (a : Int) + n ≤ ((ws.length + sp : Nat) : Int) := by omega
  have g4 : ((a : Int) + n).toNat = a + n := by omega
  have g6 : a + n - a = n := by omega
  have g7 : (a : Int) ≤ (a : Int) + n := by omega
  have g8 : ¬ ws.length + sp = a := by omega
  have hn8 : n * 8 ≤ 140737488355328 := by omega
  have HW : Hid (RExPost w G b off T c ws v a n = RExPost w G b off T c ws v a n) := Lib.hid rfl
  clear HW
  unfold vbC encP
  clear hat hle hend hk hb hq h1 h2 hs gb gq hne hA hV hc1
  generalize ws.length + sp = cq at *
  go_enter Try.func177, Try.ntmps177
  go_upto_region 1 with fail
  go_cut [7] (fun s7 W => RWas w v A cap a n ws s7 W)
  case first =>
    have c0 := HC0.out _ HU1.out
    obtain ⟨d0, d1, d2, d3, d4, d5, d6, d7, d8⟩ := vb_cells HV1.out
    have e0 := HP1.out.cell 0 rfl
    have e1 := HP1.out.cell 1 rfl
    go_region_law (refine step_app (F := Non) (fun _ => True) rfl (.const (.slice none 0 0)) (.tmp 20) 33 36 rfl (.int .u64 0) 1 8 Try.underlying33 info_u64 rfl (by decide) (.slice none 0 0) 0 [] rfl (Own.nil _ _ _ _) (some ⟨q, a, none⟩) n (cq - a) (u64s ((ws.drop a).take n)) rfl (by simp) (HQV.out _ HU1.out.drew) (wf_u64s _) (by omega) (by decide) ?_; intro v1 wa hown hupd hnil hblk; simp only [Nat.zero_add, List.nil_append] at hown; obtain ⟨A1, c1, rfl, _, _⟩ := hown.shape; have hu := hupd.mono (N := Non) (fun k _ e => by simp [Value.ownBlock] at e); have HWA : Hid (RWas w v A cap a n ws (.slice A1 n c1) wa) := Lib.hid ⟨HU1.out.drew.tr hu, hu.rowN HV1.out, hu.rowN HP1.out, A1, c1, rfl, hown.mono fun k hk _ => hk.elim (fun h => h.elim) (fun h => by have := h.1; simp at this; omega)⟩; clear hown hupd hnil hblk hu)
    all_goals (go_wp2_with fail; go_meet; exact HWA.out)
  case rest =>
    obtain ⟨hu, hrv, hrp, A1, c1, rfl, hO⟩ := hcut
    have HU := Lib.hid hu
    have HRV := Lib.hid hrv
    have HRP := Lib.hid hrp
    have HO := Lib.hid hO
    have HB := Lib.hid hGb
    have HJ := Lib.hid hJG
    obtain ⟨d0, d1, d2, d3, d4, d5, d6, d7, d8⟩ := vb_cells hrv
    have e0 := hrp.cell 0 rfl
    have e1 := hrp.cell 1 rfl
    have hk := HP.out.kind
    have hul := hu.size
    have hvl := hrp.lt
    clear hu hrv hrp hO HC0 HQV HU1 HV1 HP1 g1 g2 g4 g6 g7 g8 hGb hJG
    rcases hk with hk | hk | ⟨hk, hae, rfl⟩
    · have HX1 := Lib.hid (show exW v a n ws = (ws.drop a).take n by unfold exW; rw [if_pos hk])
      have HX2 := Lib.hid (show exM v a n ws = ws by unfold exM; rw [if_pos hk])
      rw [hk] at d0
      clear hk
      go_wp2_with fail
      go_ret
      unfold RExPost
      rw [HX1.out, HX2.out]
      have hl : ((ws.drop a).take n).length = n := by rw [List.length_take, List.length_drop]; omega
      rw [hl]
      exact ⟨A1, c1, rfl, HO.out.mono fun k hk hl => ⟨by omega, hl⟩, HN.out.keep HU.out (fun _ _ h => h), HU.out.of_non⟩
    · have HX1 := Lib.hid (show exW v a n ws = [] by unfold exW; rw [if_neg (by omega), if_pos hk])
      have HX2 := Lib.hid (show exM v a n ws = putW ws a ((v.words.drop (a - v.at_.toNat)).take n) by unfold exM; rw [if_neg (by omega), if_pos hk])
      have hend := HP.out.end_
      have hle := HP.out.le
      have hat := HP.out.at0
      have hcnt : cntV v = v.words.length := by unfold cntV; rw [if_neg (by omega), if_pos hk]
      rw [hcnt] at hend
      rw [hk] at d0
      clear hk hcnt
      obtain ⟨k0, hk0⟩ : ∃ k0, a - v.at_.toNat = k0 := ⟨_, rfl⟩
      rw [hk0] at HX2
      have hk0I : (a : Int) - v.at_ = (k0 : Int) := by omega
      have hkw : k0 + n ≤ v.words.length := by omega
      have hsrc : ((v.words.drop k0).take n).length = n := by rw [List.length_take, List.length_drop]; omega
      have HSRC := Lib.hid hsrc
      have HS0 : Hid (∀ k, k < n → ∃ x, ((v.words.drop k0).take n)[k]? = some x ∧ (u64s v.words)[k0 + k]? = some (.int .u64 x)) := Lib.hid fun k hk => by
        have h1 : k < ((v.words.drop k0).take n).length := by omega
        refine ⟨((v.words.drop k0).take n)[k], List.getElem?_eq_getElem h1, ?_⟩
        rw [u64s_get, List.getElem_take, List.getElem_drop, List.getElem?_eq_getElem (by omega)]; rfl
      generalize (v.words.drop k0).take n = src at *
      clear hend hle hat hk0 hsrc
      go_wp2_with fail
      go_loopw [8] (fun i wr => RwRel w G b off T c ws src v A cap a n i wr) (fun i _ => n - (intOf i).toNat)
      case atStart => exact ⟨0, Nat.zero_le _, rfl, by simpa [putW] using HN.out.keep HU.out (fun _ _ h => h), HU.out.of_non, HRV.out, HRP.out⟩
      case round =>
        obtain ⟨k, hk, rfl, hR, hu, hrv, hrp⟩ := hrel
        have HR := Lib.hid hR
        have HUr := Lib.hid hu
        have HRVr := Lib.hid hrv
        have HRPr := Lib.hid hrp
        clear d0 d1 d2 d3 d4 d5 d6 d7 d8 e0 e1
        obtain ⟨d0, d1, d2, d3, d4, d5, d6, d7, d8⟩ := vb_cells hrv
        have e0 := hrp.cell 0 rfl
        have e1 := hrp.cell 1 rfl
        by_cases hlt : k < n
        · obtain ⟨x, hx1, hx2⟩ := HS0.out k hlt
          have hlenp : (putW ws a (src.take k)).length = ws.length := putW_length _ _ _ (by rw [List.length_take, HSRC.out]; omega)
          obtain ⟨hb', q', sp', h1', h2', ⟨spare', hs', hq'⟩, gb', gq', hne', hl'⟩ := hR
          rw [hlenp] at h1'
          have c0 := hb'.cell off h1'
          have hVr := HVV.out.keep HUr.out HJ.out
          have HLP := Lib.hid hlenp
          obtain ⟨bw, ow, rfl, hJb, _, cw⟩ := hVr.cell hx2
          have hqb := HB.out _ gq'
          have HGQ := Lib.hid gq'
          have n1 : q' ≠ w.heap.size := by omega
          have n2 : q' ≠ w.heap.size + 1 := by omega
          have n3 : q' ≠ bw := fun e => HJ.out _ hJb (e ▸ gq')
          have n4 : q' ≠ b := hne'
          have m1 : w.heap.size ≠ q' := by omega
          have m2 : w.heap.size + 1 ≠ q' := by omega
          have m3 : bw ≠ q' := fun e => n3 e.symm
          have m4 : b ≠ q' := fun e => n4 e.symm
          have i5 : (0 : Int) ≤ (a : Int) + k := by omega
          have i6 : (0 : Int) ≤ (k0 : Int) + k := by omega
          have cq := hq'.cell (a + k) (u64s_at (spare := spare') (by omega))
          have zq := hq'.frozen (a + k)
          have HQ := Lib.hid h1'
          have HX := Lib.hid hx1
          have w1 : IntKind.i64.wrap ((a : Int) + k) = (a : Int) + k := wrapI _ (by omega) (by omega)
          have w2 : IntKind.i64.wrap ((a : Int) - v.at_) = (k0 : Int) := by rw [hk0I]; exact wrapI _ (by omega) (by omega)
          have w3 : IntKind.i64.wrap ((k0 : Int) + k) = (k0 : Int) + k := wrapI _ (by omega) (by omega)
          have i1 : (a : Int) + k < ((ws.length : Nat) : Int) := by omega
          have i2 : (k0 : Int) + k < ((v.words.length : Nat) : Int) := by omega
          have i3 : ((a : Int) + k).toNat = a + k := by omega
          have i4 : ((k0 : Int) + k).toNat = k0 + k := by omega
          clear hb' hq' h1' h2' hrv hrp hu hVr hx1 hx2 hlenp gb' gq' hne' hl' hs' hk0I
          generalize (putW ws a (src.take k)).getD (a + k) 0 = old at *
          go_wp2_with fail
          go_region_held3 (fun w' => w'.cell? ⟨w.heap.size, 2, none⟩ = some (.int .i64 v.at_) ∧ w'.cell? ⟨w.heap.size, 6, none⟩ = some (.slice (some ⟨bw, ow, none⟩) v.words.length cap) ∧ w'.cell? ⟨w.heap.size + 1, 0, none⟩ = some (.int .i64 a) ∧ w'.cell? ⟨b, off, none⟩ = some (.slice (some ⟨q', 0, none⟩) ws.length (ws.length + sp')) ∧ w'.cell? ⟨bw, ow + (k0 + k), none⟩ = some (.int .u64 x)) (go_keep) (fail)
          go_wp2_with fail
          go_roundw
          case rel =>
            have h1 := (HR.out.put HQ.out (a + k) (by rw [HLP.out]; omega) x).keep (M := Non) ((Upd.refl _ _).drew) (fun _ _ h => h)
            rw [putW_step ws src a k x HX.out (by rw [HSRC.out]; omega)] at h1
            have hset : Upd G wr (wr.setCell ⟨q', a + k, none⟩ (.int .u64 x)).drew := ((Upd.refl G wr).setCell (p := ⟨q', a + k, none⟩) (.inl HGQ.out) _).drew
            exact ⟨k + 1, by omega, by congr 1, h1, HUr.out.tr hset, hset.row HRVr.out (fun e => Nat.lt_irrefl _ (HB.out _ e)), hset.row HRPr.out (fun e => by have := HB.out _ e; omega)⟩
          case measure => simp [intOf]; omega
        · have hkn : k = n := by omega
          subst hkn
          go_wp2_with fail
          go_ret
          have hfin : RefN wr G b off T c (putW ws a src) true := by
            have := HR.out
            rw [List.take_of_length_le (by rw [HSRC.out]; omega)] at this
            exact this
          unfold RExPost
          rw [HX1.out, HX2.out]
          exact ⟨none, 0, rfl, Own.nil _ _ _ _, hfin, HUr.out⟩
    · have hat := HP.out.at0
      have hxw : (ws.drop a).take 1 = [ws.getD a 0] := by
        rw [List.drop_eq_getElem_cons (by omega), List.take_succ_cons, List.take_zero, List.getD_eq_getElem?_getD, List.getElem?_eq_getElem (by omega)]; rfl
      have HX1 := Lib.hid (show exW v a 1 ws = [ws.getD a 0] by unfold exW; rw [if_neg (by omega), if_neg (by omega)])
      rw [hxw] at HO
      obtain ⟨A1', c1', e', _, hVw⟩ := HO.out.shape
      cases e'
      obtain ⟨b1, o1, rfl, hb1, _, cx⟩ := hVw.cell (i := 0) rfl
      rw [Nat.add_zero] at cx
      have hN := HN.out.keep HU.out (fun _ _ h => h)
      have HN2 := Lib.hid hN
      obtain ⟨hb', q', sp', h1', h2', ⟨spare', hs', hq'⟩, gb', gq', hne', hl'⟩ := hN
      have c0 := hb'.cell off h1'
      have cq := hq'.cell a (u64s_at (spare := spare') (by omega))
      have zq := hq'.frozen a
      have HQ := Lib.hid h1'
      have HGQ := Lib.hid gq'
      have hqb := HB.out _ gq'
      have n1 : q' ≠ w.heap.size := by omega
      have n2 : q' ≠ w.heap.size + 1 := by omega
      have n3 : q' ≠ b1 := by omega
      have n4 : q' ≠ b := hne'
      have m1 : w.heap.size ≠ q' := by omega
      have m2 : w.heap.size + 1 ≠ q' := by omega
      have m3 : b1 ≠ q' := by omega
      have m4 : b ≠ q' := fun e => n4 e.symm
      have i1 : (a : Int) < (ws.length : Int) := by omega
      have hax : a < ws.length := by omega
      clear hb' hq' h1' h2' gb' gq' hne' hl' hs' hVw hae hxw
      rcases hk with hk | hk
      · rw [hk] at d0
        by_cases hq : ws.getD a 0 = v.old
        · have HX2 := Lib.hid (show exM v a 1 ws = ws.set a v.new_ by unfold exM; rw [if_neg (by omega), if_neg (by omega), if_pos hk]; unfold casW; rw [if_pos hq])
          clear hk
          generalize ws.getD a 0 = x at *
          subst hq
          go_wp2_with fail
          go_quiet (fail)
          go_wp2_with fail
          go_region_held3 (fun w' => w'.cell? ⟨w.heap.size, 5, none⟩ = some (.int .u64 v.new_) ∧ w'.cell? ⟨w.heap.size + 1, 0, none⟩ = some (.int .i64 a) ∧ w'.cell? ⟨b, off, none⟩ = some (.slice (some ⟨q', 0, none⟩) ws.length (ws.length + sp'))) (go_keep) (fail)
          go_wp2_with fail
          go_ret
          unfold RExPost
          rw [HX1.out, HX2.out]
          exact rex_fin HU.out ((Upd.refl Non wc).drewN _) HO.out HN2.out HQ.out HGQ.out HB.out hax
        · have HX2 := Lib.hid (show exM v a 1 ws = ws by unfold exM; rw [if_neg (by omega), if_neg (by omega), if_pos hk]; unfold casW; rw [if_neg hq])
          clear hk
          generalize ws.getD a 0 = x at *
          have hqb1 : (x == v.old) = false := by simpa using hq
          clear hq
          go_wp2_with fail
          go_quiet (fail)
          go_wp2_with fail
          go_ret
          unfold RExPost
          rw [HX1.out, HX2.out]
          exact ⟨some ⟨b1, o1, none⟩, c1, rfl, ((HO.out.keep ((Upd.refl Non _).drewN nq) (fun _ _ h => h)).mono fun k hk hl => ⟨by omega, hl⟩), HN2.out.keep ((Upd.refl Non _).drewN nq) (fun _ _ h => h), (HU.out.drewN nq).of_non⟩
      · have HX2 := Lib.hid (show exM v a 1 ws = ws.set a ((ws.getD a 0 + v.new_) % 18446744073709551616) by unfold exM; rw [if_neg (by omega), if_neg (by omega), if_neg (by omega)])
        rw [hk] at d0
        clear hk
        generalize ws.getD a 0 = x at *
        have hwu := wrapU (x + v.new_)
        generalize (x + v.new_) % 18446744073709551616 = y at *
        go_wp2_with fail
        go_region_held3 (fun w' => w'.cell? ⟨w.heap.size, 5, none⟩ = some (.int .u64 v.new_) ∧ w'.cell? ⟨w.heap.size + 1, 0, none⟩ = some (.int .i64 a) ∧ w'.cell? ⟨b, off, none⟩ = some (.slice (some ⟨q', 0, none⟩) ws.length (ws.length + sp')) ∧ w'.cell? ⟨b1, o1, none⟩ = some (.int .u64 x)) (go_keep) (fail)
        go_wp2_with fail
        go_ret
        unfold RExPost
        rw [HX1.out, HX2.out]
        exact rex_fin HU.out ((Upd.refl Non wc).drewN _) HO.out HN2.out HQ.out HGQ.out HB.out hax

theorem rexec_calls {w : World} {J G : Blk} {b off : Nat} {T : TypeId} {c : List Value} {v : Vb} {s : Value} {ws : List Int} (hv : VWords w J v s) (hn : RefN w G b off T c ws true) (hJG : ∀ k, J k → ¬ G k) (a n : Nat) (hp : PieceOk v a n ws.length) (hwl : v.words.length ≤ 1024) :
    Calls Try.prog 177 #[.pointer (some ⟨b, off, none⟩), .agg (vbC v s), encP (a, n)] w (RExPost w G b off T c ws v a n) :=
  (rexecute_calls (G := fun k => G k ∧ k < w.heap.size) hv (hn.mono fun _ h hl => ⟨h, hl⟩) (fun _ h => h.2) (fun k h1 h2 => hJG k h1 h2.1) a n hp hwl).mono fun _ _ ⟨A, cap, h1, h2, h3, h4⟩ => ⟨A, cap, h1, h2, h3.mono (fun _ h _ => h.1), h4.mono fun _ _ h => h.1⟩
end Go.Proofs.Ytlhbikiggmdolaa
