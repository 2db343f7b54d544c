/- memnode.Load and what it calls: an image is loaded as its node, other bytes are refused. -/
import Derived.Test.YtlhbikiggmdolaaImgLaw
import Derived.Test.YtlhbikiggmdolaaHeap3
import Derived.Lib.EndianBits
namespace Go.Proofs.Ytlhbikiggmdolaa
open Go.RowKit

theorem View.byte {w : World} {F : Blk} {A : Option Addr} {n : Nat} {bs : List Nat} (h : View w F 1 A n (u8s bs)) {i : Nat} (hi : i < bs.length) : ∃ b off, A = some ⟨b, off, none⟩ ∧ b < w.heap.size ∧ w.cell? ⟨b, off + i, none⟩ = some (.int .u8 (bs.getD i 0 : Nat)) := by
  obtain ⟨b, off, h1, _, h2, h3⟩ := h.cell (i := i) (v := .int .u8 (bs.getD i 0 : Nat)) (by rw [u8s_get, List.getD_eq_getElem?_getD, List.getElem?_eq_getElem hi]; rfl)
  exact ⟨b, off, h1, h2, h3⟩
theorem or_byte (x y : Nat) (hy : y < 256) : (x * 256) ||| y = y + 256 * x := by
  rw [show x * 256 = 2 ^ 8 * x by omega, ← Nat.two_pow_add_eq_or_of_lt (by omega)]; omega

def WaRel (w : World) (bs : List Nat) (at_ : Nat) (x i : Value) (wr : World) : Prop :=
  ∃ j : Nat, j ≤ 8 ∧ i = .int .i64 ((j : Int) - 1) ∧ x = .int .u64 (leN ((bs.drop (at_ + j)).take (8 - j)) : Nat) ∧ w = wr

theorem wordAt_calls {w : World} {F : Blk} {A : Option Addr} {n cap : Nat} {bs : List Nat} (hV : View w F 1 A n (u8s bs)) (hb : Byt bs) (at_ : Nat) (ha : at_ + 8 ≤ n) (hn : n ≤ 140737488355328) :
    Calls Try.prog 138 #[.slice A n cap, .int .i64 at_] w fun e w' => e = .returned (.int .u64 (leN ((bs.drop at_).take 8) : Nat)) ∧ w = w' := by
  have hl : bs.length = n := by have := hV.1; simpa [u8s] using this
  have HV := Lib.hid hV
  have HB := Lib.hid hb
  have HL := Lib.hid hl
  clear hV hb hl
  go_enter Try.func138, Try.ntmps138
  go_wp2_with fail
  go_loopw [5, 6] (fun x i wr => WaRel w bs at_ x i wr) (fun _ i _ => (intOf i + 1).toNat)
  case atStart => exact ⟨8, Nat.le_refl _, rfl, rfl, rfl⟩
  case round =>
    obtain ⟨j, hj, rfl, rfl, rfl⟩ := hrel
    by_cases h0 : j = 0
    · subst h0
      go_wp2_with fail
      go_ret
      exact ⟨by simp, rfl⟩
    · obtain ⟨k, rfl⟩ : ∃ k, j = k + 1 := ⟨j - 1, by omega⟩
      have hlen := HL.out
      obtain ⟨b, off, rfl, _, hc⟩ := HV.out.byte (i := at_ + k) (by omega)
      have hy : bs.getD (at_ + k) 0 < 256 := by
        rw [List.getD_eq_getElem?_getD, List.getElem?_eq_getElem (by omega)]; exact HB.out.get (by omega)
      have hx : leN ((bs.drop (at_ + (k + 1))).take (8 - (k + 1))) < 72057594037927936 := by
        have h1 := leN_lt ((HB.out.drop (at_ + (k + 1))).take (8 - (k + 1)))
        exact Nat.lt_of_lt_of_le h1 (Nat.le_trans (Nat.pow_le_pow_right (by decide) (show _ ≤ 7 by rw [List.length_take]; omega)) (by decide))
      have hst : leN ((bs.drop (at_ + k)).take (8 - k)) = bs.getD (at_ + k) 0 + 256 * leN ((bs.drop (at_ + (k + 1))).take (8 - (k + 1))) := by
        rw [List.drop_eq_getElem_cons (show at_ + k < bs.length by omega), show 8 - k = (8 - (k + 1)) + 1 by omega, List.take_succ_cons, leN_cons, List.getD_eq_getElem?_getD, List.getElem?_eq_getElem (show at_ + k < bs.length by omega)]; rfl
      have HST := Lib.hid hst
      clear hst
      generalize bs.getD (at_ + k) 0 = y at *
      generalize leN ((bs.drop (at_ + (k + 1))).take (8 - (k + 1))) = x at *
      have hor : bits .or .u64 ((x : Int) * 256) (y : Int) = ((y + 256 * x : Nat) : Int) := by
        have := u64_or_nat (x * 256) y (by omega) (by omega)
        rw [or_byte x y hy] at this
        simpa using this
      clear hlen
      go_wp2_with fail
      go_round
      case rel => exact ⟨k, by omega, by go_num, congrArg (Value.int .u64) (by rw [HST.out]; omega), rfl⟩
      case measure => simp [intOf]

def EqRel (w : World) (xs ys : List Nat) (n : Nat) (i : Value) (wr : World) : Prop := ∃ k : Nat, k ≤ n ∧ i = .int .i64 k ∧ xs.take k = ys.take k ∧ Upd Non w wr
theorem takeN_eq_step {xs ys : List Nat} {k : Nat} (h : xs.take k = ys.take k) (hk : k < xs.length) (hk' : k < ys.length) (he : xs.getD k 0 = ys.getD k 0) : xs.take (k + 1) = ys.take (k + 1) := by
  rw [List.take_succ_eq_append_getElem hk, List.take_succ_eq_append_getElem hk', h]
  simp [List.getD_eq_getElem?_getD, List.getElem?_eq_getElem hk, List.getElem?_eq_getElem hk'] at he
  rw [he]
set_option maxRecDepth 100000 in
theorem equal8_calls {w : World} {F G : Blk} {A B : Option Addr} {n m ca cb : Nat} {xs ys : List Nat} (hx : View w F 1 A n (u8s xs)) (hy : View w G 1 B m (u8s ys)) (hn : n ≤ 140737488355328) (hm : m ≤ 140737488355328) :
    Calls Try.prog 139 #[.slice A n ca, .slice B m cb] w fun e w' => e = .returned (.bool (decide (xs = ys))) ∧ Upd Non w w' := by
  have lx : xs.length = n := by have := hx.1; simpa [u8s] using this
  have ly : ys.length = m := by have := hy.1; simpa [u8s] using this
  by_cases hnm : n = m
  · subst hnm
    have HX := Lib.hid hx
    have HY := Lib.hid hy
    have LX := Lib.hid lx
    have LY := Lib.hid ly
    clear hx hy lx ly
    go_enter Try.func139, Try.ntmps139
    go_wp2_with fail
    go_loopw [13] (fun i wr => EqRel w xs ys n i wr) (fun i _ => n - (intOf i).toNat)
    case atStart => exact ⟨0, Nat.zero_le _, rfl, by simp, Upd.refl _ _⟩
    case round =>
      obtain ⟨k, hk, rfl, ht, hu⟩ := hrel
      have HT := Lib.hid ht
      have HU := Lib.hid hu
      have HXW := Lib.hid (HX.out.keep hu (fun _ _ h => h))
      have HYW := Lib.hid (HY.out.keep hu (fun _ _ h => h))
      clear ht hu
      by_cases hlt : k < n
      · obtain ⟨b, off, rfl, _, hc⟩ := HXW.out.byte (i := k) (by have := LX.out; omega)
        obtain ⟨b', off', rfl, _, hc'⟩ := HYW.out.byte (i := k) (by have := LY.out; omega)
        by_cases he : xs.getD k 0 = ys.getD k 0
        · have HTT := Lib.hid (takeN_eq_step HT.out (by have := LX.out; omega) (by have := LY.out; omega) he)
          rw [← he] at hc'
          clear he
          generalize xs.getD k 0 = x at *
          go_wp2_with fail
          go_quiet (fail)
          go_wp2_with fail
          go_roundw
          case rel => exact ⟨k + 1, by omega, by go_num, HTT.out, HU.out.drewN _⟩
          case measure => simp [intOf]; omega
        · have hb : (((xs.getD k 0 : Nat) : Int) == ((ys.getD k 0 : Nat) : Int)) = false := by rw [beq_eq_false_iff_ne]; omega
          have hb' : (((xs.getD k 0 : Nat) : Int) != ((ys.getD k 0 : Nat) : Int)) = true := by rw [bne_iff_ne]; omega
          have HE := Lib.hid he
          clear he
          have HD := Lib.hid (show decide (xs = ys) = false from decide_eq_false fun h => HE.out (by rw [h]))
          generalize xs.getD k 0 = x at *
          generalize ys.getD k 0 = y at *
          go_wp2_with fail
          go_quiet (fail)
          go_wp2_with fail
          go_ret
          exact ⟨by rw [HD.out]; rfl, HU.out.drewN _⟩
      · obtain rfl : k = n := by omega
        have HD := Lib.hid (show decide (xs = ys) = true from decide_eq_true (by
          have h := HT.out
          rw [List.take_of_length_le (by have := LX.out; omega), List.take_of_length_le (by have := LY.out; omega)] at h
          exact h))
        go_wp2_with fail
        go_ret
        exact ⟨by rw [HD.out]; rfl, HU.out⟩
  · have HD := Lib.hid (show decide (xs = ys) = false from decide_eq_false fun h => hnm (by rw [← lx, ← ly, h]))
    have hb : (n == m) = false := by simpa using hnm
    have hb' : ((n : Int) == m) = false := by simp; omega
    have hb'' : ((n : Int) != m) = true := by simp; omega
    clear hx hy lx ly hnm
    go_enter Try.func139, Try.ntmps139
    go_wp2_with fail
    go_ret
    exact ⟨by rw [HD.out]; rfl, Upd.refl _ _⟩

theorem NodeR.put {w : World} {F : Blk} {p : Nat} {ws : List Int} {up : Bool} (h : NodeR w F p ws up) :
    ∃ q cap, w.cell? ⟨p, 0, none⟩ = some (.slice (some ⟨q, 0, none⟩) ws.length cap) ∧ w.cell? ⟨p, 1, none⟩ = some (.bool (!up)) ∧ w.frozen? ⟨p, 1, none⟩ = false ∧ p ≠ q ∧
      (∀ i, i < ws.length → w.cell? ⟨q, i, none⟩ = some (.int .u64 (ws.getD i 0)) ∧ w.frozen? ⟨q, i, none⟩ = false ∧ ∀ x, NodeR (w.setCell ⟨q, i, none⟩ (.int .u64 x)) F p (ws.set i x) up ∧ Upd F w (w.setCell ⟨q, i, none⟩ (.int .u64 x))) ∧
      (∀ u, NodeR (w.setCell ⟨p, 1, none⟩ (.bool (!u))) F p ws u ∧ Upd F w (w.setCell ⟨p, 1, none⟩ (.bool (!u)))) := by
  obtain ⟨q, sp, hp, ⟨spare, hs, hq⟩, fp, fq, hl⟩ := h
  have hne := hp.ne hq (by decide)
  refine ⟨q, ws.length + sp, hp.cell 0 rfl, hp.cell 1 rfl, hp.frozen 1, hne, fun i hi => ⟨hq.cell i (u64s_at hi), hq.frozen i, fun x => ⟨⟨q, sp, ?_, ⟨spare, hs, ?_⟩, fp, fq, by simpa using hl⟩, (Upd.refl F w).setCell (p := ⟨q, i, none⟩) (.inl fq) _⟩⟩,
    fun u => ⟨⟨q, sp, hp.set 1 _, ⟨spare, hs, hq.setOther (Ne.symm hne) _ _⟩, fp, fq, hl⟩, (Upd.refl F w).setCell (p := ⟨p, 1, none⟩) (.inl fp) _⟩⟩
  · rw [List.length_set]; exact hp.setOther hne _ _
  · rw [← u64s_set _ _ _ _ hi]; exact hq.set _ _

theorem Upd.undrew {M : Blk} {w w' : World} (h : Upd M w.drew w') : Upd M w w' := ⟨h.os, h.tape, h.output, h.size, h.block⟩
theorem New.undrew {w w' : World} (k : Nat) (h : New w.drew w' k) : New w w' k := h
theorem cell_far {w : World} {p q i : Nat} {x : Value} (h : w.cell? ⟨p, i, none⟩ = some x) (hne : p ≠ q) : ∀ j v, (w.setCell ⟨q, j, none⟩ v).cell? ⟨p, i, none⟩ = some x := fun j v =>
  (World.cell?_of_block (a := ⟨p, i, none⟩) (heap_setCell_other ⟨q, j, none⟩ v hne)).trans h
def LoadPost (bs : List Nat) (w : World) (e : Ending) (w' : World) : Prop :=
  Upd Non w w' ∧ ((∃ (p L : Nat) (ws : List Int) (up : Bool), 1 ≤ L ∧ L ≤ 256 ∧ ws.length = L * 8 ∧ W64 ws ∧ bs = imgB ws up ∧ e = .returned (.tuple #[.pointer (some ⟨p, 0, none⟩), .int .i64 0]) ∧ NodeR w' (New w w') p ws up) ∨
    (¬ IsImg bs ∧ e = .returned (.tuple #[.pointer none, .int .i64 14])))
theorem load_no {bs : List Nat} {w w' : World} {e : Ending} (hu : Upd Non w w') (h : ¬ IsImg bs) (he : e = .returned (.tuple #[.pointer none, .int .i64 14])) : LoadPost bs w e w' := ⟨hu, .inr ⟨h, he⟩⟩

def fillI (bs : List Nat) (n k : Nat) : List Int := (wordsI bs n).take k ++ List.replicate (n - k) 0
theorem fillI_length (bs : List Nat) (n k : Nat) (h : k ≤ n) : (fillI bs n k).length = n := by simp [fillI, wordsI_length]; omega
theorem fillI_set (bs : List Nat) (n k : Nat) (h : k < n) : (fillI bs n k).set k ((wordI bs k : Nat) : Int) = fillI bs n (k + 1) := by
  unfold fillI
  have hl := wordsI_length bs n
  rw [List.set_append_right _ _ (by rw [List.length_take]; omega), List.length_take, hl, Nat.min_eq_left (by omega), Nat.sub_self,
    show n - k = (n - (k + 1)) + 1 by omega, List.replicate_succ, List.set_cons_zero, List.take_succ_eq_append_getElem (by omega), List.append_assoc]
  simp [wordsI]
theorem fillI_done (bs : List Nat) (n : Nat) : fillI bs n n = wordsI bs n := by
  unfold fillI; rw [List.take_of_length_le (by rw [wordsI_length]; omega), Nat.sub_self, List.replicate_zero, List.append_nil]

def LoadRel (w w1 : World) (p : Nat) (bs : List Nat) (n : Nat) (i : Value) (wr : World) : Prop :=
  ∃ k : Nat, k ≤ n ∧ i = .int .i64 k ∧ NodeR wr (New w w1) p (fillI bs n k) true ∧ Upd Non w wr ∧ Nat.le w1.heap.size wr.heap.size

set_option maxRecDepth 100000 in
set_option maxHeartbeats 2000000 in
theorem load_calls {w : World} {F : Blk} {A : Option Addr} {n cap : Nat} {bs : List Nat} (hV : View w F 1 A n (u8s bs)) (hb : Byt bs) (hn : n ≤ 140737488355328) :
    Calls Try.prog 81 #[.slice A n cap] w (LoadPost bs w) := by
  have hl : bs.length = n := by have := hV.1; simpa [u8s] using this
  by_cases h7 : n < 7
  · have HNO := Lib.hid (show ¬ IsImg bs from fun h => by obtain ⟨L, h1, h2, h3⟩ := isImg_length h; omega)
    clear hV hb hl
    go_enter Try.func81, Try.ntmps81
    go_wp2_with fail
    go_ret2
    exact load_no (Upd.refl _ _) HNO.out rfl
  · have h7' : 7 ≤ n := by omega
    obtain ⟨b, off, rfl, hbl, c4⟩ := hV.byte (i := 4) (by omega)
    obtain ⟨b', off', e5, _, c5⟩ := hV.byte (i := 5) (by omega)
    simp only [Option.some.injEq, Addr.mk.injEq, and_true] at e5
    obtain ⟨rfl, rfl⟩ := e5
    obtain ⟨b', off', e5, _, c6⟩ := hV.byte (i := 6) (by omega)
    simp only [Option.some.injEq, Addr.mk.injEq, and_true] at e5
    obtain ⟨rfl, rfl⟩ := e5
    have hx : ∀ i, i < 7 → bs.getD i 0 < 256 := fun i hi => by
      rw [List.getD_eq_getElem?_getD, List.getElem?_eq_getElem (by omega)]; exact hb.get (by omega)
    have y4 := hx 4 (by decide)
    have y5 := hx 5 (by decide)
    have y6 := hx 6 (by decide)
    have HIMG := Lib.hid (isImg_prog hb _ rfl)
    obtain ⟨L, hL⟩ : ∃ L, bs.getD 4 0 + 256 * bs.getD 5 0 = L := ⟨_, rfl⟩
    have hor : bits .or .i64 ((bs.getD 4 0 : Nat) : Int) (((bs.getD 5 0 : Nat) : Int) * 256) = (L : Int) := by
      rw [bits_join_low .i64 16 (by decide) (fun n h0 h1 => by rw [IntKind.wrap_i64]; omega) 8 _ _ (by omega) (by omega) (by omega) (by omega) (by omega) (by omega)]; omega
    rw [hL] at HIMG
    have HV := Lib.hid hV
    have HB := Lib.hid hb
    have HLN := Lib.hid hl
    have HK := Lib.hid (fun w' (hu : Upd Non w w') => (⟨(World.cell?_of_block (a := ⟨b, off + 4, none⟩) (hu.block b hbl (fun h => h))).trans c4, (World.cell?_of_block (a := ⟨b, off + 5, none⟩) (hu.block b hbl (fun h => h))).trans c5, (World.cell?_of_block (a := ⟨b, off + 6, none⟩) (hu.block b hbl (fun h => h))).trans c6⟩ : w'.cell? ⟨b, off + 4, none⟩ = _ ∧ w'.cell? ⟨b, off + 5, none⟩ = _ ∧ w'.cell? ⟨b, off + 6, none⟩ = _))
    have HL := Lib.hid hL
    clear hV hb hl hx hL
    generalize bs.getD 4 0 = b4 at *
    generalize bs.getD 5 0 = b5 at *
    generalize bs.getD 6 0 = b6 at *
    have i4 : (4 : Int) < (n : Int) := by omega
    have i5 : (5 : Int) < (n : Int) := by omega
    have i6 : (6 : Int) < (n : Int) := by omega
    by_cases hLb : 1 ≤ L ∧ L ≤ 256
    · obtain ⟨hL1, hL2⟩ := hLb
      have k4 : IntKind.i64.wrap (b4 : Int) = b4 := by rw [IntKind.wrap_i64]; omega
      have k5 : IntKind.i64.wrap (b5 : Int) = b5 := by rw [IntKind.wrap_i64]; omega
      have k6 : IntKind.i64.wrap ((b5 : Int) * 256) = (b5 : Int) * 256 := by rw [IntKind.wrap_i64]; omega
      go_enter Try.func81, Try.ntmps81
      go_wp2_with fail
      go_region_held3 (fun w' => w'.cell? ⟨b, off + 4, none⟩ = some (.int .u8 b4) ∧ w'.cell? ⟨b, off + 5, none⟩ = some (.int .u8 b5)) (go_keep)
        ((go_at_call 24; (with_reducible refine (new_ok L hL1 hL2).mono ?_); rintro e w1 ⟨p, rfl, hN, hu⟩; obtain ⟨d4, d5, d6⟩ := HK.out _ hu.undrew; have HN : Hid (NodeR w1 (New w w1) p (List.replicate (L * 8) 0) true) := hN; have HU := Lib.hid hu.undrew; clear hN hu))
      clear k4 k5 k6 hor d4 d5 c4 c5 c6 d6
      have hlz : (List.replicate (L * 8) (0 : Int)).length = L * 8 := by simp
      obtain ⟨q, cq, n0, n1, z1, hpq, hputs, hflag⟩ := HN.out.put
      rw [hlz] at n0 hputs
      have HPUT := Lib.hid hputs
      have HFLAG := Lib.hid hflag
      clear hputs hflag hlz
      by_cases hlen : n = 15 + 64 * L
      · have hne : ((n : Int) == 7 + 8 * ((L : Int) * 8 + 1)) = true := by rw [beq_iff_eq]; omega
        have hne' : ((n : Int) != 7 + 8 * ((L : Int) * 8 + 1)) = false := by rw [bne_eq_false_iff_eq]; omega
        have HLEN := Lib.hid hlen
        clear hlen
        go_wp2_with fail
        clear n0 n1 z1 hne hne'
        go_loopw [44] (fun i wr => LoadRel w w1 p bs (L * 8) i wr) (fun i _ => L * 8 - (intOf i).toNat)
        case atStart => exact ⟨0, Nat.zero_le _, rfl, by simpa [fillI] using HN.out, HU.out, Nat.le_refl _⟩
        case round =>
          obtain ⟨k, hk, rfl, hNk, hUk, hsz⟩ := hrel
          have HSZ := Lib.hid hsz
          clear hsz
          have hfl := fillI_length bs (L * 8) k hk
          obtain ⟨q', cq', n0, n1, z1, hpq', hputs, hflag⟩ := hNk.put
          rw [hfl] at n0 hputs
          have HPUT := Lib.hid hputs
          have HFLAG := Lib.hid hflag
          have HNK := Lib.hid hNk
          have HUK := Lib.hid hUk
          clear hputs hflag hfl hNk hUk HN HU
          by_cases hlt : k < L * 8
          · obtain ⟨w0, z0, hset⟩ := HPUT.out k hlt
            have HSET := Lib.hid hset
            have HFS := Lib.hid (fillI_set bs (L * 8) k hlt)
            have hVk := HV.out.keep HUK.out (fun _ _ h => h)
            have HWA := Lib.hid (wordAt_calls (cap := cap) (w := wr.drew) hVk HB.out (7 + 8 * k) (by have := HLEN.out; omega) hn)
            clear hset hVk
            have e2 : IntKind.i64.wrap ((8 : Int) * (k : Int)) = 8 * (k : Int) := by rw [IntKind.wrap_i64]; omega
            have e3 : IntKind.i64.wrap (7 + (8 : Int) * (k : Int)) = 7 + 8 * (k : Int) := by rw [IntKind.wrap_i64]; omega
            have nf := cell_far n0 hpq'
            have i0 : (0 : Int) ≤ (k : Int) := by omega
            have i1 : (k : Int) < (L : Int) * 8 := by omega
            have i2 : (k : Int) < ((L * 8 : Nat) : Int) := by omega
            go_wp2_with fail
            go_region_held3 (fun w' => w'.cell? ⟨p, 0, none⟩ = some (.slice (some ⟨q', 0, none⟩) (L * 8) cq')) (go_keep)
              ((go_at_call 138; rw [show (7 : Int) + 8 * (k : Int) = ((7 + 8 * k : Nat) : Int) by omega]; (with_reducible refine HWA.out.mono ?_); rintro e w' ⟨rfl, rfl⟩))
            clear e2 e3 n0 n1 z1 w0 z0 nf
            all_goals go_wp2_with fail
            all_goals go_roundw
            case rel =>
              have h := HSET.out ((wordI bs k : Nat) : Int)
              rw [HFS.out] at h
              exact ⟨k + 1, by omega, by go_num, h.1.keep (M := Non) ((Upd.refl _ _).drew) (fun _ _ h => h), (HUK.out.trans h.2 fun i hi hm => absurd hm.1 (by omega)).drew, Nat.le_trans HSZ.out h.2.size⟩
            case measure => simp [intOf]; omega
          · have hk' : k = L * 8 := by omega
            subst hk'
            have hwI := wordsI_wf HB.out (L * 8)
            have HWI := Lib.hid hwI
            have HF1 := Lib.hid (fillI_done bs (L * 8))
            have d6 := (HK.out _ HUK.out).2.2
            have hux : ∃ up : Bool, up = decide (b6 ≠ 0) ∧ ((b6 : Int) == 0) = !up := ⟨decide (b6 ≠ 0), rfl, by
              by_cases h : b6 = 0
              · subst h; rfl
              · simp [h]⟩
            obtain ⟨up, hup, hbb⟩ := hux
            have HUP := Lib.hid hup
            clear hup hwI
            go_wp2_with fail
            have hnf := (HFLAG.out up).1
            have huf := (HFLAG.out up).2
            rw [HF1.out] at hnf
            have HNF := Lib.hid hnf
            have HUF := Lib.hid (HUK.out.trans huf fun i hi hm => absurd hm.1 (by omega))
            have HS1 := Lib.hid (Nat.le_trans HSZ.out huf.size)
            clear hnf huf
            refine (image_calls HNF.out HWI.out.wf).mono ?_
            rintro e w3 ⟨v, rfl, hO3, hU3⟩
            obtain ⟨A3, cp3, rfl, _, hV3⟩ := hO3.shape
            have HV3 := Lib.hid hV3
            have HN3 := Lib.hid (HNF.out.keep hU3 (fun _ _ h => h))
            have HU3 := Lib.hid (HUF.out.tr hU3)
            have HS3 := Lib.hid (Nat.le_trans HS1.out hU3.size)
            have hl3 : 7 + 8 * (wordsI bs (L * 8)).length + 8 ≤ 140737488355328 := by rw [wordsI_length]; omega
            have HL3 := Lib.hid hl3
            clear hO3 hV3 hU3 hl3
            go_wp2_with fail
            refine (equal8_calls (ca := cp3) (cb := cap) HV3.out (HV.out.keep HU3.out (fun _ _ h => h)) HL3.out hn).mono ?_
            rintro e w4 ⟨rfl, hU4⟩
            have HU4 := Lib.hid (HU3.out.tr hU4)
            have HN4 := Lib.hid (HN3.out.keep hU4 (fun _ _ h => h))
            have HS4 := Lib.hid (Nat.le_trans HS3.out hU4.size)
            clear hU4
            by_cases himg : imgB (wordsI bs (L * 8)) up = bs
            · have hd : decide (imgB (wordsI bs (L * 8)) up = bs) = true := decide_eq_true himg
              have HI := Lib.hid himg
              rw [hd]
              clear himg hd hbb
              go_wp2_with fail
              go_ret2
              exact ⟨HU4.out, .inl ⟨p, L, wordsI bs (L * 8), up, hL1, hL2, wordsI_length _ _, HWI.out, HI.out.symm, rfl, HN4.out.mono fun k h _ => ⟨h.1, Nat.lt_of_lt_of_le h.2 HS4.out⟩⟩⟩
            · have hd : decide (imgB (wordsI bs (L * 8)) up = bs) = false := decide_eq_false himg
              have HNO : Hid (¬ IsImg bs) := Lib.hid fun h => himg (by rw [HUP.out]; exact (HIMG.out.1 h).2.2.2)
              rw [hd]
              clear himg hd hbb
              go_wp2_with fail
              go_ret2
              exact load_no HU4.out HNO.out rfl
      · have hne : ((n : Int) == 7 + 8 * ((L : Int) * 8 + 1)) = false := by rw [beq_eq_false_iff_ne]; omega
        have hne' : ((n : Int) != 7 + 8 * ((L : Int) * 8 + 1)) = true := by rw [bne_iff_ne]; omega
        have HNO := Lib.hid (show ¬ IsImg bs from fun h => by have := (HIMG.out.1 h).2.2.1; have := HLN.out; omega)
        go_wp2_with fail
        go_ret2
        exact load_no HU.out HNO.out rfl
    · have HNO := Lib.hid (show ¬ IsImg bs from fun h => hLb ⟨(HIMG.out.1 h).1, (HIMG.out.1 h).2.1⟩)
      have hLb' : (L : Int) < 1 ∨ 256 < (L : Int) := by omega
      have HLB := Lib.hid hLb'
      clear hLb hLb'
      have k4 : IntKind.i64.wrap (b4 : Int) = b4 := by rw [IntKind.wrap_i64]; omega
      have k5 : IntKind.i64.wrap (b5 : Int) = b5 := by rw [IntKind.wrap_i64]; omega
      have k6 : IntKind.i64.wrap ((b5 : Int) * 256) = (b5 : Int) * 256 := by rw [IntKind.wrap_i64]; omega
      go_enter Try.func81, Try.ntmps81
      go_wp2_with fail
      go_region_held3 (fun w' => w'.cell? ⟨b, off + 4, none⟩ = some (.int .u8 b4) ∧ w'.cell? ⟨b, off + 5, none⟩ = some (.int .u8 b5)) (go_keep)
        ((go_at_call 24; (with_reducible refine (new_bad (L : Int) HLB.out).mono ?_); rintro e w1 ⟨rfl, rfl⟩))
      clear k4 k5 k6 hor c4 c5 c6
      all_goals go_wp2_with fail
      all_goals go_ret2
      all_goals exact load_no ((Upd.refl _ _).drew) HNO.out rfl
end Go.Proofs.Ytlhbikiggmdolaa
