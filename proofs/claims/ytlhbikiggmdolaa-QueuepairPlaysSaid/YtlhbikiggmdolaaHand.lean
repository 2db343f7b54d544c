/- bodegahand.Verb: a verb made of raw numbers. -/
import Derived.Test.YtlhbikiggmdolaaVerb
import Derived.Test.YtlhbikiggmdolaaImg
namespace Go.Proofs.Ytlhbikiggmdolaa
open Go.RowKit

/-- What is told of such a verb. -/
structure HandV (v : Vb) : Prop where
  kind0 : 0 ≤ v.kind
  kind1 : v.kind ≤ 5
  node0 : -1 ≤ v.node
  node1 : v.node ≤ 5
  at0 : -8 ≤ v.at_
  at1 : v.at_ ≤ 891
  n0 : -20 ≤ v.n
  n1 : v.n ≤ 2079
  old0 : 0 ≤ v.old
  old1 : v.old < 18446744073709551616
  new0 : 0 ≤ v.new_
  new1 : v.new_ < 18446744073709551616
  key0 : 0 ≤ v.key
  key1 : v.key ≤ 3
  boot0 : 0 ≤ v.boot
  boot1 : v.boot ≤ 2
  len : v.words.length ≤ 22
  words : ∀ x ∈ v.words, 0 ≤ x ∧ x < 18446744073709551616

theorem pickN (n k : Int) (w : World) (hk : 1 ≤ k) (hk2 : k ≤ 4611686018427387904) :
    Calls Try.prog 23 #[.int .i64 n, .int .i64 k] w fun e w' => ∃ i : Nat, (i : Int) = n % k ∧ (i : Int) < k ∧ e = .returned (.int .i64 i) ∧ w = w' :=
  (pick_calls n k w hk hk2).mono fun e w' ⟨he, hw⟩ => by
    have h0 := Int.emod_nonneg n (show k ≠ 0 by omega)
    have h1 := Int.emod_lt_of_pos n (show 0 < k by omega)
    generalize n % k = r at *
    obtain ⟨i, rfl⟩ := Int.eq_ofNat_of_zero_le h0
    exact ⟨i, rfl, h1, he, hw⟩

def HvCut (w : World) (k nd at_ old new_ key boot : Int) (wr : World) : Prop :=
  ∃ n : Int, -20 ≤ n ∧ n ≤ 2079 ∧ Row wr (w.heap.size + 1) 62 [.int .i64 k, .int .i64 nd, .int .i64 at_, .int .i64 n, .int .u64 old, .int .u64 new_, .slice none 0 0, .int .u64 key, .int .i64 boot] ∧
    Row wr w.heap.size 62 [.int .i64 0, .int .i64 0, .int .i64 0, .int .i64 0, .int .u64 0, .int .u64 0, .slice none 0 0, .int .u64 0, .int .i64 0] ∧ Upd Non w wr
def HvRel (w : World) (k nd at_ n old new_ key boot : Int) (m : Nat) (i : Value) (wr : World) : Prop :=
  ∃ (j : Nat) (A : Option Addr) (cap : Nat) (ws : List Int), j ≤ m ∧ i = .int .i64 j ∧ ws.length = j ∧ (∀ x ∈ ws, 0 ≤ x ∧ x < 18446744073709551616) ∧
    Row wr (w.heap.size + 1) 62 [.int .i64 k, .int .i64 nd, .int .i64 at_, .int .i64 n, .int .u64 old, .int .u64 new_, .slice A j cap, .int .u64 key, .int .i64 boot] ∧
    Row wr w.heap.size 62 [.int .i64 0, .int .i64 0, .int .i64 0, .int .i64 0, .int .u64 0, .int .u64 0, .slice none 0 0, .int .u64 0, .int .i64 0] ∧
    Own wr (Past w) 36 1 (.slice A j cap) j (u64s ws) ∧ Upd Non w wr

def HandPost (w : World) (old new_ : Int) (e : Ending) (w' : World) : Prop :=
  ∃ (v : Vb) (A : Option Addr) (cap : Nat), e = .returned (.agg (vbC v (.slice A v.words.length cap))) ∧ HandV v ∧ v.old = old ∧ v.new_ = new_ ∧ Own w' (New w w') 36 1 (.slice A v.words.length cap) v.words.length (u64s v.words) ∧ Upd Non w w'

theorem Own.notRow {w : World} {F : Blk} {e T : TypeId} {s n b : Nat} {v : Value} {xs c : List Value} (h : Own w F e s v n xs) (hb : Row w b T c) (hT : T ≠ e) : ¬ v.ownBlock = some b := fun hk => by
  rcases h.2 with ⟨rfl, _⟩ | ⟨g, cp, sp, rfl, _, hg, _⟩
  · simp [Value.ownBlock] at hk
  · simp [Value.ownBlock] at hk
    subst hk
    exact hT (hb.uniq hg).1
theorem Own.keepB {M F : Blk} {w w' : World} {e : TypeId} {s n : Nat} {v : Value} {xs : List Value} (h : Own w F e s v n xs) (hu : Upd M w w') (hd : ∀ k, v.ownBlock = some k → ¬ M k) : Own w' F e s v n xs :=
  ⟨h.1, h.2.imp id fun ⟨g, cap, sp, hv, hF, hr, r⟩ => ⟨g, cap, sp, hv, hF, hu.row hr (hd g (by rw [hv]; rfl)), r⟩⟩
theorem hv_arm {w wr w3 : World} {A : Option Addr} {j cap : Nat} {v' : Value} {ws : List Int} {x k nd at_ n old new_ key boot : Int} {T8 : Obj}
    (hr : Row wr (w.heap.size + 1) 62 [.int .i64 k, .int .i64 nd, .int .i64 at_, .int .i64 n, .int .u64 old, .int .u64 new_, .slice A j cap, .int .u64 key, .int .i64 boot])
    (hz : Row wr w.heap.size 62 [.int .i64 0, .int .i64 0, .int .i64 0, .int .i64 0, .int .u64 0, .int .u64 0, .slice none 0 0, .int .u64 0, .int .i64 0]) (hu : Upd Non w wr) (hF : ∀ k, (Value.slice A j cap).ownBlock = some k → Past w k)
    (hO : Own w3 (fun k => Past w k ∨ New (wr.alloc T8) w3 k) 36 1 v' (j + 1) (u64s ws ++ u64s [x])) (hA : Upd (fun k => (Value.slice A j cap).ownBlock = some k) (wr.alloc T8) w3)
    (hown : Own wr (Past w) 36 1 (.slice A j cap) j (u64s ws)) :
    ∃ A3 cap3, v' = .slice A3 (j + 1) cap3 ∧ Hid (Row (w3.setCell ⟨w.heap.size + 1, 6, none⟩ (.slice A3 (j + 1) cap3)) w.heap.size 62 [.int .i64 0, .int .i64 0, .int .i64 0, .int .i64 0, .int .u64 0, .int .u64 0, .slice none 0 0, .int .u64 0, .int .i64 0]) ∧
      Hid (Upd Non w (w3.setCell ⟨w.heap.size + 1, 6, none⟩ (.slice A3 (j + 1) cap3))) ∧ Hid (Own (w3.setCell ⟨w.heap.size + 1, 6, none⟩ (.slice A3 (j + 1) cap3)) (Past w) 36 1 (.slice A3 (j + 1) cap3) (j + 1) (u64s (ws ++ [x]))) ∧
      w3.cell? ⟨w.heap.size + 1, 6, none⟩ = some (.slice A j cap) ∧ w3.frozen? ⟨w.heap.size + 1, 6, none⟩ = false ∧
      Hid (Row (w3.setCell ⟨w.heap.size + 1, 6, none⟩ (.slice A3 (j + 1) cap3)) (w.heap.size + 1) 62 [.int .i64 k, .int .i64 nd, .int .i64 at_, .int .i64 n, .int .u64 old, .int .u64 new_, .slice A3 (j + 1) cap3, .int .u64 key, .int .i64 boot]) := by
  have hr3 := hA.row (hr.alloc T8) (hown.notRow hr (by decide))
  have hz3 := hA.row (hz.alloc T8) (hown.notRow hz (by decide))
  obtain ⟨hO3, hU3⟩ := app_past (hu.alloc T8) hF hO hA
  rw [← u64s_append] at hO3
  obtain ⟨A3, cap3, rfl, _, _⟩ := hO3.shape
  have hset : Upd (One (w.heap.size + 1)) w3 (w3.setCell ⟨w.heap.size + 1, 6, none⟩ (.slice A3 (j + 1) cap3)) := (Upd.refl (One (w.heap.size + 1)) w3).setCell (p := ⟨w.heap.size + 1, 6, none⟩) (.inl rfl) _
  refine ⟨A3, cap3, rfl, Lib.hid (hz3.setOther (by omega) _ _), Lib.hid (hU3.setCell (p := ⟨w.heap.size + 1, 6, none⟩) (.inr (by show w.heap.size ≤ w.heap.size + 1; omega)) _), Lib.hid ?_, hr3.cell 6 rfl, hr3.frozen 6, Lib.hid (hr3.set 6 _)⟩
  obtain ⟨h1, h2⟩ := hO3
  refine ⟨h1, h2.imp id ?_⟩
  rintro ⟨g, c, sp, hv, hF', hg, h3⟩
  exact ⟨g, c, sp, hv, hF', hset.row hg (fun e => hg.ne hr3 (by decide) e), h3⟩

set_option maxRecDepth 100000 in
set_option maxHeartbeats 4000000 in
theorem hand_calls (k nd at_ n key boot old new_ : Int) (ho0 : 0 ≤ old) (ho1 : old < 18446744073709551616) (hn0 : 0 ≤ new_) (hn1 : new_ < 18446744073709551616) (hnn : -9223372036854775808 ≤ n ∧ n ≤ 9223372036854775807) (w : World) :
    Calls Try.prog 120 #[.int .i64 k, .int .i64 nd, .int .i64 at_, .int .i64 n, .int .i64 key, .int .i64 boot, .int .u64 old, .int .u64 new_] w (HandPost w old new_) := by
  go_enter Try.func120, Try.ntmps120
  go_wp2_with fail
  refine (pickN k 6 _ (by decide) (by decide)).mono ?_
  rintro e w' ⟨k, hzz, hk, rfl, rfl⟩
  clear hzz
  go_wp2_with fail
  refine (pickN nd 7 _ (by decide) (by decide)).mono ?_
  rintro e w' ⟨nd, hzz, hnd, rfl, rfl⟩
  clear hzz
  go_wp2_with fail
  refine (pickN at_ 900 _ (by decide) (by decide)).mono ?_
  rintro e w' ⟨at_, hzz, hat, rfl, rfl⟩
  clear hzz
  go_wp2_with fail
  refine (pickN n 40 _ (by decide) (by decide)).mono ?_
  rintro e w' ⟨n40, hzz, hn40, rfl, rfl⟩
  clear hzz
  go_wp2_with fail
  refine (pickN key 4 _ (by decide) (by decide)).mono ?_
  rintro e w' ⟨key, hzz, hkey, rfl, rfl⟩
  clear hzz
  go_wp2_with fail
  refine (pickN boot 3 _ (by decide) (by decide)).mono ?_
  rintro e w' ⟨boot, hzz, hboot, rfl, rfl⟩
  clear hzz
  go_wp2_with fail
  refine (pickN n 7 _ (by decide) (by decide)).mono ?_
  rintro e w' ⟨n7, hzz, hn7, rfl, rfl⟩
  clear hzz
  go_upto_if 39 with fail
  go_cut [] (fun wr => HvCut w k ((nd : Int) - 1) ((at_ : Int) - 8) old new_ key boot wr)
  case first =>
    have hrow0 : Row ((w.alloc (.cells #[.int .i64 0, .int .i64 0, .int .i64 0, .int .i64 0, .int .u64 0, .int .u64 0, .slice none 0 0, .int .u64 0, .int .i64 0] 62)).alloc (.cells #[.int .i64 k, .int .i64 ((nd : Int) - 1), .int .i64 ((at_ : Int) - 8), .int .i64 n40, .int .u64 old, .int .u64 new_, .slice none 0 0, .int .u64 key, .int .i64 boot] 62)) (w.heap.size + 1) 62 [.int .i64 k, .int .i64 ((nd : Int) - 1), .int .i64 ((at_ : Int) - 8), .int .i64 n40, .int .u64 old, .int .u64 new_, .slice none 0 0, .int .u64 key, .int .i64 boot] := by
      have := Row.new (w.alloc (.cells #[.int .i64 0, .int .i64 0, .int .i64 0, .int .i64 0, .int .u64 0, .int .u64 0, .slice none 0 0, .int .u64 0, .int .i64 0] 62)) #[.int .i64 k, .int .i64 ((nd : Int) - 1), .int .i64 ((at_ : Int) - 8), .int .i64 n40, .int .u64 old, .int .u64 new_, .slice none 0 0, .int .u64 key, .int .i64 boot] 62
      rw [World.size_alloc] at this; exact this
    have hrow1 : Row ((w.alloc (.cells #[.int .i64 0, .int .i64 0, .int .i64 0, .int .i64 0, .int .u64 0, .int .u64 0, .slice none 0 0, .int .u64 0, .int .i64 0] 62)).alloc (.cells #[.int .i64 k, .int .i64 ((nd : Int) - 1), .int .i64 ((at_ : Int) - 8), .int .i64 n40, .int .u64 old, .int .u64 new_, .slice none 0 0, .int .u64 key, .int .i64 boot] 62)) w.heap.size 62 [.int .i64 0, .int .i64 0, .int .i64 0, .int .i64 0, .int .u64 0, .int .u64 0, .slice none 0 0, .int .u64 0, .int .i64 0] := (Row.new w _ _).alloc _
    have hu : Upd Non w ((w.alloc (.cells #[.int .i64 0, .int .i64 0, .int .i64 0, .int .i64 0, .int .u64 0, .int .u64 0, .slice none 0 0, .int .u64 0, .int .i64 0] 62)).alloc (.cells #[.int .i64 k, .int .i64 ((nd : Int) - 1), .int .i64 ((at_ : Int) - 8), .int .i64 n40, .int .u64 old, .int .u64 new_, .slice none 0 0, .int .u64 key, .int .i64 boot] 62)) := ((Upd.refl _ _).alloc _).alloc _
    have HR0 := Lib.hid hrow0
    have HR1 := Lib.hid hrow1
    have HU := Lib.hid hu
    clear hrow0 hrow1 hu
    by_cases h6 : n7 = 6
    · subst h6
      go_wp2_with fail
      refine (pickN _ 2100 _ (by decide) (by decide)).mono ?_
      rintro e w' ⟨n2, hzz, hn2, rfl, rfl⟩
      clear hzz
      go_wp2_with fail
      go_meet
      refine ⟨(n2 : Int) - 20, by omega, by omega, ?_, ?_, ?_⟩
      · have := Row.new (w.alloc (.cells #[.int .i64 0, .int .i64 0, .int .i64 0, .int .i64 0, .int .u64 0, .int .u64 0, .slice none 0 0, .int .u64 0, .int .i64 0] 62)) #[.int .i64 k, .int .i64 ((nd : Int) - 1), .int .i64 ((at_ : Int) - 8), .int .i64 ((n2 : Int) - 20), .int .u64 old, .int .u64 new_, .slice none 0 0, .int .u64 key, .int .i64 boot] 62
        rw [World.size_alloc] at this; exact this
      · exact (Row.new w _ _).alloc _
      · exact ((Upd.refl _ _).alloc _).alloc _
    · have h6b : ((n7 : Int) == 6) = false := by rw [beq_eq_false_iff_ne]; omega
      clear h6
      go_wp2_with fail
      go_meet
      exact ⟨n40, by omega, by omega, HR0.out, HR1.out, HU.out⟩
  case rest =>
    obtain ⟨n', hn0', hn1', hr, hz, hu⟩ := hcut
    have HR := Lib.hid hr
    have HZ := Lib.hid hz
    have HU := Lib.hid hu
    obtain ⟨m, hm⟩ : ∃ m : Nat, n % 23 = m := ⟨(n % 23).toNat, by omega⟩
    have hm22 : m ≤ 22 := by omega
    have HP : Hid (∀ w, Calls Try.prog 23 #[.int .i64 n, .int .i64 23] w fun e w' => e = .returned (.int .i64 m) ∧ w = w') := Lib.hid fun w => by have := pick_calls n 23 w (by decide) (by decide); rw [hm] at this; exact this
    clear hr hz hu hm hn40 hn7
    go_wp2_with fail
    go_loopw [18] (fun i wr => HvRel w k ((nd : Int) - 1) ((at_ : Int) - 8) n' old new_ key boot m i wr) (fun i _ => 23 - (intOf i).toNat)
    case atStart => exact ⟨0, none, 0, [], Nat.zero_le _, rfl, rfl, fun x hx => by simp at hx, HR.out, HZ.out, Own.nil _ _ _ _, HU.out⟩
    case round =>
      obtain ⟨j, A, cap, ws, hj, rfl, hwl, hww, hr, hz, hown, hupd⟩ := hrel
      have HR2 := Lib.hid hr
      have HZ2 := Lib.hid hz
      have HO := Lib.hid hown
      have HU2 := Lib.hid hupd
      have HWL := Lib.hid hwl
      have HWW := Lib.hid hww
      clear hr hz hown hupd hwl hww HR HZ HU
      by_cases hlt : j < m
      · obtain ⟨d0, d1, d2, d3, d4, d5, d6, d7, d8⟩ := vb_cells HR2.out
        have hv0 : 0 ≤ (new_ + (j : Int)) % 18446744073709551616 := by omega
        have hv1 : (new_ + (j : Int)) % 18446744073709551616 < 18446744073709551616 := by omega
        have HV0 := Lib.hid (And.intro hv0 hv1)
        clear hv0 hv1
        have HO2 := Lib.hid (HO.out.keep (M := Non) ((Upd.refl Non wr).alloc (.cells #[.int .u64 ((new_ + (j : Int)) % 18446744073709551616)] 36)) (fun _ _ h => h))
        have hV : View (wr.alloc (.cells #[.int .u64 ((new_ + (j : Int)) % 18446744073709551616)] 36)) (fun _ => True) 1 (some ⟨wr.heap.size, 0, none⟩) 1 (u64s [(new_ + (j : Int)) % 18446744073709551616]) := view_new2 wr #[.int .u64 ((new_ + (j : Int)) % 18446744073709551616)] 36 1 1 rfl
        have HV := Lib.hid hV
        have HF := Lib.hid (fun k hk => (HO.out.block (k := k) hk).1)
        clear hV
        have HB1 := Lib.hid (show ¬ Past w w.heap.size → True from fun _ => trivial)
        clear HB1
        go_wp2_with fail
        go_at_call 23
        refine (HP.out _).mono ?_
        rintro e w' ⟨rfl, rfl⟩
        go_wp2_with (at_builtin; refine wpList_app _ rfl (.tmp 52) (.tmp 57) 33 36 rfl _ 1 8 Try.underlying33 info_u64 rfl (by decide) (.slice A j cap) j _ rfl HO2.out (some ⟨wr.heap.size, 0, none⟩) 1 1 (u64s [(new_ + (j : Int)) % 18446744073709551616]) rfl (by simp) HV.out (wf_u64s _) (by omega) (by decide) ?_; intro v' w3 hO hA hnil hblk; obtain ⟨A3, cap3, rfl, HZ3, HU3, HO3, e6, z6, HR3⟩ := hv_arm HR2.out HZ2.out HU2.out HF.out hO hA HO.out; clear hO hA hnil hblk)
        go_roundw
        case rel => exact ⟨j + 1, A3, cap3, ws ++ [(new_ + (j : Int)) % 18446744073709551616], by omega, by go_num, by rw [List.length_append, HWL.out]; rfl, fun x hx => by
          rcases List.mem_append.1 hx with h | h
          · exact HWW.out x h
          · rw [List.mem_singleton] at h; rw [h]; exact HV0.out, HR3.out, HZ3.out, HO3.out, HU3.out⟩
        case measure => simp [intOf]; omega
      · have hjm : j = m := by omega
        subst hjm
        obtain ⟨d0, d1, d2, d3, d4, d5, d6, d7, d8⟩ := vb_cells HR2.out
        obtain ⟨x0, x1, x2, x3, x4, x5, x6, x7, x8⟩ := vb_cells HZ2.out
        have f0 := HZ2.out.frozen 0
        have f1 := HZ2.out.frozen 1
        have f2 := HZ2.out.frozen 2
        have f3 := HZ2.out.frozen 3
        have f4 := HZ2.out.frozen 4
        have f5 := HZ2.out.frozen 5
        have f6 := HZ2.out.frozen 6
        have f7 := HZ2.out.frozen 7
        have f8 := HZ2.out.frozen 8
        have HF := Lib.hid (fun k hk => (HO.out.block (k := k) hk).1)
        have HNR := Lib.hid (HO.out.notRow HZ2.out (by decide))
        go_wp2_with fail
        go_at_call 23
        refine (HP.out _).mono ?_
        rintro e w' ⟨rfl, rfl⟩
        go_wp2_with fail
        refine bodyPost_ret (v := .agg (vbC ⟨k, (nd : Int) - 1, (at_ : Int) - 8, n', old, new_, ws, key, boot⟩ (.slice A j cap))) (by simp [results, Try.results120, go_sem, vbC, x0, x1, x2, x3, x4, x5, x6, x7, x8]) rfl ?_
        have hset : Upd (One w.heap.size) wr _ := ((((((((((Upd.refl (One w.heap.size) wr).setCell (p := ⟨w.heap.size, 0, none⟩) (.inl rfl) (.int .i64 k)).setCell (p := ⟨w.heap.size, 1, none⟩) (.inl rfl) (.int .i64 ((nd : Int) - 1))).setCell (p := ⟨w.heap.size, 2, none⟩) (.inl rfl) (.int .i64 ((at_ : Int) - 8))).setCell (p := ⟨w.heap.size, 3, none⟩) (.inl rfl) (.int .i64 n')).setCell (p := ⟨w.heap.size, 4, none⟩) (.inl rfl) (.int .u64 old)).setCell (p := ⟨w.heap.size, 5, none⟩) (.inl rfl) (.int .u64 new_)).setCell (p := ⟨w.heap.size, 6, none⟩) (.inl rfl) (.slice A j cap)).setCell (p := ⟨w.heap.size, 7, none⟩) (.inl rfl) (.int .u64 key)).setCell (p := ⟨w.heap.size, 8, none⟩) (.inl rfl) (.int .i64 boot))
        have hl := HWL.out
        refine ⟨⟨k, (nd : Int) - 1, (at_ : Int) - 8, n', old, new_, ws, key, boot⟩, A, cap, by rw [hl], ⟨by dsimp only; omega, by dsimp only; omega, by dsimp only; omega, by dsimp only; omega, by dsimp only; omega, by dsimp only; omega, hn0', hn1', ho0, ho1, hn0, hn1, by dsimp only; omega, by dsimp only; omega, by dsimp only; omega, by dsimp only; omega, by rw [hl]; exact hm22, HWW.out⟩, rfl, rfl, ?_, ?_⟩
        · rw [hl]
          exact (HO.out.keepB hset (fun k hk e => HNR.out (by rw [hk]; exact congrArg some e))).mono fun k hk hlt => ⟨hk, hlt⟩
        · exact HU2.out.trans hset fun i hi e => by have e : i = w.heap.size := e; omega
end Go.Proofs.Ytlhbikiggmdolaa
