/- The regions of the memory map (LayoutApart): the list that 'regions' returns. -/
import Derived.Test.YtlhbikiggmdolaaLayout
import Derived.Deep.LoopGhost
namespace Go.Proofs.Ytlhbikiggmdolaa
open Go.RowKit

def exA : List (Nat × Nat) := [(0, 2)]
def exB (k : Nat) : List (Nat × Nat) := (List.range k).map fun v => (8 + v, 1)
def ex6 (c : Nat) : List (Nat × Nat) := [(24 + c, 1), (32 + c, 1), (40 + c, 1), ((6 + c * 15) * 8, 1), ((6 + c * 15) * 8 + 1, 1), ((6 + c * 15) * 8 + 8, 112)]
def exC (k : Nat) : List (Nat × Nat) := (List.range k).flatMap ex6
def exD (k : Nat) : List (Nat × Nat) := (List.range k).map fun p => ((96 + p) * 8, 8)
/-- All regions, first word and number of words. -/
def exts : List (Nat × Nat) := exA ++ exB 16 ++ exC 6 ++ exD 160
def exs (l : List (Nat × Nat)) : List Value := l.flatMap fun x => [.int .i64 x.1, .int .i64 x.2]
theorem exs_append (l m : List (Nat × Nat)) : exs (l ++ m) = exs l ++ exs m := by simp [exs]
theorem exs_length (l : List (Nat × Nat)) : (exs l).length = l.length * 2 := by
  induction l with
  | nil => rfl
  | cons a l ih => simp only [exs, List.flatMap_cons, List.length_append, List.length_cons, List.length_nil] at *; omega
theorem exB_succ (k : Nat) : exB (k + 1) = exB k ++ [(8 + k, 1)] := by simp [exB, List.range_succ]
theorem exC_succ (k : Nat) : exC (k + 1) = exC k ++ ex6 k := by simp [exC, List.range_succ]
theorem exD_succ (k : Nat) : exD (k + 1) = exD k ++ [((96 + k) * 8, 8)] := by simp [exD, List.range_succ]
theorem exB_length (k : Nat) : (exB k).length = k := by simp [exB]
theorem exC_length (k : Nat) : (exC k).length = k * 6 := by
  induction k with
  | zero => rfl
  | succ k ih => rw [exC_succ, List.length_append, ih]; simp [ex6]; omega
theorem exD_length (k : Nat) : (exD k).length = k := by simp [exD]

theorem info_ext : (Try.prog.info? 26).map (fun i => (i.zero, i.size, i.bytes)) = some (some (.agg #[.int .i64 0, .int .i64 0]), 2, 16) := by kernel_rfl

theorem own_past {wr w2 : World} {F : Blk} {e : TypeId} {s : Nat} {v : Value} {n : Nat} {xs : List Value} (h : Own wr F e s v n xs) (hu : Upd Non wr w2) (o : Obj) : Own (w2.alloc o) F e s v n xs :=
  (h.keep hu (fun _ _ h => h)).keep (M := Non) ((Upd.refl _ _).alloc o) (fun _ _ h => h)
/-- What an append to a slice of the call's own leaves. -/
theorem app_done {w w2 w3 : World} {e : TypeId} {s n : Nat} {v v' : Value} {xs : List Value} {o : Obj} (hU : Upd Non w w2)
    (hF : ∀ k, v.ownBlock = some k → w.heap.size ≤ k)
    (hO : Own w3 (fun k => w.heap.size ≤ k ∨ New (w2.alloc o) w3 k) e s v' n xs) (hA : Upd (fun k => v.ownBlock = some k) (w2.alloc o) w3) :
    Own w3 (fun b => w.heap.size ≤ b) e s v' n xs ∧ Upd Non w w3 := by
  refine ⟨hO.mono fun k hk _ => ?_, (hU.alloc o).trans hA fun i hi hk => ?_⟩
  · rcases hk with h | h
    · exact h
    · have := h.1; have := hU.size; simp at *; omega
  · have := hF i hk; omega
theorem view_new (w : World) (c : Array Value) (T : TypeId) (s n : Nat) (hc : c.size = n * s) : View (w.alloc (.cells c T)) (fun _ => True) s (some ⟨w.heap.size, 0, none⟩) n c.toList :=
  View.ofRow (Row.new w c T) _ trivial s n 0 _ (by simpa using hc) (by rw [List.drop_zero, List.take_length])

set_option maxRecDepth 100000 in
theorem regions_calls (w : World) : Calls Try.prog 21 #[] w fun e w' => ∃ v, e = .returned v ∧ Own w' (fun b => w.heap.size ≤ b) 26 2 v exts.length (exs exts) ∧ Upd Non w w' := by
  go_enter Try.func21, Try.ntmps21
  go_wp2_with fail
  go_loopw [1, 2] (fun v i wr => ∃ k : Nat, k ≤ 16 ∧ i = .int .i64 k ∧ Own wr (fun b => w.heap.size ≤ b) 26 2 v (1 + k) (exs (exA ++ exB k)) ∧ Upd Non w wr) (fun _ i _ => 16 - (intOf i).toNat)
  case atStart =>
    refine ⟨0, Nat.zero_le _, rfl, ⟨rfl, .inr ⟨w.heap.size, 1, [], rfl, Nat.le_refl _, ?_, rfl, Nat.le_refl _, by decide⟩⟩, (Upd.refl _ _).alloc _⟩
    exact Row.new w #[.int .i64 0, .int .i64 2] 26
  case round =>
    obtain ⟨k, hk, rfl, hown, hupd⟩ := hrel
    have HO := Lib.hid hown
    have HU := Lib.hid hupd
    clear hown hupd
    by_cases hlt : k < 16
    · go_wp2_with fail
      refine (cons_calls _ _).mono ?_
      rintro e w2 ⟨rfl, hu2⟩
      have HU2 := Lib.hid (HU.out.tr hu2)
      have HO2 := Lib.hid (own_past HO.out hu2 (.cells #[.int .i64 (8 + (k : Int)), .int .i64 1] 26))
      have HV := Lib.hid (view_new w2 #[.int .i64 (8 + (k : Int)), .int .i64 1] 26 2 1 rfl)
      rw [show regF 1 16 k = 8 + k by unfold regF; split <;> omega]
      clear hu2
      go_wp2_with (at_builtin; refine wpList_app _ rfl (.tmp 11) (.tmp 15) 22 26 rfl _ 2 16 Try.underlying22 info_ext rfl (by decide) _ _ _ rfl HO2.out (some ⟨w2.heap.size, 0, none⟩) 1 1 _ rfl (by simp) HV.out (by simp [Value.oneCell']) (by omega) (by decide) ?_; intro v' w3 hO hA hnil hblk)
      obtain ⟨hO3, hU3⟩ := app_done HU2.out (fun k hk => (HO.out.block hk).1) hO hA
      have HO3 := Lib.hid hO3
      have HU3 := Lib.hid hU3
      clear hO hA hnil hblk hO3 hU3
      go_wp2_with fail
      go_roundw
      case rel => exact ⟨k + 1, by omega, by go_num, by rw [exB_succ, ← List.append_assoc, exs_append]; simpa [exs, Nat.add_assoc] using HO3.out, HU3.out⟩
      case measure => simp [intOf]; omega
    · have hk16 : k = 16 := by omega
      have HO0 := Lib.hid HO.out
      rw [hk16] at HO0
      clear hk16
      have HU0 := Lib.hid HU.out
      clear HO HU
      go_wp2_with fail
      go_loopw [1, 3] (fun v i wr => ∃ k : Nat, k ≤ 6 ∧ i = .int .i64 k ∧ Own wr (fun b => w.heap.size ≤ b) 26 2 v (17 + k * 6) (exs (exA ++ exB 16 ++ exC k)) ∧ Upd Non w wr) (fun _ i _ => 6 - (intOf i).toNat)
      case atStart => exact ⟨0, Nat.zero_le _, rfl, by simpa [exC] using HO0.out, HU0.out⟩
      case round =>
        obtain ⟨k, hk, rfl, hown, hupd⟩ := hrel
        have HO := Lib.hid hown
        have HU := Lib.hid hupd
        clear hown hupd HO0 HU0
        by_cases hlt : k < 6
        · go_wp2_with fail
          refine (door_calls _ _).mono ?_
          rintro e a0 ⟨rfl, hu⟩
          have HU0 := Lib.hid (HU.out.tr hu)
          have HV0 := Lib.hid (hu)
          clear hu
          rw [show regF 3 6 k = 24 + k by unfold regF; split <;> omega]
          go_wp2_with fail
          refine (clock_calls _ _).mono ?_
          rintro e a1 ⟨rfl, hu⟩
          have HU1 := Lib.hid (HU0.out.tr hu)
          have HV1 := Lib.hid (HV0.out.tr hu)
          clear hu
          rw [show regF 4 6 k = 32 + k by unfold regF; split <;> omega]
          go_wp2_with fail
          refine (lease_calls _ _).mono ?_
          rintro e a2 ⟨rfl, hu⟩
          have HU2 := Lib.hid (HU1.out.tr hu)
          have HV2 := Lib.hid (HV1.out.tr hu)
          clear hu
          rw [show regF 5 6 k = 40 + k by unfold regF; split <;> omega]
          go_wp2_with fail
          refine (mark_calls _ _).mono ?_
          rintro e a3 ⟨rfl, hu⟩
          have HU3 := Lib.hid (HU2.out.tr hu)
          have HV3 := Lib.hid (HV2.out.tr hu)
          clear hu
          rw [show logF k 0 = (6 + k * 15) * 8 by unfold logF; split <;> omega]
          go_wp2_with fail
          refine (tag_calls _ _).mono ?_
          rintro e a4 ⟨rfl, hu⟩
          have HU4 := Lib.hid (HU3.out.tr hu)
          have HV4 := Lib.hid (HV3.out.tr hu)
          clear hu
          rw [show logF k 1 = (6 + k * 15) * 8 + 1 by unfold logF; split <;> omega]
          go_wp2_with fail
          refine (body_calls _ _).mono ?_
          rintro e a5 ⟨rfl, hu⟩
          have HU5 := Lib.hid (HU4.out.tr hu)
          have HV5 := Lib.hid (HV4.out.tr hu)
          clear hu
          rw [show logF k 8 = (6 + k * 15) * 8 + 8 by unfold logF; split <;> omega]
          have HO2 := Lib.hid (own_past HO.out HV5.out (.cells #[.int .i64 (24 + (k : Int)), .int .i64 1, .int .i64 (32 + (k : Int)), .int .i64 1, .int .i64 (40 + (k : Int)), .int .i64 1, .int .i64 ((6 + (k : Int) * 15) * 8), .int .i64 1, .int .i64 ((6 + (k : Int) * 15) * 8 + 1), .int .i64 1, .int .i64 ((6 + (k : Int) * 15) * 8 + 8), .int .i64 112] 26))
          have HW := Lib.hid (view_new a5 #[.int .i64 (24 + (k : Int)), .int .i64 1, .int .i64 (32 + (k : Int)), .int .i64 1, .int .i64 (40 + (k : Int)), .int .i64 1, .int .i64 ((6 + (k : Int) * 15) * 8), .int .i64 1, .int .i64 ((6 + (k : Int) * 15) * 8 + 1), .int .i64 1, .int .i64 ((6 + (k : Int) * 15) * 8 + 8), .int .i64 112] 26 2 6 rfl)
          go_wp2_with (at_builtin; refine wpList_app _ rfl (.tmp 21) (.tmp 40) 22 26 rfl _ 2 16 Try.underlying22 info_ext rfl (by decide) _ _ _ rfl HO2.out (some ⟨a5.heap.size, 0, none⟩) 6 6 _ rfl (by simp) HW.out (by simp [Value.oneCell']) (by omega) (by decide) ?_; intro v' w3 hO hA hnil hblk)
          obtain ⟨hO3, hU3⟩ := app_done HU5.out (fun k hk => (HO.out.block hk).1) hO hA
          have HO3 := Lib.hid hO3
          have HU3 := Lib.hid hU3
          clear hO hA hnil hblk hO3 hU3
          go_wp2_with fail
          go_roundw
          case rel => exact ⟨k + 1, by omega, by go_num, by rw [exC_succ, ← List.append_assoc, exs_append, show 17 + (k + 1) * 6 = 17 + k * 6 + 6 by omega]; simpa [exs, ex6] using HO3.out, HU3.out⟩
          case measure => simp [intOf]; omega
        · have hk6 : k = 6 := by omega
          have HO0 := Lib.hid HO.out
          rw [hk6] at HO0
          clear hk6
          have HU0 := Lib.hid HU.out
          clear HO HU
          go_wp2_with fail
          go_loopw [1, 4] (fun v i wr => ∃ k : Nat, k ≤ 160 ∧ i = .int .i64 (96 + k : Nat) ∧ Own wr (fun b => w.heap.size ≤ b) 26 2 v (53 + k) (exs (exA ++ exB 16 ++ exC 6 ++ exD k)) ∧ Upd Non w wr) (fun _ i _ => 256 - (intOf i).toNat)
          case atStart => exact ⟨0, Nat.zero_le _, rfl, by simpa [exD] using HO0.out, HU0.out⟩
          case round =>
            obtain ⟨k, hk, rfl, hown, hupd⟩ := hrel
            have HO := Lib.hid hown
            have HU := Lib.hid hupd
            clear hown hupd HO0 HU0
            by_cases hlt : k < 160
            · go_wp2_with fail
              refine (page_calls _ _).mono ?_
              rintro e w2 ⟨rfl, hu2⟩
              have HU2 := Lib.hid (HU.out.tr hu2)
              have HO2 := Lib.hid (own_past HO.out hu2 (.cells #[.int .i64 ((96 + (k : Int)) * 8), .int .i64 8] 26))
              have HV := Lib.hid (view_new w2 #[.int .i64 ((96 + (k : Int)) * 8), .int .i64 8] 26 2 1 rfl)
              rw [show pageF (96 + (k : Int)) = (96 + (k : Int)) * 8 by unfold pageF; split <;> omega]
              clear hu2
              go_wp2_with (at_builtin; refine wpList_app _ rfl (.tmp 46) (.tmp 50) 22 26 rfl _ 2 16 Try.underlying22 info_ext rfl (by decide) _ _ _ rfl HO2.out (some ⟨w2.heap.size, 0, none⟩) 1 1 _ rfl (by simp) HV.out (by simp [Value.oneCell']) (by omega) (by decide) ?_; intro v' w3 hO hA hnil hblk)
              obtain ⟨hO3, hU3⟩ := app_done HU2.out (fun k hk => (HO.out.block hk).1) hO hA
              have HO3 := Lib.hid hO3
              have HU3 := Lib.hid hU3
              clear hO hA hnil hblk hO3 hU3
              go_wp2_with fail
              go_roundw
              case rel => exact ⟨k + 1, by omega, by go_num, by rw [exD_succ, ← List.append_assoc, exs_append]; simpa [exs, Nat.add_assoc] using HO3.out, HU3.out⟩
              case measure => simp [intOf]; omega
            · obtain rfl : k = 160 := by omega
              go_wp2_with fail
              go_ret
              exact ⟨_, rfl, by simpa [exts, exA, exB_length, exC_length, exD_length] using HO.out, HU.out⟩
end Go.Proofs.Ytlhbikiggmdolaa
