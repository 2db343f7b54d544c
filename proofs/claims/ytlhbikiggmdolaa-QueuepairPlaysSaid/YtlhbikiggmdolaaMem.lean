/- Contracts of package memnode's functions: what each does to a node in memory. -/
import Derived.Test.YtlhbikiggmdolaaHeap
import Derived.Test.YtlhbikiggmdolaaProg
import Derived.BigQuiet
import Derived.Deep.QuietTactic
import Derived.StillTactics
import Derived.RegionTactic
import Derived.Laws.CopyOwn
import Derived.Deep.OwnRows
namespace Go.Proofs.Ytlhbikiggmdolaa
open Go.RowKit

theorem info_u64 : (Try.prog.info? 36).map (fun i => (i.zero, i.size, i.bytes)) = some (some (.int .u64 0), 1, 8) := by kernel_rfl

/-- A memory node at block p: its words, whether it is up; what it consists of lies in F. -/
def NodeR (w : World) (F : Blk) (p : Nat) (ws : List Int) (up : Bool) : Prop :=
  ∃ q sp, Row w p 140 [.slice (some ⟨q, 0, none⟩) ws.length (ws.length + sp), .bool (!up)] ∧ (∃ spare, spare.length = sp ∧ Row w q 36 (u64s ws ++ spare)) ∧ F p ∧ F q ∧ ws.length ≤ 2048

theorem NodeR.keep {M F : Blk} {w w' : World} {p : Nat} {ws : List Int} {up : Bool} (h : NodeR w F p ws up) (hu : Upd M w w') (hd : ∀ k, F k → ¬ M k) : NodeR w' F p ws up := by
  obtain ⟨q, sp, hp, ⟨spare, hs, hq⟩, fp, fq, hl⟩ := h
  exact ⟨q, sp, hu.row hp (hd _ fp), ⟨spare, hs, hu.row hq (hd _ fq)⟩, fp, fq, hl⟩
theorem NodeR.mono {F F' : Blk} {w : World} {p : Nat} {ws : List Int} {up : Bool} (h : NodeR w F p ws up) (hF : ∀ k, F k → k < w.heap.size → F' k) : NodeR w F' p ws up := by
  obtain ⟨q, sp, hp, ⟨spare, hs, hq⟩, fp, fq, hl⟩ := h
  exact ⟨q, sp, hp, ⟨spare, hs, hq⟩, hF _ fp hp.lt, hF _ fq hq.lt, hl⟩

/-- The error of an access of count words from address at on. -/
def accE (len : Nat) (up : Bool) (at_ count : Int) : Int :=
  if count < 1 ∨ at_ < 0 ∨ at_ ≥ len ∨ count > len - at_ then 2 else if up then 0 else 4
theorem accE_ok {len : Nat} {up : Bool} {a c : Int} (h : accE len up a c = 0) : 1 ≤ c ∧ 0 ≤ a ∧ a < len ∧ c ≤ len - a ∧ up = true := by
  unfold accE at h
  split at h
  · simp at h
  · split at h
    · exact ⟨by omega, by omega, by omega, by omega, by assumption⟩
    · simp at h
theorem accE_cases (len : Nat) (up : Bool) (a c : Int) : accE len up a c = 0 ∨ accE len up a c = 2 ∨ accE len up a c = 4 := by
  unfold accE; split
  · simp
  · split <;> simp

theorem u64s_at {ws : List Int} {spare : List Value} {i : Nat} (h : i < ws.length) : (u64s ws ++ spare)[i]? = some (.int .u64 (ws.getD i 0)) := by
  rw [List.getElem?_append_left (by simpa [u64s] using h), u64s_get]; simp [List.getD_eq_getElem?_getD, List.getElem?_eq_getElem h]

theorem boot_calls {w : World} {F : Blk} {p : Nat} {ws : List Int} {up : Bool} (h : NodeR w F p ws up) (hl : 2 ≤ ws.length) :
    Calls Try.prog 27 #[.pointer (some ⟨p, 0, none⟩)] w fun e w' => e = .returned (.int .u64 (ws.getD 1 0)) ∧ w = w' := by
  obtain ⟨q, sp, hp, ⟨spare, hs, hq⟩, _, _, _⟩ := h
  have c0 := hp.cell 0 rfl
  have c1 : w.cell? ⟨q, 1, none⟩ = some (.int .u64 (ws.getD 1 0)) := hq.cell 1 (u64s_at (by omega))
  clear hp hq hs
  go_enter Try.func27, Try.ntmps27
  go_wp2
  go_ret
  exact ⟨rfl, rfl⟩

theorem up_calls {w : World} {F : Blk} {p : Nat} {ws : List Int} {up : Bool} (h : NodeR w F p ws up) :
    Calls Try.prog 55 #[.pointer (some ⟨p, 0, none⟩)] w fun e w' => e = .returned (.bool up) ∧ w = w' := by
  obtain ⟨q, sp, hp, ⟨spare, hs, hq⟩, _, _, _⟩ := h
  have c0 := hp.cell 1 rfl
  clear hp hq hs
  go_enter Try.func55, Try.ntmps55
  go_wp2
  go_ret
  exact ⟨ret_bool (by simp), rfl⟩

theorem lines_calls {w : World} {F : Blk} {p : Nat} {ws : List Int} {up : Bool} (h : NodeR w F p ws up) :
    Calls Try.prog 77 #[.pointer (some ⟨p, 0, none⟩)] w fun e w' => e = .returned (.int .i64 (ws.length / 8 : Nat)) ∧ w = w' := by
  obtain ⟨q, sp, hp, ⟨spare, hs, hq⟩, _, _, hl⟩ := h
  have c0 := hp.cell 0 rfl
  clear hp hq hs
  go_enter Try.func77, Try.ntmps77
  go_wp2
  go_ret
  exact ⟨ret_int (by omega), rfl⟩

theorem fail_calls {w : World} {F : Blk} {p : Nat} {ws : List Int} {up : Bool} (h : NodeR w F p ws up) :
    Calls Try.prog 52 #[.pointer (some ⟨p, 0, none⟩)] w fun e w' => e = .returned (.tuple #[]) ∧ NodeR w' F p ws false ∧ Upd F w w' := by
  obtain ⟨q, sp, hp, ⟨spare, hs, hq⟩, fp, fq, hl⟩ := h
  have c0 := hp.cell 1 rfl
  have z0 := hp.frozen 1
  go_enter Try.func52, Try.ntmps52
  go_wp2
  go_end0
  have hne := hp.ne hq (by decide)
  exact ⟨rfl, ⟨q, sp, hp.set 1 _, ⟨spare, hs, hq.setOther (Ne.symm hne) _ _⟩, fp, fq, hl⟩, (Upd.refl _ _).setCell (.inl fp) _⟩

theorem check_calls {w : World} {F : Blk} {p : Nat} {ws : List Int} {up : Bool} (h : NodeR w F p ws up) (at_ count : Int) :
    Calls Try.prog 111 #[.pointer (some ⟨p, 0, none⟩), .int .i64 at_, .int .i64 count] w fun e w' => e = .returned (.int .i64 (accE ws.length up at_ count)) ∧ w = w' := by
  obtain ⟨q, sp, hp, ⟨spare, hs, hq⟩, _, _, hl⟩ := h
  have c0 := hp.cell 0 rfl
  have c1 := hp.cell 1 rfl
  clear hp hq hs
  cases up <;>
  · go_enter Try.func111, Try.ntmps111
    go_wp2
    all_goals (go_ret; exact ⟨ret_int (by unfold accE; simp <;> omega), rfl⟩)

/-- slices.Clone of words. -/
theorem clone64_calls {w : World} {G : Blk} {A : Option Addr} {n cap : Nat} {c : List Value} (hA : A = none → n = 0 ∧ cap = 0) (hv : View w G 1 A n c) (h1 : ∀ u ∈ c, u.oneCell' = true) (hn : n * 8 ≤ 140737488355328) :
    Calls Try.prog 112 #[.slice A n cap] w fun e w' => ∃ v, e = .returned v ∧ Own w' (New w w') 36 1 v n c ∧ Upd Non w w' ∧ (v = .slice none 0 0 ↔ A = none) := by
  cases A with
  | none =>
    obtain ⟨rfl, rfl⟩ := hA rfl
    have hc : c = [] := List.eq_nil_of_length_eq_zero (by simpa using hv.1)
    subst hc
    have he := fun w => Lib.run_eql_slice_nil (P := Try.prog) w 33 36 none 0 0 0 0 Try.underlying33
    go_enter Try.func112, Try.ntmps112
    go_wp2
    go_ret
    exact ⟨_, rfl, Own.nil _ _ _ _, Upd.refl _ _, by simp⟩
  | some ad =>
    have he := fun w => Lib.run_eql_slice_nil (P := Try.prog) w 33 36 (some ad) n cap 0 0 Try.underlying33
    have hv' : View (w.alloc (.cells #[] 36)) G 1 (some ad) n c := View.keep (M := Non) hv ((Upd.refl _ _).alloc _) (fun _ _ h => h)
    have ho : Own (w.alloc (.cells #[] 36)) (One w.heap.size) 36 1 (.slice (some ⟨w.heap.size, 0, none⟩) 0 0) 0 [] :=
      ⟨by simp, .inr ⟨w.heap.size, 0, [], rfl, rfl, by simpa using Row.new w #[] 36, by simp, Nat.le_refl _, by decide⟩⟩
    go_enter Try.func112, Try.ntmps112
    go_wp2_with (at_builtin; refine wpList_app G rfl (.tmp 5) (.tmp 6) 33 36 rfl (.int .u64 0) 1 8 Try.underlying33 info_u64 rfl (by decide) (.slice (some ⟨w.heap.size, 0, none⟩) 0 0) 0 [] rfl ho (some ad) n cap c rfl (by simp) hv' h1 (by omega) (by decide) ?_; intro v' w1 hown hupd hnil hblk)
    go_ret
    refine ⟨_, rfl, ?_, ?_, by simp [hnil]⟩
    · have := hown.mono (F' := New w w1) fun k hk hlt => by
        rcases hk with rfl | hk
        · exact ⟨Nat.le_refl _, hlt⟩
        · exact ⟨by have := hk.1; simp at this; omega, hlt⟩
      simpa using this
    · exact ((Upd.refl Non w).alloc _).trans hupd fun i hi hk => by simp [Value.ownBlock] at hk; omega

theorem wf_u64s (ws : List Int) : ∀ u ∈ u64s ws, u.oneCell' = true := by
  intro u hu; simp only [u64s, List.mem_map] at hu; obtain ⟨a, _, rfl⟩ := hu; rfl

theorem read_ok {w : World} {F : Blk} {p : Nat} {ws : List Int} {up : Bool} (h : NodeR w F p ws up) (at_ count : Nat) (ha : accE ws.length up at_ count = 0) :
    Calls Try.prog 26 #[.pointer (some ⟨p, 0, none⟩), .int .i64 at_, .int .i64 count] w fun e w' =>
      ∃ v, e = .returned (.tuple #[v, .int .i64 0]) ∧ Own w' (New w w') 36 1 v count (u64s ((ws.drop at_).take count)) ∧ Upd Non w w' ∧ v ≠ .slice none 0 0 := by
  have hc := check_calls h at_ count
  rw [ha] at hc
  obtain ⟨a1, a2, a3, a4, a5⟩ := accE_ok ha
  obtain ⟨q, sp, hp, ⟨spare, hs, hq⟩, _, _, hl⟩ := h
  have c0 := hp.cell 0 rfl
  have hv : View w (fun _ => True) 1 (some ⟨q, at_, none⟩) count (u64s ((ws.drop at_).take count)) := by
    refine View.ofRow hq _ trivial 1 count at_ _ ?_ ?_
    · simp [u64s]; omega
    · rw [List.drop_append_of_le_length (by simp [u64s]; omega), List.take_append_of_le_length (by simp [u64s]; omega)]
      simp [u64s, List.map_take, List.map_drop]
  clear hp hq hs
  have H := Lib.hid hc
  clear hc ha
  go_enter Try.func26, Try.ntmps26
  go_wp2_with (first
    | (go_at_call 111; refine H.out.mono ?_; rintro e w' ⟨rfl, rfl⟩)
    | (go_at_call 112; refine (clone64_calls (by simp) hv (wf_u64s _) (by omega)).mono ?_; rintro e w1 ⟨v, rfl, hown, hupd, hnil⟩))
  go_ret2
  exact ⟨_, rfl, hown, hupd, by simp [hnil]⟩
end Go.Proofs.Ytlhbikiggmdolaa
