/- bodegalaw3.swap: Cas and Add on the program's node and on the reference's. -/
import Derived.Test.YtlhbikiggmdolaaRef3
namespace Go.Proofs.Ytlhbikiggmdolaa
open Go.RowKit

theorem wrapU (x : Int) : IntKind.u64.wrap x = x % 18446744073709551616 := by simp [IntKind.wrap_u64]
/-- An operation as a value. -/
def opV (kd at_ cn a b : Int) : Value := .agg #[.int .i64 kd, .int .i64 at_, .int .i64 cn, .int .u64 a, .int .u64 b]
def opC (kd at_ cn a b : Int) : Array Value := #[.int .i64 kd, .int .i64 at_, .int .i64 cn, .int .u64 a, .int .u64 b]

/-- Both nodes hold the same. -/
def Both (w : World) (F G : Blk) (p b off : Nat) (T : TypeId) (c : List Value) (ws : List Int) (up : Bool) : Prop := NodeR w F p ws up ∧ RefN w G b off T c ws up
theorem Both.keep {M F G : Blk} {w w' : World} {p b off : Nat} {T : TypeId} {c : List Value} {ws : List Int} {up : Bool} (h : Both w F G p b off T c ws up) (hu : Upd M w w') (hF : ∀ k, F k → ¬ M k) (hG : ∀ k, G k → ¬ M k) : Both w' F G p b off T c ws up :=
  ⟨h.1.keep hu hF, h.2.keep hu hG⟩
theorem Both.keepN {F G : Blk} {w w' : World} {p b off : Nat} {T : TypeId} {c : List Value} {ws : List Int} {up : Bool} (h : Both w F G p b off T c ws up) (hu : Upd Non w w') : Both w' F G p b off T c ws up :=
  h.keep hu (fun _ _ h => h) (fun _ _ h => h)

/-- All words are words. -/
def Wf (ws : List Int) : Prop := ∀ x ∈ ws, 0 ≤ x
theorem Wf.set {ws : List Int} (h : Wf ws) (i : Nat) {x : Int} (hx : 0 ≤ x) : Wf (ws.set i x) := fun y hy => by
  rcases List.mem_or_eq_of_mem_set hy with h1 | h1
  · exact h y h1
  · omega
theorem Wf.getD {ws : List Int} (h : Wf ws) (i : Nat) : 0 ≤ ws.getD i 0 := by
  rw [List.getD_eq_getElem?_getD]
  cases e : ws[i]? with
  | none => simp
  | some x => exact h x (List.mem_of_getElem? e)

/-- What a step that leaves up as it was leaves. -/
def Same3 (w : World) (F G : Blk) (p b off : Nat) (T : TypeId) (c : List Value) (ws : List Int) (up : Bool) (w' : World) : Prop :=
  ∃ ws', ws'.length = ws.length ∧ (Wf ws → Wf ws') ∧ Both w' F G p b off T c ws' up ∧ Upd (Or2 F G) w w'

theorem RefN.put {G : Blk} {w : World} {b off : Nat} {T : TypeId} {c : List Value} {ws : List Int} {up : Bool} (h : RefN w G b off T c ws up) {q n cap : Nat} (hq : c[off]? = some (.slice (some ⟨q, 0, none⟩) n cap)) (i : Nat) (hi : i < ws.length) (x : Int) :
    RefN (w.setCell ⟨q, i, none⟩ (.int .u64 x)) G b off T c (ws.set i x) up := by
  obtain ⟨hb, q', sp, h1, h2, ⟨spare, hs, hr⟩, gb, gq, hne, hl⟩ := h
  rw [hq] at h1
  simp only [Option.some.injEq, Value.slice.injEq, Addr.mk.injEq] at h1
  obtain ⟨⟨rfl, _⟩, rfl, rfl⟩ := h1
  refine ⟨hb.setOther (Ne.symm hne) _ _, q, sp, by rw [List.length_set]; exact hq, h2, ⟨spare, hs, ?_⟩, gb, gq, hne, by simpa using hl⟩
  rw [← u64s_set _ _ _ _ hi]; exact hr.set _ _

set_option maxHeartbeats 1000000 in
theorem swap_bad {w : World} {F G : Blk} {p b off : Nat} {T : TypeId} {c : List Value} {ws : List Int} {up : Bool} (h : Both w F G p b off T c ws up) (kd at0 cn a v at_ : Int) (ha : accE ws.length up at_ 1 ≠ 0) (_ha0 : 0 ≤ a) :
    Calls Try.prog 118 #[.pointer (some ⟨p, 0, none⟩), .pointer (some ⟨b, off, none⟩), opV kd at0 cn a v, .int .i64 at_] w fun e w' => e = .returned (.bool true) ∧ Upd Non w w' := by
  have HP := Lib.hid (fun w => pick_calls kd 10 w (by decide) (by decide))
  have HB := Lib.hid (fun w' hu => h.keepN (w' := w') hu)
  have HE := Lib.hid ha
  have HW : Hid (Upd Non w (w.alloc (.cells (opC kd at0 cn a v) 49))) := (Upd.refl _ _).alloc _
  have hb : (accE ws.length up at_ 1 == 0) = false := by simpa using ha
  have hb' : (accE ws.length up at_ 1 != 0) = true := by simpa using ha
  clear h ha
  unfold opV
  unfold opC at HW
  by_cases hk : kd % 10 = 4
  · have hk1 : (kd % 10 == 4) = true := by simpa using hk
    have HK := Lib.hid hk
    clear hk
    go_enter Try.func118, Try.ntmps118
    go_wp2_with (go_at_call 117; refine (access_calls (HB.out _ HW.out).2 at_ 1).mono ?_; rintro e w' ⟨rfl, rfl⟩)
    go_quiet (fail)
    go_wp2_with (first
      | (go_at_call 23; refine (HP.out _).mono ?_; rintro e w' ⟨rfl, rfl⟩)
      | (go_at_call 53; refine (cas_bad (HB.out _ (HW.out.drewN _)).1 at_ _ _ HE.out).mono ?_; rintro e w' ⟨rfl, rfl⟩))
    go_ret
    exact ⟨rfl, HW.out.drewN _⟩
  · have hk1 : (kd % 10 == 4) = false := by simpa using hk
    have HK := Lib.hid hk
    clear hk
    go_enter Try.func118, Try.ntmps118
    go_wp2_with (go_at_call 117; refine (access_calls (HB.out _ HW.out).2 at_ 1).mono ?_; rintro e w' ⟨rfl, rfl⟩)
    go_quiet (fail)
    go_wp2_with (first
      | (go_at_call 23; refine (HP.out _).mono ?_; rintro e w' ⟨rfl, rfl⟩)
      | (go_at_call 54; refine (add_bad (HB.out _ (HW.out.drewN _)).1 at_ _ HE.out).mono ?_; rintro e w' ⟨rfl, rfl⟩))
    go_ret
    exact ⟨rfl, HW.out.drewN _⟩

set_option maxHeartbeats 1000000 in
theorem swap_casEven {w : World} {F G : Blk} {p b off : Nat} {T : TypeId} {c : List Value} {ws : List Int} {up : Bool} (h : Both w F G p b off T c ws up) (hd : ∀ k, F k → ¬ G k) (hFb : ∀ k, F k → k < w.heap.size) (kd at0 cn a v at_ : Int) (ha : accE ws.length up at_ 1 = 0) (ha0 : 0 ≤ a) (hk : kd % 10 = 4) (he : a % 2 = 0) :
    Calls Try.prog 118 #[.pointer (some ⟨p, 0, none⟩), .pointer (some ⟨b, off, none⟩), opV kd at0 cn a v, .int .i64 at_] w fun e w' => e = .returned (.bool true) ∧ Same3 w F G p b off T c ws up w' := by
  have HP := Lib.hid (fun w => pick_calls kd 10 w (by decide) (by decide))
  obtain ⟨a1, a2, a3, a4, a5⟩ := accE_ok ha
  obtain ⟨i, rfl⟩ := Int.eq_ofNat_of_zero_le a2
  have hi : i < ws.length := by omega
  have HB := Lib.hid (fun w' hu => h.keepN (w' := w') hu)
  have HA := Lib.hid ha
  have HW : Hid (Upd Non w (w.alloc (.cells (opC kd at0 cn a v) 49))) := (Upd.refl _ _).alloc _
  have hAcc := (access_calls (HB.out _ HW.out).2 (i : Int) 1)
  rw [ha] at hAcc
  obtain ⟨hN, hR, q, sp, h1, h2, ⟨spare, hs, hrq⟩, gb, gq, hne, hl⟩ := h
  have c0 : (w.alloc (.cells (opC kd at0 cn a v) 49)).cell? ⟨b, off, none⟩ = _ := (HW.out.rowN hR).cell _ h1
  have c1 : (w.alloc (.cells (opC kd at0 cn a v) 49)).cell? ⟨q, i, none⟩ = some (.int .u64 (ws.getD i 0)) := (HW.out.rowN hrq).cell i (u64s_at (by omega))
  have HACC := Lib.hid hAcc
  have H1 := Lib.hid h1
  have hqF : ¬ F q := fun hf => hd q hf gq
  have hbF : ¬ F b := fun hf => hd b hf gb
  have HRW : Hid (Row (w.alloc (.cells (opC kd at0 cn a v) 49)) w.heap.size 49 (opC kd at0 cn a v).toList) := Row.new _ _ _
  have hFW : ¬ F w.heap.size := fun h => Nat.lt_irrefl _ (hFb _ h)
  clear hFb
  have HX : ∃ x, Hid (ws.getD i 0 = x) := ⟨_, rfl⟩
  obtain ⟨x, HX⟩ := HX
  rw [show ws.getD i 0 = x from HX.out] at c1
  have hk1 : (kd % 10 == 4) = true := by simpa using hk
  have he1 : (a % 2 == 0) = true := by simpa using he
  have HGB := Lib.hid gb
  have HGQ := Lib.hid gq
  have HF1 := Lib.hid hqF
  have HF2 := Lib.hid hbF
  have HF3 := Lib.hid hFW
  have HRQ := Lib.hid hrq
  have HRB := Lib.hid hR
  have HNE := Lib.hid hne
  clear ha hAcc hN hR h1 h2 hs hrq gb gq hne hl hk he hqF hbF hFW
  unfold opV
  unfold opC at HW c0 c1 HACC HRW
  go_enter Try.func118, Try.ntmps118
  go_wp2_with (go_at_call 117; refine HACC.out.mono ?_; rintro e w' ⟨rfl, rfl⟩)
  go_quiet (fail)
  go_wp2_with (go_at_call 23; refine (HP.out _).mono ?_; rintro e w' ⟨rfl, rfl⟩)
  refine (cas_okI (HB.out _ (HW.out.drewN _)).1 (i : Int) _ _ HA.out).mono ?_
  rintro e w2 ⟨rfl, hN2, hu2⟩
  rw [show ws.getD (i : Int).toNat 0 = x from HX.out] at *
  have HN2 := Lib.hid hN2
  have HU2 := Lib.hid hu2
  have HUW := Lib.hid (HW.out.drewN nq)
  have HR2 := Lib.hid ((HB.out _ HUW.out).2.keep (M := F) hu2 (fun k hg hf => hd k hf hg))
  have r0 : Row w2 b T c := hu2.row (HUW.out.rowN HRB.out) HF2.out
  have r1 : Row w2 q 36 (u64s ws ++ spare) := hu2.row (HUW.out.rowN HRQ.out) HF1.out
  have r2 : Row w2 w.heap.size 49 [.int .i64 kd, .int .i64 at0, .int .i64 cn, .int .u64 a, .int .u64 v] := hu2.row (HRW.out.drewN nq) HF3.out
  have d0 := r0.cell _ H1.out
  have d1 := r1.frozen i
  have d2 : w2.cell? ⟨q, i, none⟩ = some (.int .u64 x) := r1.cell i (by rw [← HX.out]; exact u64s_at (by omega))
  have b3 : w2.cell? ⟨w.heap.size, 3, none⟩ = some (.int .u64 a) := r2.cell 3 rfl
  have b4 : w2.cell? ⟨w.heap.size, 4, none⟩ = some (.int .u64 v) := r2.cell 4 rfl
  clear r0 r1 r2
  clear hN2 hu2 c0 c1
  go_wp2_with fail
  go_region
  go_wp2_with fail
  go_ret
  refine ⟨rfl, ws.set i (a), by simp, fun h => h.set i (ha0), ⟨?_, (HR2.out.put H1.out i hi _).keep (M := Non) ((Upd.refl _ _).drew) (fun _ _ h => h)⟩, (((HUW.out.of_non).tr (HU2.out.mono fun _ _ h => .inl h)).setCell (p := ⟨q, i, none⟩) (.inl (.inr HGQ.out)) _).drew⟩
  have hn := HN2.out
  simp only [casW] at hn
  rw [show ws.getD (i : Int).toNat 0 = x from HX.out] at hn
  rw [if_pos rfl] at hn
  exact hn.keep (M := One q) ((((Upd.refl (One q) _).setCell (p := ⟨q, i, none⟩) (.inl rfl) _)).drew) (fun k hf h => by cases h; exact HF1.out hf)

set_option maxHeartbeats 1000000 in
theorem swap_casNe {w : World} {F G : Blk} {p b off : Nat} {T : TypeId} {c : List Value} {ws : List Int} {up : Bool} (h : Both w F G p b off T c ws up) (hd : ∀ k, F k → ¬ G k) (hFb : ∀ k, F k → k < w.heap.size) (kd at0 cn a v at_ : Int) (ha : accE ws.length up at_ 1 = 0) (ha0 : 0 ≤ a) (hk : kd % 10 = 4) (he : a % 2 ≠ 0) (hq : ws.getD at_.toNat 0 ≠ v) :
    Calls Try.prog 118 #[.pointer (some ⟨p, 0, none⟩), .pointer (some ⟨b, off, none⟩), opV kd at0 cn a v, .int .i64 at_] w fun e w' => e = .returned (.bool true) ∧ Same3 w F G p b off T c ws up w' := by
  have HP := Lib.hid (fun w => pick_calls kd 10 w (by decide) (by decide))
  obtain ⟨a1, a2, a3, a4, a5⟩ := accE_ok ha
  obtain ⟨i, rfl⟩ := Int.eq_ofNat_of_zero_le a2
  have hi : i < ws.length := by omega
  have HB := Lib.hid (fun w' hu => h.keepN (w' := w') hu)
  have HA := Lib.hid ha
  have HW : Hid (Upd Non w (w.alloc (.cells (opC kd at0 cn a v) 49))) := (Upd.refl _ _).alloc _
  have hAcc := (access_calls (HB.out _ HW.out).2 (i : Int) 1)
  rw [ha] at hAcc
  obtain ⟨hN, hR, q, sp, h1, h2, ⟨spare, hs, hrq⟩, gb, gq, hne, hl⟩ := h
  have c0 : (w.alloc (.cells (opC kd at0 cn a v) 49)).cell? ⟨b, off, none⟩ = _ := (HW.out.rowN hR).cell _ h1
  have c1 : (w.alloc (.cells (opC kd at0 cn a v) 49)).cell? ⟨q, i, none⟩ = some (.int .u64 (ws.getD i 0)) := (HW.out.rowN hrq).cell i (u64s_at (by omega))
  have HACC := Lib.hid hAcc
  have H1 := Lib.hid h1
  have hqF : ¬ F q := fun hf => hd q hf gq
  have hbF : ¬ F b := fun hf => hd b hf gb
  have HRW : Hid (Row (w.alloc (.cells (opC kd at0 cn a v) 49)) w.heap.size 49 (opC kd at0 cn a v).toList) := Row.new _ _ _
  have hFW : ¬ F w.heap.size := fun h => Nat.lt_irrefl _ (hFb _ h)
  clear hFb
  have HX : ∃ x, Hid (ws.getD i 0 = x) := ⟨_, rfl⟩
  obtain ⟨x, HX⟩ := HX
  rw [show ws.getD i 0 = x from HX.out] at c1
  have hk1 : (kd % 10 == 4) = true := by simpa using hk
  have he1 : (a % 2 == 0) = false := by simpa using he
  rw [show ws.getD (i : Int).toNat 0 = x from HX.out] at hq
  have hq1 : (x == v) = false := by simpa using hq
  have HGB := Lib.hid gb
  have HGQ := Lib.hid gq
  have HF1 := Lib.hid hqF
  have HF2 := Lib.hid hbF
  have HF3 := Lib.hid hFW
  have HRQ := Lib.hid hrq
  have HRB := Lib.hid hR
  have HNE := Lib.hid hne
  clear ha hAcc hN hR h1 h2 hs hrq gb gq hne hl hk he hqF hbF hFW hq
  unfold opV
  unfold opC at HW c0 c1 HACC HRW
  go_enter Try.func118, Try.ntmps118
  go_wp2_with (go_at_call 117; refine HACC.out.mono ?_; rintro e w' ⟨rfl, rfl⟩)
  go_quiet (fail)
  go_wp2_with (go_at_call 23; refine (HP.out _).mono ?_; rintro e w' ⟨rfl, rfl⟩)
  refine (cas_okI (HB.out _ (HW.out.drewN _)).1 (i : Int) _ _ HA.out).mono ?_
  rintro e w2 ⟨rfl, hN2, hu2⟩
  rw [show ws.getD (i : Int).toNat 0 = x from HX.out] at *
  have HN2 := Lib.hid hN2
  have HU2 := Lib.hid hu2
  have HUW := Lib.hid (HW.out.drewN nq)
  have HR2 := Lib.hid ((HB.out _ HUW.out).2.keep (M := F) hu2 (fun k hg hf => hd k hf hg))
  have r0 : Row w2 b T c := hu2.row (HUW.out.rowN HRB.out) HF2.out
  have r1 : Row w2 q 36 (u64s ws ++ spare) := hu2.row (HUW.out.rowN HRQ.out) HF1.out
  have r2 : Row w2 w.heap.size 49 [.int .i64 kd, .int .i64 at0, .int .i64 cn, .int .u64 a, .int .u64 v] := hu2.row (HRW.out.drewN nq) HF3.out
  have d0 := r0.cell _ H1.out
  have d1 := r1.frozen i
  have d2 : w2.cell? ⟨q, i, none⟩ = some (.int .u64 x) := r1.cell i (by rw [← HX.out]; exact u64s_at (by omega))
  have b3 : w2.cell? ⟨w.heap.size, 3, none⟩ = some (.int .u64 a) := r2.cell 3 rfl
  have b4 : w2.cell? ⟨w.heap.size, 4, none⟩ = some (.int .u64 v) := r2.cell 4 rfl
  clear r0 r1 r2
  clear hN2 hu2 c0 c1
  go_wp2_with fail
  go_ret
  refine ⟨rfl, ws, rfl, id, ⟨?_, HR2.out⟩, (HUW.out.of_non).tr (HU2.out.mono fun _ _ h => .inl h)⟩
  have := HN2.out
  simp only [casW] at this
  rw [show ws.getD (i : Int).toNat 0 = x from HX.out] at this
  rw [if_neg (by simpa using hq1)] at this
  exact this

set_option maxHeartbeats 1000000 in
theorem swap_casEq {w : World} {F G : Blk} {p b off : Nat} {T : TypeId} {c : List Value} {ws : List Int} {up : Bool} (h : Both w F G p b off T c ws up) (hd : ∀ k, F k → ¬ G k) (hFb : ∀ k, F k → k < w.heap.size) (kd at0 cn a v at_ : Int) (ha : accE ws.length up at_ 1 = 0) (ha0 : 0 ≤ a) (hk : kd % 10 = 4) (he : a % 2 ≠ 0) (hq : ws.getD at_.toNat 0 = v) :
    Calls Try.prog 118 #[.pointer (some ⟨p, 0, none⟩), .pointer (some ⟨b, off, none⟩), opV kd at0 cn a v, .int .i64 at_] w fun e w' => e = .returned (.bool true) ∧ Same3 w F G p b off T c ws up w' := by
  have HP := Lib.hid (fun w => pick_calls kd 10 w (by decide) (by decide))
  obtain ⟨a1, a2, a3, a4, a5⟩ := accE_ok ha
  obtain ⟨i, rfl⟩ := Int.eq_ofNat_of_zero_le a2
  have hi : i < ws.length := by omega
  have HB := Lib.hid (fun w' hu => h.keepN (w' := w') hu)
  have HA := Lib.hid ha
  have HW : Hid (Upd Non w (w.alloc (.cells (opC kd at0 cn a v) 49))) := (Upd.refl _ _).alloc _
  have hAcc := (access_calls (HB.out _ HW.out).2 (i : Int) 1)
  rw [ha] at hAcc
  obtain ⟨hN, hR, q, sp, h1, h2, ⟨spare, hs, hrq⟩, gb, gq, hne, hl⟩ := h
  have c0 : (w.alloc (.cells (opC kd at0 cn a v) 49)).cell? ⟨b, off, none⟩ = _ := (HW.out.rowN hR).cell _ h1
  have c1 : (w.alloc (.cells (opC kd at0 cn a v) 49)).cell? ⟨q, i, none⟩ = some (.int .u64 (ws.getD i 0)) := (HW.out.rowN hrq).cell i (u64s_at (by omega))
  have HACC := Lib.hid hAcc
  have H1 := Lib.hid h1
  have hqF : ¬ F q := fun hf => hd q hf gq
  have hbF : ¬ F b := fun hf => hd b hf gb
  have HRW : Hid (Row (w.alloc (.cells (opC kd at0 cn a v) 49)) w.heap.size 49 (opC kd at0 cn a v).toList) := Row.new _ _ _
  have hFW : ¬ F w.heap.size := fun h => Nat.lt_irrefl _ (hFb _ h)
  clear hFb
  have HX : ∃ x, Hid (ws.getD i 0 = x) := ⟨_, rfl⟩
  obtain ⟨x, HX⟩ := HX
  rw [show ws.getD i 0 = x from HX.out] at c1
  have hk1 : (kd % 10 == 4) = true := by simpa using hk
  have he1 : (a % 2 == 0) = false := by simpa using he
  rw [show ws.getD (i : Int).toNat 0 = x from HX.out] at hq
  have hq1 : (x == v) = true := by simpa using hq
  have HGB := Lib.hid gb
  have HGQ := Lib.hid gq
  have HF1 := Lib.hid hqF
  have HF2 := Lib.hid hbF
  have HF3 := Lib.hid hFW
  have HRQ := Lib.hid hrq
  have HRB := Lib.hid hR
  have HNE := Lib.hid hne
  clear ha hAcc hN hR h1 h2 hs hrq gb gq hne hl hk he hqF hbF hFW hq
  unfold opV
  unfold opC at HW c0 c1 HACC HRW
  go_enter Try.func118, Try.ntmps118
  go_wp2_with (go_at_call 117; refine HACC.out.mono ?_; rintro e w' ⟨rfl, rfl⟩)
  go_quiet (fail)
  go_wp2_with (go_at_call 23; refine (HP.out _).mono ?_; rintro e w' ⟨rfl, rfl⟩)
  refine (cas_okI (HB.out _ (HW.out.drewN _)).1 (i : Int) _ _ HA.out).mono ?_
  rintro e w2 ⟨rfl, hN2, hu2⟩
  rw [show ws.getD (i : Int).toNat 0 = x from HX.out] at *
  have HN2 := Lib.hid hN2
  have HU2 := Lib.hid hu2
  have HUW := Lib.hid (HW.out.drewN nq)
  have HR2 := Lib.hid ((HB.out _ HUW.out).2.keep (M := F) hu2 (fun k hg hf => hd k hf hg))
  have r0 : Row w2 b T c := hu2.row (HUW.out.rowN HRB.out) HF2.out
  have r1 : Row w2 q 36 (u64s ws ++ spare) := hu2.row (HUW.out.rowN HRQ.out) HF1.out
  have r2 : Row w2 w.heap.size 49 [.int .i64 kd, .int .i64 at0, .int .i64 cn, .int .u64 a, .int .u64 v] := hu2.row (HRW.out.drewN nq) HF3.out
  have d0 := r0.cell _ H1.out
  have d1 := r1.frozen i
  have d2 : w2.cell? ⟨q, i, none⟩ = some (.int .u64 x) := r1.cell i (by rw [← HX.out]; exact u64s_at (by omega))
  have b3 : w2.cell? ⟨w.heap.size, 3, none⟩ = some (.int .u64 a) := r2.cell 3 rfl
  have b4 : w2.cell? ⟨w.heap.size, 4, none⟩ = some (.int .u64 v) := r2.cell 4 rfl
  clear r0 r1 r2
  clear hN2 hu2 c0 c1
  go_wp2_with fail
  go_region
  go_wp2_with fail
  go_ret
  refine ⟨rfl, ws.set i (a), by simp, fun h => h.set i (ha0), ⟨?_, (HR2.out.put H1.out i hi _).keep (M := Non) ((Upd.refl _ _).drew) (fun _ _ h => h)⟩, (((HUW.out.of_non).tr (HU2.out.mono fun _ _ h => .inl h)).setCell (p := ⟨q, i, none⟩) (.inl (.inr HGQ.out)) _).drew⟩
  have hn := HN2.out
  simp only [casW] at hn
  rw [show ws.getD (i : Int).toNat 0 = x from HX.out] at hn
  rw [if_pos (by simpa using hq1)] at hn
  exact hn.keep (M := One q) ((((Upd.refl (One q) _).setCell (p := ⟨q, i, none⟩) (.inl rfl) _)).drew) (fun k hf h => by cases h; exact HF1.out hf)

set_option maxHeartbeats 1000000 in
theorem swap_addEven {w : World} {F G : Blk} {p b off : Nat} {T : TypeId} {c : List Value} {ws : List Int} {up : Bool} (h : Both w F G p b off T c ws up) (hd : ∀ k, F k → ¬ G k) (hFb : ∀ k, F k → k < w.heap.size) (kd at0 cn a v at_ : Int) (ha : accE ws.length up at_ 1 = 0) (ha0 : 0 ≤ a) (hk : kd % 10 ≠ 4) (he : a % 2 = 0) :
    Calls Try.prog 118 #[.pointer (some ⟨p, 0, none⟩), .pointer (some ⟨b, off, none⟩), opV kd at0 cn a v, .int .i64 at_] w fun e w' => e = .returned (.bool true) ∧ Same3 w F G p b off T c ws up w' := by
  have HP := Lib.hid (fun w => pick_calls kd 10 w (by decide) (by decide))
  obtain ⟨a1, a2, a3, a4, a5⟩ := accE_ok ha
  obtain ⟨i, rfl⟩ := Int.eq_ofNat_of_zero_le a2
  have hi : i < ws.length := by omega
  have HB := Lib.hid (fun w' hu => h.keepN (w' := w') hu)
  have HA := Lib.hid ha
  have HW : Hid (Upd Non w (w.alloc (.cells (opC kd at0 cn a v) 49))) := (Upd.refl _ _).alloc _
  have hAcc := (access_calls (HB.out _ HW.out).2 (i : Int) 1)
  rw [ha] at hAcc
  obtain ⟨hN, hR, q, sp, h1, h2, ⟨spare, hs, hrq⟩, gb, gq, hne, hl⟩ := h
  have c0 : (w.alloc (.cells (opC kd at0 cn a v) 49)).cell? ⟨b, off, none⟩ = _ := (HW.out.rowN hR).cell _ h1
  have c1 : (w.alloc (.cells (opC kd at0 cn a v) 49)).cell? ⟨q, i, none⟩ = some (.int .u64 (ws.getD i 0)) := (HW.out.rowN hrq).cell i (u64s_at (by omega))
  have HACC := Lib.hid hAcc
  have H1 := Lib.hid h1
  have hqF : ¬ F q := fun hf => hd q hf gq
  have hbF : ¬ F b := fun hf => hd b hf gb
  have HRW : Hid (Row (w.alloc (.cells (opC kd at0 cn a v) 49)) w.heap.size 49 (opC kd at0 cn a v).toList) := Row.new _ _ _
  have hFW : ¬ F w.heap.size := fun h => Nat.lt_irrefl _ (hFb _ h)
  clear hFb
  have HX : ∃ x, Hid (ws.getD i 0 = x) := ⟨_, rfl⟩
  obtain ⟨x, HX⟩ := HX
  rw [show ws.getD i 0 = x from HX.out] at c1
  have hk1 : (kd % 10 == 4) = false := by simpa using hk
  have he1 : (a % 2 == 0) = true := by simpa using he
  have HGB := Lib.hid gb
  have HGQ := Lib.hid gq
  have HF1 := Lib.hid hqF
  have HF2 := Lib.hid hbF
  have HF3 := Lib.hid hFW
  have HRQ := Lib.hid hrq
  have HRB := Lib.hid hR
  have HNE := Lib.hid hne
  clear ha hAcc hN hR h1 h2 hs hrq gb gq hne hl hk he hqF hbF hFW
  unfold opV
  unfold opC at HW c0 c1 HACC HRW
  go_enter Try.func118, Try.ntmps118
  go_wp2_with (go_at_call 117; refine HACC.out.mono ?_; rintro e w' ⟨rfl, rfl⟩)
  go_quiet (fail)
  go_wp2_with (go_at_call 23; refine (HP.out _).mono ?_; rintro e w' ⟨rfl, rfl⟩)
  refine (add_okI (HB.out _ (HW.out.drewN _)).1 (i : Int) _ HA.out).mono ?_
  rintro e w2 ⟨rfl, hN2, hu2⟩
  rw [show ws.getD (i : Int).toNat 0 = x from HX.out] at *
  have HN2 := Lib.hid hN2
  have HU2 := Lib.hid hu2
  have HUW := Lib.hid (HW.out.drewN nq)
  have HR2 := Lib.hid ((HB.out _ HUW.out).2.keep (M := F) hu2 (fun k hg hf => hd k hf hg))
  have r0 : Row w2 b T c := hu2.row (HUW.out.rowN HRB.out) HF2.out
  have r1 : Row w2 q 36 (u64s ws ++ spare) := hu2.row (HUW.out.rowN HRQ.out) HF1.out
  have r2 : Row w2 w.heap.size 49 [.int .i64 kd, .int .i64 at0, .int .i64 cn, .int .u64 a, .int .u64 v] := hu2.row (HRW.out.drewN nq) HF3.out
  have d0 := r0.cell _ H1.out
  have d1 := r1.frozen i
  have d2 : w2.cell? ⟨q, i, none⟩ = some (.int .u64 x) := r1.cell i (by rw [← HX.out]; exact u64s_at (by omega))
  have b3 : w2.cell? ⟨w.heap.size, 3, none⟩ = some (.int .u64 a) := r2.cell 3 rfl
  have b4 : w2.cell? ⟨w.heap.size, 4, none⟩ = some (.int .u64 v) := r2.cell 4 rfl
  clear r0 r1 r2
  clear hN2 hu2 c0 c1
  go_wp2_with fail
  go_region
  go_wp2_with fail
  go_ret
  refine ⟨rfl, ws.set i (IntKind.u64.wrap (x + v)), by simp, fun h => h.set i (by rw [wrapU]; omega), ⟨?_, (HR2.out.put H1.out i hi _).keep (M := Non) ((Upd.refl _ _).drew) (fun _ _ h => h)⟩, (((HUW.out.of_non).tr (HU2.out.mono fun _ _ h => .inl h)).setCell (p := ⟨q, i, none⟩) (.inl (.inr HGQ.out)) _).drew⟩
  have hn := HN2.out
  rw [← wrapU] at hn
  exact hn.keep (M := One q) ((((Upd.refl (One q) _).setCell (p := ⟨q, i, none⟩) (.inl rfl) _)).drew) (fun k hf h => by cases h; exact HF1.out hf)

set_option maxHeartbeats 1000000 in
theorem swap_addOdd {w : World} {F G : Blk} {p b off : Nat} {T : TypeId} {c : List Value} {ws : List Int} {up : Bool} (h : Both w F G p b off T c ws up) (hd : ∀ k, F k → ¬ G k) (hFb : ∀ k, F k → k < w.heap.size) (kd at0 cn a v at_ : Int) (ha : accE ws.length up at_ 1 = 0) (ha0 : 0 ≤ a) (hk : kd % 10 ≠ 4) (he : a % 2 ≠ 0) :
    Calls Try.prog 118 #[.pointer (some ⟨p, 0, none⟩), .pointer (some ⟨b, off, none⟩), opV kd at0 cn a v, .int .i64 at_] w fun e w' => e = .returned (.bool true) ∧ Same3 w F G p b off T c ws up w' := by
  have HP := Lib.hid (fun w => pick_calls kd 10 w (by decide) (by decide))
  obtain ⟨a1, a2, a3, a4, a5⟩ := accE_ok ha
  obtain ⟨i, rfl⟩ := Int.eq_ofNat_of_zero_le a2
  have hi : i < ws.length := by omega
  have HB := Lib.hid (fun w' hu => h.keepN (w' := w') hu)
  have HA := Lib.hid ha
  have HW : Hid (Upd Non w (w.alloc (.cells (opC kd at0 cn a v) 49))) := (Upd.refl _ _).alloc _
  have hAcc := (access_calls (HB.out _ HW.out).2 (i : Int) 1)
  rw [ha] at hAcc
  obtain ⟨hN, hR, q, sp, h1, h2, ⟨spare, hs, hrq⟩, gb, gq, hne, hl⟩ := h
  have c0 : (w.alloc (.cells (opC kd at0 cn a v) 49)).cell? ⟨b, off, none⟩ = _ := (HW.out.rowN hR).cell _ h1
  have c1 : (w.alloc (.cells (opC kd at0 cn a v) 49)).cell? ⟨q, i, none⟩ = some (.int .u64 (ws.getD i 0)) := (HW.out.rowN hrq).cell i (u64s_at (by omega))
  have HACC := Lib.hid hAcc
  have H1 := Lib.hid h1
  have hqF : ¬ F q := fun hf => hd q hf gq
  have hbF : ¬ F b := fun hf => hd b hf gb
  have HRW : Hid (Row (w.alloc (.cells (opC kd at0 cn a v) 49)) w.heap.size 49 (opC kd at0 cn a v).toList) := Row.new _ _ _
  have hFW : ¬ F w.heap.size := fun h => Nat.lt_irrefl _ (hFb _ h)
  clear hFb
  have HX : ∃ x, Hid (ws.getD i 0 = x) := ⟨_, rfl⟩
  obtain ⟨x, HX⟩ := HX
  rw [show ws.getD i 0 = x from HX.out] at c1
  have hk1 : (kd % 10 == 4) = false := by simpa using hk
  have he1 : (a % 2 == 0) = false := by simpa using he
  have HGB := Lib.hid gb
  have HGQ := Lib.hid gq
  have HF1 := Lib.hid hqF
  have HF2 := Lib.hid hbF
  have HF3 := Lib.hid hFW
  have HRQ := Lib.hid hrq
  have HRB := Lib.hid hR
  have HNE := Lib.hid hne
  clear ha hAcc hN hR h1 h2 hs hrq gb gq hne hl hk he hqF hbF hFW
  unfold opV
  unfold opC at HW c0 c1 HACC HRW
  go_enter Try.func118, Try.ntmps118
  go_wp2_with (go_at_call 117; refine HACC.out.mono ?_; rintro e w' ⟨rfl, rfl⟩)
  go_quiet (fail)
  go_wp2_with (go_at_call 23; refine (HP.out _).mono ?_; rintro e w' ⟨rfl, rfl⟩)
  refine (add_okI (HB.out _ (HW.out.drewN _)).1 (i : Int) _ HA.out).mono ?_
  rintro e w2 ⟨rfl, hN2, hu2⟩
  rw [show ws.getD (i : Int).toNat 0 = x from HX.out] at *
  have HN2 := Lib.hid hN2
  have HU2 := Lib.hid hu2
  have HUW := Lib.hid (HW.out.drewN nq)
  have HR2 := Lib.hid ((HB.out _ HUW.out).2.keep (M := F) hu2 (fun k hg hf => hd k hf hg))
  have r0 : Row w2 b T c := hu2.row (HUW.out.rowN HRB.out) HF2.out
  have r1 : Row w2 q 36 (u64s ws ++ spare) := hu2.row (HUW.out.rowN HRQ.out) HF1.out
  have r2 : Row w2 w.heap.size 49 [.int .i64 kd, .int .i64 at0, .int .i64 cn, .int .u64 a, .int .u64 v] := hu2.row (HRW.out.drewN nq) HF3.out
  have d0 := r0.cell _ H1.out
  have d1 := r1.frozen i
  have d2 : w2.cell? ⟨q, i, none⟩ = some (.int .u64 x) := r1.cell i (by rw [← HX.out]; exact u64s_at (by omega))
  have b3 : w2.cell? ⟨w.heap.size, 3, none⟩ = some (.int .u64 a) := r2.cell 3 rfl
  have b4 : w2.cell? ⟨w.heap.size, 4, none⟩ = some (.int .u64 v) := r2.cell 4 rfl
  clear r0 r1 r2
  clear hN2 hu2 c0 c1
  go_wp2_with fail
  go_region
  go_wp2_with fail
  go_ret
  refine ⟨rfl, ws.set i (IntKind.u64.wrap (x + v)), by simp, fun h => h.set i (by rw [wrapU]; omega), ⟨?_, (HR2.out.put H1.out i hi _).keep (M := Non) ((Upd.refl _ _).drew) (fun _ _ h => h)⟩, (((HUW.out.of_non).tr (HU2.out.mono fun _ _ h => .inl h)).setCell (p := ⟨q, i, none⟩) (.inl (.inr HGQ.out)) _).drew⟩
  have hn := HN2.out
  rw [← wrapU] at hn
  exact hn.keep (M := One q) ((((Upd.refl (One q) _).setCell (p := ⟨q, i, none⟩) (.inl rfl) _)).drew) (fun k hf h => by cases h; exact HF1.out hf)

theorem Same3.wide {w : World} {F F' G G' : Blk} {p b off : Nat} {T : TypeId} {c : List Value} {ws : List Int} {up : Bool} {w' : World} (h : Same3 w F G p b off T c ws up w') (hF : ∀ k, F k → F' k) (hG : ∀ k, G k → G' k) : Same3 w F' G' p b off T c ws up w' := by
  obtain ⟨ws', hl, hf, ⟨hN, hR⟩, hu⟩ := h
  exact ⟨ws', hl, hf, ⟨hN.mono fun k hk _ => hF k hk, hR.mono fun k hk _ => hG k hk⟩, hu.mono fun k _ hk => hk.imp (hF k) (hG k)⟩

/-- swap, whatever the operation. -/
theorem swap_calls {w : World} {F G : Blk} {p b off : Nat} {T : TypeId} {c : List Value} {ws : List Int} {up : Bool} (h : Both w F G p b off T c ws up) (hd : ∀ k, F k → ¬ G k) (kd at0 cn a v at_ : Int) (ha0 : 0 ≤ a) :
    Calls Try.prog 118 #[.pointer (some ⟨p, 0, none⟩), .pointer (some ⟨b, off, none⟩), opV kd at0 cn a v, .int .i64 at_] w fun e w' => e = .returned (.bool true) ∧ Same3 w F G p b off T c ws up w' := by
  have h' : Both w (fun k => F k ∧ k < w.heap.size) (fun k => G k ∧ k < w.heap.size) p b off T c ws up := ⟨h.1.mono fun _ hk hl => ⟨hk, hl⟩, h.2.mono fun _ hk hl => ⟨hk, hl⟩⟩
  have hd' : ∀ k, (F k ∧ k < w.heap.size) → ¬ (G k ∧ k < w.heap.size) := fun k hf hg => hd k hf.1 hg.1
  have fin : ∀ (e : Ending) (w' : World), e = .returned (.bool true) ∧ Same3 w (fun k => F k ∧ k < w.heap.size) (fun k => G k ∧ k < w.heap.size) p b off T c ws up w' → e = .returned (.bool true) ∧ Same3 w F G p b off T c ws up w' :=
    fun e w' ⟨he, hs⟩ => ⟨he, hs.wide (fun _ h => h.1) (fun _ h => h.1)⟩
  by_cases ha : accE ws.length up at_ 1 = 0
  · by_cases hk : kd % 10 = 4
    · by_cases he : a % 2 = 0
      · exact (swap_casEven h' hd' (fun _ h => h.2) kd at0 cn a v at_ ha ha0 hk he).mono fin
      · by_cases hq : ws.getD at_.toNat 0 = v
        · exact (swap_casEq h' hd' (fun _ h => h.2) kd at0 cn a v at_ ha ha0 hk he hq).mono fin
        · exact (swap_casNe h' hd' (fun _ h => h.2) kd at0 cn a v at_ ha ha0 hk he hq).mono fin
    · by_cases he : a % 2 = 0
      · exact (swap_addEven h' hd' (fun _ h => h.2) kd at0 cn a v at_ ha ha0 hk he).mono fin
      · exact (swap_addOdd h' hd' (fun _ h => h.2) kd at0 cn a v at_ ha ha0 hk he).mono fin
  · exact (swap_bad h kd at0 cn a v at_ ha ha0).mono fun e w' ⟨he, hu⟩ => ⟨he, ws, rfl, id, h.keepN hu, hu.of_non⟩
end Go.Proofs.Ytlhbikiggmdolaa
