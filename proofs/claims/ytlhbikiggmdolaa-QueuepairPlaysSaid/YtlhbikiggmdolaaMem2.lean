/- Contracts of package memnode's functions that write. -/
import Derived.Test.YtlhbikiggmdolaaMem
namespace Go.Proofs.Ytlhbikiggmdolaa
open Go.RowKit

/-- The words with l written from address a on. -/
def putW (ws : List Int) (a : Nat) (l : List Int) : List Int := ws.take a ++ (l ++ ws.drop (a + l.length))
theorem putW_length (ws : List Int) (a : Nat) (l : List Int) (h : a + l.length ≤ ws.length) : (putW ws a l).length = ws.length := by simp [putW]; omega
theorem u64s_putW (ws : List Int) (a : Nat) (l : List Int) (spare : List Value) (h : a + l.length ≤ ws.length) :
    (u64s ws ++ spare).take a ++ (u64s l ++ (u64s ws ++ spare).drop (a + (u64s l).length)) = u64s (putW ws a l) ++ spare := by
  rw [List.take_append_of_le_length (by simp [u64s]; omega), List.drop_append_of_le_length (by simp [u64s]; omega)]
  simp [putW, u64s, List.map_take, List.map_drop]

theorem write_bad {w : World} {F : Blk} {p : Nat} {ws : List Int} {up : Bool} (h : NodeR w F p ws up) (at_ : Int) (A : Option Addr) (n cap : Nat) (_hn : n ≤ 140737488355328) (ha : accE ws.length up at_ n ≠ 0) :
    Calls Try.prog 51 #[.pointer (some ⟨p, 0, none⟩), .int .i64 at_, .slice A n cap] w fun e w' => e = .returned (.int .i64 (accE ws.length up at_ n)) ∧ w = w' := by
  have hc := check_calls h at_ n
  have hb : (accE ws.length up at_ n == 0) = false := by simpa using ha
  have hb' : (accE ws.length up at_ n != 0) = true := by simpa using ha
  generalize accE ws.length up at_ n = E at *
  have H := Lib.hid hc
  clear hc h
  go_enter Try.func51, Try.ntmps51
  go_wp2_with (go_at_call 111; refine H.out.mono ?_; rintro e w' ⟨rfl, rfl⟩)
  go_ret
  exact ⟨rfl, rfl⟩

theorem write_ok {w : World} {F G : Blk} {p : Nat} {ws : List Int} {up : Bool} (h : NodeR w F p ws up) (at_ : Nat) (A : Option Addr) (n cap : Nat) (l : List Int) (hv : View w G 1 A n (u64s l)) (ha : accE ws.length up at_ n = 0) :
    Calls Try.prog 51 #[.pointer (some ⟨p, 0, none⟩), .int .i64 at_, .slice A n cap] w fun e w' =>
      e = .returned (.int .i64 0) ∧ NodeR w' F p (putW ws at_ l) up ∧ Upd F w w' := by
  have hc := check_calls h at_ n
  rw [ha] at hc
  obtain ⟨a1, a2, a3, a4, a5⟩ := accE_ok ha
  obtain ⟨q, sp, hp, ⟨spare, hs, hq⟩, fp, fq, hl⟩ := h
  have c0 := hp.cell 0 rfl
  have hln : l.length = n := by have := hv.1; simpa [u64s] using this
  have H := Lib.hid hc
  have HN := Lib.hid hln
  have HS := Lib.hid hs
  clear hc ha hs
  go_enter Try.func51, Try.ntmps51
  go_wp2_with (first
    | (go_at_call 111; refine H.out.mono ?_; rintro e w' ⟨rfl, rfl⟩)
    | ((with_reducible show wpList _ _ _ _ _ _); refine wpList_cpy G rfl (.tmp 21) (.tmp 22) 33 33 rfl 36 Try.underlying33 (by kernel_rfl) q at_ (ws.length - at_) (ws.length + sp - at_) A n cap rfl rfl 36 _ hq _ hv (by omega) (by simp [u64s]; omega) (wf_u64s _) ?_; intro w1 hrow hupd))
  go_ret
  have hrow : Row w1 q 36 (u64s (putW ws at_ l) ++ spare) := by rw [← u64s_putW ws at_ l spare (by omega)]; exact hrow
  have hlen := putW_length ws at_ l (by omega)
  refine ⟨rfl, ⟨q, sp, ?_, ⟨spare, HS.out, hrow⟩, fp, fq, by omega⟩, hupd.mono fun i _ hi => by cases hi; exact fq⟩
  rw [hlen]
  exact hupd.row hp (fun h => hp.ne hq (by decide) h)

theorem cas_bad {w : World} {F : Blk} {p : Nat} {ws : List Int} {up : Bool} (h : NodeR w F p ws up) (at_ old new : Int) (ha : accE ws.length up at_ 1 ≠ 0) :
    Calls Try.prog 53 #[.pointer (some ⟨p, 0, none⟩), .int .i64 at_, .int .u64 old, .int .u64 new] w fun e w' => e = .returned (.tuple #[.int .u64 0, .int .i64 (accE ws.length up at_ 1)]) ∧ w = w' := by
  have hc := check_calls h at_ 1
  have hb : (accE ws.length up at_ 1 == 0) = false := by simpa using ha
  have hb' : (accE ws.length up at_ 1 != 0) = true := by simpa using ha
  generalize accE ws.length up at_ 1 = E at *
  have H := Lib.hid hc
  clear hc h
  go_enter Try.func53, Try.ntmps53
  go_wp2_with (go_at_call 111; refine H.out.mono ?_; rintro e w' ⟨rfl, rfl⟩)
  go_ret2
  exact ⟨rfl, rfl⟩

theorem add_bad {w : World} {F : Blk} {p : Nat} {ws : List Int} {up : Bool} (h : NodeR w F p ws up) (at_ by_ : Int) (ha : accE ws.length up at_ 1 ≠ 0) :
    Calls Try.prog 54 #[.pointer (some ⟨p, 0, none⟩), .int .i64 at_, .int .u64 by_] w fun e w' => e = .returned (.tuple #[.int .u64 0, .int .i64 (accE ws.length up at_ 1)]) ∧ w = w' := by
  have hc := check_calls h at_ 1
  have hb : (accE ws.length up at_ 1 == 0) = false := by simpa using ha
  have hb' : (accE ws.length up at_ 1 != 0) = true := by simpa using ha
  generalize accE ws.length up at_ 1 = E at *
  have H := Lib.hid hc
  clear hc h
  go_enter Try.func54, Try.ntmps54
  go_wp2_with (go_at_call 111; refine H.out.mono ?_; rintro e w' ⟨rfl, rfl⟩)
  go_ret2
  exact ⟨rfl, rfl⟩

theorem read_bad {w : World} {F : Blk} {p : Nat} {ws : List Int} {up : Bool} (h : NodeR w F p ws up) (at_ count : Int) (ha : accE ws.length up at_ count ≠ 0) :
    Calls Try.prog 26 #[.pointer (some ⟨p, 0, none⟩), .int .i64 at_, .int .i64 count] w fun e w' => e = .returned (.tuple #[.slice none 0 0, .int .i64 (accE ws.length up at_ count)]) ∧ w = w' := by
  have hc := check_calls h at_ count
  have hb : (accE ws.length up at_ count == 0) = false := by simpa using ha
  have hb' : (accE ws.length up at_ count != 0) = true := by simpa using ha
  generalize accE ws.length up at_ count = E at *
  have H := Lib.hid hc
  clear hc h
  go_enter Try.func26, Try.ntmps26
  go_wp2_with (go_at_call 111; refine H.out.mono ?_; rintro e w' ⟨rfl, rfl⟩)
  go_ret2
  exact ⟨rfl, rfl⟩

theorem u64s_set (ws : List Int) (i : Nat) (x : Int) (spare : List Value) (h : i < ws.length) : (u64s ws ++ spare).set i (.int .u64 x) = u64s (ws.set i x) ++ spare := by
  rw [List.set_append_left _ _ (by simpa [u64s] using h)]; simp [u64s, List.map_set]

/-- Cas on the words. -/
def casW (ws : List Int) (a : Nat) (old new : Int) : List Int := if ws.getD a 0 = old then ws.set a new else ws
theorem casW_length (ws : List Int) (a : Nat) (old new : Int) : (casW ws a old new).length = ws.length := by unfold casW; split <;> simp

theorem cas_ok {w : World} {F : Blk} {p : Nat} {ws : List Int} {up : Bool} (h : NodeR w F p ws up) (at_ : Nat) (old new : Int) (ha : accE ws.length up at_ 1 = 0) :
    Calls Try.prog 53 #[.pointer (some ⟨p, 0, none⟩), .int .i64 at_, .int .u64 old, .int .u64 new] w fun e w' =>
      e = .returned (.tuple #[.int .u64 (ws.getD at_ 0), .int .i64 0]) ∧ NodeR w' F p (casW ws at_ old new) up ∧ Upd F w w' := by
  have hc := check_calls h at_ 1
  rw [ha] at hc
  obtain ⟨a1, a2, a3, a4, a5⟩ := accE_ok ha
  obtain ⟨q, sp, hp, ⟨spare, hs, hq⟩, fp, fq, hl⟩ := h
  have c0 := hp.cell 0 rfl
  have c1 : w.cell? ⟨q, at_, none⟩ = some (.int .u64 (ws.getD at_ 0)) := hq.cell at_ (u64s_at (by omega))
  have z1 := hq.frozen at_
  have H := Lib.hid hc
  have HS := Lib.hid hs
  clear hc ha hs
  by_cases he : ws.getD at_ 0 = old
  · have hb : (ws.getD at_ 0 == old) = true := by simpa using he
    have HC : casW ws at_ old new = ws.set at_ new := by simp only [casW, if_pos he]
    have HC := Lib.hid HC
    clear he
    generalize ws.getD at_ 0 = x at *
    go_enter Try.func53, Try.ntmps53
    go_wp2_with (go_at_call 111; refine H.out.mono ?_; rintro e w' ⟨rfl, rfl⟩)
    go_ret2
    rw [HC.out]
    refine ⟨rfl, ⟨q, sp, ?_, ⟨spare, HS.out, ?_⟩, fp, fq, by simpa using hl⟩, (Upd.refl _ _).setCell (.inl fq) _⟩
    · rw [List.length_set]; exact hp.setOther (hp.ne hq (by decide)) _ _
    · rw [← u64s_set _ _ _ _ (by omega)]; exact hq.set _ _
  · have hb : (ws.getD at_ 0 == old) = false := by simpa using he
    have HC : casW ws at_ old new = ws := by simp only [casW, if_neg he]
    have HC := Lib.hid HC
    clear he
    generalize ws.getD at_ 0 = x at *
    go_enter Try.func53, Try.ntmps53
    go_wp2_with (go_at_call 111; refine H.out.mono ?_; rintro e w' ⟨rfl, rfl⟩)
    go_ret2
    rw [HC.out]
    exact ⟨rfl, ⟨q, sp, hp, ⟨spare, HS.out, hq⟩, fp, fq, hl⟩, Upd.refl _ _⟩

theorem add_ok {w : World} {F : Blk} {p : Nat} {ws : List Int} {up : Bool} (h : NodeR w F p ws up) (at_ : Nat) (by_ : Int) (ha : accE ws.length up at_ 1 = 0) :
    Calls Try.prog 54 #[.pointer (some ⟨p, 0, none⟩), .int .i64 at_, .int .u64 by_] w fun e w' =>
      e = .returned (.tuple #[.int .u64 (ws.getD at_ 0), .int .i64 0]) ∧ NodeR w' F p (ws.set at_ ((ws.getD at_ 0 + by_) % 18446744073709551616)) up ∧ Upd F w w' := by
  have hc := check_calls h at_ 1
  rw [ha] at hc
  obtain ⟨a1, a2, a3, a4, a5⟩ := accE_ok ha
  obtain ⟨q, sp, hp, ⟨spare, hs, hq⟩, fp, fq, hl⟩ := h
  have c0 := hp.cell 0 rfl
  have c1 : w.cell? ⟨q, at_, none⟩ = some (.int .u64 (ws.getD at_ 0)) := hq.cell at_ (u64s_at (by omega))
  have z1 := hq.frozen at_
  have H := Lib.hid hc
  have HS := Lib.hid hs
  clear hc ha hs
  generalize ws.getD at_ 0 = x at *
  go_enter Try.func54, Try.ntmps54
  go_wp2_with (go_at_call 111; refine H.out.mono ?_; rintro e w' ⟨rfl, rfl⟩)
  go_ret2
  refine ⟨rfl, ⟨q, sp, ?_, ⟨spare, HS.out, ?_⟩, fp, fq, by simpa using hl⟩, (Upd.refl _ _).setCell (.inl fq) _⟩
  · rw [List.length_set]; exact hp.setOther (hp.ne hq (by decide)) _ _
  · rw [← u64s_set _ _ _ _ (by omega)]; exact hq.set _ _

theorem back_no {w : World} {F : Blk} {p : Nat} {ws : List Int} {up : Bool} (h : NodeR w F p ws up) (hl : 2 ≤ ws.length) (hn : up = true ∨ 31 ≤ ws.getD 1 0) :
    Calls Try.prog 56 #[.pointer (some ⟨p, 0, none⟩)] w fun e w' => e = .returned (.bool false) ∧ w = w' := by
  have hb := boot_calls h hl
  obtain ⟨q, sp, hp, ⟨spare, hs, hq⟩, fp, fq, _⟩ := h
  have c0 := hp.cell 1 rfl
  clear hp hq hs fp fq hl
  generalize ws.getD 1 0 = x at *
  have H := Lib.hid hb
  clear hb
  cases up
  · have hx : 31 ≤ x := by rcases hn with h | h <;> first | (simp at h; done) | exact h
    clear hn
    go_enter Try.func56, Try.ntmps56
    go_wp2_with (go_at_call 27; refine H.out.mono ?_; rintro e w' ⟨rfl, rfl⟩)
    go_ret
    exact ⟨rfl, rfl⟩
  · clear hn
    go_enter Try.func56, Try.ntmps56
    go_wp2_with (go_at_call 27; refine H.out.mono ?_; rintro e w' ⟨rfl, rfl⟩)
    go_ret
    exact ⟨rfl, rfl⟩

theorem back_yes {w : World} {F : Blk} {p : Nat} {ws : List Int} (h : NodeR w F p ws false) (hl : 2 ≤ ws.length) (hx : ws.getD 1 0 < 31) (hx0 : 0 ≤ ws.getD 1 0) :
    Calls Try.prog 56 #[.pointer (some ⟨p, 0, none⟩)] w fun e w' => e = .returned (.bool true) ∧ NodeR w' F p (ws.set 1 (ws.getD 1 0 + 1)) true ∧ Upd F w w' := by
  have hb := boot_calls h hl
  obtain ⟨q, sp, hp, ⟨spare, hs, hq⟩, fp, fq, hl2⟩ := h
  have hne := hp.ne hq (by decide)
  have c0 := hp.cell 1 rfl
  have c2 := hp.cell 0 rfl
  have c1 : w.cell? ⟨q, 1, none⟩ = some (.int .u64 (ws.getD 1 0)) := hq.cell 1 (u64s_at (by omega))
  have z1 := hq.frozen 1
  have z0 := hp.frozen 1
  have hp' := hp.set 1 (.bool false)
  have d2 : (w.setCell ⟨p, 1, none⟩ (.bool false)).cell? ⟨p, 0, none⟩ = _ := hp'.cell 0 rfl
  have hq' := hq.setOther (Ne.symm hne) 1 (.bool false)
  have d1 : (w.setCell ⟨p, 1, none⟩ (.bool false)).cell? ⟨q, 1, none⟩ = some (.int .u64 (ws.getD 1 0)) := hq'.cell 1 (u64s_at (by omega))
  have e1 := hq'.frozen 1
  have H := Lib.hid hb
  have HS := Lib.hid hs
  clear hb hs
  generalize ws.getD 1 0 = x at *
  go_enter Try.func56, Try.ntmps56
  go_wp2_with (go_at_call 27; refine H.out.mono ?_; rintro e w' ⟨rfl, rfl⟩)
  go_ret
  refine ⟨rfl, ⟨q, sp, ?_, ⟨spare, HS.out, ?_⟩, fp, fq, by simpa using hl2⟩, ((Upd.refl _ _).setCell (.inl fp) _).setCell (.inl fq) _⟩
  · rw [List.length_set]; exact hp'.setOther hne _ _
  · rw [← u64s_set _ _ _ _ (by omega)]; exact hq'.set _ _

theorem info_node : (Try.prog.info? 140).map (fun i => (i.zero, i.size, i.bytes)) = some (some (.agg #[.slice none 0 0, .bool false]), 2, 32) := by kernel_rfl

theorem new_bad {w : World} (lines : Int) (h : lines < 1 ∨ 256 < lines) :
    Calls Try.prog 24 #[.int .i64 lines] w fun e w' => e = .returned (.tuple #[.pointer none, .int .i64 2]) ∧ w = w' := by
  rcases h with h | h
  · go_enter Try.func24, Try.ntmps24
    go_wp2
    go_ret2
    exact ⟨rfl, rfl⟩
  · have h' : ¬ lines < 1 := by omega
    go_enter Try.func24, Try.ntmps24
    go_wp2
    go_ret2
    exact ⟨rfl, rfl⟩

theorem toList_made (n : Nat) : (madeCells #[Value.int .u64 0] n).toList = u64s (List.replicate n 0) := by rw [toList_madeCells_one]; simp [u64s]

theorem new_ok {w : World} (lines : Nat) (h1 : 1 ≤ lines) (h2 : lines ≤ 256) :
    Calls Try.prog 24 #[.int .i64 lines] w fun e w' => ∃ p, e = .returned (.tuple #[.pointer (some ⟨p, 0, none⟩), .int .i64 0]) ∧ NodeR w' (New w w') p (List.replicate (lines * 8) 0) true ∧ Upd Non w w' := by
  have hmk := run_make_row' (P := Try.prog) 33 36 (.int .u64 0) 8 Try.underlying33 info_u64 rfl .i64 .i64 (lines * 8) (by omega) (by omega)
  have hmk : ∀ w, (Instr.makeSlice 33 (.int .i64 ((lines : Int) * 8)) (.int .i64 ((lines : Int) * 8))).run Try.prog w = .ok (.slice (some ⟨w.heap.size, 0, none⟩) (lines * 8) (lines * 8)) (w.alloc (.cells (madeCells #[.int .u64 0] (lines * 8)) 36)) := hmk
  go_enter Try.func24, Try.ntmps24
  go_wp2
  go_ret2
  refine ⟨w.heap.size + 1, by simp, ⟨w.heap.size, 0, ?_, ⟨[], rfl, ?_⟩, ?_, ?_, by simp; omega⟩, ((Upd.refl _ _).alloc _).alloc _⟩
  · have := Row.new (w.alloc (.cells (madeCells #[.int .u64 0] (lines * 8)) 36)) #[.slice (some ⟨w.heap.size, 0, none⟩) (lines * 8) (lines * 8), .bool false] 140
    simpa using this
  · have := (Row.new w (madeCells #[.int .u64 0] (lines * 8)) 36).alloc (.cells #[.slice (some ⟨w.heap.size, 0, none⟩) (lines * 8) (lines * 8), .bool false] 140)
    rw [toList_made] at this
    simpa using this
  · simp [New]
  · simp [New] <;> omega

/-! The same for arguments that are whole numbers. -/
theorem new_okI {w : World} (L : Int) (h1 : 1 ≤ L) (h2 : L ≤ 256) :
    Calls Try.prog 24 #[.int .i64 L] w fun e w' => ∃ p, e = .returned (.tuple #[.pointer (some ⟨p, 0, none⟩), .int .i64 0]) ∧ NodeR w' (New w w') p (List.replicate (L.toNat * 8) 0) true ∧ Upd Non w w' := by
  obtain ⟨l, rfl⟩ := Int.eq_ofNat_of_zero_le (show 0 ≤ L by omega)
  exact new_ok l (by omega) (by omega)
theorem read_okI {w : World} {F : Blk} {p : Nat} {ws : List Int} {up : Bool} (h : NodeR w F p ws up) (at_ count : Int) (ha : accE ws.length up at_ count = 0) :
    Calls Try.prog 26 #[.pointer (some ⟨p, 0, none⟩), .int .i64 at_, .int .i64 count] w fun e w' =>
      ∃ v, e = .returned (.tuple #[v, .int .i64 0]) ∧ Own w' (New w w') 36 1 v count.toNat (u64s ((ws.drop at_.toNat).take count.toNat)) ∧ Upd Non w w' ∧ v ≠ .slice none 0 0 := by
  obtain ⟨a1, a2, a3, a4, a5⟩ := accE_ok ha
  obtain ⟨a, rfl⟩ := Int.eq_ofNat_of_zero_le (show 0 ≤ at_ by omega)
  obtain ⟨c, rfl⟩ := Int.eq_ofNat_of_zero_le (show 0 ≤ count by omega)
  exact read_ok h a c ha
theorem write_okI {w : World} {F G : Blk} {p : Nat} {ws : List Int} {up : Bool} (h : NodeR w F p ws up) (at_ : Int) (A : Option Addr) (n cap : Nat) (l : List Int) (hv : View w G 1 A n (u64s l)) (ha : accE ws.length up at_ n = 0) :
    Calls Try.prog 51 #[.pointer (some ⟨p, 0, none⟩), .int .i64 at_, .slice A n cap] w fun e w' =>
      e = .returned (.int .i64 0) ∧ NodeR w' F p (putW ws at_.toNat l) up ∧ Upd F w w' := by
  obtain ⟨a1, a2, a3, a4, a5⟩ := accE_ok ha
  obtain ⟨a, rfl⟩ := Int.eq_ofNat_of_zero_le (show 0 ≤ at_ by omega)
  exact write_ok h a A n cap l hv ha
theorem cas_okI {w : World} {F : Blk} {p : Nat} {ws : List Int} {up : Bool} (h : NodeR w F p ws up) (at_ : Int) (old new : Int) (ha : accE ws.length up at_ 1 = 0) :
    Calls Try.prog 53 #[.pointer (some ⟨p, 0, none⟩), .int .i64 at_, .int .u64 old, .int .u64 new] w fun e w' =>
      e = .returned (.tuple #[.int .u64 (ws.getD at_.toNat 0), .int .i64 0]) ∧ NodeR w' F p (casW ws at_.toNat old new) up ∧ Upd F w w' := by
  obtain ⟨a1, a2, a3, a4, a5⟩ := accE_ok ha
  obtain ⟨a, rfl⟩ := Int.eq_ofNat_of_zero_le (show 0 ≤ at_ by omega)
  exact cas_ok h a old new ha
theorem add_okI {w : World} {F : Blk} {p : Nat} {ws : List Int} {up : Bool} (h : NodeR w F p ws up) (at_ : Int) (by_ : Int) (ha : accE ws.length up at_ 1 = 0) :
    Calls Try.prog 54 #[.pointer (some ⟨p, 0, none⟩), .int .i64 at_, .int .u64 by_] w fun e w' =>
      e = .returned (.tuple #[.int .u64 (ws.getD at_.toNat 0), .int .i64 0]) ∧ NodeR w' F p (ws.set at_.toNat ((ws.getD at_.toNat 0 + by_) % 18446744073709551616)) up ∧ Upd F w w' := by
  obtain ⟨a1, a2, a3, a4, a5⟩ := accE_ok ha
  obtain ⟨a, rfl⟩ := Int.eq_ofNat_of_zero_le (show 0 ≤ at_ by omega)
  exact add_ok h a by_ ha
end Go.Proofs.Ytlhbikiggmdolaa
