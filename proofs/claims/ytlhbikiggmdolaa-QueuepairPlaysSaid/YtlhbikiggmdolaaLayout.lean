/- Contracts of package layout's addresses and of the reference's. -/
import Derived.Test.YtlhbikiggmdolaaLaw3
import Derived.LoopN
namespace Go.Proofs.Ytlhbikiggmdolaa
open Go.RowKit

/-- Address i of a region of count words from line on; -1 outside. -/
def regF (line count i : Int) : Int := if i < 0 ∨ i ≥ count then -1 else line * 8 + i
def logF (c i : Int) : Int := if c < 0 ∨ c ≥ 6 then -1 else (6 + c * 15) * 8 + i
def pageF (l : Int) : Int := if l < 96 ∨ l ≥ 256 then -1 else l * 8
def heapF (line lines : Int) : Bool := decide (98 ≤ lines ∧ lines ≤ 256 ∧ 96 ≤ line ∧ line < lines)
def wordsF (lines : Int) : Int := if lines < 1 ∨ lines > 256 then 0 else lines * 8
/-- The value of view 0 of so many nodes. -/
def initV (nodes : Int) : Int := if nodes = 1 then 549755813895 else if nodes = 2 then 549755814791 else if nodes = 3 then 549755929479 else if nodes = 4 then 549770609543 else 551649657735

theorem door_calls (c : Int) (w : World) : Calls Try.prog 30 #[.int .i64 c] w fun e w' => e = .returned (.int .i64 (regF 3 6 c)) ∧ Upd Non w w' := by
  rcases (show c < 0 ∨ (0 ≤ c ∧ c < 6) ∨ 6 ≤ c by omega) with h | ⟨h, h'⟩ | h
  · go_enter Try.func30, Try.ntmps30
    go_wp2
    go_ret
    exact ⟨ret_int (by unfold regF; split <;> omega), by repeat (first | exact Upd.refl _ _ | apply Upd.alloc | apply Upd.drew | apply Upd.drewN)⟩
  · go_enter Try.func30, Try.ntmps30
    go_wp2
    go_ret
    exact ⟨ret_int (by unfold regF; split <;> omega), by repeat (first | exact Upd.refl _ _ | apply Upd.alloc | apply Upd.drew | apply Upd.drewN)⟩
  · have hd : decide (c < 6) = false := decide_eq_false (by omega)
    go_enter Try.func30, Try.ntmps30
    go_wp2
    go_ret
    exact ⟨ret_int (by unfold regF; split <;> omega), by repeat (first | exact Upd.refl _ _ | apply Upd.alloc | apply Upd.drew | apply Upd.drewN)⟩

theorem clock_calls (c : Int) (w : World) : Calls Try.prog 32 #[.int .i64 c] w fun e w' => e = .returned (.int .i64 (regF 4 6 c)) ∧ Upd Non w w' := by
  rcases (show c < 0 ∨ (0 ≤ c ∧ c < 6) ∨ 6 ≤ c by omega) with h | ⟨h, h'⟩ | h
  · go_enter Try.func32, Try.ntmps32
    go_wp2
    go_ret
    exact ⟨ret_int (by unfold regF; split <;> omega), by repeat (first | exact Upd.refl _ _ | apply Upd.alloc | apply Upd.drew | apply Upd.drewN)⟩
  · go_enter Try.func32, Try.ntmps32
    go_wp2
    go_ret
    exact ⟨ret_int (by unfold regF; split <;> omega), by repeat (first | exact Upd.refl _ _ | apply Upd.alloc | apply Upd.drew | apply Upd.drewN)⟩
  · have hd : decide (c < 6) = false := decide_eq_false (by omega)
    go_enter Try.func32, Try.ntmps32
    go_wp2
    go_ret
    exact ⟨ret_int (by unfold regF; split <;> omega), by repeat (first | exact Upd.refl _ _ | apply Upd.alloc | apply Upd.drew | apply Upd.drewN)⟩

theorem lease_calls (c : Int) (w : World) : Calls Try.prog 34 #[.int .i64 c] w fun e w' => e = .returned (.int .i64 (regF 5 6 c)) ∧ Upd Non w w' := by
  rcases (show c < 0 ∨ (0 ≤ c ∧ c < 6) ∨ 6 ≤ c by omega) with h | ⟨h, h'⟩ | h
  · go_enter Try.func34, Try.ntmps34
    go_wp2
    go_ret
    exact ⟨ret_int (by unfold regF; split <;> omega), by repeat (first | exact Upd.refl _ _ | apply Upd.alloc | apply Upd.drew | apply Upd.drewN)⟩
  · go_enter Try.func34, Try.ntmps34
    go_wp2
    go_ret
    exact ⟨ret_int (by unfold regF; split <;> omega), by repeat (first | exact Upd.refl _ _ | apply Upd.alloc | apply Upd.drew | apply Upd.drewN)⟩
  · have hd : decide (c < 6) = false := decide_eq_false (by omega)
    go_enter Try.func34, Try.ntmps34
    go_wp2
    go_ret
    exact ⟨ret_int (by unfold regF; split <;> omega), by repeat (first | exact Upd.refl _ _ | apply Upd.alloc | apply Upd.drew | apply Upd.drewN)⟩

theorem cons_calls (c : Int) (w : World) : Calls Try.prog 36 #[.int .i64 c] w fun e w' => e = .returned (.int .i64 (regF 1 16 c)) ∧ Upd Non w w' := by
  rcases (show c < 0 ∨ (0 ≤ c ∧ c < 16) ∨ 16 ≤ c by omega) with h | ⟨h, h'⟩ | h
  · go_enter Try.func36, Try.ntmps36
    go_wp2
    go_ret
    exact ⟨ret_int (by unfold regF; split <;> omega), by repeat (first | exact Upd.refl _ _ | apply Upd.alloc | apply Upd.drew | apply Upd.drewN)⟩
  · go_enter Try.func36, Try.ntmps36
    go_wp2
    go_ret
    exact ⟨ret_int (by unfold regF; split <;> omega), by repeat (first | exact Upd.refl _ _ | apply Upd.alloc | apply Upd.drew | apply Upd.drewN)⟩
  · have hd : decide (c < 16) = false := decide_eq_false (by omega)
    go_enter Try.func36, Try.ntmps36
    go_wp2
    go_ret
    exact ⟨ret_int (by unfold regF; split <;> omega), by repeat (first | exact Upd.refl _ _ | apply Upd.alloc | apply Upd.drew | apply Upd.drewN)⟩

theorem mark_calls (c : Int) (w : World) : Calls Try.prog 38 #[.int .i64 c] w fun e w' => e = .returned (.int .i64 (logF c 0)) ∧ Upd Non w w' := by
  rcases (show c < 0 ∨ (0 ≤ c ∧ c < 6) ∨ 6 ≤ c by omega) with h | ⟨h, h'⟩ | h
  · go_enter Try.func38, Try.ntmps38
    go_wp2
    go_ret
    exact ⟨ret_int (by unfold logF; split <;> omega), by repeat (first | exact Upd.refl _ _ | apply Upd.alloc | apply Upd.drew | apply Upd.drewN)⟩
  · go_enter Try.func38, Try.ntmps38
    go_wp2
    go_ret
    exact ⟨ret_int (by unfold logF; split <;> omega), by repeat (first | exact Upd.refl _ _ | apply Upd.alloc | apply Upd.drew | apply Upd.drewN)⟩
  · have hd : decide (c < 6) = false := decide_eq_false (by omega)
    go_enter Try.func38, Try.ntmps38
    go_wp2
    go_ret
    exact ⟨ret_int (by unfold logF; split <;> omega), by repeat (first | exact Upd.refl _ _ | apply Upd.alloc | apply Upd.drew | apply Upd.drewN)⟩

theorem tag_calls (c : Int) (w : World) : Calls Try.prog 40 #[.int .i64 c] w fun e w' => e = .returned (.int .i64 (logF c 1)) ∧ Upd Non w w' := by
  rcases (show c < 0 ∨ (0 ≤ c ∧ c < 6) ∨ 6 ≤ c by omega) with h | ⟨h, h'⟩ | h
  · go_enter Try.func40, Try.ntmps40
    go_wp2
    go_ret
    exact ⟨ret_int (by unfold logF; split <;> omega), by repeat (first | exact Upd.refl _ _ | apply Upd.alloc | apply Upd.drew | apply Upd.drewN)⟩
  · go_enter Try.func40, Try.ntmps40
    go_wp2
    go_ret
    exact ⟨ret_int (by unfold logF; split <;> omega), by repeat (first | exact Upd.refl _ _ | apply Upd.alloc | apply Upd.drew | apply Upd.drewN)⟩
  · have hd : decide (c < 6) = false := decide_eq_false (by omega)
    go_enter Try.func40, Try.ntmps40
    go_wp2
    go_ret
    exact ⟨ret_int (by unfold logF; split <;> omega), by repeat (first | exact Upd.refl _ _ | apply Upd.alloc | apply Upd.drew | apply Upd.drewN)⟩

theorem body_calls (c : Int) (w : World) : Calls Try.prog 42 #[.int .i64 c] w fun e w' => e = .returned (.int .i64 (logF c 8)) ∧ Upd Non w w' := by
  rcases (show c < 0 ∨ (0 ≤ c ∧ c < 6) ∨ 6 ≤ c by omega) with h | ⟨h, h'⟩ | h
  · go_enter Try.func42, Try.ntmps42
    go_wp2
    go_ret
    exact ⟨ret_int (by unfold logF; split <;> omega), by repeat (first | exact Upd.refl _ _ | apply Upd.alloc | apply Upd.drew | apply Upd.drewN)⟩
  · go_enter Try.func42, Try.ntmps42
    go_wp2
    go_ret
    exact ⟨ret_int (by unfold logF; split <;> omega), by repeat (first | exact Upd.refl _ _ | apply Upd.alloc | apply Upd.drew | apply Upd.drewN)⟩
  · have hd : decide (c < 6) = false := decide_eq_false (by omega)
    go_enter Try.func42, Try.ntmps42
    go_wp2
    go_ret
    exact ⟨ret_int (by unfold logF; split <;> omega), by repeat (first | exact Upd.refl _ _ | apply Upd.alloc | apply Upd.drew | apply Upd.drewN)⟩

theorem page_calls (c : Int) (w : World) : Calls Try.prog 44 #[.int .i64 c] w fun e w' => e = .returned (.int .i64 (pageF c)) ∧ Upd Non w w' := by
  rcases (show c < 96 ∨ (96 ≤ c ∧ c < 256) ∨ 256 ≤ c by omega) with h | ⟨h, h'⟩ | h
  · go_enter Try.func44, Try.ntmps44
    go_wp2
    go_ret
    exact ⟨ret_int (by unfold pageF; split <;> omega), by repeat (first | exact Upd.refl _ _ | apply Upd.alloc | apply Upd.drew | apply Upd.drewN)⟩
  · go_enter Try.func44, Try.ntmps44
    go_wp2
    go_ret
    exact ⟨ret_int (by unfold pageF; split <;> omega), by repeat (first | exact Upd.refl _ _ | apply Upd.alloc | apply Upd.drew | apply Upd.drewN)⟩
  · have hd : decide (c < 256) = false := decide_eq_false (by omega)
    go_enter Try.func44, Try.ntmps44
    go_wp2
    go_ret
    exact ⟨ret_int (by unfold pageF; split <;> omega), by repeat (first | exact Upd.refl _ _ | apply Upd.alloc | apply Upd.drew | apply Upd.drewN)⟩

theorem words_calls (c : Int) (w : World) : Calls Try.prog 48 #[.int .i64 c] w fun e w' => e = .returned (.int .i64 (wordsF c)) ∧ Upd Non w w' := by
  rcases (show c < 1 ∨ (1 ≤ c ∧ c < 257) ∨ 257 ≤ c by omega) with h | ⟨h, h'⟩ | h
  · go_enter Try.func48, Try.ntmps48
    go_wp2
    go_ret
    exact ⟨ret_int (by unfold wordsF; split <;> omega), by repeat (first | exact Upd.refl _ _ | apply Upd.alloc | apply Upd.drew | apply Upd.drewN)⟩
  · go_enter Try.func48, Try.ntmps48
    go_wp2
    go_ret
    exact ⟨ret_int (by unfold wordsF; split <;> omega), by repeat (first | exact Upd.refl _ _ | apply Upd.alloc | apply Upd.drew | apply Upd.drewN)⟩
  · have hd : decide (c < 257) = false := decide_eq_false (by omega)
    go_enter Try.func48, Try.ntmps48
    go_wp2
    go_ret
    exact ⟨ret_int (by unfold wordsF; split <;> omega), by repeat (first | exact Upd.refl _ _ | apply Upd.alloc | apply Upd.drew | apply Upd.drewN)⟩

theorem refDoor_calls (c : Int) (w : World) : Calls Try.prog 31 #[.int .i64 c] w fun e w' => e = .returned (.int .i64 (regF 3 6 c)) ∧ Upd Non w w' := by
  rcases (show c < 0 ∨ (0 ≤ c ∧ c < 6) ∨ 6 ≤ c by omega) with h | ⟨h, h'⟩ | h
  · go_enter Try.func31, Try.ntmps31
    go_wp2
    go_ret
    exact ⟨ret_int (by unfold regF; split <;> omega), by repeat (first | exact Upd.refl _ _ | apply Upd.alloc | apply Upd.drew | apply Upd.drewN)⟩
  · go_enter Try.func31, Try.ntmps31
    go_wp2
    go_ret
    exact ⟨ret_int (by unfold regF; split <;> omega), by repeat (first | exact Upd.refl _ _ | apply Upd.alloc | apply Upd.drew | apply Upd.drewN)⟩
  · have hd : decide (c < 6) = false := decide_eq_false (by omega)
    go_enter Try.func31, Try.ntmps31
    go_wp2
    go_ret
    exact ⟨ret_int (by unfold regF; split <;> omega), by repeat (first | exact Upd.refl _ _ | apply Upd.alloc | apply Upd.drew | apply Upd.drewN)⟩

theorem refClock_calls (c : Int) (w : World) : Calls Try.prog 33 #[.int .i64 c] w fun e w' => e = .returned (.int .i64 (regF 4 6 c)) ∧ Upd Non w w' := by
  rcases (show c < 0 ∨ (0 ≤ c ∧ c < 6) ∨ 6 ≤ c by omega) with h | ⟨h, h'⟩ | h
  · go_enter Try.func33, Try.ntmps33
    go_wp2
    go_ret
    exact ⟨ret_int (by unfold regF; split <;> omega), by repeat (first | exact Upd.refl _ _ | apply Upd.alloc | apply Upd.drew | apply Upd.drewN)⟩
  · go_enter Try.func33, Try.ntmps33
    go_wp2
    go_ret
    exact ⟨ret_int (by unfold regF; split <;> omega), by repeat (first | exact Upd.refl _ _ | apply Upd.alloc | apply Upd.drew | apply Upd.drewN)⟩
  · have hd : decide (c < 6) = false := decide_eq_false (by omega)
    go_enter Try.func33, Try.ntmps33
    go_wp2
    go_ret
    exact ⟨ret_int (by unfold regF; split <;> omega), by repeat (first | exact Upd.refl _ _ | apply Upd.alloc | apply Upd.drew | apply Upd.drewN)⟩

theorem refLease_calls (c : Int) (w : World) : Calls Try.prog 35 #[.int .i64 c] w fun e w' => e = .returned (.int .i64 (regF 5 6 c)) ∧ Upd Non w w' := by
  rcases (show c < 0 ∨ (0 ≤ c ∧ c < 6) ∨ 6 ≤ c by omega) with h | ⟨h, h'⟩ | h
  · go_enter Try.func35, Try.ntmps35
    go_wp2
    go_ret
    exact ⟨ret_int (by unfold regF; split <;> omega), by repeat (first | exact Upd.refl _ _ | apply Upd.alloc | apply Upd.drew | apply Upd.drewN)⟩
  · go_enter Try.func35, Try.ntmps35
    go_wp2
    go_ret
    exact ⟨ret_int (by unfold regF; split <;> omega), by repeat (first | exact Upd.refl _ _ | apply Upd.alloc | apply Upd.drew | apply Upd.drewN)⟩
  · have hd : decide (c < 6) = false := decide_eq_false (by omega)
    go_enter Try.func35, Try.ntmps35
    go_wp2
    go_ret
    exact ⟨ret_int (by unfold regF; split <;> omega), by repeat (first | exact Upd.refl _ _ | apply Upd.alloc | apply Upd.drew | apply Upd.drewN)⟩

theorem refCons_calls (c : Int) (w : World) : Calls Try.prog 37 #[.int .i64 c] w fun e w' => e = .returned (.int .i64 (regF 1 16 c)) ∧ Upd Non w w' := by
  rcases (show c < 0 ∨ (0 ≤ c ∧ c < 16) ∨ 16 ≤ c by omega) with h | ⟨h, h'⟩ | h
  · go_enter Try.func37, Try.ntmps37
    go_wp2
    go_ret
    exact ⟨ret_int (by unfold regF; split <;> omega), by repeat (first | exact Upd.refl _ _ | apply Upd.alloc | apply Upd.drew | apply Upd.drewN)⟩
  · go_enter Try.func37, Try.ntmps37
    go_wp2
    go_ret
    exact ⟨ret_int (by unfold regF; split <;> omega), by repeat (first | exact Upd.refl _ _ | apply Upd.alloc | apply Upd.drew | apply Upd.drewN)⟩
  · have hd : decide (c < 16) = false := decide_eq_false (by omega)
    go_enter Try.func37, Try.ntmps37
    go_wp2
    go_ret
    exact ⟨ret_int (by unfold regF; split <;> omega), by repeat (first | exact Upd.refl _ _ | apply Upd.alloc | apply Upd.drew | apply Upd.drewN)⟩

theorem refMark_calls (c : Int) (w : World) : Calls Try.prog 39 #[.int .i64 c] w fun e w' => e = .returned (.int .i64 (logF c 0)) ∧ Upd Non w w' := by
  rcases (show c < 0 ∨ (0 ≤ c ∧ c < 6) ∨ 6 ≤ c by omega) with h | ⟨h, h'⟩ | h
  · go_enter Try.func39, Try.ntmps39
    go_wp2
    go_ret
    exact ⟨ret_int (by unfold logF; split <;> omega), by repeat (first | exact Upd.refl _ _ | apply Upd.alloc | apply Upd.drew | apply Upd.drewN)⟩
  · go_enter Try.func39, Try.ntmps39
    go_wp2
    go_ret
    exact ⟨ret_int (by unfold logF; split <;> omega), by repeat (first | exact Upd.refl _ _ | apply Upd.alloc | apply Upd.drew | apply Upd.drewN)⟩
  · have hd : decide (c < 6) = false := decide_eq_false (by omega)
    go_enter Try.func39, Try.ntmps39
    go_wp2
    go_ret
    exact ⟨ret_int (by unfold logF; split <;> omega), by repeat (first | exact Upd.refl _ _ | apply Upd.alloc | apply Upd.drew | apply Upd.drewN)⟩

theorem refTag_calls (c : Int) (w : World) : Calls Try.prog 41 #[.int .i64 c] w fun e w' => e = .returned (.int .i64 (logF c 1)) ∧ Upd Non w w' := by
  rcases (show c < 0 ∨ (0 ≤ c ∧ c < 6) ∨ 6 ≤ c by omega) with h | ⟨h, h'⟩ | h
  · go_enter Try.func41, Try.ntmps41
    go_wp2
    go_ret
    exact ⟨ret_int (by unfold logF; split <;> omega), by repeat (first | exact Upd.refl _ _ | apply Upd.alloc | apply Upd.drew | apply Upd.drewN)⟩
  · go_enter Try.func41, Try.ntmps41
    go_wp2
    go_ret
    exact ⟨ret_int (by unfold logF; split <;> omega), by repeat (first | exact Upd.refl _ _ | apply Upd.alloc | apply Upd.drew | apply Upd.drewN)⟩
  · have hd : decide (c < 6) = false := decide_eq_false (by omega)
    go_enter Try.func41, Try.ntmps41
    go_wp2
    go_ret
    exact ⟨ret_int (by unfold logF; split <;> omega), by repeat (first | exact Upd.refl _ _ | apply Upd.alloc | apply Upd.drew | apply Upd.drewN)⟩

theorem refBody_calls (c : Int) (w : World) : Calls Try.prog 43 #[.int .i64 c] w fun e w' => e = .returned (.int .i64 (logF c 8)) ∧ Upd Non w w' := by
  rcases (show c < 0 ∨ (0 ≤ c ∧ c < 6) ∨ 6 ≤ c by omega) with h | ⟨h, h'⟩ | h
  · go_enter Try.func43, Try.ntmps43
    go_wp2
    go_ret
    exact ⟨ret_int (by unfold logF; split <;> omega), by repeat (first | exact Upd.refl _ _ | apply Upd.alloc | apply Upd.drew | apply Upd.drewN)⟩
  · go_enter Try.func43, Try.ntmps43
    go_wp2
    go_ret
    exact ⟨ret_int (by unfold logF; split <;> omega), by repeat (first | exact Upd.refl _ _ | apply Upd.alloc | apply Upd.drew | apply Upd.drewN)⟩
  · have hd : decide (c < 6) = false := decide_eq_false (by omega)
    go_enter Try.func43, Try.ntmps43
    go_wp2
    go_ret
    exact ⟨ret_int (by unfold logF; split <;> omega), by repeat (first | exact Upd.refl _ _ | apply Upd.alloc | apply Upd.drew | apply Upd.drewN)⟩

theorem refPage_calls (c : Int) (w : World) : Calls Try.prog 45 #[.int .i64 c] w fun e w' => e = .returned (.int .i64 (pageF c)) ∧ Upd Non w w' := by
  rcases (show c < 96 ∨ (96 ≤ c ∧ c < 256) ∨ 256 ≤ c by omega) with h | ⟨h, h'⟩ | h
  · go_enter Try.func45, Try.ntmps45
    go_wp2
    go_ret
    exact ⟨ret_int (by unfold pageF; split <;> omega), by repeat (first | exact Upd.refl _ _ | apply Upd.alloc | apply Upd.drew | apply Upd.drewN)⟩
  · go_enter Try.func45, Try.ntmps45
    go_wp2
    go_ret
    exact ⟨ret_int (by unfold pageF; split <;> omega), by repeat (first | exact Upd.refl _ _ | apply Upd.alloc | apply Upd.drew | apply Upd.drewN)⟩
  · have hd : decide (c < 256) = false := decide_eq_false (by omega)
    go_enter Try.func45, Try.ntmps45
    go_wp2
    go_ret
    exact ⟨ret_int (by unfold pageF; split <;> omega), by repeat (first | exact Upd.refl _ _ | apply Upd.alloc | apply Upd.drew | apply Upd.drewN)⟩

theorem heap_calls (c l : Int) (w : World) : Calls Try.prog 46 #[.int .i64 c, .int .i64 l] w fun e w' => e = .returned (.bool (heapF c l)) ∧ Upd Non w w' := by
  rcases (show l < 98 ∨ 256 < l ∨ (98 ≤ l ∧ l ≤ 256 ∧ c < 96) ∨ (98 ≤ l ∧ l ≤ 256 ∧ 96 ≤ c ∧ l ≤ c) ∨ (98 ≤ l ∧ l ≤ 256 ∧ 96 ≤ c ∧ c < l) by omega) with h | h | ⟨h, h', g⟩ | ⟨h, h', g, g'⟩ | ⟨h, h', g, g'⟩
  all_goals
    go_enter Try.func46, Try.ntmps46
    go_wp2
    go_ret
    exact ⟨ret_bool (by unfold heapF; first | exact (decide_eq_true (by omega)).symm | exact (decide_eq_false (by omega)).symm | (rw [decide_eq_decide]; omega)), by repeat (first | exact Upd.refl _ _ | apply Upd.alloc | apply Upd.drew | apply Upd.drewN)⟩

theorem refHeap_calls (c l : Int) (w : World) : Calls Try.prog 47 #[.int .i64 c, .int .i64 l] w fun e w' => e = .returned (.bool (heapF c l)) ∧ Upd Non w w' := by
  rcases (show l < 98 ∨ 256 < l ∨ (98 ≤ l ∧ l ≤ 256 ∧ c < 96) ∨ (98 ≤ l ∧ l ≤ 256 ∧ 96 ≤ c ∧ l ≤ c) ∨ (98 ≤ l ∧ l ≤ 256 ∧ 96 ≤ c ∧ c < l) by omega) with h | h | ⟨h, h', g⟩ | ⟨h, h', g, g'⟩ | ⟨h, h', g, g'⟩
  all_goals
    go_enter Try.func47, Try.ntmps47
    go_wp2
    go_ret
    exact ⟨ret_bool (by unfold heapF; first | exact (decide_eq_true (by omega)).symm | exact (decide_eq_false (by omega)).symm | (rw [decide_eq_decide]; omega)), by repeat (first | exact Upd.refl _ _ | apply Upd.alloc | apply Upd.drew | apply Upd.drewN)⟩

theorem initial_calls_bad (c : Int) (h : c < 1 ∨ 5 < c) (w : World) : Calls Try.prog 28 #[.int .i64 c] w fun e w' => e = .returned (.tuple #[.int .u64 0, .int .i64 2]) ∧ w = w' := by
  rcases h with h | h
  all_goals
    go_enter Try.func28, Try.ntmps28
    go_wp2
    go_ret2
    exact ⟨rfl, rfl⟩
theorem initial_calls (c : Int) (h1 : 1 ≤ c) (h2 : c ≤ 5) (w : World) : Calls Try.prog 28 #[.int .i64 c] w fun e w' => e = .returned (.tuple #[.int .u64 (initV c), .int .i64 0]) ∧ w = w' := by
  rcases (show c = 1 ∨ c = 2 ∨ c = 3 ∨ c = 4 ∨ c = 5 by omega) with rfl | rfl | rfl | rfl | rfl
  all_goals
    clear h1 h2
    go_enter Try.func28, Try.ntmps28
    go_wp2
    refine wp_loop_rounds 6 ?_
    repeat (rw [rounds_succ]; go_wp2)
    go_ret2
    exact ⟨rfl, rfl⟩

theorem refInitial_calls_bad (c : Int) (h : c < 1 ∨ 5 < c) (w : World) : Calls Try.prog 29 #[.int .i64 c] w fun e w' => e = .returned (.tuple #[.int .u64 0, .int .i64 2]) ∧ w = w' := by
  rcases h with h | h
  all_goals
    go_enter Try.func29, Try.ntmps29
    go_wp2
    go_ret2
    exact ⟨rfl, rfl⟩
theorem refInitial_calls (c : Int) (h1 : 1 ≤ c) (h2 : c ≤ 5) (w : World) : Calls Try.prog 29 #[.int .i64 c] w fun e w' => e = .returned (.tuple #[.int .u64 (initV c), .int .i64 0]) ∧ w = w' := by
  rcases (show c = 1 ∨ c = 2 ∨ c = 3 ∨ c = 4 ∨ c = 5 by omega) with rfl | rfl | rfl | rfl | rfl
  all_goals
    clear h1 h2
    go_enter Try.func29, Try.ntmps29
    go_wp2
    refine wp_loop_rounds 6 ?_
    repeat (rw [rounds_succ]; go_wp2)
    go_ret2
    exact ⟨rfl, rfl⟩

theorem wordsF_cases (li : Int) : (li < 1 ∧ wordsF li = 0) ∨ (1 ≤ li ∧ li ≤ 256 ∧ wordsF li = li * 8) ∨ (256 < li ∧ wordsF li = 0) := by
  unfold wordsF; split <;> omega

/-- InitialValue for every argument. -/
def initA (nodes : Int) : Int := if 1 ≤ nodes ∧ nodes ≤ 5 then initV nodes else 0
def initE (nodes : Int) : Int := if 1 ≤ nodes ∧ nodes ≤ 5 then 0 else 2
theorem initial_all (c : Int) (w : World) : Calls Try.prog 28 #[.int .i64 c] w fun e w' => e = .returned (.tuple #[.int .u64 (initA c), .int .i64 (initE c)]) ∧ w = w' := by
  by_cases h : 1 ≤ c ∧ c ≤ 5
  · simp only [initA, initE, if_pos h]; exact initial_calls c h.1 h.2 w
  · simp only [initA, initE, if_neg h]; exact initial_calls_bad c (by omega) w
theorem refInitial_all (c : Int) (w : World) : Calls Try.prog 29 #[.int .i64 c] w fun e w' => e = .returned (.tuple #[.int .u64 (initA c), .int .i64 (initE c)]) ∧ w = w' := by
  by_cases h : 1 ≤ c ∧ c ≤ 5
  · simp only [initA, initE, if_pos h]; exact refInitial_calls c h.1 h.2 w
  · simp only [initA, initE, if_neg h]; exact refInitial_calls_bad c (by omega) w

theorem awake7_calls (w : World) : Calls Try.prog 22 #[] w fun e w' => e = .returned (.bool true) ∧ Upd Non w w' := by
  go_enter Try.func22, Try.ntmps22
  go_wp2_with fail
  refine (initial_calls 1 (by decide) (by decide) _).mono ?_
  rintro e w1 ⟨rfl, rfl⟩
  go_wp2_with fail
  refine (door_calls 0 _).mono ?_
  rintro e w1 ⟨rfl, h1⟩
  have H1 := Lib.hid h1
  clear h1
  show _
  rw [show regF 3 6 0 = 24 from rfl]
  go_wp2_with fail
  refine (mark_calls 1 _).mono ?_
  rintro e w2 ⟨rfl, h2⟩
  have H2 := Lib.hid (H1.out.tr h2)
  clear h2 H1
  rw [show logF 1 0 = 168 from rfl]
  go_wp2_with fail
  refine (body_calls 0 _).mono ?_
  rintro e w3 ⟨rfl, h3⟩
  have H3 := Lib.hid (H2.out.tr h3)
  clear h3 H2
  rw [show logF 0 8 = 56 from rfl]
  go_wp2_with fail
  refine (page_calls 96 _).mono ?_
  rintro e w4 ⟨rfl, h4⟩
  have H4 := Lib.hid (H3.out.tr h4)
  clear h4 H3
  rw [show pageF 96 = 768 from rfl, show initV 1 = 549755813895 from rfl]
  go_wp2_with fail
  go_ret
  exact ⟨rfl, H4.out⟩

end Go.Proofs.Ytlhbikiggmdolaa
