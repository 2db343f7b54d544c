/- The checksum CRC-64/XZ: bit by bit and by a table come to the same. No program in sight. -/
import Derived.Laws.BitsAllLaws
namespace Go.Proofs.Ytlhbikiggmdolaa

def crcPoly : Nat := 14514072000185962306
/-- One step of the register. -/
def stepR (r : Nat) : Nat := if r % 2 = 1 then (r / 2) ^^^ crcPoly else r / 2
def stepN : Nat → Nat → Nat
  | 0, r => r
  | n + 1, r => stepN n (stepR r)
/-- The register after a byte, by the table. -/
def crcStep (r x : Nat) : Nat := (r / 256) ^^^ stepN 8 ((r % 256) ^^^ x)
def crcR (r : Nat) (bs : List Nat) : Nat := bs.foldl crcStep r
def not64 (r : Nat) : Nat := 18446744073709551615 ^^^ r
/-- The checksum of bytes. -/
def crcN (bs : List Nat) : Nat := not64 (crcR (not64 0) bs)

theorem stepN_add (m n r : Nat) : stepN (m + n) r = stepN n (stepN m r) := by
  induction m generalizing r with
  | zero => simp [stepN]
  | succ m ih => rw [show m + 1 + n = (m + n) + 1 by omega]; simp only [stepN]; exact ih _
theorem stepN_succ (n r : Nat) : stepN (n + 1) r = stepR (stepN n r) := by rw [stepN_add]; rfl

theorem xor_mod2 (a b : Nat) : (a ^^^ b) % 2 = (a % 2 + b % 2) % 2 := by
  have h := @Nat.xor_mod_two_pow a b 1
  rw [show (2 : Nat) ^ 1 = 2 from rfl] at h
  rw [h]
  rcases Nat.mod_two_eq_zero_or_one a with h1 | h1 <;> rcases Nat.mod_two_eq_zero_or_one b with h2 | h2 <;> rw [h1, h2] <;> rfl

theorem stepR_xor (a b : Nat) : stepR (a ^^^ b) = stepR a ^^^ stepR b := by
  unfold stepR
  rw [xor_mod2, Nat.xor_div_two]
  rcases Nat.mod_two_eq_zero_or_one a with h1 | h1 <;> rcases Nat.mod_two_eq_zero_or_one b with h2 | h2 <;> simp only [h1, h2]
  · simp
  · simp [Nat.xor_assoc]
  · simp
    rw [Nat.xor_assoc, Nat.xor_assoc, Nat.xor_comm (b / 2)]
  · simp
    rw [Nat.xor_assoc, ← Nat.xor_assoc crcPoly, Nat.xor_comm crcPoly (b / 2), Nat.xor_assoc (b / 2), Nat.xor_self, Nat.xor_zero]
theorem stepN_xor (n a b : Nat) : stepN n (a ^^^ b) = stepN n a ^^^ stepN n b := by
  induction n generalizing a b with
  | zero => rfl
  | succ n ih => simp only [stepN]; rw [stepR_xor, ih]
theorem stepN_shift (n h : Nat) : stepN n (2 ^ n * h) = h := by
  induction n generalizing h with
  | zero => simp [stepN]
  | succ n ih =>
    simp only [stepN]
    have : stepR (2 ^ (n + 1) * h) = 2 ^ n * h := by
      unfold stepR
      have e : 2 ^ (n + 1) * h = 2 * (2 ^ n * h) := by rw [Nat.pow_succ]; rw [Nat.mul_comm (2 ^ n) 2, Nat.mul_assoc]
      rw [e, if_neg (by omega)]
      omega
    rw [this, ih]
theorem split_xor (r : Nat) : r = (2 ^ 8 * (r / 256)) ^^^ (r % 256) := by
  apply Nat.eq_of_testBit_eq
  intro j
  have hl : r % 256 < 2 ^ 8 := Nat.mod_lt _ (by decide)
  have h0 := Nat.testBit_two_pow_mul_add (r / 256) hl j
  rw [show 2 ^ 8 * (r / 256) + r % 256 = r by omega] at h0
  rw [h0, Nat.testBit_xor]
  have h1 := Nat.testBit_two_pow_mul_add (r / 256) (show 0 < 2 ^ 8 by decide) j
  rw [Nat.add_zero] at h1
  rw [h1]
  by_cases hj : j < 8
  · simp [hj]
  · rw [if_neg hj, if_neg hj, Nat.testBit_lt_two_pow (Nat.lt_of_lt_of_le hl (Nat.pow_le_pow_right (by decide) (by omega)))]; simp
/-- Eight steps on a register with a byte laid in: the table's entry. -/
theorem stepN_byte (r x : Nat) : stepN 8 (r ^^^ x) = crcStep r x := by
  unfold crcStep
  conv => lhs; rw [split_xor r]
  rw [Nat.xor_assoc, stepN_xor, stepN_shift]

theorem crcPoly_lt : crcPoly < 2 ^ 64 := by decide
theorem stepR_lt {r : Nat} (h : r < 2 ^ 64) : stepR r < 2 ^ 64 := by
  unfold stepR
  split
  · exact Nat.xor_lt_two_pow (by omega) crcPoly_lt
  · omega
theorem stepN_lt (n : Nat) {r : Nat} (h : r < 2 ^ 64) : stepN n r < 2 ^ 64 := by
  induction n generalizing r with
  | zero => exact h
  | succ n ih => exact ih (stepR_lt h)
theorem crcStep_lt {r x : Nat} (h : r < 2 ^ 64) (hx : x < 256) : crcStep r x < 2 ^ 64 := by
  rw [← stepN_byte]
  exact stepN_lt 8 (Nat.xor_lt_two_pow h (by omega))
theorem crcR_lt {r : Nat} (h : r < 2 ^ 64) : ∀ {bs : List Nat}, (∀ x ∈ bs, x < 256) → crcR r bs < 2 ^ 64 := by
  intro bs
  induction bs generalizing r with
  | nil => intro _; exact h
  | cons x bs ih => intro hb; exact ih (crcStep_lt h (hb x (by simp))) fun y hy => hb y (by simp [hy])
theorem crcR_snoc (r : Nat) (bs : List Nat) (x : Nat) : crcR r (bs ++ [x]) = crcStep (crcR r bs) x := by simp [crcR]
theorem not64_lt {r : Nat} (h : r < 2 ^ 64) : not64 r < 2 ^ 64 := Nat.xor_lt_two_pow (by decide) h
theorem not64_zero : not64 0 = 18446744073709551615 := by decide
theorem crcN_lt {bs : List Nat} (hb : ∀ x ∈ bs, x < 256) : crcN bs < 2 ^ 64 := not64_lt (crcR_lt (not64_lt (by decide)) hb)

/-! A changed byte changes the checksum. -/
theorem xor_cancel {a b c : Nat} (h : a ^^^ b = a ^^^ c) : b = c := by
  have := congrArg (a ^^^ ·) h
  simpa [← Nat.xor_assoc] using this
theorem stepR_high {r : Nat} (h : r < 2 ^ 64) : (stepR r).testBit 63 = decide (r % 2 = 1) := by
  have h2 : (r / 2).testBit 63 = false := Nat.testBit_lt_two_pow (by omega)
  unfold stepR
  split
  · rename_i e
    rw [Nat.testBit_xor, h2, show crcPoly.testBit 63 = true by decide]; simp [e]
  · rename_i e
    rw [h2]; simp [e]
theorem stepR_inj {a b : Nat} (ha : a < 2 ^ 64) (hb : b < 2 ^ 64) (h : stepR a = stepR b) : a = b := by
  have h1 := stepR_high ha
  have h2 := stepR_high hb
  rw [h, h2] at h1
  have hp : (a % 2 = 1) ↔ (b % 2 = 1) := by simpa using h1.symm
  unfold stepR at h
  by_cases e : a % 2 = 1
  · rw [if_pos e, if_pos (hp.1 e)] at h
    rw [Nat.xor_comm, Nat.xor_comm (b / 2)] at h
    have := xor_cancel h
    have := hp.1 e
    omega
  · rw [if_neg e, if_neg (fun h => e (hp.2 h))] at h
    have : ¬ b % 2 = 1 := fun h => e (hp.2 h)
    omega
theorem stepN_inj (n : Nat) {a b : Nat} (ha : a < 2 ^ 64) (hb : b < 2 ^ 64) (h : stepN n a = stepN n b) : a = b := by
  induction n generalizing a b with
  | zero => exact h
  | succ n ih => exact stepR_inj ha hb (ih (stepR_lt ha) (stepR_lt hb) h)
theorem crcStep_inj_r {a b x : Nat} (ha : a < 2 ^ 64) (hb : b < 2 ^ 64) (hx : x < 256) (h : crcStep a x = crcStep b x) : a = b := by
  rw [← stepN_byte, ← stepN_byte] at h
  have := stepN_inj 8 (Nat.xor_lt_two_pow ha (by omega)) (Nat.xor_lt_two_pow hb (by omega)) h
  rw [Nat.xor_comm, Nat.xor_comm b] at this
  exact xor_cancel this
theorem crcStep_inj_x {a x y : Nat} (ha : a < 2 ^ 64) (hx : x < 256) (hy : y < 256) (h : crcStep a x = crcStep a y) : x = y := by
  rw [← stepN_byte, ← stepN_byte] at h
  exact xor_cancel (stepN_inj 8 (Nat.xor_lt_two_pow ha (by omega)) (Nat.xor_lt_two_pow ha (by omega)) h)
theorem crcR_inj {a b : Nat} (ha : a < 2 ^ 64) (hb : b < 2 ^ 64) : ∀ {bs : List Nat}, (∀ x ∈ bs, x < 256) → crcR a bs = crcR b bs → a = b := by
  intro bs
  induction bs generalizing a b with
  | nil => intro _ h; exact h
  | cons x bs ih =>
    intro hx h
    exact crcStep_inj_r ha hb (hx x (by simp)) (ih (crcStep_lt ha (hx x (by simp))) (crcStep_lt hb (hx x (by simp))) (fun y hy => hx y (by simp [hy])) h)
theorem crcN_change {pre post : List Nat} {x y : Nat} (h1 : ∀ z ∈ pre, z < 256) (h2 : ∀ z ∈ post, z < 256) (hx : x < 256) (hy : y < 256) (h : crcN (pre ++ x :: post) = crcN (pre ++ y :: post)) : x = y := by
  have h0 : not64 0 < 2 ^ 64 := not64_lt (Nat.pow_pos (by decide))
  unfold crcN at h
  generalize not64 0 = z at *
  have h : crcR z (pre ++ x :: post) = crcR z (pre ++ y :: post) := xor_cancel h
  simp only [crcR, List.foldl_append, List.foldl_cons] at h
  have hr : crcR z pre < 2 ^ 64 := crcR_lt h0 h1
  exact crcStep_inj_x hr hx hy (crcR_inj (crcStep_lt hr hx) (crcStep_lt hr hy) h2 h)
end Go.Proofs.Ytlhbikiggmdolaa
