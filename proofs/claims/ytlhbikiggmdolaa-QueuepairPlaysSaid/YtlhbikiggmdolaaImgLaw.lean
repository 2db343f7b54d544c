/- The plain law of images: bytes read as words; which bytes are an image; one changed byte is none. -/
import Derived.Test.YtlhbikiggmdolaaSame
namespace Go.Proofs.Ytlhbikiggmdolaa

/-- The number in bytes, the least significant one first. -/
def leN (l : List Nat) : Nat := l.foldr (fun x a => x + 256 * a) 0
theorem leN_cons (x : Nat) (l : List Nat) : leN (x :: l) = x + 256 * leN l := rfl
theorem leN_lt {l : List Nat} (h : Byt l) : leN l < 256 ^ l.length := by
  induction l with
  | nil => simp [leN]
  | cons x l ih =>
    have h1 := h x (by simp)
    have h2 := ih (fun y hy => h y (by simp [hy]))
    rw [leN_cons, List.length_cons, Nat.pow_succ]; omega
theorem leN_div {l : List Nat} (h : Byt l) (i : Nat) : leN l / 256 ^ i % 256 = l.getD i 0 := by
  induction l generalizing i with
  | nil => simp [leN]
  | cons x l ih =>
    have h1 := h x (by simp)
    have h2 : Byt l := fun y hy => h y (by simp [hy])
    rw [leN_cons]
    cases i with
    | zero => simp; omega
    | succ i =>
      rw [Nat.pow_succ, Nat.mul_comm (256 ^ i) 256, ← Nat.div_div_eq_div_mul, show (x + 256 * leN l) / 256 = leN l by omega, ih h2 i]; simp
theorem leB_leN {l : List Nat} (h : Byt l) (hl : l.length = 8) : leB (leN l) = l := by
  apply List.ext_getElem?
  intro i
  by_cases hi : i < 8
  · rw [leB_get _ _ hi, leN_div h, List.getD_eq_getElem?_getD, List.getElem?_eq_getElem (by omega)]; rfl
  · rw [List.getElem?_eq_none (by rw [leB_length]; omega), List.getElem?_eq_none (by omega)]
theorem leN_leB (x : Nat) (h : x < 2 ^ 64) : leN (leB x) = x := by
  simp only [leB, show List.range 8 = [0, 1, 2, 3, 4, 5, 6, 7] from rfl, List.map_cons, List.map_nil, leN, List.foldr_cons, List.foldr_nil]
  omega
theorem leN_append (l m : List Nat) : leN (l ++ m) = leN l + 256 ^ l.length * leN m := by
  induction l with
  | nil => simp [leN]
  | cons x l ih => rw [List.cons_append, leN_cons, ih, leN_cons, List.length_cons, Nat.pow_succ, Nat.mul_add, Nat.add_assoc, Nat.mul_comm (256 ^ l.length) 256, Nat.mul_assoc]

theorem Byt.drop {l : List Nat} (h : Byt l) (k : Nat) : Byt (l.drop k) := fun x hx => h x (List.mem_of_mem_drop hx)
/-- Word i of an image's bytes. -/
def wordI (bs : List Nat) (i : Nat) : Nat := leN ((bs.drop (7 + 8 * i)).take 8)
theorem wordI_lt {bs : List Nat} (h : Byt bs) (i : Nat) : wordI bs i < 2 ^ 64 := by
  have h1 := leN_lt ((h.drop (7 + 8 * i)).take 8)
  have h2 : ((bs.drop (7 + 8 * i)).take 8).length ≤ 8 := by rw [List.length_take]; omega
  have h3 : 256 ^ ((bs.drop (7 + 8 * i)).take 8).length ≤ 256 ^ 8 := Nat.pow_le_pow_right (by decide) h2
  unfold wordI
  exact Nat.lt_of_lt_of_le h1 h3
def wordsI (bs : List Nat) (n : Nat) : List Int := (List.range n).map fun i => ((wordI bs i : Nat) : Int)
theorem wordsI_length (bs : List Nat) (n : Nat) : (wordsI bs n).length = n := by simp [wordsI]
def W64 (ws : List Int) : Prop := ∀ x ∈ ws, 0 ≤ x ∧ x < 18446744073709551616
theorem W64.wf {ws : List Int} (h : W64 ws) : Wf ws := fun x hx => (h x hx).1
theorem wordsI_wf {bs : List Nat} (h : Byt bs) (n : Nat) : W64 (wordsI bs n) := by
  intro x hx
  simp only [wordsI, List.mem_map] at hx
  obtain ⟨i, _, rfl⟩ := hx
  have := wordI_lt h i
  omega
/-- Bytes that are the image of a node. -/
def IsImg (bs : List Nat) : Prop := ∃ (L : Nat) (ws : List Int) (up : Bool), 1 ≤ L ∧ L ≤ 256 ∧ ws.length = L * 8 ∧ W64 ws ∧ bs = imgB ws up

theorem drop_add (a b : List Nat) (k : Nat) : (a ++ b).drop (a.length + k) = b.drop k := by rw [← List.drop_drop, List.drop_left]
theorem imgW_word (ws : List Int) (hw : W64 ws) (i : Nat) (hi : i < ws.length) (rest : List Nat) : leN (((imgW ws ++ rest).drop (8 * i)).take 8) = (ws.getD i 0).toNat := by
  induction ws generalizing i with
  | nil => simp at hi
  | cons x ws ih =>
    have hx : 0 ≤ x ∧ x < 18446744073709551616 := hw x (by simp)
    have hlb := leB_length x.toNat
    simp only [imgW, List.flatMap_cons, List.append_assoc]
    cases i with
    | zero =>
      rw [Nat.mul_zero, List.drop_zero, List.take_append_of_le_length (by omega), List.take_of_length_le (by omega), leN_leB x.toNat (by omega)]; rfl
    | succ i =>
      rw [show 8 * (i + 1) = (leB x.toNat).length + 8 * i by omega, drop_add]
      have := ih (fun y hy => hw y (by simp [hy])) i (by simpa using hi)
      simpa [imgW] using this
theorem wordsI_img (ws : List Int) (up : Bool) (hw : W64 ws) : wordsI (imgB ws up) ws.length = ws := by
  apply List.ext_getElem?
  intro i
  by_cases hi : i < ws.length
  · have h1 := hw ws[i] (List.getElem_mem hi)
    have hH : (imgH (ws.length / 8) up).length = 7 := rfl
    have : wordI (imgB ws up) i = (ws.getD i 0).toNat := by
      unfold wordI imgB imgP
      rw [List.append_assoc, show 7 + 8 * i = (imgH (ws.length / 8) up).length + 8 * i by omega, drop_add]
      exact imgW_word ws hw i hi _
    simp only [wordsI, List.getElem?_map, List.getElem?_range hi, Option.map_some, this, List.getD_eq_getElem?_getD, List.getElem?_eq_getElem hi, Option.getD_some]
    congr 1; omega
  · rw [List.getElem?_eq_none (by rw [wordsI_length]; omega), List.getElem?_eq_none (by omega)]

theorem imgB_get (ws : List Int) (up : Bool) (i : Nat) (hi : i < 7) : (imgB ws up)[i]? = (imgH (ws.length / 8) up)[i]? := by
  unfold imgB imgP
  rw [List.append_assoc, List.getElem?_append_left (by show i < 7; exact hi)]
theorem up_of (ws : List Int) (up : Bool) : (imgB ws up).getD 6 0 = if up then 1 else 0 := by
  rw [List.getD_eq_getElem?_getD, imgB_get ws up 6 (by decide)]; rfl
theorem lines_of (ws : List Int) (up : Bool) (L : Nat) (hl : ws.length = L * 8) (hL : L ≤ 256) : (imgB ws up).getD 4 0 + 256 * (imgB ws up).getD 5 0 = L := by
  rw [List.getD_eq_getElem?_getD, imgB_get ws up 4 (by decide), List.getD_eq_getElem?_getD, imgB_get ws up 5 (by decide)]
  simp [imgH, hl]; omega

/-- As the program reads an image. -/
theorem isImg_prog {bs : List Nat} (hb : Byt bs) (L : Nat) (hL : bs.getD 4 0 + 256 * bs.getD 5 0 = L) :
    IsImg bs ↔ (1 ≤ L ∧ L ≤ 256 ∧ bs.length = 15 + 64 * L ∧ imgB (wordsI bs (L * 8)) (decide (bs.getD 6 0 ≠ 0)) = bs) := by
  constructor
  · rintro ⟨M, ws, up, h1, h2, h3, h4, rfl⟩
    rw [lines_of ws up M h3 h2] at hL
    subst hL
    refine ⟨h1, h2, by rw [imgB_length]; omega, ?_⟩
    rw [← h3, wordsI_img ws up h4, up_of]
    cases up <;> rfl
  · rintro ⟨h1, h2, h3, h4⟩
    exact ⟨L, _, _, h1, h2, wordsI_length _ _, wordsI_wf hb _, h4.symm⟩
/-- As the reference reads an image. -/
theorem isImg_ref {bs : List Nat} (hb : Byt bs) (L : Nat) (hl : bs.length = 15 + 64 * L) (h1 : 1 ≤ L) (h2 : L ≤ 256) :
    IsImg bs ↔ imgB (wordsI bs (L * 8)) (decide (bs.getD 6 0 = 1)) = bs := by
  constructor
  · rintro ⟨M, ws, up, h1, h2, h3, h4, rfl⟩
    rw [imgB_length] at hl
    obtain rfl : M = L := by omega
    rw [← h3, wordsI_img ws up h4, up_of]
    cases up <;> rfl
  · intro h4
    exact ⟨L, _, _, h1, h2, wordsI_length _ _, wordsI_wf hb _, h4.symm⟩
theorem isImg_length {bs : List Nat} (h : IsImg bs) : ∃ L, 1 ≤ L ∧ L ≤ 256 ∧ bs.length = 15 + 64 * L := by
  obtain ⟨L, ws, up, h1, h2, h3, h4, rfl⟩ := h
  exact ⟨L, h1, h2, by rw [imgB_length]; omega⟩

theorem leB_mod (x : Nat) : leB (x % 18446744073709551616) = leB x := by
  simp only [leB, show List.range 8 = [0, 1, 2, 3, 4, 5, 6, 7] from rfl, List.map_cons, List.map_nil, List.cons.injEq, and_true]
  omega
theorem isImg_of {ws : List Int} {up : Bool} {L : Nat} (hw : Wf ws) (hl : ws.length = L * 8) (h1 : 1 ≤ L) (h2 : L ≤ 256) : IsImg (imgB ws up) := by
  have e : imgW (ws.map (· % 18446744073709551616)) = imgW ws := by
    unfold imgW
    rw [List.flatMap_map]
    have : ∀ x ∈ ws, leB (x % 18446744073709551616).toNat = leB x.toNat := fun x hx => by
      rw [← leB_mod x.toNat, Int.toNat_emod (hw x hx) (by decide)]; rfl
    clear hw hl
    induction ws with
    | nil => rfl
    | cons x ws ih => simp only [List.flatMap_cons]; rw [this x (by simp), ih (fun y hy => this y (by simp [hy]))]
  refine ⟨L, ws.map (· % 18446744073709551616), up, h1, h2, by simpa using hl, ?_, ?_⟩
  · intro x hx
    simp only [List.mem_map] at hx
    obtain ⟨y, _, rfl⟩ := hx
    omega
  · unfold imgB imgP; rw [e, List.length_map]
theorem leB_inj {x y : Nat} (hx : x < 2 ^ 64) (hy : y < 2 ^ 64) (h : leB x = leB y) : x = y := by rw [← leN_leB x hx, ← leN_leB y hy, h]
theorem imgP_length (ws : List Int) (up : Bool) : (imgP ws up).length = 7 + 8 * ws.length := by unfold imgP; rw [List.length_append, imgW_length]; rfl
theorem set_split {l : List Nat} {i : Nat} (h : i < l.length) (y : Nat) : l.set i y = l.take i ++ y :: l.drop (i + 1) := by rw [List.set_eq_take_append_cons_drop, if_pos h]
theorem self_split {l : List Nat} {i : Nat} (h : i < l.length) : l = l.take i ++ l[i] :: l.drop (i + 1) := by
  have := List.take_append_drop i l
  rw [List.drop_eq_getElem_cons h] at this
  exact this.symm

/-- One changed byte makes an image none. -/
theorem img_changed (ws : List Int) (up : Bool) (i y : Nat) (hi : i < (imgB ws up).length) (hy : y < 256) (hne : (imgB ws up)[i]? ≠ some y) : ¬ IsImg ((imgB ws up).set i y) := by
  rintro ⟨L, vs, vp, h1, h2, h3, h4, he⟩
  have hlen := congrArg List.length he
  rw [List.length_set, imgB_length, imgB_length] at hlen
  have hll : vs.length = ws.length := by omega
  have hP1 := imgP_length ws up
  have hP2 := imgP_length vs vp
  have hb1 := imgP_byt ws up
  have hb2 := imgP_byt vs vp
  have hc1 := crcN_lt hb1
  have hc2 := crcN_lt hb2
  by_cases hlt : i < (imgP ws up).length
  · have hs : (imgB ws up).set i y = (imgP ws up).set i y ++ leB (crcN (imgP ws up)) := by unfold imgB; rw [List.set_append_left _ _ hlt]
    rw [hs] at he
    have hsp := List.append_inj he (by rw [List.length_set]; omega)
    obtain ⟨e1, e2⟩ := hsp
    have e3 := leB_inj hc1 hc2 e2
    rw [← e1, set_split hlt] at e3
    rw [self_split hlt] at e3
    have hx : (imgP ws up)[i] < 256 := hb1.get hlt
    have h5 := crcN_change (pre := (imgP ws up).take i) (post := (imgP ws up).drop (i + 1)) (hb1.take i) (hb1.drop _) hx hy (by
      simpa [List.take_append_of_le_length, Nat.min_eq_left (Nat.le_of_lt hlt)] using e3)
    apply hne
    rw [← h5]
    unfold imgB
    rw [List.getElem?_append_left hlt, List.getElem?_eq_getElem hlt]
  · have hs : (imgB ws up).set i y = imgP ws up ++ (leB (crcN (imgP ws up))).set (i - (imgP ws up).length) y := by unfold imgB; rw [List.set_append_right _ _ (by omega)]
    rw [hs] at he
    obtain ⟨e1, e2⟩ := List.append_inj he (by omega)
    rw [e1] at e2
    have hk : i - (imgP ws up).length < (leB (crcN (imgP vs vp))).length := by
      rw [leB_length]; rw [imgB_length] at hi; omega
    rw [← e1] at hk
    have e4 : ((leB (crcN (imgP vs vp))).set (i - (imgP vs vp).length) y)[i - (imgP vs vp).length]? = (leB (crcN (imgP vs vp)))[i - (imgP vs vp).length]? := by rw [e2]
    rw [List.getElem?_set_self (by rw [← e1]; exact hk)] at e4
    apply hne
    unfold imgB
    rw [List.getElem?_append_right (by omega), e1]
    exact e4.symm
end Go.Proofs.Ytlhbikiggmdolaa
