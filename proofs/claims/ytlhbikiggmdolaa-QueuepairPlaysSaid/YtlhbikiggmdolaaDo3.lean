/- bodegalaw3.do: one operation on the program's node and on the reference's. -/
import Derived.Test.YtlhbikiggmdolaaSwap3
import Derived.Deep.DeepCutAuto
import Derived.Deep.RegionWith
import Derived.Deep.OwnRows
namespace Go.Proofs.Ytlhbikiggmdolaa
open Go.RowKit

/-- The words that 'do' writes. -/
def fillW (v : Int) (m : Nat) : List Int := (List.range m).map fun (i : Nat) => (v + (i : Int)) % 18446744073709551616
theorem fillW_length (v : Int) (m : Nat) : (fillW v m).length = m := by simp [fillW]
theorem fillW_wf (v : Int) (m : Nat) : Wf (fillW v m) := by
  intro x hx; simp only [fillW, List.mem_map] at hx; obtain ⟨i, _, rfl⟩ := hx; omega
theorem fill_set (v : Int) (m k : Nat) (hk : k < m) : (u64s ((fillW v m).take k ++ List.replicate (m - k) 0)).set k (.int .u64 ((v + (k : Int)) % 18446744073709551616)) = u64s ((fillW v m).take (k + 1) ++ List.replicate (m - (k + 1)) 0) := by
  apply List.ext_getElem?
  intro i
  rw [List.getElem?_set]
  have hl := fillW_length v m
  by_cases e : k = i
  · subst e
    simp only [u64s, List.length_map, List.length_append, List.length_take, List.length_replicate, hl, if_true]
    rw [if_pos (by omega), List.getElem?_map, List.getElem?_append_left (by simp [hl]; omega), List.getElem?_take, if_pos (by omega)]
    simp [fillW, hk]
  · simp only [e, if_false, u64s, List.getElem?_map]
    congr 1
    by_cases h : i < k
    · rw [List.getElem?_append_left (by simp [hl]; omega), List.getElem?_append_left (by simp [hl]; omega), List.getElem?_take, List.getElem?_take, if_pos h, if_pos (by omega)]
    · rw [List.getElem?_append_right (by simp [hl]; omega), List.getElem?_append_right (by simp [hl]; omega)]
      simp only [List.length_take, hl, List.getElem?_replicate]
      by_cases h2 : i < m
      · rw [if_pos (by omega), if_pos (by omega)]
      · rw [if_neg (by omega), if_neg (by omega)]

theorem fill_zero (v : Int) (m k : Nat) (h : k < m) : (u64s ((fillW v m).take k ++ List.replicate (m - k) 0))[k]? = some (.int .u64 0) := by
  rw [u64s_get, List.getElem?_append_right (by simp [fillW_length]; omega)]
  simp only [List.length_take, fillW_length, List.getElem?_replicate]
  rw [if_pos (by omega)]; rfl

theorem fill_done (v : Int) (m k : Nat) (h : k = m) : u64s ((fillW v m).take k ++ List.replicate (m - k) 0) = u64s (fillW v m) := by
  subst h
  rw [List.take_of_length_le (by rw [fillW_length]; omega), Nat.sub_self, List.replicate_zero, List.append_nil]

theorem set_same {c : List Value} {i : Nat} {x : Value} (h : c[i]? = some x) : c.set i x = c := by
  apply List.ext_getElem?
  intro j
  rw [List.getElem?_set]
  by_cases e : i = j
  · subst e; rw [if_pos rfl, if_pos (List.getElem?_eq_some_iff.1 h).1, h]
  · rw [if_neg e]

def DoPost (w : World) (F G : Blk) (p b off : Nat) (T : TypeId) (c : List Value) (ws : List Int) (up keep : Bool) (w' : World) : Prop :=
  ∃ ws' up', ws'.length = ws.length ∧ (Wf ws → Wf ws') ∧ (keep = true → up' = up) ∧ Both w' F G p b off T (c.set (off + 1) (.bool up')) ws' up' ∧ Upd (Or2 F G) w w'

def CutRel (w : World) (bx : Nat) (kd at0 cn a v : Int) (s7 s8 : Value) (wc : World) : Prop :=
  ∃ at_ ct : Int, s7 = .int .i64 at_ ∧ s8 = .int .i64 ct ∧ Row wc bx 49 (opC kd at0 cn a v).toList ∧ Upd Non w wc
def FillRel (wb : Nat) (v : Int) (m : Nat) (W1 : World) (i : Value) (wr : World) : Prop :=
  ∃ k : Nat, k ≤ m ∧ i = .int .i64 k ∧ Row wr wb 36 (u64s ((fillW v m).take k ++ List.replicate (m - k) 0)) ∧ Upd (One wb) W1 wr


theorem RefN.flag {G : Blk} {w : World} {b off : Nat} {T : TypeId} {c : List Value} {ws : List Int} {up : Bool} (h : RefN w G b off T c ws up) (hl : off + 1 < c.length) (up' : Bool) :
    RefN (w.setCell ⟨b, off + 1, none⟩ (.bool up')) G b off T (c.set (off + 1) (.bool up')) ws up' := by
  obtain ⟨hb, q, sp, h1, h2, ⟨spare, hs, hr⟩, gb, gq, hne, hle⟩ := h
  exact ⟨hb.set _ _, q, sp, by rw [List.getElem?_set_ne (by omega)]; exact h1, by rw [List.getElem?_set_self hl], ⟨spare, hs, hr.setOther hne _ _⟩, gb, gq, hne, hle⟩
theorem putW_nil (ws : List Int) (a : Nat) : putW ws a [] = ws := by simp [putW]
theorem Wf.put {ws l : List Int} (h : Wf ws) (hl : Wf l) (a : Nat) : Wf (putW ws a l) := by
  intro x hx
  simp only [putW, List.mem_append] at hx
  rcases hx with hx | hx | hx
  · exact h x (List.mem_of_mem_take hx)
  · exact hl x hx
  · exact h x (List.mem_of_mem_drop hx)
theorem putW_get (ws : List Int) (a : Nat) (l : List Int) (i : Nat) (h : a + l.length ≤ ws.length) : (putW ws a l)[i]? = if i < a then ws[i]? else if i < a + l.length then l[i - a]? else ws[i]? := by
  unfold putW
  have hm : min a ws.length = a := Nat.min_eq_left (by omega)
  by_cases h1 : i < a
  · rw [if_pos h1, List.getElem?_append_left (by rw [List.length_take, hm]; exact h1), List.getElem?_take, if_pos h1]
  · rw [if_neg h1, List.getElem?_append_right (by rw [List.length_take, hm]; omega), List.length_take, hm]
    by_cases h2 : i < a + l.length
    · rw [if_pos h2, List.getElem?_append_left (by omega)]
    · rw [if_neg h2, List.getElem?_append_right (by omega), List.getElem?_drop]
      congr 1; omega
theorem putW_snoc (ws : List Int) (a : Nat) (l : List Int) (k : Nat) (hk : k < l.length) (h : a + l.length ≤ ws.length) :
    putW ws a (l.take (k + 1)) = (putW ws a (l.take k)).set (a + k) (l.getD k 0) := by
  have e1 : (l.take (k + 1)).length = k + 1 := by rw [List.length_take]; omega
  have e2 : (l.take k).length = k := by rw [List.length_take]; omega
  have e3 : (putW ws a (l.take k)).length = ws.length := putW_length _ _ _ (by omega)
  apply List.ext_getElem?
  intro i
  rw [List.getElem?_set, putW_get _ _ _ _ (by omega), putW_get _ _ _ _ (by omega), e1, e2, e3]
  by_cases e : a + k = i
  · subst e
    rw [if_neg (by omega), if_pos (by omega), if_pos rfl, if_pos (by omega), Nat.add_sub_cancel_left, List.getElem?_take, if_pos (by omega)]
    simp [List.getD_eq_getElem?_getD, List.getElem?_eq_getElem hk]
  · rw [if_neg e]
    by_cases h1 : i < a
    · rw [if_pos h1, if_pos h1]
    · rw [if_neg h1, if_neg h1]
      by_cases h2 : i < a + k
      · rw [if_pos (by omega), if_pos h2, List.getElem?_take, List.getElem?_take, if_pos (by omega), if_pos (by omega)]
      · rw [if_neg (by omega), if_neg h2]
theorem RefN.rowq {G : Blk} {w : World} {b off : Nat} {T : TypeId} {c : List Value} {ws : List Int} {up : Bool} (h : RefN w G b off T c ws up) {q n cap : Nat} (hq : c[off]? = some (.slice (some ⟨q, 0, none⟩) n cap)) : ∃ spare, Row w q 36 (u64s ws ++ spare) := by
  obtain ⟨hb, q', sp, h1, h2, ⟨spare, hs, hr⟩, gb, gq, hne, hl⟩ := h
  rw [hq] at h1
  simp only [Option.some.injEq, Value.slice.injEq, Addr.mk.injEq] at h1
  obtain ⟨⟨rfl, _⟩, _, _⟩ := h1
  exact ⟨spare, hr⟩
def WrRel (W : World) (G : Blk) (b off : Nat) (T : TypeId) (c : List Value) (ws : List Int) (up : Bool) (i : Nat) (l : List Int) (j : Value) (wl : World) : Prop :=
  ∃ k : Nat, k ≤ l.length ∧ j = .int .i64 k ∧ RefN wl G b off T c (putW ws i (l.take k)) up ∧ Upd G W wl
theorem putW_one (ws : List Int) (a : Nat) (x : Int) (h : a < ws.length) : putW ws a [x] = ws.set a x := by
  rw [List.set_eq_take_append_cons_drop, if_pos h]; simp [putW]
theorem view_new2 (w : World) (c : Array Value) (T : TypeId) (s n : Nat) (hc : c.size = n * s) : View (w.alloc (.cells c T)) (fun _ => True) s (some ⟨w.heap.size, 0, none⟩) n c.toList :=
  View.ofRow (Row.new w c T) _ trivial s n 0 _ (by simpa using hc) (by rw [List.drop_zero, List.take_length])
end Go.Proofs.Ytlhbikiggmdolaa
