/- Contracts of the reference's memory node and of SameWords. -/
import Derived.Test.YtlhbikiggmdolaaLaw3
import Derived.Test.YtlhbikiggmdolaaHeap2
namespace Go.Proofs.Ytlhbikiggmdolaa
open Go.RowKit

/-- The reference's node at cell off of block b, whose cells are c. -/
def RefN (w : World) (G : Blk) (b off : Nat) (T : TypeId) (c : List Value) (ws : List Int) (up : Bool) : Prop :=
  Row w b T c ∧ ∃ q sp, c[off]? = some (.slice (some ⟨q, 0, none⟩) ws.length (ws.length + sp)) ∧ c[off + 1]? = some (.bool up) ∧ (∃ spare, spare.length = sp ∧ Row w q 36 (u64s ws ++ spare)) ∧ G b ∧ G q ∧ q ≠ b ∧ ws.length ≤ 2048
theorem RefN.keep {M G : Blk} {w w' : World} {b off : Nat} {T : TypeId} {c : List Value} {ws : List Int} {up : Bool} (h : RefN w G b off T c ws up) (hu : Upd M w w') (hd : ∀ k, G k → ¬ M k) : RefN w' G b off T c ws up := by
  obtain ⟨hb, q, sp, h1, h2, ⟨spare, hs, hq⟩, gb, gq, r⟩ := h
  exact ⟨hu.row hb (hd _ gb), q, sp, h1, h2, ⟨spare, hs, hu.row hq (hd _ gq)⟩, gb, gq, r⟩
theorem RefN.mono {G G' : Blk} {w : World} {b off : Nat} {T : TypeId} {c : List Value} {ws : List Int} {up : Bool} (h : RefN w G b off T c ws up) (hG : ∀ k, G k → k < w.heap.size → G' k) : RefN w G' b off T c ws up := by
  obtain ⟨hb, q, sp, h1, h2, ⟨spare, hs, hq⟩, gb, gq, r⟩ := h
  exact ⟨hb, q, sp, h1, h2, ⟨spare, hs, hq⟩, hG _ gb hb.lt, hG _ gq hq.lt, r⟩

theorem access_calls {w : World} {G : Blk} {b off : Nat} {T : TypeId} {c : List Value} {ws : List Int} {up : Bool} (h : RefN w G b off T c ws up) (at_ count : Int) :
    Calls Try.prog 117 #[.pointer (some ⟨b, off, none⟩), .int .i64 at_, .int .i64 count] w fun e w' => e = .returned (.int .i64 (accE ws.length up at_ count)) ∧ w = w' := by
  obtain ⟨hb, q, sp, h1, h2, ⟨spare, hs, hq⟩, gb, gq, hne, hl⟩ := h
  have c0 := hb.cell _ h1
  have c1 := hb.cell _ h2
  clear hb hq hs h1 h2 gb gq hne
  cases up <;>
  · go_enter Try.func117, Try.ntmps117
    go_wp2
    all_goals (go_ret; exact ⟨ret_int (by unfold accE; simp <;> omega), rfl⟩)

theorem refboot_calls {w : World} {G : Blk} {b off : Nat} {T : TypeId} {c : List Value} {ws : List Int} {up : Bool} (h : RefN w G b off T c ws up) (h2 : 2 ≤ ws.length) :
    Calls Try.prog 159 #[.pointer (some ⟨b, off, none⟩)] w fun e w' => e = .returned (.int .u64 (ws.getD 1 0)) ∧ w = w' := by
  obtain ⟨hb, q, sp, h1, h2', ⟨spare, hs, hq⟩, gb, gq, hne, hl⟩ := h
  have c0 := hb.cell _ h1
  have c1 : w.cell? ⟨q, 1, none⟩ = some (.int .u64 (ws.getD 1 0)) := hq.cell 1 (u64s_at (by omega))
  clear hb hq hs h1 h2' gb gq hne
  go_enter Try.func159, Try.ntmps159
  go_wp2
  go_ret
  exact ⟨rfl, rfl⟩

theorem refback_no {w : World} {G : Blk} {b off : Nat} {T : TypeId} {c : List Value} {ws : List Int} {up : Bool} (h : RefN w G b off T c ws up) (hl : 2 ≤ ws.length) (hn : up = true ∨ 31 ≤ ws.getD 1 0) :
    Calls Try.prog 119 #[.pointer (some ⟨b, off, none⟩)] w fun e w' => e = .returned (.bool false) ∧ w = w' := by
  have hb := refboot_calls h hl
  obtain ⟨hr, q, sp, h1, h2', ⟨spare, hs, hq⟩, gb, gq, hne, _⟩ := h
  have c0 := hr.cell _ h2'
  clear hr hq hs h1 h2' gb gq hne hl
  generalize ws.getD 1 0 = x at *
  have H := Lib.hid hb
  clear hb
  cases up
  · have hx : 31 ≤ x := by rcases hn with h | h <;> first | (simp at h; done) | exact h
    clear hn
    go_enter Try.func119, Try.ntmps119
    go_wp2_with (go_at_call 159; refine H.out.mono ?_; rintro e w' ⟨rfl, rfl⟩)
    go_ret
    exact ⟨rfl, rfl⟩
  · clear hn
    go_enter Try.func119, Try.ntmps119
    go_wp2_with (go_at_call 159; refine H.out.mono ?_; rintro e w' ⟨rfl, rfl⟩)
    go_ret
    exact ⟨rfl, rfl⟩

theorem refback_yes {w : World} {G : Blk} {b off : Nat} {T : TypeId} {c : List Value} {ws : List Int} (h : RefN w G b off T c ws false) (hl : 2 ≤ ws.length) (hx : ws.getD 1 0 < 31) (hx0 : 0 ≤ ws.getD 1 0) :
    Calls Try.prog 119 #[.pointer (some ⟨b, off, none⟩)] w fun e w' =>
      e = .returned (.bool true) ∧ RefN w' G b off T (c.set (off + 1) (.bool true)) (ws.set 1 (ws.getD 1 0 + 1)) true ∧ Upd G w w' := by
  have hb := refboot_calls h hl
  obtain ⟨hr, q, sp, h1, h2', ⟨spare, hs, hq⟩, gb, gq, hne, hl2⟩ := h
  have hoff : off + 1 < c.length := (List.getElem?_eq_some_iff.1 h2').1
  have c0 := hr.cell _ h2'
  have c2 := hr.cell _ h1
  have c1 : w.cell? ⟨q, 1, none⟩ = some (.int .u64 (ws.getD 1 0)) := hq.cell 1 (u64s_at (by omega))
  have z1 := hq.frozen 1
  have z0 := hr.frozen (off + 1)
  have hp' := hr.set (off + 1) (.bool true)
  have h1' : (c.set (off + 1) (.bool true))[off]? = some (.slice (some ⟨q, 0, none⟩) ws.length (ws.length + sp)) := by rw [List.getElem?_set_ne (by omega)]; exact h1
  have d2 : (w.setCell ⟨b, off + 1, none⟩ (.bool true)).cell? ⟨b, off, none⟩ = _ := hp'.cell _ h1'
  have hq' := hq.setOther hne (off + 1) (.bool true)
  have d1 : (w.setCell ⟨b, off + 1, none⟩ (.bool true)).cell? ⟨q, 1, none⟩ = some (.int .u64 (ws.getD 1 0)) := hq'.cell 1 (u64s_at (by omega))
  have e1 := hq'.frozen 1
  have H := Lib.hid hb
  have HS := Lib.hid hs
  have H1 := Lib.hid h1'
  clear hb hs h1 h2' h1'
  generalize ws.getD 1 0 = x at *
  go_enter Try.func119, Try.ntmps119
  go_wp2_with (go_at_call 159; refine H.out.mono ?_; rintro e w' ⟨rfl, rfl⟩)
  go_ret
  refine ⟨rfl, ⟨?_, q, sp, by rw [List.length_set]; exact H1.out, by rw [List.getElem?_set_self hoff], ⟨spare, HS.out, ?_⟩, gb, gq, hne, by simpa using hl2⟩, ((Upd.refl _ _).setCell (.inl gb) _).setCell (.inl gq) _⟩
  · exact hp'.setOther (Ne.symm hne) _ _
  · rw [← u64s_set _ _ _ _ (by omega)]; exact hq'.set _ _

theorem take_eq_step {xs ys : List Int} {k : Nat} (h : xs.take k = ys.take k) (hk : k < xs.length) (hk' : k < ys.length) (he : xs.getD k 0 = ys.getD k 0) : xs.take (k + 1) = ys.take (k + 1) := by
  rw [List.take_succ_eq_append_getElem hk, List.take_succ_eq_append_getElem hk', h]
  simp [List.getD_eq_getElem?_getD, List.getElem?_eq_getElem hk, List.getElem?_eq_getElem hk'] at he
  rw [he]

def SameRel (w : World) (xs ys : List Int) (n : Nat) (i : Value) (wr : World) : Prop := ∃ k : Nat, k ≤ n ∧ i = .int .i64 k ∧ xs.take k = ys.take k ∧ Upd Non w wr

theorem same_calls {w : World} {F G : Blk} {A B : Option Addr} {n m ca cb : Nat} {xs ys : List Int} (hx : View w F 1 A n (u64s xs)) (hy : View w G 1 B m (u64s ys)) (hn : n ≤ 140737488355328) (hm : m ≤ 140737488355328) :
    Calls Try.prog 57 #[.slice A n ca, .slice B m cb] w fun e w' => e = .returned (.bool (decide (xs = ys))) ∧ Upd Non w w' := by
  have lx : xs.length = n := by have := hx.1; simpa [u64s] using this
  have ly : ys.length = m := by have := hy.1; simpa [u64s] using this
  by_cases hnm : n = m
  · subst hnm
    have HX := Lib.hid hx
    have HY := Lib.hid hy
    have LX := Lib.hid lx
    have LY := Lib.hid ly
    clear hx hy lx ly
    go_enter Try.func57, Try.ntmps57
    go_wp2_with fail
    go_loopw [5] (fun i wr => SameRel w xs ys n i wr) (fun i _ => n - (intOf i).toNat)
    case atStart => exact ⟨0, Nat.zero_le _, rfl, by simp, Upd.refl _ _⟩
    case round =>
      obtain ⟨k, hk, rfl, ht, hu⟩ := hrel
      have HT := Lib.hid ht
      have HU := Lib.hid hu
      have HXW := Lib.hid (HX.out.keep hu (fun _ _ h => h))
      have HYW := Lib.hid (HY.out.keep hu (fun _ _ h => h))
      clear ht hu
      by_cases hlt : k < n
      · obtain ⟨b, off, rfl, hF, _, hc⟩ := HXW.out.cell (i := k) (v := .int .u64 (xs.getD k 0)) (by have := u64s_at (ws := xs) (spare := []) (i := k) (by have := LX.out; omega); simpa using this)
        obtain ⟨b', off', rfl, hG, _, hc'⟩ := HYW.out.cell (i := k) (v := .int .u64 (ys.getD k 0)) (by have := u64s_at (ws := ys) (spare := []) (i := k) (by have := LY.out; omega); simpa using this)
        by_cases he : xs.getD k 0 = ys.getD k 0
        · have HTT := Lib.hid (take_eq_step HT.out (by have := LX.out; omega) (by have := LY.out; omega) he)
          rw [← he] at hc'
          clear he hF hG
          generalize xs.getD k 0 = x at *
          go_wp2
          go_quiet (fail)
          go_wp2
          go_roundw
          case rel => exact ⟨k + 1, by omega, by go_num, HTT.out, HU.out.drewN _⟩
          case measure => simp [intOf]; omega
        · have hb : (xs.getD k 0 == ys.getD k 0) = false := by simpa using he
          have hb' : (xs.getD k 0 != ys.getD k 0) = true := by simpa using he
          have HE := Lib.hid he
          clear he hF hG
          have HD := Lib.hid (show decide (xs = ys) = false from decide_eq_false fun h => HE.out (by rw [h]))
          generalize xs.getD k 0 = x at *
          generalize ys.getD k 0 = y at *
          go_wp2
          go_quiet (fail)
          go_wp2
          go_ret
          exact ⟨by rw [HD.out]; rfl, HU.out.drewN _⟩
      · obtain rfl : k = n := by omega
        have HD := Lib.hid (show decide (xs = ys) = true from decide_eq_true (by
          have h := HT.out
          rw [List.take_of_length_le (by have := LX.out; omega), List.take_of_length_le (by have := LY.out; omega)] at h
          exact h))
        go_wp2
        go_ret
        exact ⟨by rw [HD.out]; rfl, HU.out⟩
  · have HD := Lib.hid (show decide (xs = ys) = false from decide_eq_false fun h => hnm (by rw [← lx, ← ly, h]))
    have hb : (n == m) = false := by simpa using hnm
    have hb' : ((n : Int) == m) = false := by simp; omega
    have hb'' : ((n : Int) != m) = true := by simp; omega
    clear hx hy lx ly hnm
    go_enter Try.func57, Try.ntmps57
    go_wp2
    go_ret
    exact ⟨by rw [HD.out]; rfl, Upd.refl _ _⟩
end Go.Proofs.Ytlhbikiggmdolaa
