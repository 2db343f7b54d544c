/- Queue pairs of the program: complete. -/
import Derived.Test.YtlhbikiggmdolaaExec
namespace Go.Proofs.Ytlhbikiggmdolaa
open Go.RowKit

theorem View.subS {w : World} {F : Blk} {s : Nat} {A : Option Addr} {n : Nat} {c : List Value} (h : View w F s A n c) (k m : Nat) (hm : k + m ≤ n) (h0 : 1 ≤ m) (hs : 1 ≤ s) :
    ∃ b off, A = some ⟨b, off, none⟩ ∧ View w F s (some ⟨b, off + k * s, none⟩) m ((c.drop (k * s)).take (m * s)) := by
  have hl := h.1
  have hms : k * s + m * s ≤ n * s := by rw [← Nat.add_mul]; exact Nat.mul_le_mul_right _ hm
  have hp : 1 ≤ m * s := Nat.mul_le_mul h0 hs
  have hne : c ≠ [] := by intro e; subst e; simp at hl; omega
  obtain ⟨b, off, hA, hF, hb, hc⟩ := h.2 hne
  refine ⟨b, off, hA, by rw [List.length_take, List.length_drop]; omega, fun _ => ⟨b, off + k * s, rfl, hF, hb, fun i v hv => ?_⟩⟩
  rw [List.getElem?_take] at hv
  split at hv
  · rw [List.getElem?_drop] at hv
    rw [show off + k * s + i = off + (k * s + i) by omega]
    exact hc _ _ hv
  · cases hv

theorem cloneV_calls {w : World} {G : Blk} {A : Option Addr} {n cap : Nat} {c : List Value} (hA : A = none → n = 0 ∧ cap = 0) (hv : View w G 9 A n c) (h1 : ∀ u ∈ c, u.oneCell' = true) (hn : n * 88 ≤ 140737488355328) :
    Calls Try.prog 174 #[.slice A n cap] w fun e w' => ∃ v, e = .returned v ∧ Own w' (New w w') 62 9 v n c ∧ Upd Non w w' := by
  cases A with
  | none =>
    obtain ⟨rfl, rfl⟩ := hA rfl
    have hc : c = [] := List.eq_nil_of_length_eq_zero (by simpa using hv.1)
    subst hc
    have he := fun w => Lib.run_eql_slice_nil (P := Try.prog) w 60 62 none 0 0 0 0 Try.underlying60
    go_enter Try.func174, Try.ntmps174
    go_wp2
    go_ret
    exact ⟨_, rfl, Own.nil _ _ _ _, Upd.refl _ _⟩
  | some ad =>
    have he := fun w => Lib.run_eql_slice_nil (P := Try.prog) w 60 62 (some ad) n cap 0 0 Try.underlying60
    have hv' : View (w.alloc (.cells #[] 62)) G 9 (some ad) n c := View.keep (M := Non) hv ((Upd.refl _ _).alloc _) (fun _ _ h => h)
    have ho : Own (w.alloc (.cells #[] 62)) (One w.heap.size) 62 9 (.slice (some ⟨w.heap.size, 0, none⟩) 0 0) 0 [] :=
      ⟨by simp, .inr ⟨w.heap.size, 0, [], rfl, rfl, by simpa using Row.new w #[] 62, by simp, Nat.le_refl _, by decide⟩⟩
    go_enter Try.func174, Try.ntmps174
    go_wp2_with (at_builtin; refine wpList_app G rfl (.tmp 5) (.tmp 6) 60 62 rfl _ 9 88 Try.underlying60 info_verb rfl (by decide) (.slice (some ⟨w.heap.size, 0, none⟩) 0 0) 0 [] rfl ho (some ad) n cap c rfl (by simp) hv' h1 (by omega) (by decide) ?_; intro v' w1 hown hupd hnil hblk)
    go_ret
    refine ⟨_, rfl, ?_, ?_⟩
    · have := hown.mono (F' := New w w1) fun k hk hlt => by
        rcases hk with rfl | hk
        · exact ⟨Nat.le_refl _, hlt⟩
        · exact ⟨by have := hk.1; simp at this; omega, hlt⟩
      simpa using this
    · exact ((Upd.refl Non w).alloc _).trans hupd fun i hi hk => by simp [Value.ownBlock] at hk; omega

theorem vsC_one {w : World} {I : Blk} (l : List (Vb × Value)) (h : ∀ x ∈ l, VWords w I x.1 x.2) : ∀ u ∈ vsC l, u.oneCell' = true := by
  intro u hu
  obtain ⟨x, hx, hm⟩ := List.mem_flatMap.1 hu
  obtain ⟨A, cap, hs, _⟩ := h x hx
  rw [hs] at hm
  simp [vbC] at hm
  rcases hm with rfl | rfl | rfl | rfl | rfl | rfl | rfl | rfl | rfl <;> rfl
theorem vsC_cons (x : Vb × Value) (l : List (Vb × Value)) : vsC (x :: l) = (vbC x.1 x.2).toList ++ vsC l := rfl
def Pr.rest (P : Pr) : Pr := { P with verbs := P.verbs.tail, ex := 0, words := [] }

theorem comp_fin {w w2 : World} {M I : Blk} {p : Nat} {P : Pr} {A2 : Option Addr} {cap2 : Nat} {sv sw x : Value} {l : List (Vb × Value)} (hp : Row w2 p 178 [.int .i64 P.client, .int .i64 P.inc, .int .i64 P.node, sv, x, sw])
    (hO : Own w2 (New w w2) 62 9 (.slice A2 l.length cap2) l.length (vsC l)) (hU : Upd Non w w2) (hpl : p < w.heap.size) (h2 : l.map Prod.fst = P.verbs.tail) (hW : ∀ y ∈ l, VWords w I y.1 y.2) (hd : ∀ k, I k → ¬ M k) (hM : M p) :
    Ending.returned (.tuple #[]) = .returned (.tuple #[]) ∧ PairR (((w2.setCell ⟨p, 3, none⟩ (.slice A2 l.length cap2)).setCell ⟨p, 4, none⟩ (.int .i64 0)).setCell ⟨p, 5, none⟩ (.slice none 0 0)) (fun k => k = p ∨ New w (((w2.setCell ⟨p, 3, none⟩ (.slice A2 l.length cap2)).setCell ⟨p, 4, none⟩ (.int .i64 0)).setCell ⟨p, 5, none⟩ (.slice none 0 0)) k) I p P.rest ∧
      Upd (One p) w (((w2.setCell ⟨p, 3, none⟩ (.slice A2 l.length cap2)).setCell ⟨p, 4, none⟩ (.int .i64 0)).setCell ⟨p, 5, none⟩ (.slice none 0 0)) := by
  have hu : Upd (One p) w2 (((w2.setCell ⟨p, 3, none⟩ (.slice A2 l.length cap2)).setCell ⟨p, 4, none⟩ (.int .i64 0)).setCell ⟨p, 5, none⟩ (.slice none 0 0)) :=
    (((Upd.refl (One p) w2).setCell (p := ⟨p, 3, none⟩) (.inl rfl) _).setCell (p := ⟨p, 4, none⟩) (.inl rfl) _).setCell (p := ⟨p, 5, none⟩) (.inl rfl) _
  have hfin := hU.of_non.trans hu fun _ _ h => h
  refine ⟨rfl, ⟨_, _, l, ((hp.set 3 _).set 4 _).set 5 _, h2, fun y hy => (hW y hy).keep hfin fun k hk e => hd k hk (by cases e; exact hM), ?_, Own.nil _ _ _ _, .inl rfl⟩, hfin⟩
  refine (hO.keep hu fun k hk e => ?_).mono fun k hk hl => .inr ⟨hk.1, hl⟩
  cases e
  exact absurd hk.1 (by omega)

theorem complete_calls {w : World} {M I : Blk} {p : Nat} {P : Pr} (h : PairR w M I p P) (hd : ∀ k, I k → ¬ M k) (hne : P.verbs ≠ []) (hl : P.verbs.length ≤ 1024) :
    Calls Try.prog 146 #[.pointer (some ⟨p, 0, none⟩)] w fun e w' => e = .returned (.tuple #[]) ∧ PairR w' (fun k => k = p ∨ New w w' k) I p P.rest ∧ Upd (One p) w w' := by
  obtain ⟨sv, sw, l, hp, h2, h3, h4, h5, h6⟩ := h
  obtain ⟨x, l, rfl⟩ : ∃ x l', l = x :: l' := by
    cases l with
    | nil => exact absurd h2.symm hne
    | cons x l => exact ⟨x, l, rfl⟩
  have hlen : l.length + 1 ≤ 1024 := by rw [← h2] at hl; simpa using hl
  obtain ⟨Av, cv, rfl, hAv, hV⟩ := h4.shape
  have h4b := h4
  obtain ⟨Aw, cw, rfl, _, _⟩ := h5.shape
  obtain ⟨g, hcap, rfl, hgM, hgl⟩ : ∃ g, l.length + 1 ≤ cv ∧ Av = some ⟨g, 0, none⟩ ∧ M g ∧ g < w.heap.size := by
    rcases h4.2 with ⟨e, _⟩ | ⟨g, c, sp, e, hg, hr, _, h5, _⟩
    · simp only [Value.slice.injEq] at e; exact absurd e.2.1 (by simp)
    · simp only [Value.slice.injEq] at e
      obtain ⟨rfl, _, rfl⟩ := e
      exact ⟨g, by simpa using h5, rfl, hg, hr.lt⟩
  have HCL : Hid (∀ A c, l = [] ∨ A = some ⟨g, 9, none⟩ → A ≠ none → Calls Try.prog 174 #[.slice A l.length c] w fun e w' => ∃ v, e = .returned v ∧ Own w' (New w w') 62 9 v l.length (vsC l) ∧ Upd Non w w') := Lib.hid fun A c hA hA2 => by
    refine cloneV_calls (G := M) (fun e => absurd e hA2) ?_ (vsC_one (I := I) l fun y hy => h3 y (List.mem_cons_of_mem _ hy)) (by omega)
    rcases hA with rfl | rfl
    · exact View.nil _ _ _ _
    · by_cases h0 : l.length = 0
      · have : l = [] := List.eq_nil_of_length_eq_zero h0
        subst this
        exact View.nil _ _ _ _
      · obtain ⟨b, off, e, hs⟩ := hV.subS 1 l.length (by simp; omega) (by omega) (by decide)
        cases e
        have e : ((vsC (x :: l)).drop (1 * 9)).take (l.length * 9) = vsC l := by
          rw [vsC_cons, List.drop_left' (by simp [vbC]), List.take_of_length_le (by rw [vsC_length]; omega)]
        rw [e] at hs
        simpa using hs
  have c3 := hp.cell 3 rfl
  have c4 := hp.cell 4 rfl
  have c5 := hp.cell 5 rfl
  have z3 := hp.frozen 3
  have z4 := hp.frozen 4
  have z5 := hp.frozen 5
  simp only [List.length_cons] at *
  have HP := Lib.hid hp
  have HW := Lib.hid fun y hy => h3 y (List.mem_cons_of_mem _ hy)
  have HD := Lib.hid hd
  have HP0 := Lib.hid hp.lt
  have H2 : Hid (l.map Prod.fst = P.verbs.tail) := Lib.hid (by rw [← h2]; rfl)
  have HM := Lib.hid h6
  have g1 : (1 : Int) ≤ ((l.length + 1 : Nat) : Int) := by omega
  go_enter Try.func146, Try.ntmps146
  clear hp h2 h3 h4 h4b h5 hV hAv hd hl
  go_wp2_with fail
  · refine (HCL.out _ _ (.inl (List.eq_nil_of_length_eq_zero (by omega))) (by simp)).mono ?_
    rintro e w2 ⟨v, rfl, hO, hU⟩
    have hp2 := hU.rowN HP.out
    have c3 := hp2.cell 3 rfl
    have c4 := hp2.cell 4 rfl
    have c5 := hp2.cell 5 rfl
    have z3 := hp2.frozen 3
    have z4 := hp2.frozen 4
    have z5 := hp2.frozen 5
    have HP2 := Lib.hid hp2
    obtain ⟨A2, cap2, rfl, _, _⟩ := hO.shape
    have HO := Lib.hid hO
    have HU := Lib.hid hU
    clear hp2 hO hU HP
    go_wp2_with fail
    go_end0
    exact comp_fin HP2.out HO.out HU.out HP0.out H2.out HW.out HD.out HM.out
  · refine (HCL.out _ _ (.inr rfl) (by simp)).mono ?_
    rintro e w2 ⟨v, rfl, hO, hU⟩
    have hp2 := hU.rowN HP.out
    have c3 := hp2.cell 3 rfl
    have c4 := hp2.cell 4 rfl
    have c5 := hp2.cell 5 rfl
    have z3 := hp2.frozen 3
    have z4 := hp2.frozen 4
    have z5 := hp2.frozen 5
    have HP2 := Lib.hid hp2
    obtain ⟨A2, cap2, rfl, _, _⟩ := hO.shape
    have HO := Lib.hid hO
    have HU := Lib.hid hU
    clear hp2 hO hU HP
    go_wp2_with fail
    go_end0
    exact comp_fin HP2.out HO.out HU.out HP0.out H2.out HW.out HD.out HM.out
end Go.Proofs.Ytlhbikiggmdolaa
