/- memnode.Copy; a node of the program beside one of the reference, in footprints of their own. -/
import Derived.Test.YtlhbikiggmdolaaPlay3
import Derived.Test.YtlhbikiggmdolaaHeap3
namespace Go.Proofs.Ytlhbikiggmdolaa
open Go.RowKit

theorem NodeR.open {w : World} {F : Blk} {p : Nat} {ws : List Int} {up : Bool} (h : NodeR w F p ws up) :
    ∃ q sp, Row w p 140 [.slice (some ⟨q, 0, none⟩) ws.length (ws.length + sp), .bool (!up)] ∧ View w F 1 (some ⟨q, 0, none⟩) ws.length (u64s ws) := by
  obtain ⟨q, sp, hp, ⟨spare, hs, hq⟩, fp, fq, hl⟩ := h
  exact ⟨q, sp, hp, View.ofRow hq F fq 1 _ 0 _ (by simp [u64s]) (by simp [u64s])⟩

theorem copy_arm {w w1 : World} {F : Blk} {v : Value} {ws : List Int} {up : Bool} {p q sp : Nat} (hu0 : Upd Non w.drew w1) (hO : Own w1 (New w.drew w1) 36 1 v ws.length (u64s ws)) (hv : v = .slice none 0 0 ↔ (some (⟨q, 0, none⟩ : Addr)) = none) (hl : ws.length ≤ 2048)
    (HC : ∀ w', Upd Non w w' → w'.cell? ⟨p, 0, none⟩ = some (.slice (some ⟨q, 0, none⟩) ws.length (ws.length + sp)) ∧ w'.cell? ⟨p, 1, none⟩ = some (.bool (!up)) ∧ View w' F 1 (some ⟨q, 0, none⟩) ws.length (u64s ws)) :
    ∃ g sp2, v = .slice (some ⟨g, 0, none⟩) ws.length (ws.length + sp2) ∧ w1.cell? ⟨p, 0, none⟩ = some (.slice (some ⟨q, 0, none⟩) ws.length (ws.length + sp)) ∧ w1.cell? ⟨p, 1, none⟩ = some (.bool (!up)) ∧
      Hid (NodeR (w1.alloc (.cells #[.slice (some ⟨g, 0, none⟩) ws.length (ws.length + sp2), .bool (!up)] 140)) (New w (w1.alloc (.cells #[.slice (some ⟨g, 0, none⟩) ws.length (ws.length + sp2), .bool (!up)] 140))) w1.heap.size ws up) ∧
      Hid (Upd Non w (w1.alloc (.cells #[.slice (some ⟨g, 0, none⟩) ws.length (ws.length + sp2), .bool (!up)] 140))) := by
  have hu : Upd Non w w1 := ⟨hu0.os, hu0.tape, hu0.output, hu0.size, hu0.block⟩
  have s1 := hu.size
  obtain ⟨d0, d1, _⟩ := HC w1 hu
  obtain ⟨h1, ⟨h2, _⟩ | ⟨g, cap, spa, rfl, hg, hr, hlen, hn, hc⟩⟩ := hO
  · exact absurd (hv.1 h2) (by simp)
  have hcap : cap = ws.length + spa.length := by simpa [u64s] using hlen.symm
  subst hcap
  refine ⟨g, spa.length, rfl, d0, d1, Lib.hid ⟨g, spa.length, Row.new w1 _ _, ⟨spa, rfl, hr.alloc _⟩, ?_, ?_, hl⟩, Lib.hid (hu.alloc _)⟩
  · simp only [New, World.size_alloc]; omega
  · have h3 := hg.1; have h4 := hg.2; have h5 : w.drew.heap.size = w.heap.size := rfl; simp only [New, World.size_alloc]; omega

theorem copy_calls {w : World} {F : Blk} {p : Nat} {ws : List Int} {up : Bool} (h : NodeR w F p ws up) :
    Calls Try.prog 80 #[.pointer (some ⟨p, 0, none⟩)] w fun e w' => ∃ p2, e = .returned (.pointer (some ⟨p2, 0, none⟩)) ∧ NodeR w' (New w w') p2 ws up ∧ Upd Non w w' := by
  have hle : ws.length ≤ 2048 := by obtain ⟨q, sp, hp, ⟨spare, hs, hq⟩, fp, fq, hl⟩ := h; exact hl
  obtain ⟨q, sp, hp, hv⟩ := h.open
  have c0 := hp.cell 0 rfl
  have c1 := hp.cell 1 rfl
  have HC := Lib.hid (fun w' (hu : Upd Non w w') => (⟨(hu.rowN hp).cell 0 rfl, (hu.rowN hp).cell 1 rfl, hv.keep hu (fun _ _ h => h)⟩ : w'.cell? ⟨p, 0, none⟩ = some (.slice (some ⟨q, 0, none⟩) ws.length (ws.length + sp)) ∧ w'.cell? ⟨p, 1, none⟩ = some (.bool (!up)) ∧ View w' F 1 (some ⟨q, 0, none⟩) ws.length (u64s ws)))
  clear hp hv h
  go_enter Try.func80, Try.ntmps80
  go_wp2_with fail
  go_region_held3 (fun w' => w'.cell? ⟨p, 0, none⟩ = some (.slice (some ⟨q, 0, none⟩) ws.length (ws.length + sp)) ∧ w'.cell? ⟨p, 1, none⟩ = some (.bool (!up))) (go_keep)
    ((go_at_call 112; refine (clone64_calls (by simp) (HC.out _ (Upd.refl Non w).drew).2.2 (wf_u64s _) (by omega)).mono ?_; rintro e w1 ⟨v, rfl, hown, hupd, hnil⟩; obtain ⟨g, sp2, rfl, e0, e1, HN, HU⟩ := copy_arm hupd hown hnil hle HC.out; clear hown hupd hnil))
  all_goals go_wp2_with fail
  all_goals go_ret
  all_goals exact ⟨_, rfl, HN.out, HU.out⟩

/-- A node of the program in F and one of the reference in G, in the same state. -/
def Duo (F G : Blk) (p g L : Nat) (ws : List Int) (up : Bool) (w : World) : Prop :=
  ∃ c : List Value, ws.length = L ∧ Wf ws ∧ c.length = 2 ∧ Both w F G p g 0 46 c ws up
theorem Duo.keep {M F G : Blk} {p g L : Nat} {ws : List Int} {up : Bool} {w w' : World} (h : Duo F G p g L ws up w) (hu : Upd M w w') (hF : ∀ k, F k → ¬ M k) (hG : ∀ k, G k → ¬ M k) : Duo F G p g L ws up w' := by
  obtain ⟨c, h1, h2, h3, h4⟩ := h; exact ⟨c, h1, h2, h3, h4.keep hu hF hG⟩
theorem Duo.keepN {F G : Blk} {p g L : Nat} {ws : List Int} {up : Bool} {w w' : World} (h : Duo F G p g L ws up w) (hu : Upd Non w w') : Duo F G p g L ws up w' := h.keep hu (fun _ _ h => h) (fun _ _ h => h)
theorem Duo.node {F G : Blk} {p g L : Nat} {ws : List Int} {up : Bool} {w : World} (h : Duo F G p g L ws up w) : NodeR w F p ws up := by obtain ⟨c, h1, h2, h3, h4⟩ := h; exact h4.1
theorem Duo.ref {F G : Blk} {p g L : Nat} {ws : List Int} {up : Bool} {w : World} (h : Duo F G p g L ws up w) : ∃ c, RefN w G g 0 46 c ws up := by obtain ⟨c, h1, h2, h3, h4⟩ := h; exact ⟨c, h4.2⟩
theorem Duo.len {F G : Blk} {p g L : Nat} {ws : List Int} {up : Bool} {w : World} (h : Duo F G p g L ws up w) : ws.length = L := h.choose_spec.1
theorem Duo.wf {F G : Blk} {p g L : Nat} {ws : List Int} {up : Bool} {w : World} (h : Duo F G p g L ws up w) : Wf ws := h.choose_spec.2.1
/-- One operation more. -/
theorem Duo.do {F G : Blk} {p g L : Nat} {ws : List Int} {up : Bool} {w : World} (h : Duo F G p g L ws up w) (hd : ∀ k, F k → ¬ G k) (h2 : 2 ≤ L) (kd at0 cn a v : Int) (ha0 : 0 ≤ a) :
    Calls Try.prog 50 #[.pointer (some ⟨p, 0, none⟩), .pointer (some ⟨g, 0, none⟩), opV kd at0 cn a v] w fun e w' => e = .returned (.bool true) ∧ ∃ ws' up', Duo F G p g L ws' up' w' ∧ Upd (Or2 F G) w w' := by
  obtain ⟨c, h1, hw, h3, h4⟩ := h
  refine (do_calls h4 hd (by omega) hw kd at0 cn a v ha0).mono ?_
  rintro e w' ⟨rfl, ws', up', e1, e2, e3, e4, e5⟩
  exact ⟨rfl, ws', up', ⟨_, by omega, e2 hw, by rw [List.length_set]; exact h3, e4⟩, e5⟩

theorem duo_start {w w1 w2 w3 : World} {p q L : Nat} (hN : NodeR w1 (New w w1) p (List.replicate (L * 8) 0) true) (hu2 : Upd Non w1 w2) (hq : w2.heap.size ≤ q) (hr : Row w3 q 36 (u64s (List.replicate (L * 8) 0))) (hu3 : Upd Non w2 w3) (hL : L ≤ 256) :
    Duo (New w w1) (New w1 (w3.alloc (.cells #[.slice (some ⟨q, 0, none⟩) (L * 8) (L * 8), .bool true] 46))) p w3.heap.size (L * 8) (List.replicate (L * 8) 0) true (w3.alloc (.cells #[.slice (some ⟨q, 0, none⟩) (L * 8) (L * 8), .bool true] 46)) := by
  have hu4 : Upd Non w3 (w3.alloc (.cells #[.slice (some ⟨q, 0, none⟩) (L * 8) (L * 8), .bool true] 46)) := (Upd.refl _ _).alloc _
  have hN' := ((hN.keep hu2 (fun _ _ h => h)).keep hu3 (fun _ _ h => h)).keep hu4 (fun _ _ h => h)
  have s2 := hu2.size
  have s3 := hu3.size
  have hl := hr.lt
  refine ⟨[.slice (some ⟨q, 0, none⟩) (L * 8) (L * 8), .bool true], by simp, wf_zeros _, rfl, hN', ?_⟩
  refine ⟨Row.new w3 _ _, q, 0, by simp, rfl, ⟨[], rfl, ?_⟩, ?_, ?_, by omega, by simp; omega⟩
  · rw [List.append_nil]; exact hr.alloc _
  · simp only [New, World.size_alloc]; omega
  · simp only [New, World.size_alloc]; omega
theorem new_disj {a b c d : World} (h : b.heap.size ≤ c.heap.size) : ∀ k, New a b k → ¬ New c d k := fun k h1 h2 => by have := h1.2; have := h2.1; omega
theorem new_disj' {a b c d : World} (h : b.heap.size ≤ c.heap.size) : ∀ k, New c d k → ¬ New a b k := fun k h1 h2 => by have := h2.2; have := h1.1; omega
theorem or2_not {F A B : Blk} (h1 : ∀ k, F k → ¬ A k) (h2 : ∀ k, F k → ¬ B k) : ∀ k, F k → ¬ Or2 A B k := fun k hk h => h.elim (h1 k hk) (h2 k hk)

/-- The copy beside it. -/
theorem duo_copy {wc wd : World} {F2 : Blk} {p2 L : Nat} {ws : List Int} {up : Bool} {v : Value} (hN : NodeR wc F2 p2 ws up) (hlen : ws.length = L) (hwf : Wf ws) (hu : Upd Non wc wd) (hO : Own wd (New wc wd) 36 1 v ws.length (u64s ws)) (hL : L ≤ 2048) (h0 : 0 < L) :
    Duo F2 (New wc (wd.alloc (.cells #[v, .bool up] 46))) p2 wd.heap.size L ws up (wd.alloc (.cells #[v, .bool up] 46)) := by
  have hu4 : Upd Non wd (wd.alloc (.cells #[v, .bool up] 46)) := (Upd.refl _ _).alloc _
  have s1 := hu.size
  obtain ⟨hl, ⟨_, hz⟩ | ⟨g, cap, sp, rfl, hg, hr, hc, hn, hm⟩⟩ := hO
  · omega
  have hcap : cap = ws.length + sp.length := by simpa [u64s] using hc.symm
  subst hcap
  have hgl := hr.lt
  have h3 := hg.1
  refine ⟨_, hlen, hwf, rfl, (hN.keep hu (fun _ _ h => h)).keep hu4 (fun _ _ h => h), Row.new wd _ _, g, sp.length, rfl, rfl, ⟨sp, rfl, hr.alloc _⟩, ?_, ?_, by omega, by omega⟩
  · simp only [New, World.size_alloc]; omega
  · simp only [New, World.size_alloc]; omega

/-- What the copying of the reference's node leaves. -/
def CpCut (wc : World) (F2 : Blk) (p2 L : Nat) (ws : List Int) (up : Bool) (s : Value) (we : World) : Prop :=
  ∃ g2, s = .pointer (some ⟨g2, 0, none⟩) ∧ Duo F2 (New wc we) p2 g2 L ws up we ∧ Upd Non wc we
theorem cp_cut1 {wc wd : World} {F2 : Blk} {p2 L n : Nat} {A : Option Addr} {cp : Nat} {ws : List Int} {up : Bool} (hN : NodeR wc F2 p2 ws up) (hlen : ws.length = L) (hwf : Wf ws) (hu : Upd Non wc wd) (hO : Own wd (New wc wd) 36 1 (.slice A n cp) ws.length (u64s ws)) (hL : L ≤ 2048) (h0 : 0 < L) :
    CpCut wc F2 p2 L ws up (.pointer (some ⟨wd.heap.size, 0, none⟩)) (wd.alloc (.cells #[.slice A n cp, .bool up] 46)) :=
  ⟨_, rfl, duo_copy hN hlen hwf hu hO hL h0, hu.alloc _⟩
theorem cp_cut2 {wc wd : World} {F2 : Blk} {p2 L n b : Nat} {A : Option Addr} {cp : Nat} {ws : List Int} {up : Bool} {r : List Value} (hN : NodeR wc F2 p2 ws up) (hlen : ws.length = L) (hwf : Wf ws) (hu : Upd Non wc wd) (hO : Own wd (New wc wd) 36 1 (.slice A n cp) ws.length (u64s ws)) (hL : L ≤ 2048) (h0 : 0 < L)
    (hb : Row wd b 46 r) (hr2 : r.length = 2) (hbc : wc.heap.size ≤ b) :
    CpCut wc F2 p2 L ws up (.pointer (some ⟨b, 0, none⟩)) ((wd.setCell ⟨b, 0, none⟩ (.slice A n cp)).setCell ⟨b, 1, none⟩ (.bool up)) := by
  have hbl := hb.lt
  have hu2 : Upd (One b) wd ((wd.setCell ⟨b, 0, none⟩ (.slice A n cp)).setCell ⟨b, 1, none⟩ (.bool up)) := ((Upd.refl (One b) wd).setCell (p := ⟨b, 0, none⟩) (.inl (show One b b from rfl)) _).setCell (p := ⟨b, 1, none⟩) (.inl (show One b b from rfl)) _
  have hu3 : Upd Non wc ((wd.setCell ⟨b, 0, none⟩ (.slice A n cp)).setCell ⟨b, 1, none⟩ (.bool up)) := (hu.setCell (p := ⟨b, 0, none⟩) (.inr hbc) _).setCell (p := ⟨b, 1, none⟩) (.inr hbc) _
  have hrow := (hb.set 0 (.slice A n cp)).set 1 (.bool up)
  obtain ⟨x, y, rfl⟩ : ∃ x y, r = [x, y] := by
    match r, hr2 with
    | [x, y], _ => exact ⟨x, y, rfl⟩
  have hrow : Row ((wd.setCell ⟨b, 0, none⟩ (.slice A n cp)).setCell ⟨b, 1, none⟩ (.bool up)) b 46 [.slice A n cp, .bool up] := hrow
  have hsz : ((wd.setCell ⟨b, 0, none⟩ (.slice A n cp)).setCell ⟨b, 1, none⟩ (.bool up)).heap.size = wd.heap.size := by simp [World.setCell]
  obtain ⟨hl, ⟨_, hz⟩ | ⟨g, cap, sp, hv, hg, hr, hc, hn, hm⟩⟩ := hO
  · omega
  have hcap : cap = ws.length + sp.length := by simpa [u64s] using hc.symm
  subst hcap
  have hgl := hr.lt
  have h3 := hg.1
  have hne : g ≠ b := hr.ne hb (by decide)
  have hr' := hu2.row hr (fun h => hne h)
  refine ⟨b, rfl, ⟨_, hlen, hwf, rfl, hN.keep hu3 (fun _ _ h => h), hrow, g, sp.length, by rw [hv]; rfl, rfl, ⟨sp, rfl, hr'⟩, ?_, ?_, hne, by omega⟩, hu3⟩
  · exact ⟨hbc, by omega⟩
  · exact ⟨h3, by omega⟩
end Go.Proofs.Ytlhbikiggmdolaa
