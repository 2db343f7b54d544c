/- Queue pairs of the program: execute. -/
import Derived.Test.YtlhbikiggmdolaaStep
namespace Go.Proofs.Ytlhbikiggmdolaa
open Go.RowKit

theorem View.sub {w : World} {F : Blk} {A : Option Addr} {n : Nat} {c : List Value} (h : View w F 1 A n c) (k m : Nat) (hm : k + m ≤ n) (h0 : 1 ≤ m) :
    ∃ b off, A = some ⟨b, off, none⟩ ∧ View w F 1 (some ⟨b, off + k, none⟩) m ((c.drop k).take m) := by
  have hl := h.1
  have hne : c ≠ [] := by intro e; subst e; simp at hl; omega
  obtain ⟨b, off, hA, hF, hb, hc⟩ := h.2 hne
  refine ⟨b, off, hA, by rw [List.length_take, List.length_drop]; omega, fun _ => ⟨b, off + k, rfl, hF, hb, fun i v hv => ?_⟩⟩
  rw [List.getElem?_take] at hv
  split at hv
  · rw [List.getElem?_drop] at hv
    rw [show off + k + i = off + (k + i) by omega]
    exact hc _ _ hv
  · cases hv

/-- What a piece of a verb returns, and what it leaves. -/
def exW (v : Vb) (a n : Nat) (ws : List Int) : List Int := if v.kind = 1 then (ws.drop a).take n else if v.kind = 2 then [] else [ws.getD a 0]
def exM (v : Vb) (a n : Nat) (ws : List Int) : List Int := if v.kind = 1 then ws else if v.kind = 2 then putW ws a ((v.words.drop (a - v.at_.toNat)).take n) else if v.kind = 3 then casW ws a v.old v.new_ else ws.set a ((ws.getD a 0 + v.new_) % 18446744073709551616)
/-- A piece that may be executed. -/
structure PieceOk (v : Vb) (a n len : Nat) : Prop where
  at0 : 0 ≤ v.at_
  le : v.at_.toNat ≤ a
  pos : 1 ≤ n
  end_ : a + n ≤ v.at_.toNat + (cntV v).toNat
  len : a + n ≤ len
  kind : v.kind = 1 ∨ v.kind = 2 ∨ ((v.kind = 3 ∨ v.kind = 4) ∧ a = v.at_.toNat ∧ n = 1)
def ExPost (w : World) (F : Blk) (q : Nat) (ws : List Int) (v : Vb) (a n : Nat) (e : Ending) (w' : World) : Prop :=
  ∃ A cap, e = .returned (.slice A (exW v a n ws).length cap) ∧ View w' (New w w') 1 A (exW v a n ws).length (u64s (exW v a n ws)) ∧ (A = none → (exW v a n ws).length = 0 ∧ cap = 0) ∧ NodeR w' F q (exM v a n ws) true ∧ Upd F w w'

set_option maxRecDepth 100000 in
set_option maxHeartbeats 4000000 in
theorem execute_calls {w : World} {J F : Blk} {q : Nat} {v : Vb} {s : Value} {ws : List Int} (hv : VWords w J v s) (hn : NodeR w F q ws true) (a n : Nat) (hp : PieceOk v a n ws.length) (hwl : v.words.length ≤ 1024) :
    Calls Try.prog 147 #[.agg (vbC v s), encP (a, n), .pointer (some ⟨q, 0, none⟩)] w (ExPost w F q ws v a n) := by
  obtain ⟨A, cap, rfl, hc1, hA, hV⟩ := hv
  obtain ⟨hat, hle, hpos, hend, hlen, hk⟩ := hp
  have hac : accE ws.length true ((a : Nat) : Int) ((n : Nat) : Int) = 0 := by unfold accE; rw [if_neg (by omega)]; rfl
  have hwb : ws.length ≤ 140737488355328 := by obtain ⟨_, _, _, _, _, _, h⟩ := hn; omega
  unfold vbC encP
  unfold cntV at hend
  obtain ⟨kind, node, at_, n_, old, new_, words, key, boot⟩ := v
  dsimp only at *
  obtain ⟨a0, rfl⟩ := Int.eq_ofNat_of_zero_le hat
  have HU1 : Hid (Upd Non w ((w.alloc (.cells #[.int .i64 kind, .int .i64 node, .int .i64 a0, .int .i64 n_, .int .u64 old, .int .u64 new_, .slice A words.length cap, .int .u64 key, .int .i64 boot] 62)).alloc (.cells #[.int .i64 a, .int .i64 n] 148))) := ((Upd.refl _ _).alloc _).alloc _
  have HN1 := Lib.hid (hn.keep HU1.out (fun _ _ h => h))
  rcases hk with rfl | rfl | ⟨hk, hae, rfl⟩
  · clear hV hc1 hA hn
    go_enter Try.func147, Try.ntmps147
    go_wp2_with fail
    refine (read_ok HN1.out a n hac).mono ?_
    rintro e w2 ⟨v, rfl, hO, hU, hnn⟩
    obtain ⟨B, cb, rfl, hBn, hB⟩ := hO.shape
    have HBN := Lib.hid hBn
    have HO := Lib.hid hB
    have HU := Lib.hid hU
    clear hO hB hU hnn hBn
    go_wp2_with fail
    go_ret
    have hs := HU1.out.size
    have hl : ((ws.drop a).take n).length = n := by rw [List.length_take, List.length_drop]; omega
    refine ⟨B, cb, by simp [exW, hl], ?_, ?_, ?_, ((HU1.out.tr HU.out).of_non)⟩
    · simp only [exW, if_true, hl]
      exact HO.out.mono fun k hk => ⟨by have := hk.1; omega, hk.2⟩
    · simp only [exW, if_true, hl]
      exact HBN.out
    · simp only [exM, if_true]
      exact HN1.out.keep HU.out (fun _ _ h => h)
  · rw [if_neg (by decide), if_pos rfl] at hend
    have HNB := Lib.hid ((hn.mono (F' := fun k => F k ∧ k < w.heap.size) fun k hk hl => ⟨hk, hl⟩).keep HU1.out (fun _ _ h => h))
    obtain ⟨k, hkk⟩ : ∃ k, a = a0 + k := ⟨a - a0, by omega⟩
    have HKK := Lib.hid hkk
    have hke : ((a : Int) - a0) = (k : Int) := by omega
    obtain ⟨b, off, rfl, hS⟩ := hV.sub k n (by omega) hpos
    have hS1 := hS.keep HU1.out (fun _ _ h => h)
    rw [show ((u64s words).drop k).take n = u64s ((words.drop k).take n) by simp [u64s]] at hS1
    have HWR := Lib.hid fun w' (hu : Upd Non _ w') cp => write_ok (HNB.out.keep hu (fun _ _ h => h)) a _ n cp ((words.drop k).take n) (hS1.keep hu (fun _ _ h => h)) hac
    have i3 : k + n ≤ words.length := by omega
    have i4 : k + n ≤ cap := by omega
    have i5 : k < cap := by omega
    clear hV hS hS1 hA hn hkk
    go_enter Try.func147, Try.ntmps147
    go_wp2_with fail
    clear hke
    have h1 : Row ((w.alloc (.cells #[.int .i64 2, .int .i64 node, .int .i64 a0, .int .i64 n_, .int .u64 old, .int .u64 new_, .slice (some ⟨b, off, none⟩) words.length cap, .int .u64 key, .int .i64 boot] 62)).alloc (.cells #[.int .i64 a, .int .i64 n] 148)) w.heap.size 62 [.int .i64 2, .int .i64 node, .int .i64 a0, .int .i64 n_, .int .u64 old, .int .u64 new_, .slice (some ⟨b, off, none⟩) words.length cap, .int .u64 key, .int .i64 boot] := (Row.new _ _ _).alloc _
    have h2 : Row ((w.alloc (.cells #[.int .i64 2, .int .i64 node, .int .i64 a0, .int .i64 n_, .int .u64 old, .int .u64 new_, .slice (some ⟨b, off, none⟩) words.length cap, .int .u64 key, .int .i64 boot] 62)).alloc (.cells #[.int .i64 a, .int .i64 n] 148)) (w.heap.size + 1) 148 [.int .i64 a, .int .i64 n] := by
      have := Row.new (w.alloc (.cells #[.int .i64 2, .int .i64 node, .int .i64 a0, .int .i64 n_, .int .u64 old, .int .u64 new_, .slice (some ⟨b, off, none⟩) words.length cap, .int .u64 key, .int .i64 boot] 62)) #[.int .i64 a, .int .i64 n] 148
      rw [World.size_alloc] at this; exact this
    generalize (w.alloc (.cells #[.int .i64 2, .int .i64 node, .int .i64 a0, .int .i64 n_, .int .u64 old, .int .u64 new_, .slice (some ⟨b, off, none⟩) words.length cap, .int .u64 key, .int .i64 boot] 62)).alloc (.cells #[.int .i64 a, .int .i64 n] 148) = W1 at *
    have d6 := h1.cell 6 rfl
    have e0 := h2.cell 0 rfl
    have e1 := h2.cell 1 rfl
    have g1 : IntKind.i64.wrap ((k : Int) + n) = (k : Int) + n := wrapI _ (by omega) (by omega)
    have g2 : (k : Int) + n ≤ cap := by omega
    have g3 : (0 : Int) ≤ k := by omega
    have g4 : ((k : Int) + n).toNat = k + n := by omega
    have g5 : ((k : Int)).toNat = k := by omega
    have g6 : k + n - k = n := by omega
    have g7 : (k : Int) ≤ (k : Int) + n := by omega
    have g8 : ¬ cap = k := by omega
    have HR1 := Lib.hid h1
    have HR2 := Lib.hid h2
    clear h1 h2
    go_region_held3 (fun w' => w'.cell? ⟨w.heap.size, 6, none⟩ = some (.slice (some ⟨b, off, none⟩) words.length cap) ∧ w'.cell? ⟨w.heap.size + 1, 0, none⟩ = some (.int .i64 a) ∧ w'.cell? ⟨w.heap.size + 1, 1, none⟩ = some (.int .i64 n)) (go_keep)
      (first | (go_at_call 51; (with_reducible refine (HWR.out _ (Upd.refl _ _).drew _).mono ?_); rintro e w2 ⟨rfl, hn2, hu2⟩; have k1 := hu2.row HR1.out.drew (fun e => Nat.lt_irrefl _ e.2); have k2 := hu2.row HR2.out.drew (fun e => by have := e.2; omega); have d6 := k1.cell 6 rfl; have e0 := k2.cell 0 rfl; have e1 := k2.cell 1 rfl; have HN2 := Lib.hid hn2; have HU2 := Lib.hid (HU1.out.drew.of_non.tr hu2); clear hn2 hu2 k1 k2))
    all_goals go_wp2_with fail
    all_goals go_ret
    all_goals refine ⟨none, 0, by simp [exW], ?_, by simp [exW], ?_, HU2.out.mono fun _ _ h => h.1⟩
    · simp [exW, u64s]; exact View.nil _ _ _ _
    · simp only [exM, if_true, HKK.out, show (2 : Int) ≠ 1 by decide, if_false, Int.toNat_natCast, Nat.add_sub_cancel_left]
      rw [HKK.out] at HN2
      exact HN2.out.mono fun _ h _ => h.1
  · obtain rfl : a0 = a := by omega
    have hac' : accE ws.length true ((a0 : Nat) : Int) 1 = 0 := by unfold accE; rw [if_neg (by omega)]; rfl
    rw [show ((a0 : Int)).toNat = a0 by omega] at *
    have HXW : Hid (exW ⟨kind, node, a0, n_, old, new_, words, key, boot⟩ a0 1 ws = [ws.getD a0 0]) := Lib.hid (by unfold exW; dsimp only; rw [if_neg (by omega), if_neg (by omega)])
    clear hV hc1 hA hn hac hend hle hpos
    rcases hk with rfl | rfl
    · have HC := Lib.hid (cas_ok HN1.out a0 old new_ hac')
      have HXM : Hid (exM ⟨3, node, a0, n_, old, new_, words, key, boot⟩ a0 1 ws = casW ws a0 old new_) := Lib.hid rfl
      generalize ws.getD a0 0 = x at *
      clear hac'
      go_enter Try.func147, Try.ntmps147
      go_wp2_with fail
      refine HC.out.mono ?_
      rintro e w2 ⟨rfl, hn2, hu2⟩
      have HN2 := Lib.hid hn2
      have HU2 := Lib.hid (HU1.out.of_non.tr hu2)
      clear hn2 hu2
      go_wp2_with fail
      go_ret
      unfold ExPost
      rw [HXW.out, HXM.out]
      have hr := Row.new w2 #[.int .u64 x] 36
      have hs := HU2.out.size
      exact ⟨_, _, rfl, View.ofRow hr _ ⟨hs, by simp⟩ 1 1 0 _ rfl rfl, (fun e => by cases e), HN2.out.keep ((Upd.refl Non _).alloc _) (fun _ _ h => h), HU2.out.alloc _⟩
    · have HC := Lib.hid (add_ok HN1.out a0 new_ hac')
      have HXM : Hid (exM ⟨4, node, a0, n_, old, new_, words, key, boot⟩ a0 1 ws = ws.set a0 ((ws.getD a0 0 + new_) % 18446744073709551616)) := Lib.hid rfl
      generalize ws.getD a0 0 = x at *
      clear hac'
      go_enter Try.func147, Try.ntmps147
      go_wp2_with fail
      refine HC.out.mono ?_
      rintro e w2 ⟨rfl, hn2, hu2⟩
      have HN2 := Lib.hid hn2
      have HU2 := Lib.hid (HU1.out.of_non.tr hu2)
      clear hn2 hu2
      go_wp2_with fail
      go_ret
      unfold ExPost
      rw [HXW.out, HXM.out]
      have hr := Row.new w2 #[.int .u64 x] 36
      have hs := HU2.out.size
      exact ⟨_, _, rfl, View.ofRow hr _ ⟨hs, by simp⟩ 1 1 0 _ rfl rfl, (fun e => by cases e), HN2.out.keep ((Upd.refl Non _).alloc _) (fun _ _ h => h), HU2.out.alloc _⟩
end Go.Proofs.Ytlhbikiggmdolaa
