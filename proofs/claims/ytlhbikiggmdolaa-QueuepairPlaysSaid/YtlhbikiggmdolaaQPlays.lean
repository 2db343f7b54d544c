/- Law5D, Law5E, Law5F, Law5G, Law5S, Law5H, Ops5, QueuepairPlays, in one text. -/
import Derived.Test.YtlhbikiggmdolaaLaw5C
import Derived.Test.YtlhbikiggmdolaaRStep3
import Derived.Deep.QuietTactic
import Derived.BigQuiet
import Derived.StillTailTactics
import Derived.Test.YtlhbikiggmdolaaEncLaw
import Derived.Deep.CutBlock
import Derived.Test.YtlhbikiggmdolaaArgs
import Derived.Test.YtlhbikiggmdolaaSame
import Derived.Deep.RegionHeld3

/- The statements about queue pairs: First, Same, SameDone, of. -/
namespace Go.Proofs.Ytlhbikiggmdolaa
open Go.RowKit

theorem first_nil {w : World} {M I : Blk} {p : Nat} {P : Pr} (h : PairR w M I p P) (hv : P.verbs = []) :
    Calls Try.prog 178 #[.pointer (some ⟨p, 0, none⟩)] w fun e w' => e = .returned (.tuple #[.agg #[.int .i64 0, .int .i64 0, .int .i64 0, .int .i64 0, .int .u64 0, .int .u64 0, .slice none 0 0, .int .u64 0, .int .i64 0], .int .i64 0, .bool false]) ∧ Upd Non w w' := by
  have hu : Upd Non w (w.alloc (.cells #[.int .i64 0, .int .i64 0, .int .i64 0, .int .i64 0, .int .u64 0, .int .u64 0, .slice none 0 0, .int .u64 0, .int .i64 0] 62)) := (Upd.refl _ _).alloc _
  obtain ⟨Av, cv, Aw, cw, c0, c1, c2, c3, c4, c5⟩ := (h.keep hu (fun _ _ h => h) (fun _ _ h => h)).cells
  rw [hv, List.length_nil] at c3
  have HU := Lib.hid hu
  clear h hv hu c0 c1 c2 c4 c5
  go_enter Try.func178, Try.ntmps178
  go_wp2_with fail
  refine bodyPost_ret (v := .tuple #[.agg #[.int .i64 0, .int .i64 0, .int .i64 0, .int .i64 0, .int .u64 0, .int .u64 0, .slice none 0 0, .int .u64 0, .int .i64 0], .int .i64 0, .bool false]) (by simp [results, Try.results178, go_sem]) rfl ?_
  exact ⟨rfl, HU.out⟩

def FirstPost (w : World) (P : Pr) (v : Vb) (e : Ending) (w' : World) : Prop :=
  ∃ A cap, e = .returned (.tuple #[.agg (vbC v (.slice A v.words.length cap)), .int .i64 P.ex, .bool true]) ∧ Own w' (New w w') 36 1 (.slice A v.words.length cap) v.words.length (u64s v.words) ∧ Upd Non w w'
set_option maxRecDepth 100000 in
set_option maxHeartbeats 4000000 in
theorem first_some {w : World} {M I : Blk} {p : Nat} {P : Pr} {v : Vb} {l : List Vb} (h : PairR w M I p P) (hv : P.verbs = v :: l) (hwl : v.words.length ≤ 1024) :
    Calls Try.prog 178 #[.pointer (some ⟨p, 0, none⟩)] w (FirstPost w P v) := by
  have hu : Upd Non w (w.alloc (.cells #[.int .i64 0, .int .i64 0, .int .i64 0, .int .i64 0, .int .u64 0, .int .u64 0, .slice none 0 0, .int .u64 0, .int .i64 0] 62)) := (Upd.refl _ _).alloc _
  have hz : Row (w.alloc (.cells #[.int .i64 0, .int .i64 0, .int .i64 0, .int .i64 0, .int .u64 0, .int .u64 0, .slice none 0 0, .int .u64 0, .int .i64 0] 62)) w.heap.size 62 [.int .i64 0, .int .i64 0, .int .i64 0, .int .i64 0, .int .u64 0, .int .u64 0, .slice none 0 0, .int .u64 0, .int .i64 0] := Row.new _ _ _
  obtain ⟨g, cv, s, Aw, cw, hp, hvw, hc⟩ := h.head hv
  obtain ⟨A, cap, rfl, _, _, _⟩ := id hvw
  have HCL : Hid (∀ W, Upd Non w W → Calls Try.prog 144 #[.agg (vbC v (.slice A v.words.length cap))] W fun e w' => ∃ A cap, e = .returned (.agg (vbC v (.slice A v.words.length cap))) ∧ Own w' (New W w') 36 1 (.slice A v.words.length cap) v.words.length (u64s v.words) ∧ Upd Non W w') := Lib.hid fun W hu => clone_calls (hvw.keep hu fun _ _ h => h) hwl
  have HG : Hid (g < w.heap.size ∧ p < w.heap.size) := Lib.hid ⟨World.block_lt_of_cell? w ⟨g, 0, none⟩ (hc 0 (.int .i64 v.kind) rfl), hp.lt⟩
  have HK : Hid (∀ W, Upd Non w W → Row W p 178 [.int .i64 P.client, .int .i64 P.inc, .int .i64 P.node, .slice (some ⟨g, 0, none⟩) (l.length + 1) cv, .int .i64 P.ex, .slice Aw P.words.length cw] ∧ (W.cell? ⟨g, 0, none⟩ = some (.int .i64 v.kind) ∧ W.cell? ⟨g, 1, none⟩ = some (.int .i64 v.node) ∧ W.cell? ⟨g, 2, none⟩ = some (.int .i64 v.at_) ∧ W.cell? ⟨g, 3, none⟩ = some (.int .i64 v.n) ∧ W.cell? ⟨g, 4, none⟩ = some (.int .u64 v.old) ∧ W.cell? ⟨g, 5, none⟩ = some (.int .u64 v.new_) ∧ W.cell? ⟨g, 6, none⟩ = some (.slice A v.words.length cap) ∧ W.cell? ⟨g, 7, none⟩ = some (.int .u64 v.key) ∧ W.cell? ⟨g, 8, none⟩ = some (.int .i64 v.boot))) := Lib.hid fun W hu => by
    obtain ⟨g', cv', s', Aw', cw', hp', hvw', hc'⟩ := (h.keep hu (fun _ _ h => h) (fun _ _ h => h)).head hv
    have e := ((hu.rowN hp).uniq hp').2
    simp only [List.cons.injEq, Value.slice.injEq, Option.some.injEq, Addr.mk.injEq] at e
    have hb := hu.block g HG.out.1 (fun h => h)
    exact ⟨hu.rowN hp, (World.cell?_of_block (a := ⟨g, 0, none⟩) hb).trans (hc 0 (.int .i64 v.kind) rfl), (World.cell?_of_block (a := ⟨g, 1, none⟩) hb).trans (hc 1 (.int .i64 v.node) rfl), (World.cell?_of_block (a := ⟨g, 2, none⟩) hb).trans (hc 2 (.int .i64 v.at_) rfl), (World.cell?_of_block (a := ⟨g, 3, none⟩) hb).trans (hc 3 (.int .i64 v.n) rfl), (World.cell?_of_block (a := ⟨g, 4, none⟩) hb).trans (hc 4 (.int .u64 v.old) rfl), (World.cell?_of_block (a := ⟨g, 5, none⟩) hb).trans (hc 5 (.int .u64 v.new_) rfl), (World.cell?_of_block (a := ⟨g, 6, none⟩) hb).trans (hc 6 (.slice A v.words.length cap) rfl), (World.cell?_of_block (a := ⟨g, 7, none⟩) hb).trans (hc 7 (.int .u64 v.key) rfl), (World.cell?_of_block (a := ⟨g, 8, none⟩) hb).trans (hc 8 (.int .i64 v.boot) rfl)⟩
  obtain ⟨hp1, k0, k1, k2, k3, k4, k5, k6, k7, k8⟩ := HK.out _ hu
  have c3 := hp1.cell 3 rfl
  have c4 := hp1.cell 4 rfl
  have HU := Lib.hid hu
  have HZ := Lib.hid hz
  have hl0 : ((l.length : Int) + 1 == 0) = false := by rw [beq_eq_false_iff_ne]; omega
  have hne1 : w.heap.size ≠ g := by have := HG.out.1; omega
  have hne2 : w.heap.size ≠ p := by have := HG.out.2; omega
  clear h hv hu hz hp hvw hc hp1
  unfold vbC at HCL
  go_enter Try.func178, Try.ntmps178
  go_upto_region 3 with fail
  generalize w.alloc (.cells #[.int .i64 0, .int .i64 0, .int .i64 0, .int .i64 0, .int .u64 0, .int .u64 0, .slice none 0 0, .int .u64 0, .int .i64 0] 62) = W1 at *
  have HW1 : Hid (w.heap.size < W1.heap.size) := Lib.hid HZ.out.lt
  go_region_held3 (fun w' => w'.cell? ⟨p, 3, none⟩ = some (.slice (some ⟨g, 0, none⟩) (l.length + 1) cv) ∧ w'.cell? ⟨p, 4, none⟩ = some (.int .i64 P.ex) ∧ w'.cell? ⟨g, 0, none⟩ = some (.int .i64 v.kind) ∧ w'.cell? ⟨g, 1, none⟩ = some (.int .i64 v.node) ∧ w'.cell? ⟨g, 2, none⟩ = some (.int .i64 v.at_) ∧ w'.cell? ⟨g, 3, none⟩ = some (.int .i64 v.n) ∧ w'.cell? ⟨g, 4, none⟩ = some (.int .u64 v.old) ∧ w'.cell? ⟨g, 5, none⟩ = some (.int .u64 v.new_) ∧ w'.cell? ⟨g, 6, none⟩ = some (.slice A v.words.length cap) ∧ w'.cell? ⟨g, 7, none⟩ = some (.int .u64 v.key) ∧ w'.cell? ⟨g, 8, none⟩ = some (.int .i64 v.boot)) (go_keep)
    (first
      | (go_at_call 144; (with_reducible refine (HCL.out _ HU.out.drew).mono ?_); rintro e w3 ⟨A3, cap3, rfl, hO3, hu3⟩; have hu3n := hu3.nodraw; obtain ⟨hp3, k0, k1, k2, k3, k4, k5, k6, k7, k8⟩ := HK.out _ (HU.out.tr hu3n); have c3 := hp3.cell 3 rfl; have c4 := hp3.cell 4 rfl; have hz3 := hu3n.rowN HZ.out; obtain ⟨z0, z1, z2, z3, z4, z5, z6, z7, z8⟩ := vb_cells hz3; obtain ⟨y0, y1, y2, y3, y4, y5, y6, y7, y8⟩ := vb_frozen hz3; have HO3 := Lib.hid (show Own w3 (New W1 w3) 36 1 (.slice A3 v.words.length cap3) v.words.length (u64s v.words) from hO3); have HU3 := Lib.hid (HU.out.tr hu3n); have HZ3 := Lib.hid hz3; clear hO3 hu3 hu3n hp3 hz3))
  all_goals
    have hrf : Row (((((((((w3.setCell ⟨w.heap.size, 0, none⟩ (.int .i64 v.kind)).setCell ⟨w.heap.size, 1, none⟩ (.int .i64 v.node)).setCell ⟨w.heap.size, 2, none⟩ (.int .i64 v.at_)).setCell ⟨w.heap.size, 3, none⟩ (.int .i64 v.n)).setCell ⟨w.heap.size, 4, none⟩ (.int .u64 v.old)).setCell ⟨w.heap.size, 5, none⟩ (.int .u64 v.new_)).setCell ⟨w.heap.size, 6, none⟩ (.slice A3 v.words.length cap3)).setCell ⟨w.heap.size, 7, none⟩ (.int .u64 v.key)).setCell ⟨w.heap.size, 8, none⟩ (.int .i64 v.boot)) w.heap.size 62 [.int .i64 v.kind, .int .i64 v.node, .int .i64 v.at_, .int .i64 v.n, .int .u64 v.old, .int .u64 v.new_, .slice A3 v.words.length cap3, .int .u64 v.key, .int .i64 v.boot] := (((((((((HZ3.out.set 0 (.int .i64 v.kind)).set 1 (.int .i64 v.node)).set 2 (.int .i64 v.at_)).set 3 (.int .i64 v.n)).set 4 (.int .u64 v.old)).set 5 (.int .u64 v.new_)).set 6 (.slice A3 v.words.length cap3)).set 7 (.int .u64 v.key)).set 8 (.int .i64 v.boot))
    have huf : Upd (One w.heap.size) w3 (((((((((w3.setCell ⟨w.heap.size, 0, none⟩ (.int .i64 v.kind)).setCell ⟨w.heap.size, 1, none⟩ (.int .i64 v.node)).setCell ⟨w.heap.size, 2, none⟩ (.int .i64 v.at_)).setCell ⟨w.heap.size, 3, none⟩ (.int .i64 v.n)).setCell ⟨w.heap.size, 4, none⟩ (.int .u64 v.old)).setCell ⟨w.heap.size, 5, none⟩ (.int .u64 v.new_)).setCell ⟨w.heap.size, 6, none⟩ (.slice A3 v.words.length cap3)).setCell ⟨w.heap.size, 7, none⟩ (.int .u64 v.key)).setCell ⟨w.heap.size, 8, none⟩ (.int .i64 v.boot)) := (Upd.refl (One w.heap.size) w3).nine (.inl rfl) (.int .i64 v.kind) (.int .i64 v.node) (.int .i64 v.at_) (.int .i64 v.n) (.int .u64 v.old) (.int .u64 v.new_) (.slice A3 v.words.length cap3) (.int .u64 v.key) (.int .i64 v.boot)
    have HRF := Lib.hid hrf
    have HUF := Lib.hid huf
    clear hrf huf k0 k1 k2 k3 k4 k5 k6 k7 k8 c3 c4 z0 z1 z2 z3 z4 z5 z6 z7 z8 y0 y1 y2 y3 y4 y5 y6 y7 y8
    generalize (((((((((w3.setCell ⟨w.heap.size, 0, none⟩ (.int .i64 v.kind)).setCell ⟨w.heap.size, 1, none⟩ (.int .i64 v.node)).setCell ⟨w.heap.size, 2, none⟩ (.int .i64 v.at_)).setCell ⟨w.heap.size, 3, none⟩ (.int .i64 v.n)).setCell ⟨w.heap.size, 4, none⟩ (.int .u64 v.old)).setCell ⟨w.heap.size, 5, none⟩ (.int .u64 v.new_)).setCell ⟨w.heap.size, 6, none⟩ (.slice A3 v.words.length cap3)).setCell ⟨w.heap.size, 7, none⟩ (.int .u64 v.key)).setCell ⟨w.heap.size, 8, none⟩ (.int .i64 v.boot)) = W9 at *
    obtain ⟨q0, q1, q2, q3, q4, q5, q6, q7, q8⟩ := vb_cells HRF.out
    go_wp2_with fail
    refine bodyPost_ret (v := .tuple #[.agg #[.int .i64 v.kind, .int .i64 v.node, .int .i64 v.at_, .int .i64 v.n, .int .u64 v.old, .int .u64 v.new_, .slice A3 v.words.length cap3, .int .u64 v.key, .int .i64 v.boot], .int .i64 P.ex, .bool true]) (by simp [results, Try.results178, go_sem, q0, q1, q2, q3, q4, q5, q6, q7, q8]) rfl ?_
    have hs3 := HU3.out.size
    have hw1 := HW1.out
    refine ⟨A3, cap3, rfl, ?_, HU3.out.trans HUF.out fun i hi e => by have e : i = w.heap.size := e; omega⟩
    exact (HO3.out.keep HUF.out fun k hk e => by have e : k = w.heap.size := e; have := hk.1; omega).mono fun k hk hl => ⟨by have := hk.1; omega, hl⟩

/-- A verb is the same as itself, wherever its words lie. -/
theorem refsame_true {w : World} {F G : Blk} {v : Vb} {A B : Option Addr} {ca cb : Nat} (hk : OkV v) (ha : View w F 1 A v.words.length (u64s v.words)) (hb : View w G 1 B v.words.length (u64s v.words)) (hl : v.words.length ≤ 1024) :
    Calls Try.prog 179 #[.agg (vbC v (.slice A v.words.length ca)), .agg (vbC v (.slice B v.words.length cb))] w fun e w' => e = .returned (.bool true) ∧ Upd Non w w' := by
  have HSW : Hid (∀ W, Upd Non w W → Calls Try.prog 57 #[.slice A v.words.length ca, .slice B v.words.length cb] W fun e w' => e = .returned (.bool true) ∧ Upd Non W w') := Lib.hid fun W hu => by
    have := same_calls (ca := ca) (cb := cb) (ha.keep hu fun _ _ h => h) (hb.keep hu fun _ _ h => h) (by omega) (by omega)
    rw [decide_eq_true rfl] at this
    exact this
  have hkd : v.kind = 1 ∨ v.kind = 2 ∨ v.kind = 3 ∨ v.kind = 4 := by rcases hk.kinds with h | h | h <;> omega
  have HU : Hid (Upd Non w ((w.alloc (.cells (vbC v (.slice A v.words.length ca)) 62)).alloc (.cells (vbC v (.slice B v.words.length cb)) 62))) := Lib.hid (((Upd.refl _ _).alloc _).alloc _)
  clear ha hb hk
  unfold vbC
  unfold vbC at HU
  obtain ⟨kind, node, at_, n, old, new_, words, key, boot⟩ := v
  dsimp only at *
  generalize words.length = len at *
  rcases hkd with rfl | rfl | rfl | rfl
  all_goals
    go_enter Try.func179, Try.ntmps179
    go_wp2_with (go_at_call 57; (with_reducible refine (HSW.out _ HU.out).mono ?_); rintro e w2 ⟨rfl, hu2⟩; have HU := Lib.hid (HU.out.tr hu2); clear hu2)
    go_ret
    exact ⟨rfl, HU.out⟩

theorem sameDone_true {w : World} {F G : Blk} {code : Int} {A B : Option Addr} {ca cb n : Nat} {xs : List Int} (ha : View w F 1 A n (u64s xs)) (hb : View w G 1 B n (u64s xs)) (hl : n ≤ 140737488355328) :
    Calls Try.prog 131 #[.agg #[.int .i64 code, .slice A n ca], .agg #[.int .i64 code, .slice B n cb]] w fun e w' => e = .returned (.bool true) ∧ Upd Non w w' := by
  have HSW : Hid (∀ W, Upd Non w W → Calls Try.prog 57 #[.slice A n ca, .slice B n cb] W fun e w' => e = .returned (.bool true) ∧ Upd Non W w') := Lib.hid fun W hu => by
    have := same_calls (ca := ca) (cb := cb) (ha.keep hu fun _ _ h => h) (hb.keep hu fun _ _ h => h) (by omega) (by omega)
    rw [decide_eq_true rfl] at this
    exact this
  have HU : Hid (Upd Non w ((w.alloc (.cells #[.int .i64 code, .slice A n ca] 69)).alloc (.cells #[.int .i64 code, .slice B n cb] 69))) := Lib.hid (((Upd.refl _ _).alloc _).alloc _)
  clear ha hb
  go_enter Try.func131, Try.ntmps131
  go_wp2_with (go_at_call 57; (with_reducible refine (HSW.out _ HU.out).mono ?_); rintro e w2 ⟨rfl, hu2⟩; have HU := Lib.hid (HU.out.tr hu2); clear hu2)
  go_ret
  exact ⟨rfl, HU.out⟩
end Go.Proofs.Ytlhbikiggmdolaa

/- The statements about queue pairs: of; the four objects and an operation. -/
namespace Go.Proofs.Ytlhbikiggmdolaa
open Go.RowKit

theorem vb_rowC {w : World} {b : Nat} {v : Vb} {s : Value} (h : Row w b 62 (vbC v s).toList) : w.cell? ⟨b, 0, none⟩ = some (.int .i64 v.kind) ∧ w.cell? ⟨b, 1, none⟩ = some (.int .i64 v.node) ∧ w.cell? ⟨b, 2, none⟩ = some (.int .i64 v.at_) ∧ w.cell? ⟨b, 3, none⟩ = some (.int .i64 v.n) ∧ w.cell? ⟨b, 4, none⟩ = some (.int .u64 v.old) ∧ w.cell? ⟨b, 5, none⟩ = some (.int .u64 v.new_) ∧ w.cell? ⟨b, 6, none⟩ = some s ∧ w.cell? ⟨b, 7, none⟩ = some (.int .u64 v.key) ∧ w.cell? ⟨b, 8, none⟩ = some (.int .i64 v.boot) := vb_cells h

def OfPost (w : World) (e : Ending) (w' : World) : Prop :=
  ∃ (v : Vb) (A : Option Addr) (cap : Nat), e = .returned (.agg (vbC v (.slice A v.words.length cap))) ∧ HandV v ∧ Own w' (New w w') 36 1 (.slice A v.words.length cap) v.words.length (u64s v.words) ∧ Upd Non w w'
theorem hand_node {v : Vb} (h : HandV v) {nd : Int} (h0 : 0 ≤ nd) (h1 : nd ≤ 1) : HandV { v with node := nd } :=
  ⟨h.kind0, h.kind1, by show -1 ≤ nd; omega, by show nd ≤ 5; omega, h.at0, h.at1, h.n0, h.n1, h.old0, h.old1, h.new0, h.new1, h.key0, h.key1, h.boot0, h.boot1, h.len, h.words⟩
set_option maxRecDepth 100000 in
set_option maxHeartbeats 4000000 in
theorem of_calls (kd at0 n key boot old new_ : Int) (ho0 : 0 ≤ old) (ho1 : old < 18446744073709551616) (hn0 : 0 ≤ new_) (hn1 : new_ < 18446744073709551616) (hnn : -9223372036854775808 ≤ n ∧ n ≤ 9223372036854775807) (w : World) :
    Calls Try.prog 148 #[.agg #[.int .i64 kd, .int .i64 at0, .int .i64 n, .int .i64 key, .int .i64 boot, .int .u64 old, .int .u64 new_]] w (OfPost w) := by
  have HH := Lib.hid fun W => hand_calls kd 1 at0 n key boot old new_ ho0 ho1 hn0 hn1 hnn W
  have HP := Lib.hid fun W => pickN key 13 W (by decide) (by decide)
  have hu : Upd Non w ((w.alloc (.cells #[.int .i64 kd, .int .i64 at0, .int .i64 n, .int .i64 key, .int .i64 boot, .int .u64 old, .int .u64 new_] 127)).alloc (.cells #[.int .i64 0, .int .i64 0, .int .i64 0, .int .i64 0, .int .u64 0, .int .u64 0, .slice none 0 0, .int .u64 0, .int .i64 0] 62)) := ((Upd.refl _ _).alloc _).alloc _
  have hr1 : Row ((w.alloc (.cells #[.int .i64 kd, .int .i64 at0, .int .i64 n, .int .i64 key, .int .i64 boot, .int .u64 old, .int .u64 new_] 127)).alloc (.cells #[.int .i64 0, .int .i64 0, .int .i64 0, .int .i64 0, .int .u64 0, .int .u64 0, .slice none 0 0, .int .u64 0, .int .i64 0] 62)) w.heap.size 127 [.int .i64 kd, .int .i64 at0, .int .i64 n, .int .i64 key, .int .i64 boot, .int .u64 old, .int .u64 new_] := (Row.new _ _ _).alloc _
  have hr2 : Row ((w.alloc (.cells #[.int .i64 kd, .int .i64 at0, .int .i64 n, .int .i64 key, .int .i64 boot, .int .u64 old, .int .u64 new_] 127)).alloc (.cells #[.int .i64 0, .int .i64 0, .int .i64 0, .int .i64 0, .int .u64 0, .int .u64 0, .slice none 0 0, .int .u64 0, .int .i64 0] 62)) (w.heap.size + 1) 62 [.int .i64 0, .int .i64 0, .int .i64 0, .int .i64 0, .int .u64 0, .int .u64 0, .slice none 0 0, .int .u64 0, .int .i64 0] := by
    have := Row.new (w.alloc (.cells #[.int .i64 kd, .int .i64 at0, .int .i64 n, .int .i64 key, .int .i64 boot, .int .u64 old, .int .u64 new_] 127)) #[.int .i64 0, .int .i64 0, .int .i64 0, .int .i64 0, .int .u64 0, .int .u64 0, .slice none 0 0, .int .u64 0, .int .i64 0] 62
    rw [World.size_alloc] at this; exact this
  have HU := Lib.hid hu
  have HR1 := Lib.hid hr1
  have HR2 := Lib.hid hr2
  clear hu hr1 hr2 ho0 ho1 hn0 hn1 hnn
  go_enter Try.func148, Try.ntmps148
  go_wp2_with fail
  refine (HH.out _).mono ?_
  rintro e w3 ⟨v, A, cap, rfl, hv, -, -, hO, hu3⟩
  have HHV := Lib.hid hv
  have hO : Own w3 (fun k => w.heap.size + 2 ≤ k) 36 1 (.slice A v.words.length cap) v.words.length (u64s v.words) := hO.mono fun k hk _ => by have := hk.1; simp only [World.size_alloc] at this; exact this
  have HO := Lib.hid hO
  have HU3 := Lib.hid (HU.out.tr hu3)
  have hr1 := hu3.rowN HR1.out
  have HR13 := Lib.hid hr1
  have HR23 := Lib.hid (hu3.rowN HR2.out)
  have HL3 := Lib.hid hr1.lt
  clear hv hO hu3 hr1 HU HR1 HR2 HH
  unfold vbC
  go_upto_region 3 with fail
  have hu4 : Upd Non w3 (w3.alloc (.cells #[.int .i64 v.kind, .int .i64 0, .int .i64 v.at_, .int .i64 v.n, .int .u64 v.old, .int .u64 v.new_, .slice A v.words.length cap, .int .u64 v.key, .int .i64 v.boot] 62)) := (Upd.refl _ _).alloc _
  have HV5 : Hid (Row (w3.alloc (.cells #[.int .i64 v.kind, .int .i64 0, .int .i64 v.at_, .int .i64 v.n, .int .u64 v.old, .int .u64 v.new_, .slice A v.words.length cap, .int .u64 v.key, .int .i64 v.boot] 62)) w3.heap.size 62 [.int .i64 v.kind, .int .i64 0, .int .i64 v.at_, .int .i64 v.n, .int .u64 v.old, .int .u64 v.new_, .slice A v.words.length cap, .int .u64 v.key, .int .i64 v.boot]) := Row.new w3 _ _
  have HZ5 := Lib.hid (hu4.rowN HR23.out)
  have HO5 := Lib.hid (HO.out.keep hu4 fun _ _ h => h)
  have HU5 := Lib.hid (HU3.out.tr hu4)
  have HR5 := Lib.hid (hu4.rowN HR13.out)
  have c3 := HR5.out.cell 3 rfl
  have hne : w3.heap.size ≠ w.heap.size + 1 := by have := HR23.out.lt; omega
  have hne' : w.heap.size + 1 ≠ w3.heap.size := by have := HR23.out.lt; omega
  have HL3' : Hid (w.heap.size + 2 ≤ w3.heap.size) := Lib.hid (by have := HR23.out.lt; omega)
  clear hu4 HO HU3 HR13 HR23 HL3
  generalize w3.alloc (.cells #[.int .i64 v.kind, .int .i64 0, .int .i64 v.at_, .int .i64 v.n, .int .u64 v.old, .int .u64 v.new_, .slice A v.words.length cap, .int .u64 v.key, .int .i64 v.boot] 62) = W4 at *
  generalize w3.heap.size = vb at *
  go_wp2_with fail
  refine (HP.out _).mono ?_
  rintro e w' ⟨k, -, hk13, rfl, rfl⟩
  clear HP c3
  by_cases hk : k = 12
  · subst hk
    have hv4 := HV5.out
    have d1 := hv4.cell 1 rfl
    have f1 := hv4.frozen 1
    have HV4 := Lib.hid hv4
    clear hv4 HV5
    go_upto_region 5 with fail
    have hu5 : Upd (One vb) W4 (W4.setCell ⟨vb, 1, none⟩ (.int .i64 1)) := (Upd.refl (One vb) W4).setCell (p := ⟨vb, 1, none⟩) (.inl rfl) _
    have HV5 : Hid (Row (W4.setCell ⟨vb, 1, none⟩ (.int .i64 1)) vb 62 [.int .i64 v.kind, .int .i64 1, .int .i64 v.at_, .int .i64 v.n, .int .u64 v.old, .int .u64 v.new_, .slice A v.words.length cap, .int .u64 v.key, .int .i64 v.boot]) := Lib.hid (HV4.out.set 1 _)
    have HZ5 := Lib.hid (hu5.row HZ5.out fun e => hne' e)
    have HO5 := Lib.hid (HO5.out.keepB hu5 fun k hk e => by have e : k = vb := e; subst e; exact HO5.out.notRow HV4.out (by decide) hk)
    have HU5 := Lib.hid (HU5.out.trans hu5 fun i hi e => by have e : i = vb := e; have := HL3'.out; omega)
    clear hu5 HV4 HR5 d1 f1
    generalize W4.setCell ⟨vb, 1, none⟩ (.int .i64 1) = W5 at *
    obtain ⟨d0, d1, d2, d3, d4, d5, d6, d7, d8⟩ := vb_cells HV5.out
    obtain ⟨z0, z1, z2, z3, z4, z5, z6, z7, z8⟩ := vb_cells HZ5.out
    obtain ⟨y0, y1, y2, y3, y4, y5, y6, y7, y8⟩ := vb_frozen HZ5.out
    go_wp2_with fail
    have hrf : Row (((((((((W5.setCell ⟨w.heap.size + 1, 0, none⟩ (.int .i64 v.kind)).setCell ⟨w.heap.size + 1, 1, none⟩ (.int .i64 1)).setCell ⟨w.heap.size + 1, 2, none⟩ (.int .i64 v.at_)).setCell ⟨w.heap.size + 1, 3, none⟩ (.int .i64 v.n)).setCell ⟨w.heap.size + 1, 4, none⟩ (.int .u64 v.old)).setCell ⟨w.heap.size + 1, 5, none⟩ (.int .u64 v.new_)).setCell ⟨w.heap.size + 1, 6, none⟩ (.slice A v.words.length cap)).setCell ⟨w.heap.size + 1, 7, none⟩ (.int .u64 v.key)).setCell ⟨w.heap.size + 1, 8, none⟩ (.int .i64 v.boot)) (w.heap.size + 1) 62 [.int .i64 v.kind, .int .i64 1, .int .i64 v.at_, .int .i64 v.n, .int .u64 v.old, .int .u64 v.new_, .slice A v.words.length cap, .int .u64 v.key, .int .i64 v.boot] := ((((((((HZ5.out.set 0 (.int .i64 v.kind)).set 1 (.int .i64 1)).set 2 (.int .i64 v.at_)).set 3 (.int .i64 v.n)).set 4 (.int .u64 v.old)).set 5 (.int .u64 v.new_)).set 6 (.slice A v.words.length cap)).set 7 (.int .u64 v.key)).set 8 (.int .i64 v.boot)
    have huf : Upd (One (w.heap.size + 1)) W5 (((((((((W5.setCell ⟨w.heap.size + 1, 0, none⟩ (.int .i64 v.kind)).setCell ⟨w.heap.size + 1, 1, none⟩ (.int .i64 1)).setCell ⟨w.heap.size + 1, 2, none⟩ (.int .i64 v.at_)).setCell ⟨w.heap.size + 1, 3, none⟩ (.int .i64 v.n)).setCell ⟨w.heap.size + 1, 4, none⟩ (.int .u64 v.old)).setCell ⟨w.heap.size + 1, 5, none⟩ (.int .u64 v.new_)).setCell ⟨w.heap.size + 1, 6, none⟩ (.slice A v.words.length cap)).setCell ⟨w.heap.size + 1, 7, none⟩ (.int .u64 v.key)).setCell ⟨w.heap.size + 1, 8, none⟩ (.int .i64 v.boot)) := (Upd.refl (One (w.heap.size + 1)) W5).nine (.inl rfl) (.int .i64 v.kind) (.int .i64 1) (.int .i64 v.at_) (.int .i64 v.n) (.int .u64 v.old) (.int .u64 v.new_) (.slice A v.words.length cap) (.int .u64 v.key) (.int .i64 v.boot)
    obtain ⟨q0, q1, q2, q3, q4, q5, q6, q7, q8⟩ := vb_cells hrf
    refine bodyPost_ret (v := .agg #[.int .i64 v.kind, .int .i64 1, .int .i64 v.at_, .int .i64 v.n, .int .u64 v.old, .int .u64 v.new_, .slice A v.words.length cap, .int .u64 v.key, .int .i64 v.boot]) (by simp [results, Try.results148, go_sem, q0, q1, q2, q3, q4, q5, q6, q7, q8]) rfl ?_
    have hs5 := HU5.out.size
    have hzl := HZ5.out.lt
    refine ⟨{ v with node := 1 }, A, cap, rfl, hand_node HHV.out (by decide) (by decide), ?_, HU5.out.trans huf fun i hi e => by have e : i = w.heap.size + 1 := e; omega⟩
    exact (HO5.out.keep huf fun k hk e => by have e : k = w.heap.size + 1 := e; have hk : w.heap.size + 2 ≤ k := hk; omega).mono fun k hk hl => ⟨by have hk : w.heap.size + 2 ≤ k := hk; omega, hl⟩
  · have hb : ((k : Int) == 12) = false := by rw [beq_eq_false_iff_ne]; omega
    clear hk HR5
    go_upto_region 5 with fail
    generalize W4 = W5 at *
    obtain ⟨d0, d1, d2, d3, d4, d5, d6, d7, d8⟩ := vb_cells HV5.out
    obtain ⟨z0, z1, z2, z3, z4, z5, z6, z7, z8⟩ := vb_cells HZ5.out
    obtain ⟨y0, y1, y2, y3, y4, y5, y6, y7, y8⟩ := vb_frozen HZ5.out
    go_wp2_with fail
    have hrf : Row (((((((((W5.setCell ⟨w.heap.size + 1, 0, none⟩ (.int .i64 v.kind)).setCell ⟨w.heap.size + 1, 1, none⟩ (.int .i64 0)).setCell ⟨w.heap.size + 1, 2, none⟩ (.int .i64 v.at_)).setCell ⟨w.heap.size + 1, 3, none⟩ (.int .i64 v.n)).setCell ⟨w.heap.size + 1, 4, none⟩ (.int .u64 v.old)).setCell ⟨w.heap.size + 1, 5, none⟩ (.int .u64 v.new_)).setCell ⟨w.heap.size + 1, 6, none⟩ (.slice A v.words.length cap)).setCell ⟨w.heap.size + 1, 7, none⟩ (.int .u64 v.key)).setCell ⟨w.heap.size + 1, 8, none⟩ (.int .i64 v.boot)) (w.heap.size + 1) 62 [.int .i64 v.kind, .int .i64 0, .int .i64 v.at_, .int .i64 v.n, .int .u64 v.old, .int .u64 v.new_, .slice A v.words.length cap, .int .u64 v.key, .int .i64 v.boot] := ((((((((HZ5.out.set 0 (.int .i64 v.kind)).set 1 (.int .i64 0)).set 2 (.int .i64 v.at_)).set 3 (.int .i64 v.n)).set 4 (.int .u64 v.old)).set 5 (.int .u64 v.new_)).set 6 (.slice A v.words.length cap)).set 7 (.int .u64 v.key)).set 8 (.int .i64 v.boot)
    have huf : Upd (One (w.heap.size + 1)) W5 (((((((((W5.setCell ⟨w.heap.size + 1, 0, none⟩ (.int .i64 v.kind)).setCell ⟨w.heap.size + 1, 1, none⟩ (.int .i64 0)).setCell ⟨w.heap.size + 1, 2, none⟩ (.int .i64 v.at_)).setCell ⟨w.heap.size + 1, 3, none⟩ (.int .i64 v.n)).setCell ⟨w.heap.size + 1, 4, none⟩ (.int .u64 v.old)).setCell ⟨w.heap.size + 1, 5, none⟩ (.int .u64 v.new_)).setCell ⟨w.heap.size + 1, 6, none⟩ (.slice A v.words.length cap)).setCell ⟨w.heap.size + 1, 7, none⟩ (.int .u64 v.key)).setCell ⟨w.heap.size + 1, 8, none⟩ (.int .i64 v.boot)) := (Upd.refl (One (w.heap.size + 1)) W5).nine (.inl rfl) (.int .i64 v.kind) (.int .i64 0) (.int .i64 v.at_) (.int .i64 v.n) (.int .u64 v.old) (.int .u64 v.new_) (.slice A v.words.length cap) (.int .u64 v.key) (.int .i64 v.boot)
    obtain ⟨q0, q1, q2, q3, q4, q5, q6, q7, q8⟩ := vb_cells hrf
    refine bodyPost_ret (v := .agg #[.int .i64 v.kind, .int .i64 0, .int .i64 v.at_, .int .i64 v.n, .int .u64 v.old, .int .u64 v.new_, .slice A v.words.length cap, .int .u64 v.key, .int .i64 v.boot]) (by simp [results, Try.results148, go_sem, q0, q1, q2, q3, q4, q5, q6, q7, q8]) rfl ?_
    have hs5 := HU5.out.size
    have hzl := HZ5.out.lt
    refine ⟨{ v with node := 0 }, A, cap, rfl, hand_node HHV.out (by decide) (by decide), ?_, HU5.out.trans huf fun i hi e => by have e : i = w.heap.size + 1 := e; omega⟩
    exact (HO5.out.keep huf fun k hk e => by have e : k = w.heap.size + 1 := e; have hk : w.heap.size + 2 ≤ k := hk; omega).mono fun k hk hl => ⟨by have hk : w.heap.size + 2 ≤ k := hk; omega, hl⟩
end Go.Proofs.Ytlhbikiggmdolaa

/- The statements about queue pairs: the four objects, one operation on one side. -/
namespace Go.Proofs.Ytlhbikiggmdolaa
open Go.RowKit

/-- The reference's pair and node. -/
structure R5 (lab : Nat → Nat) (w : World) (b r : Nat) (P : Pr) (sl : List Int) (ws : List Int) (up : Bool) : Prop where
  rp : ∃ x, RPairR w (At lab 4) b 0 134 [.int .i64 P.client, .int .i64 P.inc, .int .i64 P.node, x] P sl
  lb : lab b = 5
  rn : ∃ x, RefN w (At lab 6) r 0 46 [x, .bool up] ws up
  ok : P.Ok
theorem R5.keep {lab : Nat → Nat} {w w' : World} {b r : Nat} {P : Pr} {sl ws : List Int} {up : Bool} (h : R5 lab w b r P sl ws up) {M : Blk} (hu : Upd M w w') (hM : ∀ k, M k → lab k ≠ 4 ∧ lab k ≠ 5 ∧ lab k ≠ 6) : R5 lab w' b r P sl ws up := by
  obtain ⟨⟨x, h1⟩, h2, ⟨y, h3⟩, h4⟩ := h
  exact ⟨⟨x, h1.keep hu (fun hm => (hM b hm).2.1 h2) fun k hk hm => (hM k hm).1 hk⟩, h2, ⟨y, h3.keep hu fun k hk hm => (hM k hm).2.2 hk⟩, h4⟩
theorem R5.relab {lab lab' : Nat → Nat} {w : World} {b r : Nat} {P : Pr} {sl ws : List Int} {up : Bool} (h : R5 lab w b r P sl ws up) (hl : ∀ k, k < w.heap.size → 4 ≤ lab k → lab k ≤ 6 → lab' k = lab k) : R5 lab' w b r P sl ws up := by
  obtain ⟨⟨x, h1⟩, h2, ⟨y, h3⟩, h4⟩ := h
  have hb : b < w.heap.size := by obtain ⟨_, _, _, h0, _⟩ := h1; exact h0.lt
  have e5 : lab' b = 5 := by rw [hl b hb (by omega) (by omega), h2]
  refine ⟨⟨x, h1.mono (fun k hk hlt => ?_) (fun h => ?_)⟩, e5, ⟨y, h3.mono fun k hk hlt => ?_⟩, h4⟩
  · have hk : lab k = 4 := hk
    show lab' k = 4
    rw [hl k hlt (by omega) (by omega)]; exact hk
  · have h : lab' b = 4 := h
    omega
  · have hk : lab k = 6 := hk
    show lab' k = 6
    rw [hl k hlt (by omega) (by omega)]; exact hk
theorem L5.relab {w0 w : World} {lab lab' : Nat → Nat} {p q : Nat} {P : Pr} {ws : List Int} {up : Bool} (h : L5 w0 lab w p q P ws up) (hl : ∀ k, k < w.heap.size → lab k ≤ 3 → lab' k = lab k) : L5 w0 lab' w p q P ws up := by
  have e : ∀ k t, k < w.heap.size → lab k = t → t ≤ 3 → lab' k = t := fun k t hlt hk ht => by rw [hl k hlt (by omega), hk]
  have hs := h.upd.size
  exact ⟨h.pair.relab (fun k hlt hk => e k _ hlt hk (by decide)) (fun k hlt hk => e k _ hlt hk (by decide)), h.node.relab fun k hlt hk => e k _ hlt hk (by decide), fun k hk => e k 0 (by omega) (h.out k hk) (by decide), h.ok, h.wf, h.upd⟩

/-- All four, and which blocks they leave alone. -/
def QQ (w0 : World) (A : Blk) (w : World) (p q b r : Nat) (P1 : Pr) (ws1 : List Int) (up1 : Bool) (P2 : Pr) (sl ws2 : List Int) (up2 : Bool) : Prop :=
  ∃ lab, L5 w0 lab w p q P1 ws1 up1 ∧ R5 lab w b r P2 sl ws2 up2 ∧ (∀ k, A k → 9 ≤ lab k) ∧ (∀ k, w.heap.size ≤ k → 9 ≤ lab k)
section
variable {w0 w w' : World} {A : Blk} {p q b r : Nat} {P1 P2 : Pr} {ws1 ws2 sl : List Int} {up1 up2 : Bool}
/-- Out of labels that may say anything of what is not there yet. -/
theorem qq_of {lab : Nat → Nat} (h1 : L5 w0 lab w p q P1 ws1 up1) (h2 : R5 lab w b r P2 sl ws2 up2) (hA : ∀ k, A k → k < w.heap.size → 9 ≤ lab k) : QQ w0 A w p q b r P1 ws1 up1 P2 sl ws2 up2 := by
  have e : ∀ k, k < w.heap.size → (fun k => if k < w.heap.size then lab k else 9) k = lab k := fun k hk => by simp [hk]
  refine ⟨fun k => if k < w.heap.size then lab k else 9, h1.relab fun k hk _ => e k hk, h2.relab fun k hk _ _ => e k hk, fun k hk => ?_, fun k hk => by simp [show ¬ k < w.heap.size by omega]⟩
  by_cases hlt : k < w.heap.size
  · simp only [hlt, if_true]; exact hA k hk hlt
  · simp [hlt]
theorem QQ.mono {B : Blk} (h : QQ w0 A w p q b r P1 ws1 up1 P2 sl ws2 up2) (hB : ∀ k, B k → A k ∨ w.heap.size ≤ k) : QQ w0 B w p q b r P1 ws1 up1 P2 sl ws2 up2 := by
  obtain ⟨lab, h1, h2, h3, h4⟩ := h
  exact ⟨lab, h1, h2, fun k hk => (hB k hk).elim (h3 k) (h4 k), h4⟩
theorem QQ.keepA {M : Blk} (h : QQ w0 A w p q b r P1 ws1 up1 P2 sl ws2 up2) (hu : Upd M w w') (hM : ∀ k, M k → A k) : QQ w0 (fun k => A k ∨ w.heap.size ≤ k) w' p q b r P1 ws1 up1 P2 sl ws2 up2 := by
  obtain ⟨lab, h1, h2, h3, h4⟩ := h
  exact ⟨lab, h1.keep hu fun k hk => by have := h3 k (hM k hk); omega, h2.keep hu fun k hk => by have := h3 k (hM k hk); omega, fun k hk => hk.elim (h3 k) (h4 k), fun k hk => h4 k (Nat.le_trans hu.size hk)⟩
theorem QQ.keepN (h : QQ w0 A w p q b r P1 ws1 up1 P2 sl ws2 up2) (hu : Upd Non w w') : QQ w0 (fun k => A k ∨ w.heap.size ≤ k) w' p q b r P1 ws1 up1 P2 sl ws2 up2 := h.keepA hu fun _ h => h.elim
theorem QQ.upd (h : QQ w0 A w p q b r P1 ws1 up1 P2 sl ws2 up2) : Upd Non w0 w := by obtain ⟨_, h1, _⟩ := h; exact h1.upd
theorem QQ.ok (h : QQ w0 A w p q b r P1 ws1 up1 P2 sl ws2 up2) : P1.Ok ∧ P2.Ok ∧ Wf ws1 := by obtain ⟨_, h1, h2, _⟩ := h; exact ⟨h1.ok, h2.ok, h1.wf⟩
theorem QQ.pair (h : QQ w0 A w p q b r P1 ws1 up1 P2 sl ws2 up2) : ∃ M I : Blk, PairR w M I p P1 := by obtain ⟨lab, h1, _⟩ := h; exact ⟨_, _, h1.pair⟩
theorem QQ.rpair (h : QQ w0 A w p q b r P1 ws1 up1 P2 sl ws2 up2) : ∃ (G : Blk) (x : Value), RPairR w G b 0 134 [.int .i64 P2.client, .int .i64 P2.inc, .int .i64 P2.node, x] P2 sl ∧ ∀ k, A k → ¬ G k ∧ k ≠ b := by
  obtain ⟨lab, h1, ⟨⟨x, h2⟩, h3, _, _⟩, h4, _⟩ := h
  exact ⟨_, x, h2, fun k hk => ⟨fun hg => by have hg : lab k = 4 := hg; have := h4 k hk; omega, fun e => by have := h4 k hk; rw [e, h3] at this; omega⟩⟩
theorem QQ.node (h : QQ w0 A w p q b r P1 ws1 up1 P2 sl ws2 up2) : ∃ F : Blk, NodeR w F q ws1 up1 := by obtain ⟨lab, h1, _⟩ := h; exact ⟨_, h1.node⟩
theorem QQ.ref (h : QQ w0 A w p q b r P1 ws1 up1 P2 sl ws2 up2) : ∃ (H : Blk) (x : Value), RefN w H r 0 46 [x, .bool up2] ws2 up2 := by obtain ⟨lab, _, ⟨_, _, ⟨x, h1⟩, _⟩, _⟩ := h; exact ⟨_, x, h1⟩

/-- The program's node changes. -/
theorem QQ.setNode (h : QQ w0 A w p q b r P1 ws1 up1 P2 sl ws2 up2) : ∃ F : Blk, NodeR w F q ws1 up1 ∧ ∀ w' ws' up', NodeR w' F q ws' up' → Upd F w w' → Wf ws' → QQ w0 A w' p q b r P1 ws' up' P2 sl ws2 up2 ∧ Keep5 A w w' := by
  obtain ⟨lab, h1, h2, h3, h4⟩ := h
  refine ⟨_, h1.node, fun w' ws' up' hn hu hw => ⟨⟨lab, h1.setNode hn hu hw, h2.keep hu fun k hk => ?_, h3, fun k hk => h4 k (Nat.le_trans hu.size hk)⟩, ⟨hu.size, fun k hk ha => hu.block k hk fun hm => ?_⟩⟩⟩
  · have hk : lab k = 3 := hk; omega
  · have hm : lab k = 3 := hm; have := h3 k ha; omega
/-- The reference's node changes. -/
theorem QQ.setRef (h : QQ w0 A w p q b r P1 ws1 up1 P2 sl ws2 up2) : ∃ (H : Blk) (x : Value), RefN w H r 0 46 [x, .bool up2] ws2 up2 ∧ ∀ w' ws' up' y, RefN w' H r 0 46 [y, .bool up'] ws' up' → Upd H w w' → QQ w0 A w' p q b r P1 ws1 up1 P2 sl ws' up' ∧ Keep5 A w w' := by
  obtain ⟨lab, h1, ⟨⟨x, e1⟩, e2, ⟨z, e3⟩, e4⟩, h3, h4⟩ := h
  refine ⟨_, z, e3, fun w' ws' up' y hn hu => ⟨⟨lab, h1.keep hu fun k hk => ?_, ⟨⟨x, e1.keep hu (fun hm => ?_) (at_ne (by decide))⟩, e2, ⟨y, hn⟩, e4⟩, h3, fun k hk => h4 k (Nat.le_trans hu.size hk)⟩, ⟨hu.size, fun k hk ha => hu.block k hk fun hm => ?_⟩⟩⟩
  · have hk : lab k = 6 := hk; omega
  · have hm : lab b = 6 := hm; omega
  · have hm : lab k = 6 := hm; have := h3 k ha; omega

def QPostP (w0 w : World) (A : Blk) (p q b r : Nat) (P1 : Pr) (ws1 : List Int) (up1 : Bool) (P2 : Pr) (sl ws2 : List Int) (up2 : Bool) (v : Vb) (e : Ending) (w' : World) : Prop :=
  e = .returned (.int .i64 0) ∧ QQ w0 (fun k => A k ∧ k < w.heap.size) w' p q b r (P1.push v) ws1 up1 P2 sl ws2 up2 ∧ Keep5 A w w'
theorem QQ.ppost (h : QQ w0 A w p q b r P1 ws1 up1 P2 sl ws2 up2) {J : Blk} {v : Vb} {s : Value} {lines : Int} (hv : VWords w J v s) (hg : GoodV v) (hE : postE P1 v lines = 0) (hl : P1.verbs.length < 1024) :
    Calls Try.prog 89 #[.pointer (some ⟨p, 0, none⟩), .agg (vbC v s), .int .i64 lines] w (QPostP w0 w A p q b r P1 ws1 up1 P2 sl ws2 up2 v) := by
  obtain ⟨lab, h1, h2, h3, h4⟩ := h
  refine (h1.post hv hg hE hl).mono ?_
  rintro e w' ⟨he, lab', hL, hup, hn, hu⟩
  have hold : ∀ k, k < w.heap.size → lab k ≠ 1 → lab' k = lab k := fun k hk h1 => by
    rcases hup k hk with e | ⟨e, _⟩
    · exact e
    · exact absurd e h1
  refine ⟨he, qq_of hL ((h2.relab fun k hk h4 h6 => hold k hk (by omega)).keep hu fun k hk => ?_) fun k hk hlt => ?_, ⟨hu.size, fun k hk ha => hu.block k hk fun hm => ?_⟩⟩
  · have hk : lab k = 1 := hk
    by_cases hlt : k < w.heap.size
    · rcases hup k hlt with e | ⟨_, e⟩ <;> omega
    · rcases hn k (by omega) with e | e <;> omega
  · have := h3 k hk.1
    rw [hold k hk.2 (by omega)]; exact this
  · have hm : lab k = 1 := hm; have := h3 k ha; omega
def QStepP (w0 w : World) (A : Blk) (p q b r : Nat) (P1 : Pr) (ws1 : List Int) (up1 : Bool) (P2 : Pr) (sl ws2 : List Int) (up2 : Bool) (e : Ending) (w' : World) : Prop :=
  ∃ (X : Option Addr) (cap : Nat) (R : Blk), e = .returned (.tuple #[.agg #[.int .i64 (stepV P1 ws1 up1).code, .slice X (stepV P1 ws1 up1).done.length cap], .bool (stepV P1 ws1 up1).is]) ∧ QQ w0 (fun k => (A k ∧ k < w.heap.size) ∨ R k) w' p q b r (stepV P1 ws1 up1).pair (stepV P1 ws1 up1).ws up1 P2 sl ws2 up2 ∧
    Own w' R 36 1 (.slice X (stepV P1 ws1 up1).done.length cap) (stepV P1 ws1 up1).done.length (u64s (stepV P1 ws1 up1).done) ∧ Keep5 A w w'
theorem QQ.pstep (h : QQ w0 A w p q b r P1 ws1 up1 P2 sl ws2 up2) :
    Calls Try.prog 91 #[.pointer (some ⟨p, 0, none⟩), .pointer (some ⟨q, 0, none⟩)] w (QStepP w0 w A p q b r P1 ws1 up1 P2 sl ws2 up2) := by
  obtain ⟨lab, h1, h2, h3, h4⟩ := h
  refine h1.step.mono ?_
  rintro e w' ⟨lab', X, cap, he, hL, hO, hup, hn, hu⟩
  have hold : ∀ k, k < w.heap.size → lab k ≠ 1 → lab' k = lab k := fun k hk h1 => by
    rcases hup k hk with e | ⟨e, _⟩
    · exact e
    · exact absurd e h1
  refine ⟨X, cap, fun k => lab' k = 9 ∧ k < w'.heap.size, he, qq_of hL ((h2.relab fun k hk h4 h6 => hold k hk (by omega)).keep hu fun k hk => ?_) fun k hk hlt => ?_, hO.mono fun k hk hl => ⟨hk, hl⟩, ⟨hu.size, fun k hk ha => hu.block k hk fun hm => ?_⟩⟩
  · by_cases hlt : k < w.heap.size
    · rcases hup k hlt with e | ⟨_, e⟩ <;> omega
    · rcases hn k (by omega) with e | e <;> omega
  · rcases hk with hk | hk
    · have := h3 k hk.1
      rw [hold k hk.2 (by omega)]; exact this
    · omega
  · have := h3 k ha; omega
theorem QQ.pdrop (h : QQ w0 A w p q b r P1 ws1 up1 P2 sl ws2 up2) :
    Calls Try.prog 151 #[.pointer (some ⟨p, 0, none⟩)] w fun e w' => e = .returned (.tuple #[]) ∧ QQ w0 A w' p q b r (Pr.none P1.client P1.inc P1.node) ws1 up1 P2 sl ws2 up2 ∧ Keep5 A w w' := by
  obtain ⟨lab, h1, h2, h3, h4⟩ := h
  refine (drop_calls h1.pair).mono ?_
  rintro e w' ⟨he, hp, hu⟩
  have ho := h1.ok
  refine ⟨he, ⟨lab, h1.setPair hp hu (pr_none_ok _ _ _ ho.c0 ho.c1 ho.i0 ho.i1 ho.n0 ho.n1), h2.keep hu fun k hk => ?_, h3, fun k hk => h4 k (Nat.le_trans hu.size hk)⟩, ⟨hu.size, fun k hk ha => hu.block k hk fun hm => ?_⟩⟩
  · have hk : lab k = 1 := hk; omega
  · have hm : lab k = 1 := hm; have := h3 k ha; omega
end
end Go.Proofs.Ytlhbikiggmdolaa

/- The statements about queue pairs: the four objects, one operation on the reference's side. -/
namespace Go.Proofs.Ytlhbikiggmdolaa
open Go.RowKit

theorem stepV_id (P : Pr) (ws : List Int) (up : Bool) : (stepV P ws up).pair.client = P.client ∧ (stepV P ws up).pair.inc = P.inc ∧ (stepV P ws up).pair.node = P.node := by
  unfold stepV
  split
  · exact ⟨rfl, rfl, rfl⟩
  · split
    · exact ⟨rfl, rfl, rfl⟩
    · dsimp only
      split <;> exact ⟨rfl, rfl, rfl⟩
theorem rpair_c {w : World} {G : Blk} {b : Nat} {P P' : Pr} {sl : List Int} {x y : Value} (h1 : P'.client = P.client) (h2 : P'.inc = P.inc) (h3 : P'.node = P.node) (h : RPairR w G b 0 134 ([.int .i64 P.client, .int .i64 P.inc, .int .i64 P.node, y].set (0 + 3) x) P' sl) :
    RPairR w G b 0 134 [.int .i64 P'.client, .int .i64 P'.inc, .int .i64 P'.node, x] P' sl := by
  rw [h1, h2, h3]; exact h
section
variable {w0 w w' : World} {A : Blk} {p q b r : Nat} {P1 P2 : Pr} {ws1 ws2 sl : List Int} {up1 up2 : Bool}
/-- New blocks go to the reference's queues. -/
theorem qq_ref {lab : Nat → Nat} {P3 : Pr} {sl' ws3 : List Int} {x y : Value} (h1 : L5 w0 lab w p q P1 ws1 up1) (h2 : R5 lab w b r P2 sl ws2 up2) (hA : ∀ k, A k → 9 ≤ lab k) (hu : Upd (fun k => k = b ∨ lab k = 6) w w')
    (hp : RPairR w' (fun k => At lab 4 k ∨ New w w' k) b 0 134 [.int .i64 P3.client, .int .i64 P3.inc, .int .i64 P3.node, x] P3 sl') (hn : RefN w' (At lab 6) r 0 46 [y, .bool up2] ws3 up2) (hok : P3.Ok) (hN : ∀ k, w.heap.size ≤ k → 9 ≤ lab k) :
    QQ w0 (fun k => A k ∧ k < w.heap.size) w' p q b r P1 ws1 up1 P3 sl' ws3 up2 ∧ Keep5 A w w' := by
  obtain ⟨⟨x0, e1⟩, e2, ⟨z0, e3⟩, e4⟩ := h2
  have hb : b < w.heap.size := by obtain ⟨_, _, _, h0, _⟩ := e1; exact h0.lt
  have hold : ∀ k, k < w.heap.size → (fun k => if k < w.heap.size then lab k else 4) k = lab k := fun k hk => by simp [hk]
  have hs := hu.size
  refine ⟨qq_of (lab := fun k => if k < w.heap.size then lab k else 4) ((h1.keep hu fun k hk => ?_).relab fun k _ hle => hold k ?_) ⟨⟨x, hp.mono (fun k hk hl => ?_) (fun h => ?_)⟩, by simp only [hb, if_true]; exact e2, ⟨y, hn.mono fun k hk hl => ?_⟩, hok⟩ fun k hk hl => ?_, ⟨hu.size, fun k hk ha => hu.block k hk fun hm => ?_⟩⟩
  · rcases hk with rfl | hk <;> omega
  · rcases Nat.lt_or_ge k w.heap.size with h | h
    · exact h
    · have := hN k h; omega
  · show (if k < w.heap.size then lab k else 4) = 4
    rcases hk with hk | hk
    · have hk : lab k = 4 := hk
      simp [hk]
    · have := hk.1
      simp [show ¬ k < w.heap.size by omega]
  · have h : (if b < w.heap.size then lab b else 4) = 4 := h
    simp only [hb, if_true] at h; omega
  · show (if k < w.heap.size then lab k else 4) = 6
    have hk : lab k = 6 := hk
    have : k < w.heap.size := by
      rcases Nat.lt_or_ge k w.heap.size with h | h
      · exact h
      · have := hN k h; omega
    simp only [this, if_true]; exact hk
  · simp only [hk.2, if_true]; exact hA k hk.1
  · have := hA k ha
    rcases hm with rfl | hm <;> omega
theorem QQ.rpost (h : QQ w0 A w p q b r P1 ws1 up1 P2 sl ws2 up2) {J : Blk} {v : Vb} {s : Value} {lines slot : Int} (hv : VWords w J v s) (hg : GoodV v) (hE : postE P2 v lines = 0) (hl : P2.verbs.length < 1024) :
    Calls Try.prog 149 #[.pointer (some ⟨b, 0, none⟩), .agg (vbC v s), .int .i64 lines, .int .i64 slot] w fun e w' => e = .returned (.int .i64 0) ∧ QQ w0 (fun k => A k ∧ k < w.heap.size) w' p q b r P1 ws1 up1 (P2.push v) (sl ++ [slot]) ws2 up2 ∧ Keep5 A w w' := by
  obtain ⟨lab, h1, h2, h3, h4⟩ := h
  obtain ⟨⟨x0, e1⟩, e2, ⟨z0, e3⟩, e4⟩ := id h2
  refine (rpost_yes e1 e4 hv hg.wlen hE).mono ?_
  rintro e w' ⟨he, hu, x, hp⟩
  refine ⟨he, qq_ref h1 h2 h3 (hu.mono fun k _ h => .inl h) (rpair_c (P := P2) rfl rfl rfl hp) (e3.keep hu fun k hk e => ?_) (e4.push hg hl) h4⟩
  have e : k = b := e
  have hk : lab k = 6 := hk
  rw [e, e2] at hk; omega
def QStepR (w0 w : World) (A : Blk) (p q b r : Nat) (P1 : Pr) (ws1 : List Int) (up1 : Bool) (P2 : Pr) (sl ws2 : List Int) (up2 : Bool) (e : Ending) (w' : World) : Prop :=
  ∃ (X : Option Addr) (cap : Nat) (R : Blk), e = .returned (.tuple #[.agg #[.int .i64 (stepV P2 ws2 up2).code, .slice X (stepV P2 ws2 up2).done.length cap], .int .i64 (if (stepV P2 ws2 up2).is then sl.headD (-1) else -1), .bool (stepV P2 ws2 up2).is, .bool (decide (P2.verbs ≠ []))]) ∧
    QQ w0 (fun k => A k ∧ k < w.heap.size) w' p q b r P1 ws1 up1 (stepV P2 ws2 up2).pair (if (stepV P2 ws2 up2).is then sl.tail else sl) (stepV P2 ws2 up2).ws up2 ∧
    Own w' R 36 1 (.slice X (stepV P2 ws2 up2).done.length cap) (stepV P2 ws2 up2).done.length (u64s (stepV P2 ws2 up2).done) ∧ Keep5 A w w'
theorem QQ.rstep (h : QQ w0 A w p q b r P1 ws1 up1 P2 sl ws2 up2) (hw : Wf ws2) :
    Calls Try.prog 150 #[.pointer (some ⟨b, 0, none⟩), .pointer (some ⟨r, 0, none⟩)] w (QStepR w0 w A p q b r P1 ws1 up1 P2 sl ws2 up2) := by
  obtain ⟨lab, h1, h2, h3, h4⟩ := h
  obtain ⟨⟨x0, e1⟩, e2, ⟨z0, e3⟩, e4⟩ := id h2
  refine (rstep_calls e1 e4 e3 (at_ne (by decide)) (fun h => by have h : lab b = 6 := h; omega)).mono ?_
  rintro e w' ⟨X, cap, x, he, hp, hn, hO, hu⟩
  obtain ⟨i1, i2, i3⟩ := stepV_id P2 ws2 up2
  obtain ⟨hq, hk⟩ := qq_ref h1 h2 h3 (hu.mono fun k _ h => h) (rpair_c i1 i2 i3 hp) hn (stepV_ok (up := up2) e4 hw).1 h4
  exact ⟨X, cap, _, he, hq, hO, hk⟩
theorem QQ.rdrop (h : QQ w0 A w p q b r P1 ws1 up1 P2 sl ws2 up2) : QQ w0 A (w.setCell ⟨b, 3, none⟩ (.slice none 0 0)) p q b r P1 ws1 up1 (Pr.none P2.client P2.inc P2.node) [] ws2 up2 ∧ Keep5 A w (w.setCell ⟨b, 3, none⟩ (.slice none 0 0)) ∧
    (∃ y, w.cell? ⟨b, 3, none⟩ = some y) ∧ w.frozen? ⟨b, 3, none⟩ = false := by
  obtain ⟨lab, h1, h2, h3, h4⟩ := h
  obtain ⟨⟨x0, e1⟩, e2, ⟨z0, e3⟩, e4⟩ := id h2
  have hu : Upd (One b) w (w.setCell ⟨b, 3, none⟩ (.slice none 0 0)) := (Upd.refl (One b) w).setCell (p := ⟨b, 3, none⟩) (.inl rfl) _
  have hsz : (w.setCell ⟨b, 3, none⟩ (.slice none 0 0)).heap.size = w.heap.size := by simp [World.setCell]
  obtain ⟨_, _, _, h0, _, _, _, hx, _, _, _, _, _, h10⟩ := id e1
  have ho := e4
  refine ⟨⟨lab, h1.keep hu fun k hk => ?_, ⟨⟨.slice none 0 0, .slice none 0 0, .slice none 0 0, [], h0.set 3 _, rfl, rfl, rfl, rfl, rfl, rfl, fun x hx => by simp at hx, Own.nil _ _ _ _, Own.nil _ _ _ _, h10⟩, e2, ⟨z0, e3.keep hu fun k hk e => ?_⟩, pr_none_ok _ _ _ ho.c0 ho.c1 ho.i0 ho.i1 ho.n0 ho.n1⟩, h3, fun k hk => h4 k (by omega)⟩, ⟨hu.size, fun k hk ha => hu.block k hk fun hm => ?_⟩, ⟨_, h0.cell 3 hx⟩, h0.frozen 3⟩
  · have hk : k = b := hk; rw [hk, e2]; omega
  · have e : k = b := e
    have hk : lab k = 6 := hk
    rw [e, e2] at hk; omega
  · have hm : k = b := hm
    have := h3 k ha
    rw [hm, e2] at this; omega
end
end Go.Proofs.Ytlhbikiggmdolaa

/- The statements about queue pairs: same. -/
namespace Go.Proofs.Ytlhbikiggmdolaa
open Go.RowKit

theorem quiet_of {f : FuncId} {args : Array Value} {w : World} {v : Value} (h : Calls Try.prog f args w fun e w' => e = .returned v ∧ w = w') : Calls Try.prog f args w fun e w' => e = .returned v ∧ w' = w := h.mono fun _ _ ⟨h1, h2⟩ => ⟨h1, h2.symm⟩

section
variable {w0 w : World} {A : Blk} {p q b r : Nat} {P P2 : Pr} {ws ws2 sl : List Int} {up up2 : Bool}
set_option maxRecDepth 100000 in
set_option maxHeartbeats 8000000 in
theorem same_nil (h : QQ w0 A w p q b r P ws up P sl ws2 up2) (hv : P.verbs = []) :
    Calls Try.prog 152 #[quadV p q b r] w fun e w' => e = .returned (.bool true) ∧ Upd Non w w' := by
  unfold quadV
  have hu1 : Upd Non w (w.alloc (.cells #[.pointer (some ⟨p, 0, none⟩), .pointer (some ⟨q, 0, none⟩), .pointer (some ⟨b, 0, none⟩), .pointer (some ⟨r, 0, none⟩)] 109)) := (Upd.refl _ _).alloc _
  have hb1 : XRow (w.alloc (.cells #[.pointer (some ⟨p, 0, none⟩), .pointer (some ⟨q, 0, none⟩), .pointer (some ⟨b, 0, none⟩), .pointer (some ⟨r, 0, none⟩)] 109)) w.heap.size p q b r := Row.new w _ _
  obtain ⟨M, I, hp⟩ := (h.keepN hu1).pair
  have HF := Lib.hid (first_nil hp hv)
  have HQ : Hid (∀ W, Upd Non w W → (∃ M I, PairR W M I p P) ∧ ∃ Av cv, W.cell? ⟨b, 0, none⟩ = some (.int .i64 P.client) ∧ W.cell? ⟨b, 1, none⟩ = some (.int .i64 P.inc) ∧ W.cell? ⟨b, 2, none⟩ = some (.int .i64 P.node) ∧ W.cell? ⟨b, 3, none⟩ = some (.slice Av 0 cv)) := Lib.hid fun W hu => by
    have hq := h.keepN hu
    obtain ⟨G, x, hr, -⟩ := hq.rpair
    obtain ⟨Av, cv, c0, c1, c2, c3, -⟩ := hr.cells
    rw [hv, List.length_nil] at c3
    exact ⟨hq.pair, Av, cv, c0, c1, c2, c3⟩
  have HB1 := Lib.hid hb1
  have HU1 := Lib.hid hu1
  have HV := Lib.hid hv
  clear h hv hp hu1 hb1
  go_enter Try.func152, Try.ntmps152
  obtain ⟨x0, x1, x2, x3⟩ := HB1.out.cells
  go_wp2_with fail
  refine HF.out.mono ?_
  rintro e w2 ⟨rfl, hu2⟩
  have hu3 : Upd Non w2 (w2.alloc (.cells #[.int .i64 0, .int .i64 0, .int .i64 0, .int .i64 0, .int .u64 0, .int .u64 0, .slice none 0 0, .int .u64 0, .int .i64 0] 62)) := (Upd.refl _ _).alloc _
  have HU3 := Lib.hid ((HU1.out.tr hu2).tr hu3)
  have hb3 : XRow (w2.alloc (.cells #[.int .i64 0, .int .i64 0, .int .i64 0, .int .i64 0, .int .u64 0, .int .u64 0, .slice none 0 0, .int .u64 0, .int .i64 0] 62)) w.heap.size p q b r := hu3.rowN (hu2.rowN HB1.out)
  have HB3 := Lib.hid hb3
  clear hu2 hu3 hb3 x0 x1 x2 x3 HB1 HU1 HF
  go_upto_region 2 with fail
  generalize w2.alloc (.cells #[.int .i64 0, .int .i64 0, .int .i64 0, .int .i64 0, .int .u64 0, .int .u64 0, .slice none 0 0, .int .u64 0, .int .i64 0] 62) = W3 at *
  obtain ⟨x0, x1, x2, x3⟩ := HB3.out.cells
  obtain ⟨-, Av, cv, c0, c1, c2, c3⟩ := HQ.out _ HU3.out
  have HN : Hid (∀ n, Calls Try.prog 90 #[.pointer (some ⟨p, 0, none⟩)] (W3.drewN n) fun e w' => e = .returned (.int .i64 0) ∧ w' = W3.drewN n) := Lib.hid fun n => by
    obtain ⟨⟨M, I, hp⟩, -⟩ := HQ.out _ (HU3.out.drewN n)
    have := pending_calls hp
    rw [HV.out] at this
    exact quiet_of this
  have HC : Hid (∀ n, Calls Try.prog 93 #[.pointer (some ⟨p, 0, none⟩)] (W3.drewN n) fun e w' => e = .returned (.int .i64 P.client) ∧ w' = W3.drewN n) := Lib.hid fun n => by
    obtain ⟨⟨M, I, hp⟩, -⟩ := HQ.out _ (HU3.out.drewN n)
    exact quiet_of (pclient_calls hp)
  have HI : Hid (∀ n, Calls Try.prog 94 #[.pointer (some ⟨p, 0, none⟩)] (W3.drewN n) fun e w' => e = .returned (.int .i64 P.inc) ∧ w' = W3.drewN n) := Lib.hid fun n => by
    obtain ⟨⟨M, I, hp⟩, -⟩ := HQ.out _ (HU3.out.drewN n)
    exact quiet_of (pinc_calls hp)
  have HD : Hid (∀ n, Calls Try.prog 95 #[.pointer (some ⟨p, 0, none⟩)] (W3.drewN n) fun e w' => e = .returned (.int .i64 P.node) ∧ w' = W3.drewN n) := Lib.hid fun n => by
    obtain ⟨⟨M, I, hp⟩, -⟩ := HQ.out _ (HU3.out.drewN n)
    exact quiet_of (pnode_calls hp)
  go_quiet ((first
    | (go_at_call 90; exact Calls.quiet_of_same (HN.out _))
    | (go_at_call 93; exact Calls.quiet_of_same (HC.out _))
    | (go_at_call 94; exact Calls.quiet_of_same (HI.out _))
    | (go_at_call 95; exact Calls.quiet_of_same (HD.out _))))
  go_wp2_with fail
  have HU4 := Lib.hid (HU3.out.drewN nq)
  clear HN HC HI HD HU3 HB3
  generalize W3.drewN nq = W4 at *
  go_quiet (fail)
  go_wp2_with fail
  go_ret
  exact ⟨rfl, HU4.out.drewN _⟩
def SameH (P : Pr) (p b : Nat) (v : Vb) (n g cv : Nat) (Ar : Option Addr) (capr : Nat) (W : World) : Prop :=
  (∃ M I, PairR W M I p P) ∧ W.cell? ⟨b, 0, none⟩ = some (.int .i64 P.client) ∧ W.cell? ⟨b, 1, none⟩ = some (.int .i64 P.inc) ∧ W.cell? ⟨b, 2, none⟩ = some (.int .i64 P.node) ∧ W.cell? ⟨b, 3, none⟩ = some (.slice (some ⟨g, 0, none⟩) (n + 1) cv) ∧
    (W.cell? ⟨g, 0, none⟩ = some (.int .i64 v.kind) ∧ W.cell? ⟨g, 1, none⟩ = some (.int .i64 v.node) ∧ W.cell? ⟨g, 2, none⟩ = some (.int .i64 v.at_) ∧ W.cell? ⟨g, 3, none⟩ = some (.int .i64 v.n) ∧ W.cell? ⟨g, 4, none⟩ = some (.int .u64 v.old) ∧ W.cell? ⟨g, 5, none⟩ = some (.int .u64 v.new_) ∧ W.cell? ⟨g, 6, none⟩ = some (.slice Ar v.words.length capr) ∧ W.cell? ⟨g, 7, none⟩ = some (.int .u64 v.key) ∧ W.cell? ⟨g, 8, none⟩ = some (.int .i64 v.boot)) ∧ W.cell? ⟨g, 9, none⟩ = some (.int .i64 P.ex) ∧ ∃ F, View W F 1 Ar v.words.length (u64s v.words)
theorem QQ.sameH {v : Vb} {l : List Vb} (h : QQ w0 A w p q b r P ws up P sl ws2 up2) (hv : P.verbs = v :: l) : ∃ g cv Ar capr, ∀ W, Upd Non w W → SameH P p b v l.length g cv Ar capr W := by
  obtain ⟨G, x, hr, -⟩ := h.rpair
  obtain ⟨s, sw, slot, g, cv, l', hh, -⟩ := hr.head hv
  have hl : l'.length = l.length := by
    have := hh.2.2.2.2.2.2.2.2.2.1
    rw [hv] at this
    simp only [List.cons.injEq, true_and] at this
    rw [this, List.length_map]
  obtain ⟨Ar, capr, rfl, -⟩ := hh.2.2.2.2.2.2.2.1
  refine ⟨g, cv, Ar, capr, fun W hu => ?_⟩
  obtain ⟨h0, h1, h2, h3, h4, -, -, ⟨A', c', e', -, -, hV⟩, -, -, h10, -, -⟩ := hh.keep hu (fun h => h) (fun _ _ h => h)
  cases e'
  obtain ⟨g', o', e', -, -, hc⟩ := h10.open (by simp [pdC])
  cases e'
  have hk := pd_cells (w := W) (b := g) (off := 0) (v := v) (s := .slice Ar v.words.length capr) (sw := sw) (ex := P.ex) (slot := slot) (fun i u hi => hc i u (by rw [List.getElem?_append_left (List.getElem?_eq_some_iff.1 hi).1]; exact hi))
  simp only [Nat.zero_add] at hk
  obtain ⟨k0, k1, k2, k3, k4, k5, k6, k7, k8, k9, -, -⟩ := hk
  have c3 := h0.cell _ h4
  rw [hl] at c3
  exact ⟨(h.keepN hu).pair, h0.cell _ h1, h0.cell _ h2, h0.cell _ h3, c3, ⟨k0, k1, k2, k3, k4, k5, k6, k7, k8⟩, k9, G, hV⟩
set_option maxRecDepth 100000 in
set_option maxHeartbeats 8000000 in
theorem same_some {v : Vb} {l : List Vb} (h : QQ w0 A w p q b r P ws up P sl ws2 up2) (hv : P.verbs = v :: l) :
    Calls Try.prog 152 #[quadV p q b r] w fun e w' => e = .returned (.bool true) ∧ Upd Non w w' := by
  unfold quadV
  have hg := h.ok.1.good v (by rw [hv]; simp)
  obtain ⟨g, cv, Ar, capr, hsh⟩ := h.sameH hv
  have hu1 : Upd Non w (w.alloc (.cells #[.pointer (some ⟨p, 0, none⟩), .pointer (some ⟨q, 0, none⟩), .pointer (some ⟨b, 0, none⟩), .pointer (some ⟨r, 0, none⟩)] 109)) := (Upd.refl _ _).alloc _
  have hb1 : XRow (w.alloc (.cells #[.pointer (some ⟨p, 0, none⟩), .pointer (some ⟨q, 0, none⟩), .pointer (some ⟨b, 0, none⟩), .pointer (some ⟨r, 0, none⟩)] 109)) w.heap.size p q b r := Row.new w _ _
  obtain ⟨M, I, hp⟩ := (h.keepN hu1).pair
  have HF := Lib.hid (first_some hp hv hg.wlen)
  have HSH := Lib.hid hsh
  have HB1 := Lib.hid hb1
  have HU1 := Lib.hid hu1
  have HV := Lib.hid hv
  have HGV := Lib.hid hg
  clear h hv hp hu1 hb1 hg hsh
  go_enter Try.func152, Try.ntmps152
  obtain ⟨x0, x1, x2, x3⟩ := HB1.out.cells
  go_wp2_with fail
  refine HF.out.mono ?_
  rintro e w2 ⟨A3, cap3, rfl, hO2, hu2⟩
  unfold vbC
  have hu3 : Upd Non w2 (w2.alloc (.cells #[.int .i64 v.kind, .int .i64 v.node, .int .i64 v.at_, .int .i64 v.n, .int .u64 v.old, .int .u64 v.new_, .slice A3 v.words.length cap3, .int .u64 v.key, .int .i64 v.boot] 62)) := (Upd.refl _ _).alloc _
  have HU3 := Lib.hid ((HU1.out.tr hu2).tr hu3)
  have hb3 : XRow (w2.alloc (.cells #[.int .i64 v.kind, .int .i64 v.node, .int .i64 v.at_, .int .i64 v.n, .int .u64 v.old, .int .u64 v.new_, .slice A3 v.words.length cap3, .int .u64 v.key, .int .i64 v.boot] 62)) w.heap.size p q b r := hu3.rowN (hu2.rowN HB1.out)
  have HB3 := Lib.hid hb3
  have HVB3 : Hid (Row (w2.alloc (.cells #[.int .i64 v.kind, .int .i64 v.node, .int .i64 v.at_, .int .i64 v.n, .int .u64 v.old, .int .u64 v.new_, .slice A3 v.words.length cap3, .int .u64 v.key, .int .i64 v.boot] 62)) w2.heap.size 62 [.int .i64 v.kind, .int .i64 v.node, .int .i64 v.at_, .int .i64 v.n, .int .u64 v.old, .int .u64 v.new_, .slice A3 v.words.length cap3, .int .u64 v.key, .int .i64 v.boot]) := Row.new w2 _ _
  obtain ⟨A3', c3', e3', -, hV3⟩ := hO2.shape
  cases e3'
  have HV3 := Lib.hid (hV3.keep hu3 fun _ _ h => h)
  clear hu2 hu3 hb3 x0 x1 x2 x3 HB1 HU1 HF hO2 hV3
  go_upto_region 2 with fail
  generalize (w2.alloc (.cells #[.int .i64 v.kind, .int .i64 v.node, .int .i64 v.at_, .int .i64 v.n, .int .u64 v.old, .int .u64 v.new_, .slice A3 v.words.length cap3, .int .u64 v.key, .int .i64 v.boot] 62)) = W3 at *
  generalize w2.heap.size = vb at *
  obtain ⟨x0, x1, x2, x3⟩ := HB3.out.cells
  obtain ⟨-, c0, c1, c2, c3, -, k9, -⟩ := HSH.out _ HU3.out
  have HN : Hid (∀ n, Calls Try.prog 90 #[.pointer (some ⟨p, 0, none⟩)] (W3.drewN n) fun e w' => e = .returned (.int .i64 ((l.length : Int) + 1)) ∧ w' = W3.drewN n) := Lib.hid fun n => by
    obtain ⟨⟨M, I, hp⟩, -⟩ := HSH.out _ (HU3.out.drewN n)
    have := pending_calls hp
    rw [HV.out] at this
    exact quiet_of this
  have HC : Hid (∀ n, Calls Try.prog 93 #[.pointer (some ⟨p, 0, none⟩)] (W3.drewN n) fun e w' => e = .returned (.int .i64 P.client) ∧ w' = W3.drewN n) := Lib.hid fun n => by
    obtain ⟨⟨M, I, hp⟩, -⟩ := HSH.out _ (HU3.out.drewN n)
    exact quiet_of (pclient_calls hp)
  have HI : Hid (∀ n, Calls Try.prog 94 #[.pointer (some ⟨p, 0, none⟩)] (W3.drewN n) fun e w' => e = .returned (.int .i64 P.inc) ∧ w' = W3.drewN n) := Lib.hid fun n => by
    obtain ⟨⟨M, I, hp⟩, -⟩ := HSH.out _ (HU3.out.drewN n)
    exact quiet_of (pinc_calls hp)
  have HD : Hid (∀ n, Calls Try.prog 95 #[.pointer (some ⟨p, 0, none⟩)] (W3.drewN n) fun e w' => e = .returned (.int .i64 P.node) ∧ w' = W3.drewN n) := Lib.hid fun n => by
    obtain ⟨⟨M, I, hp⟩, -⟩ := HSH.out _ (HU3.out.drewN n)
    exact quiet_of (pnode_calls hp)
  have hpos : (0 : Int) < (l.length : Int) + 1 := by omega
  go_quiet ((first
    | (go_at_call 90; exact Calls.quiet_of_same (HN.out _))
    | (go_at_call 93; exact Calls.quiet_of_same (HC.out _))
    | (go_at_call 94; exact Calls.quiet_of_same (HI.out _))
    | (go_at_call 95; exact Calls.quiet_of_same (HD.out _))))
  go_wp2_with fail
  have HU4 := Lib.hid (HU3.out.drewN nq)
  have HB4 : Hid (XRow (W3.drewN nq) w.heap.size p q b r) := Lib.hid (HB3.out.drewN nq)
  have HVB4 := Lib.hid (HVB3.out.drewN nq)
  have HV4 := Lib.hid (HV3.out.keep (M := Non) ((Upd.refl _ _).drewN nq) fun _ _ h => h)
  clear HN HC HI HD HU3 HB3 HVB3 HV3 x0 x1 x2 x3 c0 c1 c2 c3 k9
  generalize W3.drewN nq = W4 at *
  obtain ⟨x0, x1, x2, x3⟩ := HB4.out.cells
  obtain ⟨-, -, -, -, c3, ⟨k0, k1, k2, k3, k4, k5, k6, k7, k8⟩, k9, -⟩ := HSH.out _ HU4.out
  obtain ⟨d0, d1, d2, d3, d4, d5, d6, d7, d8⟩ := vb_cells HVB4.out
  have HSAME : Hid (Calls Try.prog 179 #[.agg #[.int .i64 v.kind, .int .i64 v.node, .int .i64 v.at_, .int .i64 v.n, .int .u64 v.old, .int .u64 v.new_, .slice A3 v.words.length cap3, .int .u64 v.key, .int .i64 v.boot], .agg #[.int .i64 v.kind, .int .i64 v.node, .int .i64 v.at_, .int .i64 v.n, .int .u64 v.old, .int .u64 v.new_, .slice Ar v.words.length capr, .int .u64 v.key, .int .i64 v.boot]] W4.drew fun e w' => e = .returned (.bool true) ∧ Upd Non W4.drew w') := Lib.hid (by
    obtain ⟨-, -, -, -, -, -, -, F, hVr⟩ := HSH.out _ HU4.out
    exact refsame_true HGV.out.ok (HV4.out.keep (M := Non) (Upd.refl _ _).drew fun _ _ h => h) (hVr.keep (M := Non) (Upd.refl _ _).drew fun _ _ h => h) HGV.out.wlen)
  go_still_tail 30, (by kernel_rfl)
  change wpList _ _ _ _ _ W4.drew
  go_wp2_with (go_at_call 179; (with_reducible refine HSAME.out.mono ?_); rintro e w5 ⟨rfl, hu5⟩; have HU5 := Lib.hid (HU4.out.tr hu5.nodraw); clear hu5)
  go_ret
  exact ⟨rfl, HU5.out⟩
theorem psame_calls (h : QQ w0 A w p q b r P ws up P sl ws2 up2) :
    Calls Try.prog 152 #[quadV p q b r] w fun e w' => e = .returned (.bool true) ∧ Upd Non w w' := by
  cases hv : P.verbs with
  | nil => exact same_nil h hv
  | cons v l => exact same_some h hv
end
end Go.Proofs.Ytlhbikiggmdolaa

/- The statements about queue pairs: do. -/
namespace Go.Proofs.Ytlhbikiggmdolaa
open Go.RowKit

theorem Keep5.tr {A B : Blk} {a b c : World} (h : Keep5 A a b) (k : Keep5 B b c) (hB : ∀ i, i < a.heap.size → A i → B i) : Keep5 A a c :=
  ⟨Nat.le_trans h.1 k.1, fun i hi ha => (k.2 i (Nat.lt_of_lt_of_le hi h.1) (hB i hi ha)).trans (h.2 i hi ha)⟩
theorem Keep5.non {A : Blk} {a b : World} (h : Upd Non a b) : Keep5 A a b := ⟨h.size, fun i hi _ => h.block i hi fun h => h⟩
def op5 (kd vk va vn vkey vboot : Int) (vold vnew at_ W : Int) : Value := .agg #[.int .i64 kd, .int .i64 vk, .int .i64 va, .int .i64 vn, .int .i64 vkey, .int .i64 vboot, .int .u64 vold, .int .u64 vnew, .int .i64 at_, .int .u64 W]
/-- What stays true of a pair's numbers. -/
def Inv5 (P P' : Pr) (ws ws' : List Int) : Prop := (P.Wd → W64 ws → P'.Wd ∧ W64 ws') ∧ P'.client = P.client ∧ P'.inc = P.inc ∧ P'.node = P.node ∧ ws'.length = ws.length
def Do5 (w0 w : World) (A : Blk) (p q b r : Nat) (P : Pr) (ws : List Int) (w' : World) : Prop :=
  ∃ P' sl' ws' up', QQ w0 (fun k => A k ∧ k < w.heap.size) w' p q b r P' ws' up' P' sl' ws' up' ∧ Inv5 P P' ws ws' ∧ Keep5 A w w'
theorem op_cells {w : World} {b : Nat} {x0 x1 x2 x3 x4 x5 x6 x7 x8 x9 : Value} (h : Row w b 129 [x0, x1, x2, x3, x4, x5, x6, x7, x8, x9]) : w.cell? ⟨b, 0, none⟩ = some x0 ∧ w.cell? ⟨b, 1, none⟩ = some x1 ∧ w.cell? ⟨b, 2, none⟩ = some x2 ∧ w.cell? ⟨b, 3, none⟩ = some x3 ∧ w.cell? ⟨b, 4, none⟩ = some x4 ∧ w.cell? ⟨b, 5, none⟩ = some x5 ∧ w.cell? ⟨b, 6, none⟩ = some x6 ∧ w.cell? ⟨b, 7, none⟩ = some x7 ∧ w.cell? ⟨b, 8, none⟩ = some x8 ∧ w.cell? ⟨b, 9, none⟩ = some x9 :=
  ⟨h.cell 0 rfl, h.cell 1 rfl, h.cell 2 rfl, h.cell 3 rfl, h.cell 4 rfl, h.cell 5 rfl, h.cell 6 rfl, h.cell 7 rfl, h.cell 8 rfl, h.cell 9 rfl⟩
theorem postE_zero {P : Pr} {v : Vb} {lines : Int} (h : postE P v lines = 0) : validE v 5 lines = 0 ∧ v.node = P.node ∧ P.verbs.length < 1024 := by
  unfold postE at h
  by_cases h1 : validE v 5 lines = 0
  · rw [if_neg (by simp [h1])] at h
    by_cases h2 : v.node = P.node
    · rw [if_neg (by simp [h2])] at h
      by_cases h3 : 1024 ≤ P.verbs.length
      · rw [if_pos h3] at h; omega
      · exact ⟨h1, h2, by omega⟩
    · rw [if_pos h2] at h; omega
  · rw [if_pos h1] at h; exact absurd h h1
theorem HandV.good {v : Vb} (h : HandV v) {nodes lines : Int} (hv : validE v nodes lines = 0) : GoodV v :=
  goodV_of hv (fun x hx => (h.words x hx).1) h.new0 (by have := h.boot1; omega) (by have := h.len; omega)
theorem HandV.wd {v : Vb} (h : HandV v) {nodes lines : Int} (hv : validE v nodes lines = 0) : WdV v := by
  obtain ⟨ho, h1, h2, h3, _, _, _, h5⟩ := validE_ok hv
  have a0 := ho.at0
  have a1 := ho.at1
  have c1 := ho.cnt1
  have k0 := h.kind0
  have k1 := h.kind1
  have n1 := h.n1
  have b0 := h.boot0
  have b1 := h.boot1
  have y0 := h.key0
  have y1 := h.key1
  exact ⟨by omega, by omega, by omega, fun hk => by have e : cntV v = v.n := by simp [cntV, hk]
                                                    omega, ⟨h.old0, h.old1⟩, ⟨h.new0, h.new1⟩, by omega, by omega, fun x hx => h.words x hx, by have := h.len; omega⟩
theorem VWords.keep5 {A J : Blk} {w w' : World} {v : Vb} {s : Value} (h : VWords w J v s) (hk : Keep5 A w w') (hJ : ∀ k, J k → A k) : VWords w' J v s := by
  obtain ⟨X, c, h1, h2, h3, h4⟩ := h
  exact ⟨X, c, h1, h2, h3, hk.view h4 hJ⟩
theorem inv5_push {P : Pr} {ws : List Int} {v : Vb} (hv : WdV v) (hl : P.verbs.length < 1024) : Inv5 P (P.push v) ws ws := ⟨fun h1 h2 => ⟨h1.push hv hl, h2⟩, rfl, rfl, rfl, rfl⟩
/-- Behind the switch. -/
def D5Cut (w0 w : World) (A : Blk) (p q b r : Nat) (P : Pr) (ws : List Int) (wr : World) : Prop :=
  XRow wr w.heap.size p q b r ∧ ∃ P' sl' ws' up', QQ w0 (fun k => A k ∧ k < w.heap.size) wr p q b r P' ws' up' P' sl' ws' up' ∧ Inv5 P P' ws ws' ∧ Keep5 A w wr
theorem Inv5.refl (P : Pr) (ws : List Int) : Inv5 P P ws ws := ⟨fun h1 h2 => ⟨h1, h2⟩, rfl, rfl, rfl, rfl⟩
theorem inv5_none (P : Pr) (ws : List Int) : Inv5 P (Pr.none P.client P.inc P.node) ws ws :=
  ⟨fun h1 h2 => ⟨⟨h1.client, h1.inc, h1.node, by simp [Pr.none], by simp [Pr.none], fun v hv => by simp [Pr.none] at hv, W64.nil, by simp [Pr.none]⟩, h2⟩, rfl, rfl, rfl, rfl⟩
theorem inv5_set {P : Pr} {ws : List Int} (i : Nat) {x : Int} (hx : 0 ≤ x ∧ x < 18446744073709551616) : Inv5 P P ws (ws.set i x) := ⟨fun h1 h2 => ⟨h1, h2.set i hx⟩, rfl, rfl, rfl, by simp⟩
/-- The blocks that an operation leaves alone. -/
def A5 (A : Blk) (w : World) : Blk := fun k => (A k ∧ k < w.heap.size) ∨ k = w.heap.size ∨ k = w.heap.size + 1
theorem d5_fin {w0 w W1 wr : World} {A B : Blk} {p q b r : Nat} {P P' : Pr} {ws ws' sl' : List Int} {up' : Bool} (hu : Upd Non w W1) (hx : XRow W1 w.heap.size p q b r) (hs : w.heap.size + 2 ≤ W1.heap.size) (hq : QQ w0 B wr p q b r P' ws' up' P' sl' ws' up') (hB : ∀ k, A5 A w k → k < W1.heap.size → B k ∨ wr.heap.size ≤ k) (hi : Inv5 P P' ws ws') (hk : Keep5 (A5 A w) W1 wr) : D5Cut w0 w A p q b r P ws wr := by
  have h1 := hu.size
  have h2 := hk.1
  refine ⟨hk.row hx (.inr (.inl rfl)), P', sl', ws', up', hq.mono fun k hk => hB k (.inl hk) (by omega), hi, ⟨by omega, fun k hlt ha => ?_⟩⟩
  exact (hk.2 k (by omega) (.inl ⟨ha, hlt⟩)).trans (hu.block k hlt fun h => h)
theorem post_fin {w0 w W1 W6 w7 w8 : World} {A : Blk} {p q b r : Nat} {P P' : Pr} {ws ws' sl' : List Int} {up' : Bool} (hu : Upd Non w W1) (hx : XRow W1 w.heap.size p q b r) (hs : w.heap.size + 2 ≤ W1.heap.size) (hu6 : Upd Non W1 W6) (hk7 : Keep5 (fun k => A5 A w k ∨ W1.heap.size ≤ k) W6 w7)
    (hq : QQ w0 (fun k => ((A5 A w k ∨ W1.heap.size ≤ k) ∧ k < W6.heap.size) ∧ k < w7.heap.size) w8 p q b r P' ws' up' P' sl' ws' up') (hk8 : Keep5 (fun k => (A5 A w k ∨ W1.heap.size ≤ k) ∧ k < W6.heap.size) w7 w8) (hi : Inv5 P P' ws ws') : D5Cut w0 w A p q b r P ws w8 := by
  have h6 := hu6.size
  have h7 := hk7.1
  exact d5_fin hu hx hs hq (fun k hk hlt => .inl ⟨⟨.inl hk, by omega⟩, by omega⟩) hi (((Keep5.non (A := A5 A w) hu6).tr hk7 fun i hi ha => .inl ha).tr hk8 fun i hi ha => ⟨.inl ha, by omega⟩)
set_option maxRecDepth 100000 in
set_option maxHeartbeats 8000000 in
theorem do5_calls {w0 w : World} {A : Blk} {p q b r : Nat} {P : Pr} {ws sl : List Int} {up : Bool} (h : QQ w0 A w p q b r P ws up P sl ws up) (hl : ws.length = 320) (kd vk va vn vkey vboot vold vnew at_ W : Int) (hW : 0 ≤ W) (hvn : -9223372036854775808 ≤ vn ∧ vn ≤ 9223372036854775807) (hold : 0 ≤ vold ∧ vold < 18446744073709551616) (hnew : 0 ≤ vnew ∧ vnew < 18446744073709551616) :
    Calls Try.prog 97 #[quadV p q b r, op5 kd vk va vn vkey vboot vold vnew at_ W] w fun e w' => e = .returned (.bool true) ∧ Do5 w0 w A p q b r P ws w' := by
  unfold quadV op5
  obtain ⟨k, hk⟩ : ∃ k : Nat, kd % 13 = k := ⟨(kd % 13).toNat, by omega⟩
  have HP : Hid (∀ w, Calls Try.prog 23 #[.int .i64 kd, .int .i64 13] w fun e w' => e = .returned (.int .i64 k) ∧ w = w') := Lib.hid fun w => by have := pick_calls kd 13 w (by decide) (by decide); rw [hk] at this; exact this
  have hk13 : k < 13 := by omega
  have hu1 : Upd Non w ((w.alloc (.cells #[.pointer (some ⟨p, 0, none⟩), .pointer (some ⟨q, 0, none⟩), .pointer (some ⟨b, 0, none⟩), .pointer (some ⟨r, 0, none⟩)] 109)).alloc (.cells #[.int .i64 kd, .int .i64 vk, .int .i64 va, .int .i64 vn, .int .i64 vkey, .int .i64 vboot, .int .u64 vold, .int .u64 vnew, .int .i64 at_, .int .u64 W] 129)) := ((Upd.refl _ _).alloc _).alloc _
  have HU1 := Lib.hid hu1
  have HX1 : Hid (XRow ((w.alloc (.cells #[.pointer (some ⟨p, 0, none⟩), .pointer (some ⟨q, 0, none⟩), .pointer (some ⟨b, 0, none⟩), .pointer (some ⟨r, 0, none⟩)] 109)).alloc (.cells #[.int .i64 kd, .int .i64 vk, .int .i64 va, .int .i64 vn, .int .i64 vkey, .int .i64 vboot, .int .u64 vold, .int .u64 vnew, .int .i64 at_, .int .u64 W] 129)) w.heap.size p q b r) := Lib.hid (Row.alloc (Row.new w _ _) _)
  have HO1 : Hid (Row ((w.alloc (.cells #[.pointer (some ⟨p, 0, none⟩), .pointer (some ⟨q, 0, none⟩), .pointer (some ⟨b, 0, none⟩), .pointer (some ⟨r, 0, none⟩)] 109)).alloc (.cells #[.int .i64 kd, .int .i64 vk, .int .i64 va, .int .i64 vn, .int .i64 vkey, .int .i64 vboot, .int .u64 vold, .int .u64 vnew, .int .i64 at_, .int .u64 W] 129)) (w.heap.size + 1) 129 [.int .i64 kd, .int .i64 vk, .int .i64 va, .int .i64 vn, .int .i64 vkey, .int .i64 vboot, .int .u64 vold, .int .u64 vnew, .int .i64 at_, .int .u64 W]) := Lib.hid (by
    have := Row.new (w.alloc (.cells #[.pointer (some ⟨p, 0, none⟩), .pointer (some ⟨q, 0, none⟩), .pointer (some ⟨b, 0, none⟩), .pointer (some ⟨r, 0, none⟩)] 109)) #[.int .i64 kd, .int .i64 vk, .int .i64 va, .int .i64 vn, .int .i64 vkey, .int .i64 vboot, .int .u64 vold, .int .u64 vnew, .int .i64 at_, .int .u64 W] 129
    rw [World.size_alloc] at this; exact this)
  have HQ1 := Lib.hid ((h.keepN hu1).mono (B := A5 A w) fun k hk => by
    rcases hk with hk | hk
    · exact .inl (.inl hk.1)
    · exact .inl (.inr (by omega)))
  have HSZ : Hid (w.heap.size + 2 ≤ ((w.alloc (.cells #[.pointer (some ⟨p, 0, none⟩), .pointer (some ⟨q, 0, none⟩), .pointer (some ⟨b, 0, none⟩), .pointer (some ⟨r, 0, none⟩)] 109)).alloc (.cells #[.int .i64 kd, .int .i64 vk, .int .i64 va, .int .i64 vn, .int .i64 vkey, .int .i64 vboot, .int .u64 vold, .int .u64 vnew, .int .i64 at_, .int .u64 W] 129)).heap.size) := Lib.hid (by simp)
  clear hk hu1 h
  go_enter Try.func97, Try.ntmps97
  obtain ⟨o0, o1, o2, o3, o4, o5, o6, o7, o8, o9⟩ := op_cells HO1.out
  obtain ⟨x0, x1, x2, x3⟩ := HX1.out.cells
  go_upto_block 0 with (go_at_call 23; (with_reducible refine (HP.out _).mono ?_); rintro e w' ⟨rfl, rfl⟩)
  generalize ((w.alloc (.cells #[.pointer (some ⟨p, 0, none⟩), .pointer (some ⟨q, 0, none⟩), .pointer (some ⟨b, 0, none⟩), .pointer (some ⟨r, 0, none⟩)] 109)).alloc (.cells #[.int .i64 kd, .int .i64 vk, .int .i64 va, .int .i64 vn, .int .i64 vkey, .int .i64 vboot, .int .u64 vold, .int .u64 vnew, .int .i64 at_, .int .u64 W] 129)) = W1 at *
  go_cut [] (fun wr => D5Cut w0 w A p q b r P ws wr)
  case first =>
    have HE1 : Hid (D5Cut w0 w A p q b r P ws W1) := Lib.hid (d5_fin HU1.out HX1.out HSZ.out HQ1.out (fun k hk _ => .inl hk) (Inv5.refl P ws) ⟨Nat.le_refl _, fun _ _ _ => rfl⟩)
    rcases (show k < 4 ∨ (4 ≤ k ∧ k < 9) ∨ k = 9 ∨ k = 10 ∨ k = 11 ∨ k = 12 by omega) with hk | hk | rfl | rfl | rfl | rfl
    · have HOF := Lib.hid fun W' => of_calls vk va vn vkey vboot vold vnew hold.1 hold.2 hnew.1 hnew.2 hvn W'
      have hkI : (k : Int) < 4 := by omega
      clear HE1 o8 o9 hk hk13
      go_wp2_with fail
      refine (HOF.out _).mono ?_
      rintro e w5 ⟨v, X, cap, rfl, hv, hO5, hu5⟩
      unfold vbC
      have hu6 : Upd Non w5 (w5.alloc (.cells #[.int .i64 v.kind, .int .i64 v.node, .int .i64 v.at_, .int .i64 v.n, .int .u64 v.old, .int .u64 v.new_, .slice X v.words.length cap, .int .u64 v.key, .int .i64 v.boot] 62)) := (Upd.refl _ _).alloc _
      have hs5 := hu5.size
      have HQ6 := Lib.hid (((HQ1.out.keepN hu5).keepN hu6).mono (B := fun k => A5 A w k ∨ W1.heap.size ≤ k) fun k hk => .inl (.inl hk))
      have HU6 := Lib.hid (hu5.tr hu6)
      have HX6 : Hid (XRow (w5.alloc (.cells #[.int .i64 v.kind, .int .i64 v.node, .int .i64 v.at_, .int .i64 v.n, .int .u64 v.old, .int .u64 v.new_, .slice X v.words.length cap, .int .u64 v.key, .int .i64 v.boot] 62)) w.heap.size p q b r) := Lib.hid (hu6.rowN (hu5.rowN HX1.out))
      have HV6 : Hid (Row (w5.alloc (.cells #[.int .i64 v.kind, .int .i64 v.node, .int .i64 v.at_, .int .i64 v.n, .int .u64 v.old, .int .u64 v.new_, .slice X v.words.length cap, .int .u64 v.key, .int .i64 v.boot] 62)) w5.heap.size 62 [.int .i64 v.kind, .int .i64 v.node, .int .i64 v.at_, .int .i64 v.n, .int .u64 v.old, .int .u64 v.new_, .slice X v.words.length cap, .int .u64 v.key, .int .i64 v.boot]) := Row.new w5 _ _
      have HVW : Hid (VWords (w5.alloc (.cells #[.int .i64 v.kind, .int .i64 v.node, .int .i64 v.at_, .int .i64 v.n, .int .u64 v.old, .int .u64 v.new_, .slice X v.words.length cap, .int .u64 v.key, .int .i64 v.boot] 62)) (fun k => W1.heap.size ≤ k) v (.slice X v.words.length cap)) := Lib.hid ((VWords.of_own (hO5.mono (F' := fun k => W1.heap.size ≤ k) fun k hk _ => hk.1) rfl).keep hu6 fun _ _ h => h)
      have HHV := Lib.hid hv
      have HVB : Hid (W1.heap.size ≤ w5.heap.size) := Lib.hid hs5
      clear hv hO5 hu5 hu6 hs5 HOF o0 o1 o2 o3 o4 o5 o6 o7 x0 x1 x2 x3
      go_upto_region 4 with fail
      generalize w5.alloc (.cells #[.int .i64 v.kind, .int .i64 v.node, .int .i64 v.at_, .int .i64 v.n, .int .u64 v.old, .int .u64 v.new_, .slice X v.words.length cap, .int .u64 v.key, .int .i64 v.boot] 62) = W6 at *
      generalize w5.heap.size = vb at *
      obtain ⟨x0, x1, x2, x3⟩ := HX6.out.cells
      obtain ⟨d0, d1, d2, d3, d4, d5, d6, d7, d8⟩ := vb_cells HV6.out
      by_cases hE : postE P v 40 = 0
      · obtain ⟨hval, -, hlen⟩ := postE_zero hE
        have HG := Lib.hid (HHV.out.good hval)
        have HI : Hid (Inv5 P (P.push v) ws ws) := Lib.hid (inv5_push (HHV.out.wd hval) hlen)
        have HPY : Hid (∀ W' B P2 sl2, QQ w0 B W' p q b r P ws up P2 sl2 ws up → VWords W' (fun k => W1.heap.size ≤ k) v (.slice X v.words.length cap) → Calls Try.prog 89 #[.pointer (some ⟨p, 0, none⟩), .agg #[.int .i64 v.kind, .int .i64 v.node, .int .i64 v.at_, .int .i64 v.n, .int .u64 v.old, .int .u64 v.new_, .slice X v.words.length cap, .int .u64 v.key, .int .i64 v.boot], .int .i64 40] W' fun e w' => e = .returned (.int .i64 0) ∧ QQ w0 (fun k => B k ∧ k < W'.heap.size) w' p q b r (P.push v) ws up P2 sl2 ws up ∧ Keep5 B W' w') := Lib.hid fun W' B P2 sl2 hq hvw => hq.ppost hvw HG.out hE hlen
        have HRY : Hid (∀ W' B P1, QQ w0 B W' p q b r P1 ws up P sl ws up → VWords W' (fun k => W1.heap.size ≤ k) v (.slice X v.words.length cap) → Calls Try.prog 149 #[.pointer (some ⟨b, 0, none⟩), .agg #[.int .i64 v.kind, .int .i64 v.node, .int .i64 v.at_, .int .i64 v.n, .int .u64 v.old, .int .u64 v.new_, .slice X v.words.length cap, .int .u64 v.key, .int .i64 v.boot], .int .i64 40, .int .i64 0] W' fun e w' => e = .returned (.int .i64 0) ∧ QQ w0 (fun k => B k ∧ k < W'.heap.size) w' p q b r P1 ws up (P.push v) (sl ++ [0]) ws up ∧ Keep5 B W' w') := Lib.hid fun W' B P1 hq hvw => hq.rpost hvw HG.out hE hlen
        have HQD : Hid (QQ w0 (fun k => A5 A w k ∨ W1.heap.size ≤ k) W6.drew p q b r P ws up P sl ws up) := Lib.hid ((HQ6.out.keepN (Upd.refl Non W6).drew).mono fun k hk => .inl (.inl hk))
        have HVD : Hid (VWords W6.drew (fun k => W1.heap.size ≤ k) v (.slice X v.words.length cap)) := Lib.hid (HVW.out.keep (M := Non) (Upd.refl Non W6).drew fun _ _ h => h)
        have HBX : Hid (∀ k, (A5 A w k ∧ k < W1.heap.size) ∨ W1.heap.size ≤ k → A5 A w k ∨ W1.heap.size ≤ k) := Lib.hid fun k hk => hk.imp (fun h => h.1) id
        have HXX : Hid (∀ W', Keep5 (fun k => A5 A w k ∨ W1.heap.size ≤ k) W6 W' → W'.cell? ⟨w.heap.size, 0, none⟩ = some (.pointer (some ⟨p, 0, none⟩)) ∧ W'.cell? ⟨w.heap.size, 2, none⟩ = some (.pointer (some ⟨b, 0, none⟩)) ∧ W'.cell? ⟨vb, 0, none⟩ = some (.int .i64 v.kind) ∧ W'.cell? ⟨vb, 1, none⟩ = some (.int .i64 v.node) ∧ W'.cell? ⟨vb, 2, none⟩ = some (.int .i64 v.at_) ∧ W'.cell? ⟨vb, 3, none⟩ = some (.int .i64 v.n) ∧ W'.cell? ⟨vb, 4, none⟩ = some (.int .u64 v.old) ∧ W'.cell? ⟨vb, 5, none⟩ = some (.int .u64 v.new_) ∧ W'.cell? ⟨vb, 6, none⟩ = some (.slice X v.words.length cap) ∧ W'.cell? ⟨vb, 7, none⟩ = some (.int .u64 v.key) ∧ W'.cell? ⟨vb, 8, none⟩ = some (.int .i64 v.boot)) := Lib.hid fun W' hk => by
          obtain ⟨a, -, c, -⟩ := XRow.cells (hk.row HX6.out (.inl (.inr (.inl rfl))))
          exact ⟨a, c, vb_cells (hk.row HV6.out (.inr HVB.out))⟩
        clear hE hval hlen HHV
        go_region_held3 (fun w' => w'.cell? ⟨w.heap.size, 0, none⟩ = some (.pointer (some ⟨p, 0, none⟩)) ∧ w'.cell? ⟨w.heap.size, 2, none⟩ = some (.pointer (some ⟨b, 0, none⟩)) ∧ w'.cell? ⟨vb, 0, none⟩ = some (.int .i64 v.kind) ∧ w'.cell? ⟨vb, 1, none⟩ = some (.int .i64 v.node) ∧ w'.cell? ⟨vb, 2, none⟩ = some (.int .i64 v.at_) ∧ w'.cell? ⟨vb, 3, none⟩ = some (.int .i64 v.n) ∧ w'.cell? ⟨vb, 4, none⟩ = some (.int .u64 v.old) ∧ w'.cell? ⟨vb, 5, none⟩ = some (.int .u64 v.new_) ∧ w'.cell? ⟨vb, 6, none⟩ = some (.slice X v.words.length cap) ∧ w'.cell? ⟨vb, 7, none⟩ = some (.int .u64 v.key) ∧ w'.cell? ⟨vb, 8, none⟩ = some (.int .i64 v.boot)) (go_keep)
          (first
            | (go_at_call 89; (with_reducible refine (HPY.out _ _ _ _ HQD.out HVD.out).mono ?_); rintro e w7 ⟨rfl, hq7, hk7⟩; have hk7 : Keep5 (fun k => A5 A w k ∨ W1.heap.size ≤ k) W6 w7 := hk7; obtain ⟨x0, x2, d0, d1, d2, d3, d4, d5, d6, d7, d8⟩ := HXX.out _ hk7; have HQ7 := Lib.hid hq7; have HK7 := Lib.hid hk7; have HV7 := Lib.hid (HVW.out.keep5 hk7 fun k hk => .inr hk); clear hq7 hk7)
            | (go_at_call 149; (with_reducible refine (HRY.out _ _ _ HQD.out HVD.out).mono ?_); rintro e w7 ⟨rfl, hq7, hk7⟩; have hk7 : Keep5 (fun k => A5 A w k ∨ W1.heap.size ≤ k) W6 w7 := hk7; obtain ⟨x0, x2, d0, d1, d2, d3, d4, d5, d6, d7, d8⟩ := HXX.out _ hk7; have HQR := Lib.hid hq7; have HKR := Lib.hid hk7; have HVR := Lib.hid (HVW.out.keep5 hk7 fun k hk => .inr hk); clear hq7 hk7)
            | (go_at_call 149; (with_reducible refine (HRY.out _ _ _ HQ7.out HV7.out).mono ?_); rintro e w8 ⟨rfl, hq8, hk8⟩; have HF := Lib.hid (post_fin HU1.out HX1.out HSZ.out HU6.out HK7.out hq8 hk8 HI.out); have hk9 := HK7.out.tr hk8 fun i hi ha => ⟨ha, hi⟩; obtain ⟨x0, x2, d0, d1, d2, d3, d4, d5, d6, d7, d8⟩ := HXX.out _ hk9; clear hq8 hk8 hk9)
            | (go_at_call 89; (with_reducible refine (HPY.out _ _ _ _ HQR.out HVR.out).mono ?_); rintro e w8 ⟨rfl, hq8, hk8⟩; have HF := Lib.hid (post_fin HU1.out HX1.out HSZ.out HU6.out HKR.out hq8 hk8 HI.out); have hk9 := HKR.out.tr hk8 fun i hi ha => ⟨ha, hi⟩; obtain ⟨x0, x2, d0, d1, d2, d3, d4, d5, d6, d7, d8⟩ := HXX.out _ hk9; clear hq8 hk8 hk9))
        all_goals go_wp2_with fail
        all_goals go_meet
        all_goals exact HF.out
      · have HPN : Hid (∀ W', Upd Non W6 W' → Calls Try.prog 89 #[.pointer (some ⟨p, 0, none⟩), .agg #[.int .i64 v.kind, .int .i64 v.node, .int .i64 v.at_, .int .i64 v.n, .int .u64 v.old, .int .u64 v.new_, .slice X v.words.length cap, .int .u64 v.key, .int .i64 v.boot], .int .i64 40] W' fun e w' => e = .returned (.int .i64 (postE P v 40)) ∧ Upd Non W' w') := Lib.hid fun W' hu => by
          obtain ⟨M, I, hp⟩ := (HQ6.out.keepN hu).pair
          exact post_no hp (HVW.out.keep hu fun _ _ h => h) hE
        have HRN : Hid (∀ W', Upd Non W6 W' → Calls Try.prog 149 #[.pointer (some ⟨b, 0, none⟩), .agg #[.int .i64 v.kind, .int .i64 v.node, .int .i64 v.at_, .int .i64 v.n, .int .u64 v.old, .int .u64 v.new_, .slice X v.words.length cap, .int .u64 v.key, .int .i64 v.boot], .int .i64 40, .int .i64 0] W' fun e w' => e = .returned (.int .i64 (postE P v 40)) ∧ Upd Non W' w') := Lib.hid fun W' hu => by
          obtain ⟨G, y, hp, -⟩ := (HQ6.out.keepN hu).rpair
          exact rpost_no hp (HVW.out.keep hu fun _ _ h => h) hE
        have HXX : Hid (∀ W', Upd Non W6 W' → W'.cell? ⟨w.heap.size, 0, none⟩ = some (.pointer (some ⟨p, 0, none⟩)) ∧ W'.cell? ⟨w.heap.size, 2, none⟩ = some (.pointer (some ⟨b, 0, none⟩)) ∧ W'.cell? ⟨vb, 0, none⟩ = some (.int .i64 v.kind) ∧ W'.cell? ⟨vb, 1, none⟩ = some (.int .i64 v.node) ∧ W'.cell? ⟨vb, 2, none⟩ = some (.int .i64 v.at_) ∧ W'.cell? ⟨vb, 3, none⟩ = some (.int .i64 v.n) ∧ W'.cell? ⟨vb, 4, none⟩ = some (.int .u64 v.old) ∧ W'.cell? ⟨vb, 5, none⟩ = some (.int .u64 v.new_) ∧ W'.cell? ⟨vb, 6, none⟩ = some (.slice X v.words.length cap) ∧ W'.cell? ⟨vb, 7, none⟩ = some (.int .u64 v.key) ∧ W'.cell? ⟨vb, 8, none⟩ = some (.int .i64 v.boot)) := Lib.hid fun W' hu => by
          obtain ⟨a, -, c, -⟩ := XRow.cells (hu.rowN HX6.out)
          exact ⟨a, c, vb_cells (hu.rowN HV6.out)⟩
        clear hE HHV
        generalize postE P v 40 = er at *
        go_region_held3 (fun w' => w'.cell? ⟨w.heap.size, 0, none⟩ = some (.pointer (some ⟨p, 0, none⟩)) ∧ w'.cell? ⟨w.heap.size, 2, none⟩ = some (.pointer (some ⟨b, 0, none⟩)) ∧ w'.cell? ⟨vb, 0, none⟩ = some (.int .i64 v.kind) ∧ w'.cell? ⟨vb, 1, none⟩ = some (.int .i64 v.node) ∧ w'.cell? ⟨vb, 2, none⟩ = some (.int .i64 v.at_) ∧ w'.cell? ⟨vb, 3, none⟩ = some (.int .i64 v.n) ∧ w'.cell? ⟨vb, 4, none⟩ = some (.int .u64 v.old) ∧ w'.cell? ⟨vb, 5, none⟩ = some (.int .u64 v.new_) ∧ w'.cell? ⟨vb, 6, none⟩ = some (.slice X v.words.length cap) ∧ w'.cell? ⟨vb, 7, none⟩ = some (.int .u64 v.key) ∧ w'.cell? ⟨vb, 8, none⟩ = some (.int .i64 v.boot)) (go_keep)
          (first
            | (go_at_call 89; (with_reducible refine (HPN.out _ (Upd.refl Non W6).drew).mono ?_); rintro e w7 ⟨rfl, hu7⟩; have hu7 := hu7.nodraw; obtain ⟨x0, x2, d0, d1, d2, d3, d4, d5, d6, d7, d8⟩ := HXX.out _ hu7; have HU7 := Lib.hid hu7; clear hu7)
            | (go_at_call 149; (with_reducible refine (HRN.out _ (Upd.refl Non W6).drew).mono ?_); rintro e w7 ⟨rfl, hu7⟩; have hu7 := hu7.nodraw; obtain ⟨x0, x2, d0, d1, d2, d3, d4, d5, d6, d7, d8⟩ := HXX.out _ hu7; have HU7 := Lib.hid hu7; clear hu7)
            | (go_at_call 149; (with_reducible refine (HRN.out _ HU7.out).mono ?_); rintro e w8 ⟨rfl, hu8⟩; have hu8 := HU7.out.tr hu8; obtain ⟨x0, x2, d0, d1, d2, d3, d4, d5, d6, d7, d8⟩ := HXX.out _ hu8; have HU8 := Lib.hid hu8; clear hu8)
            | (go_at_call 89; (with_reducible refine (HPN.out _ HU7.out).mono ?_); rintro e w8 ⟨rfl, hu8⟩; have hu8 := HU7.out.tr hu8; obtain ⟨x0, x2, d0, d1, d2, d3, d4, d5, d6, d7, d8⟩ := HXX.out _ hu8; have HU8 := Lib.hid hu8; clear hu8))
        all_goals go_wp2_with fail
        all_goals go_meet
        all_goals exact d5_fin HU1.out HX1.out HSZ.out (HQ6.out.keepN HU8.out) (fun k hk _ => .inl (.inl (.inl hk))) (Inv5.refl P ws) ((Keep5.non (A := A5 A w) HU6.out).tr (Keep5.non (A := A5 A w) HU8.out) fun _ _ h => h)
    · have hst := HQ1.out.pstep
      have hokP := HQ1.out.ok
      have HINV : Hid (Inv5 P (stepV P ws up).pair ws (stepV P ws up).ws) := Lib.hid (by
        obtain ⟨i1, i2, i3⟩ := stepV_id P ws up
        obtain ⟨-, -, e3, -, -⟩ := stepV_ok (up := up) hokP.1 hokP.2.2
        exact ⟨fun h1 h2 => by obtain ⟨a, b, -⟩ := stepV_wd (up := up) h1 hokP.1 h2; exact ⟨a, b⟩, i1, i2, i3, e3⟩)
      have HDL : Hid ((stepV P ws up).done.length ≤ 32768) := Lib.hid (stepV_ok (up := up) hokP.1 hokP.2.2).2.2.2.2
      have HWF := Lib.hid hokP.2.2
      have HST : Hid (∀ e w', QStepP w0 W1 (A5 A w) p q b r P ws up P sl ws up e w' → ∃ X cap R, e = .returned (.tuple #[.agg #[.int .i64 (stepV P ws up).code, .slice X (stepV P ws up).done.length cap], .bool (stepV P ws up).is]) ∧ QQ w0 (fun k => (A5 A w k ∧ k < W1.heap.size) ∨ R k) w' p q b r (stepV P ws up).pair (stepV P ws up).ws up P sl ws up ∧
        Own w' R 36 1 (.slice X (stepV P ws up).done.length cap) (stepV P ws up).done.length (u64s (stepV P ws up).done) ∧ Keep5 (A5 A w) W1 w') := Lib.hid fun _ _ h => h
      have HST2 : Hid (∀ W' B, QQ w0 B W' p q b r (stepV P ws up).pair (stepV P ws up).ws up P sl ws up → Calls Try.prog 150 #[.pointer (some ⟨b, 0, none⟩), .pointer (some ⟨r, 0, none⟩)] W' fun e w' => ∃ X cap R slot nz, e = .returned (.tuple #[.agg #[.int .i64 (stepV P ws up).code, .slice X (stepV P ws up).done.length cap], .int .i64 slot, .bool (stepV P ws up).is, .bool nz]) ∧
        (∃ sl', QQ w0 (fun k => B k ∧ k < W'.heap.size) w' p q b r (stepV P ws up).pair (stepV P ws up).ws up (stepV P ws up).pair sl' (stepV P ws up).ws up) ∧ Own w' R 36 1 (.slice X (stepV P ws up).done.length cap) (stepV P ws up).done.length (u64s (stepV P ws up).done) ∧ Keep5 B W' w') := Lib.hid fun W' B hq => (hq.rstep HWF.out).mono fun e w' ⟨X, cap, R, h1, h2, h3, h4⟩ => ⟨X, cap, R, _, _, h1, ⟨_, h2⟩, h3, h4⟩
      clear hokP HWF HE1 o0 o1 o2 o3 o4 o5 o6 o7 o8 o9
      generalize (stepV P ws up).code = code at *
      generalize (stepV P ws up).done = dn at *
      generalize (stepV P ws up).is = is at *
      generalize (stepV P ws up).pair = P' at *
      generalize (stepV P ws up).ws = ws' at *
      generalize hdl : dn.length = dl at *
      have HDLE := Lib.hid hdl
      clear hdl
      have HPS := Lib.hid hst
      clear hst
      have hk4 : 4 ≤ k := hk.1
      have hk9 : k < 9 := hk.2
      clear hk
      go_wp2_with fail
      refine HPS.out.mono ?_
      rintro e w5 hpost
      obtain ⟨X, cap, R, rfl, hq5, hO5, hk5⟩ := HST.out _ _ hpost
      have hu6 : Upd Non w5 (w5.alloc (.cells #[.int .i64 code, .slice X dl cap] 69)) := (Upd.refl _ _).alloc _
      have HQ6 := Lib.hid ((hq5.keepN hu6).mono (B := fun k => A5 A w k ∧ k < W1.heap.size ∨ R k ∨ k = w5.heap.size) fun k hk => by
        rcases hk with hk | hk | hk
        · exact .inl (.inl (.inl hk))
        · exact .inl (.inl (.inr hk))
        · exact .inl (.inr (by omega)))
      have HK6 := Lib.hid (hk5.tr (Keep5.non (A := A5 A w) hu6) fun _ _ h => h)
      have HO6 := Lib.hid (hO5.keep hu6 fun _ _ h => h)
      have HD6 : Hid (Row (w5.alloc (.cells #[.int .i64 code, .slice X dl cap] 69)) w5.heap.size 69 [.int .i64 code, .slice X dl cap]) := Row.new w5 _ _
      clear hpost hq5 hO5 hk5 hu6 HPS HST x0 x1 x2 x3
      go_upto_region 8 with fail
      generalize w5.alloc (.cells #[.int .i64 code, .slice X dl cap] 69) = W6 at *
      generalize w5.heap.size = db at *
      obtain ⟨x0, x1, x2, x3⟩ := XRow.cells (HK6.out.row HX1.out (.inr (.inl rfl)))
      go_wp2_with fail
      refine (HST2.out _ _ HQ6.out).mono ?_
      rintro e w7 ⟨Y, cy, R2, slot, nz, rfl, ⟨sl', hq7⟩, hO7, hk7⟩
      have hu8 : Upd Non w7 (w7.alloc (.cells #[.int .i64 code, .slice Y dl cy] 69)) := (Upd.refl _ _).alloc _
      have hbb : ∀ k, (A5 A w k ∧ k < W1.heap.size ∨ R k ∨ k = db) → k < W6.heap.size → k < W6.heap.size := fun _ _ h => h
      have HQ8 := Lib.hid (hq7.keepN hu8)
      have HK8 : Hid (Keep5 (A5 A w) W1 (w7.alloc (.cells #[.int .i64 code, .slice Y dl cy] 69))) := Lib.hid ((HK6.out.tr hk7 fun i hi ha => .inl ⟨ha, hi⟩).tr (Keep5.non (A := A5 A w) hu8) fun i hi ha => ha)
      have HD8 := Lib.hid (hu8.rowN (hk7.row HD6.out (.inr (.inr rfl))))
      have HE8 : Hid (Row (w7.alloc (.cells #[.int .i64 code, .slice Y dl cy] 69)) w7.heap.size 69 [.int .i64 code, .slice Y dl cy]) := Row.new w7 _ _
      obtain ⟨X', cX, eX, -, hVX⟩ := HO6.out.shape
      cases eX
      obtain ⟨Y', cY, eY, -, hVY⟩ := hO7.shape
      cases eY
      have HSD : Hid (Calls Try.prog 131 #[.agg #[.int .i64 code, .slice X dl cap], .agg #[.int .i64 code, .slice Y dl cy]] (w7.alloc (.cells #[.int .i64 code, .slice Y dl cy] 69)) fun e w' => e = .returned (.bool true) ∧ Upd Non (w7.alloc (.cells #[.int .i64 code, .slice Y dl cy] 69)) w') := Lib.hid (sameDone_true ((hk7.view hVX fun k hk => .inr (.inl hk)).keep hu8 fun _ _ h => h) (hVY.keep hu8 fun _ _ h => h) (by have := HDL.out; omega))
      have HS16 := Lib.hid HK6.out.1
      clear hq7 hO7 hk7 hu8 hbb hVX hVY HQ6 HK6 HO6 HD6 HST2 x0 x1 x2 x3
      go_upto_region 9 with fail
      generalize w7.alloc (.cells #[.int .i64 code, .slice Y dl cy] 69) = W8 at *
      generalize w7.heap.size = eb at *
      obtain ⟨d0, d1, -, -⟩ := done_cells HD8.out
      obtain ⟨e0, e1, -, -⟩ := done_cells HE8.out
      go_wp2_with fail
      refine HSD.out.mono ?_
      rintro e w9 ⟨rfl, hu9⟩
      have HF : Hid (D5Cut w0 w A p q b r P ws w9) := Lib.hid (d5_fin HU1.out HX1.out HSZ.out (HQ8.out.keepN hu9) (fun k hk hlt => .inl (.inl (.inl ⟨.inl ⟨hk, hlt⟩, by have := HS16.out; omega⟩))) HINV.out (HK8.out.tr (Keep5.non (A := A5 A w) hu9) fun _ _ h => h))
      clear hu9
      go_wp2_with fail
      go_meet
      exact HF.out
    · by_cases h4 : W % 4 = 0
      · have hb : (W % 4 == 0) = true := by simpa using h4
        clear h4
        go_wp2_with fail
        refine HQ1.out.pdrop.mono ?_
        rintro e w2 ⟨rfl, hq2, hk2⟩
        obtain ⟨hq3, hk3, ⟨y, hy⟩, hz⟩ := hq2.rdrop
        obtain ⟨x0', x1', x2', x3'⟩ := XRow.cells (hk2.row HX1.out (.inr (.inl rfl)))
        have HF : Hid (D5Cut w0 w A p q b r P ws (w2.setCell ⟨b, 3, none⟩ (.slice none 0 0))) := Lib.hid (d5_fin HU1.out HX1.out HSZ.out hq3 (fun k hk _ => .inl hk) (inv5_none P ws) (hk2.tr hk3 fun _ _ h => h))
        clear hq2 hk2 hq3 hk3
        go_wp2_with fail
        go_meet
        exact HF.out
      · have hb : (W % 4 == 0) = false := by simpa using h4
        clear h4
        go_wp2_with fail
        go_meet
        exact HE1.out
    · obtain ⟨i, hi⟩ : ∃ i : Nat, at_ % 4 = i := ⟨(at_ % 4).toNat, by omega⟩
      have hi4 : i < 4 := by omega
      have HPK : Hid (∀ w, Calls Try.prog 23 #[.int .i64 at_, .int .i64 4] w fun e w' => e = .returned (.int .i64 i) ∧ w = w') := Lib.hid fun w => by have := pick_calls at_ 4 w (by decide) (by decide); rw [hi] at this; exact this
      have hok := HQ1.out.ok.1
      obtain ⟨c, hc⟩ : ∃ c : Nat, P.client = c := ⟨P.client.toNat, by have := hok.c0; omega⟩
      have hc6 : c < 6 := by have := hok.c1; omega
      have HDR : Hid (∀ w, Calls Try.prog 31 #[.int .i64 c] w fun e w' => e = .returned (.int .i64 ((24 + c : Nat) : Int)) ∧ Upd Non w w') := Lib.hid fun w => by
        have h1 := refDoor_calls c w
        have e : regF 3 6 c = ((24 + c : Nat) : Int) := by unfold regF; rw [if_neg (by omega)]; omega
        rw [e] at h1
        exact h1
      obtain ⟨a, ha, hidx⟩ : ∃ a : Nat, a < 320 ∧ ∀ w, (Instr.index 185 (.agg #[.int .i64 0, .int .i64 1, .int .i64 ((24 + c : Nat) : Int), .int .i64 100]) (.int .i64 i)).run Try.prog w = .ok (.int .i64 a) w := by
        rcases (show i = 0 ∨ i = 1 ∨ i = 2 ∨ i = 3 by omega) with rfl | rfl | rfl | rfl
        · exact ⟨0, by decide, fun _ => by kernel_rfl⟩
        · exact ⟨1, by decide, fun _ => by kernel_rfl⟩
        · exact ⟨24 + c, by omega, fun _ => by kernel_rfl⟩
        · exact ⟨100, by decide, fun _ => by kernel_rfl⟩
      have HXX : Hid (∀ W', Upd Non W1 W' → W'.cell? ⟨w.heap.size, 2, none⟩ = some (.pointer (some ⟨b, 0, none⟩)) ∧ W'.cell? ⟨b, 0, none⟩ = some (.int .i64 c) ∧ W'.cell? ⟨w.heap.size + 1, 8, none⟩ = some (.int .i64 at_) ∧ W'.cell? ⟨w.heap.size + 1, 9, none⟩ = some (.int .u64 W)) := Lib.hid fun W' hu => by
        obtain ⟨-, -, x2, -⟩ := XRow.cells (hu.rowN HX1.out)
        obtain ⟨-, -, -, -, -, -, -, -, o8, o9⟩ := op_cells (hu.rowN HO1.out)
        obtain ⟨G, x, hr, -⟩ := (HQ1.out.keepN hu).rpair
        obtain ⟨_, _, c0, -⟩ := hr.cells
        rw [hc] at c0
        exact ⟨x2, c0, o8, o9⟩
      obtain ⟨y2, b0, -, -⟩ := HXX.out _ (Upd.refl _ _)
      clear hi hok hc
      generalize ((24 + c : Nat) : Int) = dn at *
      go_upto_region 15 with fail
      go_region_held3 (fun w' => w'.cell? ⟨w.heap.size, 2, none⟩ = some (.pointer (some ⟨b, 0, none⟩)) ∧ w'.cell? ⟨b, 0, none⟩ = some (.int .i64 c) ∧ w'.cell? ⟨w.heap.size + 1, 8, none⟩ = some (.int .i64 at_) ∧ w'.cell? ⟨w.heap.size + 1, 9, none⟩ = some (.int .u64 W)) (go_keep)
        (first
          | (go_at_call 31; (with_reducible refine (HDR.out _).mono ?_); rintro e w5 ⟨rfl, hu5⟩; have hu5n := hu5.nodraw; obtain ⟨x2, b0, o8, o9⟩ := HXX.out _ hu5n; have HU5 := Lib.hid hu5n; clear hu5 hu5n)
          | (go_at_call 23; (with_reducible refine (HPK.out _).mono ?_); rintro e wx ⟨rfl, rfl⟩))
      all_goals
        have HQ5 := Lib.hid ((HQ1.out.keepN HU5.out).mono (B := A5 A w) fun k hk => .inl (.inl hk))
        have HK5 : Hid (Keep5 (A5 A w) W1 w5) := Lib.hid (Keep5.non HU5.out)
        have hx0 : 0 ≤ W.tmod 5 ∧ W.tmod 5 < 5 := by rw [Int.tmod_eq_emod_of_nonneg hW]; omega
        generalize W.tmod 5 = x at *
        have HIX : Hid (Inv5 P P ws (ws.set a x)) := Lib.hid (inv5_set a (by omega))
        clear HDR HPK HXX b0 o8 o9 x2
        obtain ⟨x0, x1, x2, x3⟩ := XRow.cells (HK5.out.row HX1.out (.inr (.inl rfl)))
        cases up
        · have HWR : Hid (∀ W' A' n c', Upd Non w5 W' → n = 1 → Calls Try.prog 51 #[.pointer (some ⟨q, 0, none⟩), .int .i64 a, .slice A' n c'] W' fun e w' => e = .returned (.int .i64 4) ∧ W' = w') := Lib.hid fun W' A' n c' hu hn1 => by
            obtain ⟨F, hn⟩ := (HQ5.out.keepN hu).node
            have hacc : accE ws.length false (a : Int) (n : Nat) = 4 := by unfold accE; rw [if_neg (by omega)]; rfl
            have := write_bad hn a A' n c' (by omega) (by rw [hacc]; decide)
            rw [hacc] at this
            exact this
          have HXX : Hid (∀ W', Upd Non w5 W' → W'.cell? ⟨w.heap.size, 1, none⟩ = some (.pointer (some ⟨q, 0, none⟩)) ∧ W'.cell? ⟨w.heap.size, 3, none⟩ = some (.pointer (some ⟨r, 0, none⟩)) ∧ W'.cell? ⟨r, 1, none⟩ = some (.bool false)) := Lib.hid fun W' hu => by
            obtain ⟨-, x1, -, x3⟩ := XRow.cells (hu.rowN (HK5.out.row HX1.out (.inr (.inl rfl))))
            obtain ⟨H, y, hr⟩ := (HQ5.out.keepN hu).ref
            obtain ⟨hrb, -, -, -, -, -, -, -, -, -⟩ := hr
            exact ⟨x1, x3, hrb.cell 1 rfl⟩
          obtain ⟨-, -, r1⟩ := HXX.out _ (Upd.refl _ _)
          go_upto_region 18 with fail
          go_region_held3 (fun w' => w'.cell? ⟨w.heap.size, 1, none⟩ = some (.pointer (some ⟨q, 0, none⟩)) ∧ w'.cell? ⟨w.heap.size, 3, none⟩ = some (.pointer (some ⟨r, 0, none⟩)) ∧ w'.cell? ⟨r, 1, none⟩ = some (.bool false)) (go_keep)
            (first
              | (go_at_call 51; (with_reducible refine (HWR.out _ _ _ _ ((Upd.refl Non w5).alloc (.cells #[.int .u64 x] 36)).drew rfl).mono ?_); rintro e w7 ⟨rfl, rfl⟩))
          all_goals go_wp2_with fail
          all_goals go_meet
          all_goals
            have hu7 : Upd Non w5 (w5.alloc (.cells #[.int .u64 x] 36)).drew := ((Upd.refl Non w5).alloc _).drew
            exact d5_fin HU1.out HX1.out HSZ.out (HQ5.out.keepN hu7) (fun k hk _ => .inl (.inl hk)) (Inv5.refl P ws) (HK5.out.tr (Keep5.non (A := A5 A w) hu7) fun _ _ h => h)
        · obtain ⟨H, y, hr, hset⟩ := HQ5.out.setRef
          obtain ⟨hrb, qw, sp, hr1, hr2, ⟨spare, hs, hq⟩, hrG, hqG, hqb, -⟩ := id hr
          have r0 := hrb.cell 0 hr1
          have r1 := hrb.cell 1 hr2
          have c0 := hq.cell a (u64s_at (spare := spare) (by omega))
          have z0 := hq.frozen a
          have hput := hr.put hr1 a (by omega) x
          obtain ⟨hq6, hk6⟩ := hset _ _ true y hput ((Upd.refl H w5).setCell (p := ⟨qw, a, none⟩) (.inl hqG) _)
          have haI : (a : Int) < (ws.length : Int) := by omega
          have HQ6 := Lib.hid hq6
          have HK6 := Lib.hid (HK5.out.tr hk6 fun _ _ h => h)
          rw [hl] at r0 haI
          generalize ws.getD a 0 = old at *
          clear hr hset hrb hr1 hr2 hs hq hrG hqG hput hq6 hk6
          go_upto_region 18 with fail
          generalize w5.setCell ⟨qw, a, none⟩ (.int .u64 x) = W6 at *
          have HWR : Hid (∀ W', Upd Non W6 W' → ∀ g G, View W' G 1 (some ⟨g, 0, none⟩) 1 (u64s [x]) → Calls Try.prog 51 #[.pointer (some ⟨q, 0, none⟩), .int .i64 a, .slice (some ⟨g, 0, none⟩) 1 1] W' fun e w' => e = .returned (.int .i64 0) ∧ QQ w0 (A5 A w) w' p q b r P (ws.set a x) true P sl (ws.set a x) true ∧ Keep5 (A5 A w) W1 w') := Lib.hid fun W' hu g G hv => by
            obtain ⟨F, hn, hset⟩ := ((HQ6.out.keepN hu).mono (B := A5 A w) fun k hk => .inl (.inl hk)).setNode
            refine (write_ok hn a _ 1 1 [x] hv (by unfold accE; rw [if_neg (by omega)]; rfl)).mono ?_
            rintro e w' ⟨he, hn', hu'⟩
            rw [putW_one _ _ _ (by omega)] at hn'
            obtain ⟨h1, h2⟩ := hset _ _ _ hn' hu' (HQ6.out.ok.2.2.set a hx0.1)
            exact ⟨he, h1, (HK6.out.tr (Keep5.non (A := A5 A w) hu) fun _ _ h => h).tr h2 fun _ _ h => h⟩
          obtain ⟨x0, x1, x2, x3⟩ := XRow.cells (HK6.out.row HX1.out (.inr (.inl rfl)))
          have r1 : W6.cell? ⟨r, 1, none⟩ = some (.bool true) := by
            obtain ⟨H, y, hr⟩ := HQ6.out.ref
            obtain ⟨hrb, -, -, -, -, -, -, -, -, -⟩ := hr
            exact hrb.cell 1 rfl
          go_region_held3 (fun w' => w'.cell? ⟨w.heap.size, 1, none⟩ = some (.pointer (some ⟨q, 0, none⟩)) ∧ w'.cell? ⟨w.heap.size, 3, none⟩ = some (.pointer (some ⟨r, 0, none⟩)) ∧ w'.cell? ⟨r, 1, none⟩ = some (.bool true)) (go_keep)
            (first
              | (go_at_call 51; (with_reducible refine (HWR.out _ ((Upd.refl Non W6).alloc (.cells #[.int .u64 x] 36)).drew _ _ ((view_new2 W6 #[.int .u64 x] 36 1 1 rfl).keep (M := Non) (Upd.refl _ _).drew fun _ _ h => h)).mono ?_); rintro e w7 ⟨rfl, hq7, hk7⟩; obtain ⟨-, x1, -, x3⟩ := XRow.cells (hk7.row HX1.out (.inr (.inl rfl))); have r1 : w7.cell? ⟨r, 1, none⟩ = some (.bool true) := (by obtain ⟨H, y, hr⟩ := hq7.ref; obtain ⟨hrb, -, -, -, -, -, -, -, -, -⟩ := hr; exact hrb.cell 1 rfl); have HQ7 := Lib.hid hq7; have HK7 := Lib.hid hk7; clear hq7 hk7))
          all_goals go_wp2_with fail
          all_goals go_meet
          all_goals exact d5_fin HU1.out HX1.out HSZ.out HQ7.out (fun k hk _ => .inl hk) HIX.out HK7.out
    · by_cases h3 : W % 3 = 0
      · have hb : (W % 3 == 0) = true := by simpa using h3
        clear h3
        go_wp2_with fail
        obtain ⟨F, hn, hset⟩ := HQ1.out.setNode
        refine (fail_calls hn).mono ?_
        rintro e w2 ⟨rfl, hn2, hu2⟩
        obtain ⟨hq2, hk2⟩ := hset _ _ _ hn2 hu2 HQ1.out.ok.2.2
        obtain ⟨H, y, hr, hset2⟩ := hq2.setRef
        have hr3 := hr.flag (by simp) false
        obtain ⟨hrb, -, -, -, -, -, hrG, -, -, -⟩ := id hr
        have c1 := hrb.cell 1 rfl
        have z1 := hrb.frozen 1
        obtain ⟨hq3, hk3⟩ := hset2 _ ws false y hr3 ((Upd.refl H w2).setCell (p := ⟨r, 1, none⟩) (.inl hrG) _)
        obtain ⟨x0', x1', x2', x3'⟩ := XRow.cells (hk2.row HX1.out (.inr (.inl rfl)))
        have HF : Hid (D5Cut w0 w A p q b r P ws (w2.setCell ⟨r, 1, none⟩ (.bool false))) := Lib.hid (d5_fin HU1.out HX1.out HSZ.out hq3 (fun k hk _ => .inl hk) (Inv5.refl P ws) (hk2.tr hk3 fun _ _ h => h))
        clear hn hset hn2 hu2 hq2 hk2 hr hset2 hr3 hrb hrG hq3 hk3
        go_wp2_with fail
        go_meet
        exact HF.out
      · have hb : (W % 3 == 0) = false := by simpa using h3
        clear h3
        go_wp2_with fail
        go_meet
        exact HE1.out
    · by_cases hbk : up = false ∧ ws.getD 1 0 < 31
      · obtain ⟨rfl, hlt⟩ := hbk
        have h0 : 0 ≤ ws.getD 1 0 := HQ1.out.ok.2.2.getD 1
        have HPB : Hid (∀ W, Keep5 (A5 A w) W1 W → ∀ up2 ws2, QQ w0 (A5 A w) W p q b r P ws false P sl ws2 up2 → Calls Try.prog 56 #[.pointer (some ⟨q, 0, none⟩)] W fun e w' => e = .returned (.bool true) ∧ QQ w0 (A5 A w) w' p q b r P (ws.set 1 (ws.getD 1 0 + 1)) true P sl ws2 up2 ∧ Keep5 (A5 A w) W1 w') := Lib.hid fun W hkW up2 ws2 hq => by
          obtain ⟨F, hn, hset⟩ := hq.setNode
          refine (back_yes hn (by omega) hlt h0).mono ?_
          rintro e w' ⟨he, hn', hu'⟩
          obtain ⟨a, b⟩ := hset _ _ _ hn' hu' (hq.ok.2.2.set 1 (by omega))
          exact ⟨he, a, hkW.tr b fun _ _ h => h⟩
        have HRB : Hid (∀ W, Keep5 (A5 A w) W1 W → ∀ up1 ws1, QQ w0 (A5 A w) W p q b r P ws1 up1 P sl ws false → Calls Try.prog 119 #[.pointer (some ⟨r, 0, none⟩)] W fun e w' => e = .returned (.bool true) ∧ QQ w0 (A5 A w) w' p q b r P ws1 up1 P sl (ws.set 1 (ws.getD 1 0 + 1)) true ∧ Keep5 (A5 A w) W1 w') := Lib.hid fun W hkW up1 ws1 hq => by
          obtain ⟨H, y, hr, hset⟩ := hq.setRef
          refine (refback_yes hr (by omega) hlt h0).mono ?_
          rintro e w' ⟨he, hr', hu'⟩
          obtain ⟨a, b⟩ := hset _ _ _ y hr' hu'
          exact ⟨he, a, hkW.tr b fun _ _ h => h⟩
        have HXX : Hid (∀ W, Keep5 (A5 A w) W1 W → W.cell? ⟨w.heap.size, 1, none⟩ = some (.pointer (some ⟨q, 0, none⟩)) ∧ W.cell? ⟨w.heap.size, 3, none⟩ = some (.pointer (some ⟨r, 0, none⟩))) := Lib.hid fun W hk => by
          obtain ⟨-, a, -, b⟩ := XRow.cells (hk.row HX1.out (.inr (.inl rfl)))
          exact ⟨a, b⟩
        have HQD : Hid (QQ w0 (A5 A w) W1.drew p q b r P ws false P sl ws false) := Lib.hid ((HQ1.out.keepN (Upd.refl Non W1).drew).mono fun k hk => .inl (.inl hk))
        have HKD : Hid (Keep5 (A5 A w) W1 W1.drew) := Lib.hid ⟨Nat.le_refl _, fun _ _ _ => rfl⟩
        have HI : Hid (Inv5 P P ws (ws.set 1 (ws.getD 1 0 + 1))) := Lib.hid (inv5_set 1 (by omega))
        clear hlt h0 o0 o1 o2 o3 o4 o5 o6 o7 o8 o9 x0 x2
        go_wp2_with fail
        go_region_held3 (fun w' => w'.cell? ⟨w.heap.size, 1, none⟩ = some (.pointer (some ⟨q, 0, none⟩)) ∧ w'.cell? ⟨w.heap.size, 3, none⟩ = some (.pointer (some ⟨r, 0, none⟩))) (go_keep)
          (first
            | (go_at_call 56; (with_reducible refine (HPB.out _ HKD.out _ _ HQD.out).mono ?_); rintro e w5 ⟨rfl, hq5, hk5⟩; obtain ⟨x1, x3⟩ := HXX.out _ hk5; have HQ5 := Lib.hid hq5; have HK5 := Lib.hid hk5; clear hq5 hk5)
            | (go_at_call 119; (with_reducible refine (HRB.out _ HKD.out _ _ HQD.out).mono ?_); rintro e w5 ⟨rfl, hq5, hk5⟩; obtain ⟨x1, x3⟩ := HXX.out _ hk5; have HQ6 := Lib.hid hq5; have HK6 := Lib.hid hk5; clear hq5 hk5)
            | (go_at_call 119; (with_reducible refine (HRB.out _ HK5.out _ _ HQ5.out).mono ?_); rintro e w6 ⟨rfl, hq5, hk5⟩; obtain ⟨x1, x3⟩ := HXX.out _ hk5; have HQ7 := Lib.hid hq5; have HK7 := Lib.hid hk5; clear hq5 hk5)
            | (go_at_call 56; (with_reducible refine (HPB.out _ HK6.out _ _ HQ6.out).mono ?_); rintro e w6 ⟨rfl, hq5, hk5⟩; obtain ⟨x1, x3⟩ := HXX.out _ hk5; have HQ7 := Lib.hid hq5; have HK7 := Lib.hid hk5; clear hq5 hk5))
        all_goals go_wp2_with fail
        all_goals go_meet
        all_goals exact d5_fin HU1.out HX1.out HSZ.out HQ7.out (fun k hk _ => .inl hk) HI.out HK7.out
      · have hno : up = true ∨ 31 ≤ ws.getD 1 0 := by
          cases up
          · right; simp at hbk; exact hbk
          · left; rfl
        have HPB : Hid (∀ n, Calls Try.prog 56 #[.pointer (some ⟨q, 0, none⟩)] (W1.drewN n) fun e w' => e = .returned (.bool false) ∧ w' = W1.drewN n) := Lib.hid fun n => by
          obtain ⟨F, hn⟩ := (HQ1.out.keepN ((Upd.refl Non W1).drewN n)).node
          exact quiet_of (back_no hn (by omega) hno)
        have HRB : Hid (∀ n, Calls Try.prog 119 #[.pointer (some ⟨r, 0, none⟩)] (W1.drewN n) fun e w' => e = .returned (.bool false) ∧ w' = W1.drewN n) := Lib.hid fun n => by
          obtain ⟨H, y, hr⟩ := (HQ1.out.keepN ((Upd.refl Non W1).drewN n)).ref
          exact quiet_of (refback_no hr (by omega) hno)
        clear hno hbk
        go_wp2_with fail
        go_quiet ((first
          | (go_at_call 56; exact Calls.quiet_of_same (HPB.out _))
          | (go_at_call 119; exact Calls.quiet_of_same (HRB.out _))))
        go_wp2_with fail
        go_meet
        have hud : Upd Non W1 (W1.drewN nq) := (Upd.refl Non W1).drewN _
        exact d5_fin HU1.out HX1.out HSZ.out (HQ1.out.keepN hud) (fun k hk _ => .inl (.inl hk)) (Inv5.refl P ws) (Keep5.non hud)
  case rest =>
    obtain ⟨hx, P', sl', ws', up', hq, hinv, hkeep⟩ := hcut
    have HX := Lib.hid hx
    have HQ := Lib.hid hq
    have HI := Lib.hid hinv
    have HK := Lib.hid hkeep
    have HS := Lib.hid (show Calls Try.prog 152 #[.agg #[.pointer (some ⟨p, 0, none⟩), .pointer (some ⟨q, 0, none⟩), .pointer (some ⟨b, 0, none⟩), .pointer (some ⟨r, 0, none⟩)]] wc fun e w' => e = .returned (.bool true) ∧ Upd Non wc w' from psame_calls hq)
    clear o0 o1 o2 o3 o4 o5 o6 o7 o8 o9 x0 x1 x2 x3 hx hq hinv hkeep
    obtain ⟨x0, x1, x2, x3⟩ := HX.out.cells
    go_wp2_with fail
    refine HS.out.mono ?_
    rintro e w5 ⟨rfl, hu5⟩
    have HF : Hid (Do5 w0 w A p q b r P ws w5) := Lib.hid ⟨P', sl', ws', up', (HQ.out.keepN hu5).mono fun k hk => .inl (.inl hk), HI.out, HK.out.tr (Keep5.non (A := A) hu5) fun _ _ h => h⟩
    clear hu5
    go_wp2_with fail
    go_ret
    exact ⟨rfl, HF.out⟩
end Go.Proofs.Ytlhbikiggmdolaa

/- Lists of operations of the statements about queue pairs. -/
namespace Go.Proofs.Ytlhbikiggmdolaa
open Go.RowKit Go.WideShapes

def op5K : List IntKind := [.i64, .i64, .i64, .i64, .i64, .i64, .u64, .u64, .i64, .u64]
theorem kinds_op5 : kindsOf Try.prog 4 129 = some op5K := by kernel_rfl
theorem cells_op5 : Try.prog.cellsOf 129 = op5K.length := by kernel_rfl
/-- Ten values that lie one behind another. -/
def Ten (w : World) (b o : Nat) (kd vk va vn vkey vboot vold vnew at_ W : Int) : Prop :=
  w.cell? ⟨b, o, none⟩ = some (.int .i64 kd) ∧ w.cell? ⟨b, o + 1, none⟩ = some (.int .i64 vk) ∧ w.cell? ⟨b, o + 2, none⟩ = some (.int .i64 va) ∧ w.cell? ⟨b, o + 3, none⟩ = some (.int .i64 vn) ∧ w.cell? ⟨b, o + 4, none⟩ = some (.int .i64 vkey) ∧
    w.cell? ⟨b, o + 5, none⟩ = some (.int .i64 vboot) ∧ w.cell? ⟨b, o + 6, none⟩ = some (.int .u64 vold) ∧ w.cell? ⟨b, o + 7, none⟩ = some (.int .u64 vnew) ∧ w.cell? ⟨b, o + 8, none⟩ = some (.int .i64 at_) ∧ w.cell? ⟨b, o + 9, none⟩ = some (.int .u64 W)
/-- A slice of operations. -/
def OpsR5 (w : World) (A : Option Addr) (len : Nat) : Prop :=
  ∀ k, k < len → ∃ kd vk va vn vkey vboot vold vnew at_ W : Int, 0 ≤ W ∧ (-9223372036854775808 ≤ vn ∧ vn ≤ 9223372036854775807) ∧ (0 ≤ vold ∧ vold < 18446744073709551616) ∧ (0 ≤ vnew ∧ vnew < 18446744073709551616) ∧
    ∃ b off, A = some ⟨b, off, none⟩ ∧ ∀ w', Upd Non w w' → Ten w' b (off + k * 10) kd vk va vn vkey vboot vold vnew at_ W
theorem RowsR.ops5 {w : World} {A : Option Addr} {len : Nat} {z : List (List Int)} (h : RowsR w op5K A len z) : OpsR5 w A len := by
  obtain ⟨hz, hr, hc⟩ := h
  intro k hk
  have hk' : k < z.length := by omega
  obtain ⟨b, off, hA, hl, hc⟩ := hc (by intro h; subst h; simp at hk')
  have hg : z[k]? = some z[k] := List.getElem?_eq_getElem hk'
  obtain ⟨hrl, hwf⟩ := hr z[k] (List.getElem_mem hk')
  generalize z[k] = r at *
  match r, hrl with
  | [kd, vk, va, vn, vkey, vboot, vold, vnew, at_, W], _ =>
    have hW := hwf 9 .u64 W rfl rfl
    have hn := hwf 3 .i64 vn rfl rfl
    have ho := hwf 6 .u64 vold rfl rfl
    have hw := hwf 7 .u64 vnew rfl rfl
    simp [Lit.wf, IntKind.min, IntKind.max, IntKind.signed, IntKind.bits] at hW hn ho hw
    refine ⟨kd, vk, va, vn, vkey, vboot, vold, vnew, at_, W, hW.1, by omega, by omega, by omega, b, off, hA, fun w' hu => ?_⟩
    have hb := hu.block b hl (fun h => h)
    have g : ∀ j v, (intC op5K [kd, vk, va, vn, vkey, vboot, vold, vnew, at_, W])[j]? = some v → w'.cell? ⟨b, off + k * 10 + j, none⟩ = some v := fun j v h => (World.cell?_of_block (a := ⟨b, off + k * 10 + j, none⟩) hb).trans (hc k _ j v hg h)
    exact ⟨g 0 _ rfl, g 1 _ rfl, g 2 _ rfl, g 3 _ rfl, g 4 _ rfl, g 5 _ rfl, g 6 _ rfl, g 7 _ rfl, g 8 _ rfl, g 9 _ rfl⟩
section
variable {H : Type} {enc : TypeId × Value → H} {w : World} {base : Nat} {spare : Nat → Bool} {held : Bool}
set_option maxRecDepth 100000 in
theorem open_bodegalaw5_Op {r : Reach} {b0 : Nat} {A : Option Addr} {len cap : Nat} {d : DataW H} {ps : List MemPlace} (_hv : Value.okWide Try.prog w r b0 124 (.slice A len cap))
    (h : DataW.Trod enc Try.prog w base spare held 124 (.slice A len cap) d ps) : ∃ z, RowsR w op5K A len z ∧ len ≤ cap ∧ cap ≤ maxLen ∧ (A = none → len = 0 ∧ cap = 0) := by
  obtain ⟨fuel, hf⟩ := h
  exact rows_read (n := 4) Try.underlying124 kinds_op5 cells_op5 (by decide) hf
end
theorem Q5.qq {w0 w : World} {lab : Nat → Nat} {p q b r : Nat} {P : Pr} {sl ws : List Int} {up : Bool} (h : Q5 w0 lab w p q b r P sl ws up) : QQ w0 Non w p q b r P ws up P sl ws up :=
  qq_of h.l5 ⟨h.rp, h.lb, h.rn, h.l5.ok⟩ fun _ hk => hk.elim
/-- Operations one behind another. -/
def Runs5 (w : World) (bx p q b r len : Nat) (i : Value) (wr : World) : Prop :=
  ∃ (k : Nat) (P : Pr) (sl ws : List Int) (up : Bool), k ≤ len ∧ i = .int .i64 k ∧ QQ w (fun k => k = bx) wr p q b r P ws up P sl ws up ∧ ws.length = 320 ∧ XRow wr bx p q b r
theorem Do5.runs {w wr w' : World} {bx p q b r len k : Nat} {P : Pr} {ws : List Int} (h : Do5 w wr (fun k => k = bx) p q b r P ws w') (hx : XRow wr bx p q b r) (hl : ws.length = 320) (hk : k + 1 ≤ len) : Runs5 w bx p q b r len (.int .i64 ((k : Int) + 1)) w' := by
  obtain ⟨P', sl', ws', up', hQ, hi, hK⟩ := h
  have hb := hx.lt
  exact ⟨k + 1, P', sl', ws', up', hk, by simp, hQ.mono fun k hk => .inl ⟨hk, by omega⟩, by rw [hi.2.2.2.2, hl], hK.row hx rfl⟩
end Go.Proofs.Ytlhbikiggmdolaa

/- The walk of QueuepairPlays. -/
namespace Go.Proofs.Ytlhbikiggmdolaa
open Go.RowKit

theorem freshq_calls (client inc : Int) (w : World) : Calls Try.prog 87 #[.int .i64 client, .int .i64 inc] w fun e w' => ∃ (p q b r : Nat) (lab : Nat → Nat), e = .returned (.tuple #[.agg #[.pointer (some ⟨p, 0, none⟩), .pointer (some ⟨q, 0, none⟩), .pointer (some ⟨b, 0, none⟩), .pointer (some ⟨r, 0, none⟩)], .bool true]) ∧ Q5 w lab w' p q b r (Pr.none (client % 6) (inc % 4) 0) [] ws5 true := fresh_calls client inc w

set_option maxRecDepth 100000 in
set_option maxHeartbeats 8000000 in
theorem queuepairPlays_any (w : World) (client : Int) (_wc : (Lit.int .i64 client).wf = true) (inc : Int) (_wi : (Lit.int .i64 inc).wf = true) (A : Option Addr) (len cap : Nat) (z : List (List Int)) (hz : RowsR w op5K A len z ∧ len ≤ cap ∧ cap ≤ maxLen ∧ (A = none → len = 0 ∧ cap = 0)) :
    Calls Try.prog 17 #[.int .i64 client, .int .i64 inc, .slice A len cap] w fun e w' => e = .returned (.bool true) ∧ Upd Non w w' := by
  obtain ⟨hz0, hlc, hcm, _⟩ := hz
  have HO := Lib.hid hz0.ops5
  by_cases hl : 60 < len
  · clear hz0 hcm hlc
    go_enter Try.func17, Try.ntmps17
    go_wp2_with fail
    go_ret
    exact ⟨rfl, Upd.refl _ _⟩
  have hl' : len ≤ 60 := by omega
  clear hz0 hcm hl hlc
  go_enter Try.func17, Try.ntmps17
  go_wp2_with fail
  refine (freshq_calls client inc _).mono ?_
  rintro e w1 ⟨p, q, b, r, lab, rfl, hQ⟩
  have HK1 := Lib.hid (hQ.qq.keepN ((Upd.refl Non w1).alloc (.cells #[.pointer (some ⟨p, 0, none⟩), .pointer (some ⟨q, 0, none⟩), .pointer (some ⟨b, 0, none⟩), .pointer (some ⟨r, 0, none⟩)] 109)))
  have HB : Hid (XRow (w1.alloc (.cells #[.pointer (some ⟨p, 0, none⟩), .pointer (some ⟨q, 0, none⟩), .pointer (some ⟨b, 0, none⟩), .pointer (some ⟨r, 0, none⟩)] 109)) w1.heap.size p q b r) := Row.new w1 _ _
  clear hQ
  go_wp2_with fail
  generalize w1.alloc (.cells #[.pointer (some ⟨p, 0, none⟩), .pointer (some ⟨q, 0, none⟩), .pointer (some ⟨b, 0, none⟩), .pointer (some ⟨r, 0, none⟩)] 109) = W1 at *
  have HK1 := Lib.hid (HK1.out.mono (B := fun k => k = w1.heap.size) fun k hk => .inl (.inr (by omega)))
  generalize w1.heap.size = bx at *
  refine (awake5_calls _).mono ?_
  rintro e w2 ⟨rfl, hu2⟩
  have HS : Hid (Runs5 w bx p q b r len (.int .i64 0) w2) := Lib.hid ⟨0, _, _, _, _, Nat.zero_le _, rfl, (HK1.out.keepN hu2).mono fun k hk => .inl (.inl hk), ws5_len, hu2.rowN HB.out⟩
  clear hu2 HK1 HB
  go_wp2_with fail
  go_loopw [9] (fun i wr => Runs5 w bx p q b r len i wr) (fun i _ => 61 - (intOf i).toNat)
  case atStart => exact HS.out
  case round =>
    obtain ⟨k, P, sl, ws, up, hk, rfl, hQ, hln, hx⟩ := hrel
    have HQ := Lib.hid hQ
    have HLN := Lib.hid hln
    have HX := Lib.hid hx
    clear hQ hln hx HS
    by_cases hlt : k < len
    · obtain ⟨kd, vk, va, vn, vkey, vboot, vold, vnew, at_, W, hW, h1, h2, h3, ob, oo, rfl, hT⟩ := HO.out k hlt
      obtain ⟨g0, g1, g2, g3, g4, g5, g6, g7, g8, g9⟩ := hT _ HQ.out.upd
      obtain ⟨c0, c1, c2, c3⟩ := HX.out.cells
      have HQd : Hid (QQ w (fun k => k = bx) wr.drew p q b r P ws up P sl ws up) := Lib.hid ((HQ.out.keepN (Upd.refl Non wr).drew).mono fun k hk => .inl (.inl hk))
      have HXd : Hid (XRow wr.drew bx p q b r) := Lib.hid ((Upd.refl Non wr).drew.rowN HX.out)
      have HC := Lib.hid (do5_calls HQd.out HLN.out kd vk va vn vkey vboot vold vnew at_ W hW h1 h2 h3)
      have HF := Lib.hid (fun w' (hd : Do5 w wr.drew (fun k => k = bx) p q b r P ws w') => hd.runs (len := len) (k := k) HXd.out HLN.out hlt)
      clear hW h1 h2 h3 hT
      have hk0 : (0 : Int) ≤ (k : Int) := by omega
      have hk1 : (k : Int) < (len : Int) := by omega
      go_wp2_with fail
      go_region_with (go_at_call 97; refine HC.out.mono ?_; rintro e w' ⟨rfl, hd⟩; have HN := Lib.hid (HF.out _ hd); clear hd)
      all_goals go_wp2_with fail
      all_goals go_round
      all_goals first
        | exact HN.out
        | (simp [intOf]; omega)
    · have hk' : k = len := by omega
      subst hk'
      obtain ⟨c0, c1, c2, c3⟩ := HX.out.cells
      have hud : Upd Non wr wr.drew := (Upd.refl Non wr).drew
      have HQd := Lib.hid (HQ.out.keepN hud)
      obtain ⟨F, hF⟩ := HQd.out.node
      obtain ⟨G, gx, hG⟩ := HQd.out.ref
      have HI := Lib.hid (image_calls hF HQd.out.ok.2.2)
      have HRf := Lib.hid hG
      have HW := Lib.hid HQd.out.ok.2.2
      have HU := Lib.hid HQd.out.upd
      have HM : Hid (∀ w', Upd Non wr.drew w' → XRow w' bx p q b r) := Lib.hid (fun w' (hu : Upd Non wr.drew w') => hu.rowN (hud.rowN HX.out))
      clear hF hG hlt hud
      go_wp2_with fail
      go_region_with (first
        | (go_at_call 79; refine HI.out.mono ?_; rintro e w5 ⟨v, rfl, hO5, hU5⟩; obtain ⟨A5, cp5, rfl, _, hV5⟩ := hO5.shape; have HSI := Lib.hid (sameImage_calls (cap := cp5) (HRf.out.keep hU5 (fun _ _ h => h)) HW.out hV5); have HU5 := Lib.hid (HU.out.tr hU5); obtain ⟨d0, d1, d2, d3⟩ := (HM.out _ hU5).cells; clear hO5 hV5 hU5)
        | (go_at_call 78; refine (HSI.out).mono ?_; rintro e w6 ⟨rfl, hU6⟩; have HU6 := Lib.hid (HU5.out.tr hU6); clear hU6))
      all_goals go_wp2_with fail
      all_goals go_ret
      all_goals exact ⟨rfl, HU6.out⟩
end Go.Proofs.Ytlhbikiggmdolaa
