/- The images of memory nodes: the program's and the reference's are the same bytes. -/
import Derived.Test.YtlhbikiggmdolaaCrcW
import Derived.Test.YtlhbikiggmdolaaPlay3
import Derived.Lib.SlBytesConst
import Derived.ArgAppend
namespace Go.Proofs.Ytlhbikiggmdolaa
open Go.RowKit

theorem info_u8 : (Try.prog.info? 5).map (fun i => (i.zero, i.size, i.bytes)) = some (some (.int .u8 0), 1, 1) := by kernel_rfl

theorem info_u8' : ∃ i, Try.prog.info? 5 = some i ∧ i.zero = some (.int .u8 0) ∧ i.size = 1 ∧ i.bytes = 1 := by
  have h := info_u8
  cases e : Try.prog.info? 5 with
  | none => rw [e] at h; simp at h
  | some i => rw [e] at h; simp at h; exact ⟨i, rfl, h.1, h.2.1, h.2.2⟩
theorem cells_new (w : World) (c : List Value) (T : TypeId) : ∀ (j : Nat) (u : Value), c[j]? = some u → (w.alloc (.cells c.toArray T)).cell? ((⟨w.heap.size, 0, none⟩ : Addr).add j) = some u := by
  intro j u hj
  rw [Addr.add_lit, Nat.zero_add]
  exact (Row.new w c.toArray T).cell j hj

theorem app_past {w wa w3 : World} {e : TypeId} {s n : Nat} {v v' : Value} {xs : List Value} (hU : Upd Non w wa) (hF : ∀ k, v.ownBlock = some k → w.heap.size ≤ k)
    (hO : Own w3 (fun k => Past w k ∨ New wa w3 k) e s v' n xs) (hA : Upd (fun k => v.ownBlock = some k) wa w3) : Own w3 (Past w) e s v' n xs ∧ Upd Non w w3 := by
  refine ⟨hO.mono fun k hk _ => ?_, hU.trans hA fun i hi hk => ?_⟩
  · rcases hk with h | h
    · exact h
    · have h1 := h.1; have := hU.size; show w.heap.size ≤ k; omega
  · have := hF i hk; omega

/-- The bytes of a word, the least significant one first. -/
def leB (x : Nat) : List Nat := (List.range 8).map fun i => x / 256 ^ i % 256
theorem leB_length (x : Nat) : (leB x).length = 8 := by simp [leB]
theorem leB_byt (x : Nat) : Byt (leB x) := fun y hy => by
  simp only [leB, List.mem_map] at hy; obtain ⟨i, _, rfl⟩ := hy; exact Nat.mod_lt _ (by decide)
theorem leB_get (x i : Nat) (h : i < 8) : (leB x)[i]? = some (x / 256 ^ i % 256) := by simp [leB, h]
theorem leB_take (x k : Nat) (h : k < 8) : (leB x).take (k + 1) = (leB x).take k ++ [x / 256 ^ k % 256] := by
  have hk : k < (leB x).length := by rw [leB_length]; exact h
  rw [List.take_succ_eq_append_getElem hk]
  have := leB_get x k h
  rw [List.getElem?_eq_getElem hk] at this
  rw [Option.some.inj this]
theorem u8s_one : ∀ (l : List Nat), ∀ u ∈ u8s l, u.oneCell' = true := by
  intro l u hu
  simp only [u8s, List.mem_map] at hu
  obtain ⟨x, _, rfl⟩ := hu
  rfl

def AwRel (w0 : World) (x n : Nat) (bs : List Nat) (v y i : Value) (wr : World) : Prop :=
  ∃ k z : Nat, k ≤ 8 ∧ i = .int .i64 k ∧ y = .int .u64 z ∧ z = x / 256 ^ k ∧ Own wr (Past w0) 5 1 v (n + k) (u8s (bs ++ (leB x).take k)) ∧ Upd Non w0 wr

theorem appendWord_calls {w0 w : World} {v : Value} {n : Nat} {bs : List Nat} (x : Nat) (hU : Upd Non w0 w) (hO : Own w (Past w0) 5 1 v n (u8s bs)) (hn : n ≤ 100000) :
    Calls Try.prog 136 #[v, .int .u64 x] w fun e w' => ∃ v', e = .returned v' ∧ Own w' (Past w0) 5 1 v' (n + 8) (u8s (bs ++ leB x)) ∧ Upd Non w0 w' := by
  have HU0 := Lib.hid hU
  have HO0 := Lib.hid hO
  clear hU hO
  go_enter Try.func136, Try.ntmps136
  go_wp2_with fail
  go_loopw [0, 1, 5] (fun v y i wr => AwRel w0 x n bs v y i wr) (fun _ _ i _ => 8 - (intOf i).toNat)
  case atStart => exact ⟨0, x, by omega, rfl, rfl, by simp, by simpa using HO0.out, HU0.out⟩
  case round =>
    obtain ⟨k, z, hk, rfl, rfl, hz, hown, hupd⟩ := hrel
    have HO := Lib.hid hown
    have HU := Lib.hid hupd
    have HZ := Lib.hid hz
    clear hown hupd HO0 HU0 hz
    by_cases hlt : k < 8
    · have hB : (leB x).take (k + 1) = (leB x).take k ++ [z % 256] := by rw [leB_take x k hlt, ← HZ.out]
      have hz2 : z / 256 = x / 256 ^ (k + 1) := by rw [HZ.out, Nat.pow_succ, Nat.div_div_eq_div_mul]
      have HB := Lib.hid hB
      have HZ2 := Lib.hid hz2
      have HO2 := Lib.hid (HO.out.keep (M := Non) ((Upd.refl Non wr).alloc (.cells #[.int .u8 ((z : Int) % 256)] 5)) (fun _ _ h => h))
      have hV : View (wr.alloc (.cells #[.int .u8 ((z : Int) % 256)] 5)) (fun _ => True) 1 (some ⟨wr.heap.size, 0, none⟩) 1 (u8s [z % 256]) := view_new2 wr #[.int .u8 ((z : Int) % 256)] 5 1 1 rfl
      have HV := Lib.hid hV
      have HF := Lib.hid (fun k hk => (HO.out.block (k := k) hk).1)
      clear hB hz2 hV
      go_wp2_with (at_builtin; refine wpList_app _ rfl (.tmp 7) (.tmp 10) 89 5 rfl _ 1 1 Try.underlying89 info_u8 rfl (by decide) u0 (n + k) _ rfl HO2.out (some ⟨wr.heap.size, 0, none⟩) 1 1 (u8s [z % 256]) rfl (by simp) HV.out (u8s_one _) (by omega) (by decide) ?_; intro v' w3 hO hA hnil hblk)
      obtain ⟨hO3, hU3⟩ := app_past (HU.out.alloc (.cells #[.int .u8 ((z : Int) % 256)] 5)) HF.out hO hA
      rw [← u8s_append, List.append_assoc, ← HB.out] at hO3
      have HO3 := Lib.hid hO3
      have HU3 := Lib.hid hU3
      clear hO hA hnil hblk hO3 hU3
      go_wp2_with fail
      go_roundw
      case rel => exact ⟨k + 1, z / 256, by omega, by go_num, by go_num, HZ2.out, HO3.out, HU3.out⟩
      case measure => simp [intOf]; omega
    · have hk8 : k = 8 := by omega
      subst hk8
      go_wp2_with fail
      go_ret
      rw [List.take_of_length_le (by rw [leB_length]; omega)] at HO
      exact ⟨u0, rfl, HO.out, HU.out⟩

def litC (x k : Nat) : List Value := u8s ((leB x).take k ++ List.replicate (8 - k) 0)
theorem litC_length (x k : Nat) (h : k ≤ 8) : (litC x k).length = 8 := by simp [litC, u8s, leB_length]; omega
theorem litC_get (x k : Nat) (h : k < 8) : (litC x k)[k]? = some (.int .u8 0) := by
  unfold litC
  rw [u8s_get, List.getElem?_append_right (by rw [List.length_take, leB_length]; omega), List.length_take, leB_length, Nat.min_eq_left (by omega), List.getElem?_replicate, if_pos (by omega)]; rfl
theorem litC_set (x k : Nat) (h : k < 8) : (litC x k).set k (.int .u8 ((x / 256 ^ k % 256 : Nat) : Int)) = litC x (k + 1) := by
  apply List.ext_getElem?
  intro i
  rw [List.getElem?_set]
  have hl := leB_length x
  by_cases e : k = i
  · subst e
    rw [if_pos rfl, if_pos (by rw [litC_length _ _ (by omega)]; exact h)]
    unfold litC
    rw [u8s_get, List.getElem?_append_left (by rw [List.length_take, hl]; omega), List.getElem?_take, if_pos (by omega), leB_get x k h]; rfl
  · rw [if_neg e]
    unfold litC
    rw [u8s_get, u8s_get]
    congr 1
    by_cases h1 : i < k
    · rw [List.getElem?_append_left (by rw [List.length_take, hl]; omega), List.getElem?_append_left (by rw [List.length_take, hl]; omega), List.getElem?_take, List.getElem?_take, if_pos h1, if_pos (by omega)]
    · rw [List.getElem?_append_right (by rw [List.length_take, hl]; omega), List.getElem?_append_right (by rw [List.length_take, hl]; omega), List.length_take, List.length_take, hl, List.getElem?_replicate, List.getElem?_replicate]
      by_cases h2 : i < 8
      · rw [if_pos (by omega), if_pos (by omega)]
      · rw [if_neg (by omega), if_neg (by omega)]
theorem litC_zero (x : Nat) : (madeCells #[Value.int .u8 0] 8).toList = litC x 0 := by rw [toList_madeCells_one]; simp [litC, u8s]
theorem litC_done (x : Nat) : litC x 8 = u8s (leB x) := by unfold litC; rw [List.take_of_length_le (by rw [leB_length]; omega)]; simp

def LitRel (b x : Nat) (W : World) (i : Value) (wr : World) : Prop := ∃ k : Nat, k ≤ 8 ∧ i = .int .i64 k ∧ Row wr b 5 (litC x k) ∧ Upd (One b) W wr

theorem little_calls {w : World} (x : Nat) :
    Calls Try.prog 167 #[.int .u64 x] w fun e w' => ∃ g, e = .returned (.slice (some ⟨g, 0, none⟩) 8 8) ∧ w.heap.size ≤ g ∧ Row w' g 5 (u8s (leB x)) ∧ Upd Non w w' := by
  have hmk := run_make_row' (P := Try.prog) 89 5 (.int .u8 0) 1 Try.underlying89 info_u8 rfl .i64 .i64 8 (by decide) (by decide)
  have hmk : ∀ w, (Instr.makeSlice 89 (.int .i64 8) (.int .i64 8)).run Try.prog w = .ok (.slice (some ⟨w.heap.size, 0, none⟩) 8 8) (w.alloc (.cells (madeCells #[.int .u8 0] 8) 5)) := hmk
  go_enter Try.func167, Try.ntmps167
  go_wp2_with fail
  have hr0 : Row (w.alloc (.cells (madeCells #[.int .u8 0] 8) 5)) w.heap.size 5 (litC x 0) := by
    have := Row.new w (madeCells #[.int .u8 0] 8) 5
    rw [litC_zero x] at this; exact this
  have hu0 : Upd Non w (w.alloc (.cells (madeCells #[.int .u8 0] 8) 5)) := (Upd.refl _ _).alloc _
  generalize w.alloc (.cells (madeCells #[.int .u8 0] 8) 5) = W at *
  have HU0 := Lib.hid hu0
  have HR0 := Lib.hid hr0
  generalize hbb : w.heap.size = b at *
  have HBB := Lib.hid hbb
  clear hu0 hr0 hmk hbb
  go_loopw [4] (fun i wr => LitRel b x W i wr) (fun i _ => 8 - (intOf i).toNat)
  case atStart => exact ⟨0, by omega, rfl, HR0.out, Upd.refl _ _⟩
  case round =>
    obtain ⟨k, hk, rfl, hrow, hupd⟩ := hrel
    have HR := Lib.hid hrow
    have HU := Lib.hid hupd
    clear hrow hupd HR0
    by_cases hlt : k < 8
    · have hc0 := HR.out.cell k (litC_get x k hlt)
      have hz0 := HR.out.frozen k
      have hsh : (x : Int) / 2 ^ (8 * (k : Int)).toNat = ((x / 256 ^ k : Nat) : Int) := by
        rw [show (8 * (k : Int)).toNat = 8 * k by omega, Int.natCast_ediv, Int.natCast_pow, Int.pow_mul]; rfl
      have hk8 : (k : Int) < 8 := by omega
      have hr2 := HR.out.set k (.int .u8 ((x / 256 ^ k % 256 : Nat) : Int))
      rw [litC_set x k hlt] at hr2
      have HR2 := Lib.hid hr2
      have HU2 := Lib.hid (HU.out.setCell (p := ⟨b, k, none⟩) (.inl rfl) (.int .u8 ((x / 256 ^ k % 256 : Nat) : Int)))
      clear hr2
      generalize x / 256 ^ k = y at *
      go_wp2_with fail
      go_round
      case rel => exact ⟨k + 1, by omega, by go_num, HR2.out, HU2.out⟩
      case measure => simp [intOf]; omega
    · have hk8 : k = 8 := by omega
      subst hk8
      go_wp2_with fail
      go_ret
      refine ⟨b, rfl, by have := HBB.out; omega, by rw [← litC_done]; exact HR.out, HU0.out.trans HU.out fun i hi h => by have h : i = b := h; have := HBB.out; omega⟩

theorem Own.put {w : World} {F : Blk} {e : TypeId} {v : Value} {n : Nat} {xs : List Value} (h : Own w F e 1 v n xs) {i : Nat} (hi : i < n) :
    ∃ g cap u, v = .slice (some ⟨g, 0, none⟩) n cap ∧ F g ∧ w.cell? ⟨g, i, none⟩ = some u ∧ w.frozen? ⟨g, i, none⟩ = false ∧ ∀ x, Own (w.setCell ⟨g, i, none⟩ x) F e 1 v n (xs.set i x) := by
  obtain ⟨hl, ⟨_, h0⟩ | ⟨g, cap, sp, hv, hF, hr, hs, hn, hc⟩⟩ := h
  · omega
  · have hix : i < xs.length := by omega
    refine ⟨g, cap, xs[i], hv, hF, hr.cell i (by rw [List.getElem?_append_left hix, List.getElem?_eq_getElem hix]), hr.frozen i, fun x => ⟨by simpa using hl, .inr ⟨g, cap, sp, hv, hF, ?_, by simpa using hs, hn, hc⟩⟩⟩
    have := hr.set i x
    rw [List.set_append_left _ _ hix] at this
    exact this
theorem Own.fresh (w : World) (F : Blk) (c : Array Value) (T : TypeId) (hF : F w.heap.size) (hc : c.size ≤ maxLen) : Own (w.alloc (.cells c T)) F T 1 (.slice (some ⟨w.heap.size, 0, none⟩) c.size c.size) c.size c.toList :=
  ⟨by simp, .inr ⟨w.heap.size, c.size, [], rfl, hF, by rw [List.append_nil]; exact Row.new w c T, by simp, Nat.le_refl _, hc⟩⟩

/-- The image's first bytes, the words' bytes, the whole. -/
def imgH (lines : Nat) (up : Bool) : List Nat := [77, 69, 77, 49, lines % 256, lines / 256 % 256, if up then 1 else 0]
def imgW (ws : List Int) : List Nat := ws.flatMap fun x => leB x.toNat
def imgP (ws : List Int) (up : Bool) : List Nat := imgH (ws.length / 8) up ++ imgW ws
def imgB (ws : List Int) (up : Bool) : List Nat := imgP ws up ++ leB (crcN (imgP ws up))
theorem imgH_byt (l : Nat) (up : Bool) : Byt (imgH l up) := by
  intro x hx
  simp only [imgH, List.mem_cons, List.not_mem_nil, or_false] at hx
  rcases hx with h | h | h | h | h | h | h
  · omega
  · omega
  · omega
  · omega
  · omega
  · omega
  · subst h; split <;> omega
theorem imgW_byt (ws : List Int) : Byt (imgW ws) := by
  intro x hx
  simp only [imgW, List.mem_flatMap] at hx
  obtain ⟨y, _, hy⟩ := hx
  exact leB_byt _ x hy
theorem imgP_byt (ws : List Int) (up : Bool) : Byt (imgP ws up) := (imgH_byt _ _).app (imgW_byt _)
theorem imgW_length (ws : List Int) : (imgW ws).length = 8 * ws.length := by
  induction ws with
  | nil => rfl
  | cons x ws ih => simp only [imgW, List.flatMap_cons, List.length_append, leB_length, List.length_cons] at ih ⊢; omega
theorem imgW_snoc (ws : List Int) (k : Nat) (h : k < ws.length) : imgW (ws.take (k + 1)) = imgW (ws.take k) ++ leB (ws.getD k 0).toNat := by
  unfold imgW
  rw [List.take_succ_eq_append_getElem h, List.flatMap_append, List.flatMap_cons, List.flatMap_nil, List.append_nil, List.getD_eq_getElem?_getD, List.getElem?_eq_getElem h]; rfl

theorem img_start {w wb w3 : World} {p : Nat} {T : TypeId} {s b v' : Value} (lin : Nat) (hlin : lin ≤ 256) (hU : Upd Non w wb) (hp : Row w p T [s, b])
    (hO : w3.ownsRow wb.heap.size 5 1 v' 7 (u8s [77, 69, 77, 49] ++ u8s [lin % 256, lin / 256, 1])) (hA : wb.grownBy w3 none) :
    ∃ g cp u, v' = .slice (some ⟨g, 0, none⟩) 7 cp ∧ w3.cell? ⟨p, 1, none⟩ = some b ∧ w3.cell? ⟨p, 0, none⟩ = some s ∧ w3.cell? ⟨g, 6, none⟩ = some u ∧ w3.frozen? ⟨g, 6, none⟩ = false ∧ g ≠ p ∧
      Hid (Own w3 (Past w) 5 1 (.slice (some ⟨g, 0, none⟩) 7 cp) 7 (u8s (imgH lin true))) ∧ Hid (Upd Non w w3) ∧
      Hid (Own (w3.setCell ⟨g, 6, none⟩ (.int .u8 0)) (Past w) 5 1 (.slice (some ⟨g, 0, none⟩) 7 cp) 7 (u8s (imgH lin false))) ∧ Hid (Upd Non w (w3.setCell ⟨g, 6, none⟩ (.int .u8 0))) := by
  have hO1 : Own w3 (Past w) 5 1 v' 7 (u8s (imgH lin true)) := by
    have hh : u8s (imgH lin true) = u8s [77, 69, 77, 49] ++ u8s [lin % 256, lin / 256, 1] := by
      unfold imgH
      rw [Nat.mod_eq_of_lt (show lin / 256 < 256 by omega)]; rfl
    rw [hh]
    refine Own.of_owns hO fun k hk => ?_
    have h1 := hO.2
    rcases h1 with ⟨rfl, _⟩ | ⟨g, cap, cur, rfl, hg, _⟩
    · simp [Value.ownBlock] at hk
    · simp [Value.ownBlock] at hk; subst hk
      have := hU.size
      show w.heap.size ≤ g; omega
  have hU1 : Upd Non w w3 := hU.trans (Upd.of_grown hA) fun i hi h => by simp at h
  have hp3 := hU1.rowN hp
  obtain ⟨g, cp, u, rfl, hgF, hc6, hf6, hput⟩ := hO1.put (i := 6) (by decide)
  have hgp : g ≠ p := by have h1 : w.heap.size ≤ g := hgF; have := hp.lt; omega
  have hset : Own (w3.setCell ⟨g, 6, none⟩ (.int .u8 0)) (Past w) 5 1 (.slice (some ⟨g, 0, none⟩) 7 cp) 7 (u8s (imgH lin false)) := hput (.int .u8 0)
  have hsu : Upd Non w (w3.setCell ⟨g, 6, none⟩ (.int .u8 0)) := hU1.setCell (p := ⟨g, 6, none⟩) (.inr hgF) _
  exact ⟨g, cp, u, rfl, hp3.cell 1 rfl, hp3.cell 0 rfl, hc6, hf6, hgp, Lib.hid hO1, Lib.hid hU1, Lib.hid hset, Lib.hid hsu⟩

def ImgRel (w : World) (ws : List Int) (up : Bool) (v i : Value) (wr : World) : Prop :=
  ∃ k : Nat, k ≤ ws.length ∧ i = .int .i64 k ∧ Own wr (Past w) 5 1 v (7 + 8 * k) (u8s (imgH (ws.length / 8) up ++ imgW (ws.take k))) ∧ Upd Non w wr

set_option maxRecDepth 100000 in
theorem image_calls {w : World} {F : Blk} {p : Nat} {ws : List Int} {up : Bool} (h : NodeR w F p ws up) (hwf : Wf ws) :
    Calls Try.prog 79 #[.pointer (some ⟨p, 0, none⟩)] w fun e w' => ∃ v, e = .returned v ∧ Own w' (Past w) 5 1 v (7 + 8 * ws.length + 8) (u8s (imgB ws up)) ∧ Upd Non w w' := by
  have HL := Lib.hid (fun w' hu => lines_calls (h.keep (M := Non) (w' := w') hu (fun _ _ h => h)))
  obtain ⟨q, sp, hp, ⟨spare, hs, hq⟩, _, _, hl⟩ := h
  have HP := Lib.hid hp
  have HQ := Lib.hid hq
  have HW := Lib.hid hwf
  clear hp hq hs hwf
  generalize hlin : ws.length / 8 = lin at *
  have hd8 : 0 ≤ (lin : Int) := by omega
  have hd9 : (lin : Int) ≤ 256 := by omega
  have HLIN := Lib.hid hlin
  clear hlin
  have hcv := Go.Lib.run_convert_bytes_const (P := Try.prog) w 89 5 #[.int .u8 77, .int .u8 69, .int .u8 77, .int .u8 49] 4 4 Try.underlying89 Try.underlying5
  cases up
  case true =>
    go_enter Try.func79, Try.ntmps79
    go_wp2_with fail
    have hcl0 : ∀ j u, [Value.int .u8 77, .int .u8 69, .int .u8 77, .int .u8 49][j]? = some u → (w.alloc (.cells #[.int .u8 77, .int .u8 69, .int .u8 77, .int .u8 49] 5 (4, 5))).cell? ⟨w.heap.size, j, none⟩ = some u := by
      intro j u hj
      have : (w.alloc (.cells #[.int .u8 77, .int .u8 69, .int .u8 77, .int .u8 49] 5 (4, 5))).heap[w.heap.size]? = some (.cells #[.int .u8 77, .int .u8 69, .int .u8 77, .int .u8 49] 5 (4, 5)) := by simp [World.alloc, -World.alloc_eq]
      simp only [World.cell?, this]
      simpa using hj
    have hsz0 : w.heap.size < (w.alloc (.cells #[.int .u8 77, .int .u8 69, .int .u8 77, .int .u8 49] 5 (4, 5))).heap.size := by simp
    have hu0 : Upd Non w (w.alloc (.cells #[.int .u8 77, .int .u8 69, .int .u8 77, .int .u8 49] 5 (4, 5))) := (Upd.refl _ _).alloc _
    generalize w.alloc (.cells #[.int .u8 77, .int .u8 69, .int .u8 77, .int .u8 49] 5 (4, 5)) = wa at *
    have HC0 := Lib.hid hcl0
    have HU0 := Lib.hid hu0
    have HS0 := Lib.hid hsz0
    clear hcl0 hu0 hsz0 hcv
    refine (HL.out _ HU0.out).mono ?_
    rintro e w' ⟨rfl, rfl⟩
    go_wp2_with fail
    refine (HL.out _ HU0.out).mono ?_
    rintro e w' ⟨rfl, rfl⟩
    have CV := Lib.hid (cells_new wa (u8s [lin % 256, lin / 256, 1]) 5)
    obtain ⟨inf, hi1, hi2, hi3, hi4⟩ := info_u8'
    have HI1 := Lib.hid hi1
    have HI2 := Lib.hid hi2
    have HI3 := Lib.hid hi3
    have HI4 := Lib.hid hi4
    clear hi1 hi2 hi3 hi4
    have hV : View (wa.alloc (.cells #[.int .u8 ((lin : Int) % 256), .int .u8 ((lin : Int) / 256), .int .u8 1] 5)) (fun _ => True) 1 (some ⟨wa.heap.size, 0, none⟩) 3 (u8s [lin % 256, lin / 256, 1]) := view_new2 wa #[.int .u8 ((lin : Int) % 256), .int .u8 ((lin : Int) / 256), .int .u8 1] 5 1 3 rfl
    have HV := Lib.hid hV
    have HUA := Lib.hid (HU0.out.alloc (.cells #[.int .u8 ((lin : Int) % 256), .int .u8 ((lin : Int) / 256), .int .u8 1] 5))
    have hc1 : ∀ b, (some ⟨w.heap.size, 0, none⟩ : Option Addr) = some b → ∀ j u, (u8s [77, 69, 77, 49])[j]? = some u → (wa.alloc (.cells #[.int .u8 ((lin : Int) % 256), .int .u8 ((lin : Int) / 256), .int .u8 1] 5)).cell? (b.add j) = some u := by
      intro b hb j u hj
      cases hb
      rw [Addr.add_lit, Nat.zero_add]
      exact (World.cell?_of_block (w := wa) (a := ⟨w.heap.size, j, none⟩) (((Upd.refl Non wa).alloc _).block w.heap.size HS0.out (fun h => h))).trans (HC0.out j u hj)
    have HC1 := Lib.hid hc1
    clear hV hc1
    go_wp2_with (at_builtin; refine wpList_append_grows _ rfl (.tmp 7) (.tmp 15) 89 rfl 5 inf (.int .u8 0) 1 1 Try.underlying89 HI1.out HI2.out HI3.out HI4.out rfl (by decide) (some ⟨w.heap.size, 0, none⟩) 4 4 (u8s [77, 69, 77, 49]) rfl (by simp) rfl HC1.out ⟨wa.heap.size, 0, none⟩ 3 3 (u8s [lin % 256, lin / 256, 1]) rfl rfl CV.out (u8s_one _) (by decide) (by decide) (by decide) ?_; intro v' w3 hO hA; obtain ⟨g, cp, u, rfl, c1, c0, hc6, hf6, hgp, HO1, HU1, HSET, HSU⟩ := img_start lin (by omega) HUA.out HP.out hO hA; clear hO hA)
    go_loopw [3, 28] (fun v i wr => ImgRel w ws true v i wr) (fun _ i _ => ws.length - (intOf i).toNat)
    case atStart => exact ⟨0, by omega, rfl, by rw [HLIN.out]; simpa [imgW] using HO1.out, HU1.out⟩
    case round =>
      obtain ⟨k, hk, rfl, hown, hupd⟩ := hrel
      have HO := Lib.hid hown
      have HU := Lib.hid hupd
      clear hown hupd
      by_cases hlt : k < ws.length
      · have hx0 := HW.out.getD k
        obtain ⟨x, hx⟩ := Int.eq_ofNat_of_zero_le hx0
        have hcell := (HU.out.rowN HQ.out).cell k (u64s_at hlt)
        rw [hx] at hcell
        have hsn := imgW_snoc ws k hlt
        rw [hx] at hsn
        have HSN := Lib.hid hsn
        clear hx0 hx hsn
        go_wp2_with fail
        refine (appendWord_calls x HU.out HO.out (by omega)).mono ?_
        rintro e w4 ⟨v4, rfl, hO4, hU4⟩
        rw [List.append_assoc, ← show imgW (ws.take (k + 1)) = imgW (ws.take k) ++ leB x from HSN.out] at hO4
        have HO4 := Lib.hid hO4
        have HU4 := Lib.hid hU4
        clear hO4 hU4
        go_wp2_with fail
        go_roundw
        case rel => exact ⟨k + 1, by omega, by go_num, HO4.out, HU4.out⟩
        case measure => simp [intOf]; omega
      · have hk' : k = ws.length := by omega
        rw [hk', List.take_length] at HO
        have hpp := imgP_byt ws true
        have HPP := Lib.hid hpp
        have HO2 : Hid (Own wr (Past w) 5 1 u3 (7 + 8 * ws.length) (u8s (imgP ws true))) := HO
        obtain ⟨A5, cp5, rfl, hA5, hV5⟩ := HO2.out.shape
        have HV5 := Lib.hid hV5
        have hcl := crcN_lt hpp
        have HIB : Hid (imgP ws true ++ leB (crcN (imgP ws true)) = imgB ws true) := Lib.hid rfl
        have HCB := Lib.hid (crcbytes_calls (cap := cp5) HV5.out HPP.out (by omega))
        generalize crcN (imgP ws true) = y at *
        subst hk'
        clear hpp hV5 hA5 hlt HO hcl
        go_wp2_with fail
        refine HCB.out.mono ?_
        rintro e w5 ⟨rfl, hu5⟩
        have HU5 := Lib.hid (HU.out.tr hu5)
        have HO5 := Lib.hid (HO2.out.keep hu5 (fun _ _ h => h))
        clear hu5
        go_wp2_with fail
        refine (appendWord_calls y HU5.out HO5.out (by omega)).mono ?_
        rintro e w6 ⟨v6, rfl, hO6, hU6⟩
        rw [HIB.out] at hO6
        have HO6 := Lib.hid hO6
        have HU6 := Lib.hid hU6
        clear hO6 hU6
        go_wp2_with fail
        go_ret
        exact ⟨v6, rfl, HO6.out, HU6.out⟩
  case false =>
    go_enter Try.func79, Try.ntmps79
    go_wp2_with fail
    have hcl0 : ∀ j u, [Value.int .u8 77, .int .u8 69, .int .u8 77, .int .u8 49][j]? = some u → (w.alloc (.cells #[.int .u8 77, .int .u8 69, .int .u8 77, .int .u8 49] 5 (4, 5))).cell? ⟨w.heap.size, j, none⟩ = some u := by
      intro j u hj
      have : (w.alloc (.cells #[.int .u8 77, .int .u8 69, .int .u8 77, .int .u8 49] 5 (4, 5))).heap[w.heap.size]? = some (.cells #[.int .u8 77, .int .u8 69, .int .u8 77, .int .u8 49] 5 (4, 5)) := by simp [World.alloc, -World.alloc_eq]
      simp only [World.cell?, this]
      simpa using hj
    have hsz0 : w.heap.size < (w.alloc (.cells #[.int .u8 77, .int .u8 69, .int .u8 77, .int .u8 49] 5 (4, 5))).heap.size := by simp
    have hu0 : Upd Non w (w.alloc (.cells #[.int .u8 77, .int .u8 69, .int .u8 77, .int .u8 49] 5 (4, 5))) := (Upd.refl _ _).alloc _
    generalize w.alloc (.cells #[.int .u8 77, .int .u8 69, .int .u8 77, .int .u8 49] 5 (4, 5)) = wa at *
    have HC0 := Lib.hid hcl0
    have HU0 := Lib.hid hu0
    have HS0 := Lib.hid hsz0
    clear hcl0 hu0 hsz0 hcv
    refine (HL.out _ HU0.out).mono ?_
    rintro e w' ⟨rfl, rfl⟩
    go_wp2_with fail
    refine (HL.out _ HU0.out).mono ?_
    rintro e w' ⟨rfl, rfl⟩
    have CV := Lib.hid (cells_new wa (u8s [lin % 256, lin / 256, 1]) 5)
    obtain ⟨inf, hi1, hi2, hi3, hi4⟩ := info_u8'
    have HI1 := Lib.hid hi1
    have HI2 := Lib.hid hi2
    have HI3 := Lib.hid hi3
    have HI4 := Lib.hid hi4
    clear hi1 hi2 hi3 hi4
    have hV : View (wa.alloc (.cells #[.int .u8 ((lin : Int) % 256), .int .u8 ((lin : Int) / 256), .int .u8 1] 5)) (fun _ => True) 1 (some ⟨wa.heap.size, 0, none⟩) 3 (u8s [lin % 256, lin / 256, 1]) := view_new2 wa #[.int .u8 ((lin : Int) % 256), .int .u8 ((lin : Int) / 256), .int .u8 1] 5 1 3 rfl
    have HV := Lib.hid hV
    have HUA := Lib.hid (HU0.out.alloc (.cells #[.int .u8 ((lin : Int) % 256), .int .u8 ((lin : Int) / 256), .int .u8 1] 5))
    have hc1 : ∀ b, (some ⟨w.heap.size, 0, none⟩ : Option Addr) = some b → ∀ j u, (u8s [77, 69, 77, 49])[j]? = some u → (wa.alloc (.cells #[.int .u8 ((lin : Int) % 256), .int .u8 ((lin : Int) / 256), .int .u8 1] 5)).cell? (b.add j) = some u := by
      intro b hb j u hj
      cases hb
      rw [Addr.add_lit, Nat.zero_add]
      exact (World.cell?_of_block (w := wa) (a := ⟨w.heap.size, j, none⟩) (((Upd.refl Non wa).alloc _).block w.heap.size HS0.out (fun h => h))).trans (HC0.out j u hj)
    have HC1 := Lib.hid hc1
    clear hV hc1
    go_wp2_with (at_builtin; refine wpList_append_grows _ rfl (.tmp 7) (.tmp 15) 89 rfl 5 inf (.int .u8 0) 1 1 Try.underlying89 HI1.out HI2.out HI3.out HI4.out rfl (by decide) (some ⟨w.heap.size, 0, none⟩) 4 4 (u8s [77, 69, 77, 49]) rfl (by simp) rfl HC1.out ⟨wa.heap.size, 0, none⟩ 3 3 (u8s [lin % 256, lin / 256, 1]) rfl rfl CV.out (u8s_one _) (by decide) (by decide) (by decide) ?_; intro v' w3 hO hA; obtain ⟨g, cp, u, rfl, c1, c0, hc6, hf6, hgp, HO1, HU1, HSET, HSU⟩ := img_start lin (by omega) HUA.out HP.out hO hA; clear hO hA)
    go_loopw [3, 28] (fun v i wr => ImgRel w ws false v i wr) (fun _ i _ => ws.length - (intOf i).toNat)
    case atStart => exact ⟨0, by omega, rfl, by rw [HLIN.out]; simpa [imgW] using HSET.out, HSU.out⟩
    case round =>
      obtain ⟨k, hk, rfl, hown, hupd⟩ := hrel
      have HO := Lib.hid hown
      have HU := Lib.hid hupd
      clear hown hupd
      by_cases hlt : k < ws.length
      · have hx0 := HW.out.getD k
        obtain ⟨x, hx⟩ := Int.eq_ofNat_of_zero_le hx0
        have hcell := (HU.out.rowN HQ.out).cell k (u64s_at hlt)
        rw [hx] at hcell
        have hsn := imgW_snoc ws k hlt
        rw [hx] at hsn
        have HSN := Lib.hid hsn
        clear hx0 hx hsn
        go_wp2_with fail
        refine (appendWord_calls x HU.out HO.out (by omega)).mono ?_
        rintro e w4 ⟨v4, rfl, hO4, hU4⟩
        rw [List.append_assoc, ← show imgW (ws.take (k + 1)) = imgW (ws.take k) ++ leB x from HSN.out] at hO4
        have HO4 := Lib.hid hO4
        have HU4 := Lib.hid hU4
        clear hO4 hU4
        go_wp2_with fail
        go_roundw
        case rel => exact ⟨k + 1, by omega, by go_num, HO4.out, HU4.out⟩
        case measure => simp [intOf]; omega
      · have hk' : k = ws.length := by omega
        rw [hk', List.take_length] at HO
        have hpp := imgP_byt ws false
        have HPP := Lib.hid hpp
        have HO2 : Hid (Own wr (Past w) 5 1 u3 (7 + 8 * ws.length) (u8s (imgP ws false))) := HO
        obtain ⟨A5, cp5, rfl, hA5, hV5⟩ := HO2.out.shape
        have HV5 := Lib.hid hV5
        have hcl := crcN_lt hpp
        have HIB : Hid (imgP ws false ++ leB (crcN (imgP ws false)) = imgB ws false) := Lib.hid rfl
        have HCB := Lib.hid (crcbytes_calls (cap := cp5) HV5.out HPP.out (by omega))
        generalize crcN (imgP ws false) = y at *
        subst hk'
        clear hpp hV5 hA5 hlt HO hcl
        go_wp2_with fail
        refine HCB.out.mono ?_
        rintro e w5 ⟨rfl, hu5⟩
        have HU5 := Lib.hid (HU.out.tr hu5)
        have HO5 := Lib.hid (HO2.out.keep hu5 (fun _ _ h => h))
        clear hu5
        go_wp2_with fail
        refine (appendWord_calls y HU5.out HO5.out (by omega)).mono ?_
        rintro e w6 ⟨v6, rfl, hO6, hU6⟩
        rw [HIB.out] at hO6
        have HO6 := Lib.hid hO6
        have HU6 := Lib.hid hU6
        clear hO6 hU6
        go_wp2_with fail
        go_ret
        exact ⟨v6, rfl, HO6.out, HU6.out⟩
end Go.Proofs.Ytlhbikiggmdolaa
