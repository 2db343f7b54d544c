/- What the statements about memory nodes share: Pick, the example of chapter 3. -/
import Derived.Test.YtlhbikiggmdolaaMem2
namespace Go.Proofs.Ytlhbikiggmdolaa
open Go.RowKit

theorem tmod_pick (n k : Int) (hk : 1 ≤ k) : (n.tmod k + k) % k = n % k ∧ -k < n.tmod k ∧ n.tmod k < k := by
  have h1 : -k < n.tmod k := by have := Int.lt_tmod_of_pos n (show 0 < k by omega); omega
  have h2 : n.tmod k < k := Int.tmod_lt_of_pos n (by omega)
  refine ⟨?_, h1, h2⟩
  rw [Int.add_emod_right]
  have h3 := Int.mul_tdiv_add_tmod n k
  rw [show n.tmod k = n - k * n.tdiv k by omega]
  exact Int.sub_mul_emod_self_left ..

theorem pick_calls (n k : Int) (w : World) (hk : 1 ≤ k) (hk2 : k ≤ 4611686018427387904) :
    Calls Try.prog 23 #[.int .i64 n, .int .i64 k] w fun e w' => e = .returned (.int .i64 (n % k)) ∧ w = w' := by
  obtain ⟨h1, h2, h3⟩ := tmod_pick n k hk
  have H := Lib.hid h1
  clear h1
  go_enter Try.func23, Try.ntmps23
  go_wp2
  go_ret
  exact ⟨ret_int H.out, rfl⟩

theorem awake3_calls (w : World) : Calls Try.prog 25 #[] w fun e w' => e = .returned (.bool true) ∧ Upd Non w w' := by
  go_enter Try.func25, Try.ntmps25
  go_wp2_with fail
  refine (new_ok 1 (by decide) (by decide)).mono ?_
  rintro e w1 ⟨p, rfl, hN0, hu1⟩
  have hN1 : NodeR w1 (New w w1) p [0, 0, 0, 0, 0, 0, 0, 0] true := hN0
  have HN := Lib.hid hN1
  clear hN0 hN1
  go_wp2_with fail
  refine (cas_ok HN.out 0 0 5 (by decide)).mono ?_
  rintro e w2 ⟨rfl, hN2, hu2⟩
  have hN2 : NodeR w2 (New w w1) p [5, 0, 0, 0, 0, 0, 0, 0] true := hN2
  have HN2 := Lib.hid hN2
  clear hN2
  go_wp2_with fail
  refine (cas_ok HN2.out 0 0 6 (by decide)).mono ?_
  rintro e w3 ⟨rfl, hN3, hu3⟩
  have hN3 : NodeR w3 (New w w1) p [5, 0, 0, 0, 0, 0, 0, 0] true := hN3
  have HN3 := Lib.hid hN3
  clear hN3
  go_wp2_with fail
  refine (read_ok HN3.out 0 1 (by decide)).mono ?_
  rintro e w4 ⟨v, rfl, hO, hu4, hv⟩
  have hU : Upd Non w w4 := ((hu1.trans hu2 fun i hi h => absurd h.1 (by omega)).trans hu3 fun i hi h => absurd h.1 (by omega)).tr hu4
  have hN4 := HN3.out.keep hu4 (fun _ _ h => h)
  obtain ⟨A, cap, rfl, hA, hV⟩ := hO.shape
  obtain ⟨b, off, rfl, _, _, hc⟩ := hV.cell (i := 0) (v := .int .u64 5) rfl
  have hc : w4.cell? ⟨b, off, none⟩ = some (.int .u64 5) := hc
  have HN4 := Lib.hid hN4
  have HU := Lib.hid hU
  clear hu1 hu2 hu3 hu4 hU hN4 hO hA hV hv
  go_wp2_with (first
    | (go_at_call 55; refine (up_calls HN4.out).mono ?_; rintro e w' ⟨rfl, rfl⟩)
    | (go_at_call 77; refine (lines_calls HN4.out).mono ?_; rintro e w' ⟨rfl, rfl⟩))
  go_ret
  exact ⟨rfl, HU.out⟩
end Go.Proofs.Ytlhbikiggmdolaa
