/- Layer 15's second statement: the walk of ShelfCuts. -/
import Derived.Test.YtieaibfojogaiaaLaw15
namespace Go.Proofs.Ytieaibfojogaiaa
open Go.RowKit Go.Proofs

set_option maxHeartbeats 4000000 in
theorem shelfCuts_any (n cut x0 x1 : Int) (w : World) (hn : 0 ≤ n ∧ n < 256) (hc : 0 ≤ cut ∧ cut < 256) :
    Calls Try.prog 4 #[.int .u8 n, .int .u8 cut, .agg #[.int .i64 x0, .int .i64 x1]] w fun e w' => e = .returned (.bool true) ∧ Keep nob w w' := by
  obtain ⟨p, hp, hp16⟩ : ∃ p : Nat, n.tmod 16 = p ∧ p < 16 := ⟨(n.tmod 16).toNat, by rw [Int.tmod_eq_emod_of_nonneg hn.1]; omega, by rw [Int.tmod_eq_emod_of_nonneg hn.1]; omega⟩
  obtain ⟨m, hm, hm1, hm16⟩ : ∃ m : Nat, (1 : Int) + (p : Int) = m ∧ 1 ≤ m ∧ m ≤ 16 := ⟨p + 1, by omega, by omega, by omega⟩
  obtain ⟨k, hk, hkm⟩ : ∃ k : Nat, cut.tmod ((m : Int) + 1) = k ∧ k ≤ m := ⟨(cut.tmod ((m : Int) + 1)).toNat, by
    rw [Int.tmod_eq_emod_of_nonneg hc.1]; have := Int.emod_nonneg cut (show (m : Int) + 1 ≠ 0 by omega); omega, by
    rw [Int.tmod_eq_emod_of_nonneg hc.1]; have := Int.emod_lt_of_pos cut (show 0 < (m : Int) + 1 by omega); omega⟩
  go_enter Try.func4, Try.ntmps4
  go_wp2_with fail
  refine (shown15 _).mono ?_
  rintro e w0 ⟨rfl, k0⟩
  have X0 : w0.cell? ⟨w.heap.size, 0, none⟩ = some (.int .i64 x0) := k0.cell0 (by simp)
  have X1 : w0.cell? ⟨w.heap.size, 1, none⟩ = some (.int .i64 x1) := k0.cell0 (by simp)
  have kk : Keep nob w w0 := ((Keep.refl _ _).alloc _).trans k0
  have HX0 := Lib.hid X0
  have HX1 := Lib.hid X1
  have HK := Lib.hid kk
  clear X0 X1 kk k0
  go_wp2_with fail
  refine (new_any m w0).mono ?_
  rintro e w1 ⟨rfl, hs1, hk1⟩
  have S1 : ShRow w0 w0.heap.size m 0 0 w1 := ⟨hk1, Nat.le_refl _, hs1⟩
  clear hs1 hk1
  obtain ⟨b, hb⟩ : ∃ b, b = w0.heap.size := ⟨_, rfl⟩
  rw [← hb] at S1 ⊢
  clear hb
  go_wp2_with fail
  refine (row15_sl 1 m m (by omega) _ (by omega) (by omega) (by omega)).mono ?_
  rintro e w2 ⟨v, rfl, hv, hk'⟩
  have S2 := S1.more hk'
  clear S1 hk'
  go_wp2_with fail
  refine (put_row_any (a := 1) (k := m) S2 hv (by omega) (by omega) (by omega)).mono ?_
  rintro e w3 ⟨he, S3⟩
  rw [show putRE m 0 0 1 m = 0 from by unfold putRE; rw [if_neg (by omega), if_neg (by omega)]] at he
  rw [show putRN m 0 0 1 m = m from by unfold putRN; rw [if_neg (by omega), if_neg (by omega)]; omega] at S3
  subst he
  clear S2 hv
  go_wp2_with fail
  refine (row15_sl _ _ 1 (by omega) _ (by omega) (by omega) (by omega)).mono ?_
  rintro e w4 ⟨v2, rfl, hv, hk'⟩
  have S4 := S3.more hk'
  clear S3 hk'
  go_wp2_with fail
  refine (put_row_any (a := m + 1) (k := 1) S4 hv (by omega) (by omega) (by omega)).mono ?_
  rintro e w5 ⟨he, S5⟩
  rw [show putRE m 0 m (m + 1) 1 = 21 from by unfold putRE; rw [if_neg (by omega), if_pos (by omega)]] at he
  rw [show putRN m 0 m (m + 1) 1 = m from by unfold putRN; rw [if_neg (by omega), if_pos (by omega)]] at S5
  subst he
  clear S4 hv
  go_wp2_with fail
  refine (cut_row_any S5 (by omega)).mono ?_
  rintro e w6 ⟨rfl, S6⟩
  rw [show max 0 (min (k : Int).toNat (0 + m)) = k from by omega, show 0 + m - k = m - k from by omega] at S6
  clear S5
  have hx0 := S6.keep.cell0 HX0.out
  by_cases h1 : (k : Int) < x0
  all_goals
    go_wp2_with fail
    refine (cut_row_any S6 (by omega)).mono ?_
    rintro e w7 ⟨rfl, S7⟩
    first
      | rw [show max k (min (k : Int).toNat (k + (m - k))) = k from by omega, show k + (m - k) - k = m - k from by omega] at S7
      | rw [show max k (min x0.toNat (k + (m - k))) = k from by omega, show k + (m - k) - k = m - k from by omega] at S7
    clear S6 hx0
    go_wp2_with fail
    refine (base_row_any (k : Int) S7 rfl).mono ?_
    rintro e w8 ⟨rfl, S8, -⟩
    clear S7
    go_wp2_with fail
    refine (len_row_any (m : Int) S8 (by omega) (by omega)).mono ?_
    rintro e w9 ⟨rfl, S9, -⟩
    clear S8
    go_wp2_with fail
    refine (row15_sl _ _ k (by omega) _ (by omega) (by omega) (by omega)).mono ?_
    rintro e w10 ⟨v3, rfl, hv, hk'⟩
    have S10 := S9.more hk'
    clear S9 hk'
    go_wp2_with fail
    refine (put_row_any (a := m + 1) (k := k) S10 hv (by omega) (by omega) (by omega)).mono ?_
    rintro e w11 ⟨he, S11⟩
    rw [show putRE m k (m - k) (m + 1) k = 0 from by unfold putRE; split; rfl; rw [if_neg (by omega)]] at he
    rw [show putRN m k (m - k) (m + 1) k = m from by unfold putRN; split; omega; rw [if_neg (by omega)]; omega] at S11
    subst he
    clear S10 hv
    go_wp2_with fail
    refine (row15_sl _ _ 1 (by omega) _ (by omega) (by omega) (by omega)).mono ?_
    rintro e w12 ⟨v4, rfl, hv, hk'⟩
    have S12 := S11.more hk'
    clear S11 hk'
    go_wp2_with fail
    refine (put_row_any (a := m + k + 1) (k := 1) S12 hv (by omega) (by omega) (by omega)).mono ?_
    rintro e w13 ⟨he, S13⟩
    rw [show putRE m k m (m + k + 1) 1 = 21 from by unfold putRE; rw [if_neg (by omega), if_pos (by omega)]] at he
    rw [show putRN m k m (m + k + 1) 1 = m from by unfold putRN; rw [if_neg (by omega), if_pos (by omega)]] at S13
    subst he
    clear S12 hv
    have hx1 := S13.keep.cell0 HX1.out
    go_wp2_with fail
  all_goals
    refine (cut_row_any S13 (by omega)).mono ?_
    rintro e w14 ⟨rfl, S14⟩
    first
      | rw [show max k (min ((m : Int) + (k : Int)).toNat (k + m)) = m + k from by omega, show k + m - (m + k) = 0 from by omega] at S14
      | rw [show max k (min x1.toNat (k + m)) = m + k from by omega, show k + m - (m + k) = 0 from by omega] at S14
    clear S13 hx1
    go_wp2_with fail
    refine (base_row_any ((m : Int) + (k : Int)) S14 (by omega)).mono ?_
    rintro e w15 ⟨rfl, S15, -⟩
    clear S14
    go_wp2_with fail
    refine (len_row_any ((m : Int) + (k : Int)) S15 (by omega) (by omega)).mono ?_
    rintro e w16 ⟨rfl, S16, -⟩
    clear S15
    go_wp2_with fail
    refine (from_row_any (c := 0) S16 (by omega)).mono ?_
    rintro e w17 ⟨v5, rfl, hv, S17⟩
    rw [show m + k + 0 - max (m + k) (min (0 : Int).toNat (m + k + 0)) = 0 from by omega] at hv
    obtain ⟨A, c, rfl, -⟩ := hv.form
    clear S16 hv
    go_wp2
    go_ret
    exact ⟨rfl, HK.out.trans S17.keep⟩
end Go.Proofs.Ytieaibfojogaiaa
