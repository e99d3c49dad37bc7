/- Contract of the post's Fetch. -/
import Derived.Test.YtfhhjabclmkkmaaPostD
import Derived.Test.YtfhhjabclmkkmaaApp
namespace Go.Proofs.Ytfhhjabclmkkmaa
open Go.RowKit Go.Proofs

theorem fetchK_len (base : Nat → Int) (kept : Nat → List Ev) (n M : Nat) (h : ∀ i, i < n → (kept i).length ≤ M) (r : Nat) (c : Clk) (k : Nat) (hk : k ≤ n) : (fetchK base kept r c k).length ≤ k * M := by
  induction k with
  | zero => simp [fetchK]
  | succ k ih =>
    have := h k (by omega)
    have ih := ih (by omega)
    rw [fetchK, List.length_append, Nat.succ_mul]
    split
    · simp; omega
    · unfold above
      rw [List.length_drop]
      omega
theorem fetchK_self (base : Nat → Int) (kept : Nat → List Ev) (r : Nat) (c : Clk) : fetchK base kept r c (r + 1) = fetchK base kept r c r := by
  rw [fetchK, if_pos rfl, List.append_nil]
theorem fetchK_other (base : Nat → Int) (kept : Nat → List Ev) (r : Nat) (c : Clk) (k : Nat) (h : k ≠ r) : fetchK base kept r c (k + 1) = fetchK base kept r c k ++ above (c.get k) (kept k) := by
  rw [fetchK, if_neg h]

set_option maxHeartbeats 2000000 in
theorem fetch_any (r : Nat) (c : Clk) (w : World) (L : PLay) (p : PSt) (h : PostAt w L p) (hok : p.ok) (hr : r < p.n) :
    Calls Try.prog 26 #[.pointer (some ⟨L.b, 0, none⟩), .int .i64 (r : Int), Clk.agg c] w fun e w' => (∃ v, e = .returned (.tuple #[v, .int .i64 0]) ∧ EvSl w' v (fetchK p.base p.kept r c p.n)) ∧ Keep nob w w' := by
  have his := fun W (hW : Keep nob w W) => is_any r W L p (h.keep0 hW)
  rw [isB_yes ⟨by omega, by omega⟩] at his
  obtain ⟨cs, ca, d0, -, hc1, hc2, -⟩ := h.cells
  have hpt := fun W (hW : Keep nob w W) k hk => hW.cell0 (h.ptr k hk)
  have hfr := fun W (hW : Keep nob w W) k hk (z : Int) => from_any (L.bs k) p.most (p.base k) z (p.kept k) W ((h.keep0 hW).shelf k hk) (by have := (hok k hk).2.2; omega)
  have HI := Lib.hid his
  have HP := Lib.hid hpt
  have HF := Lib.hid hfr
  have HO := Lib.hid hok
  have hp5 := h.pos
  have hbl : L.b < w.heap.size := World.block_lt_of_cell? w ⟨L.b, 0, none⟩ d0
  clear h hok his hpt hfr
  simp only [Clk.agg, Clk.cells]
  go_enter Try.func26, Try.ntmps26
  go_wp2_with fail
  refine (HI.out _ (Keep.alloc (Keep.refl _ _) _)).mono ?_
  rintro e w1 ⟨rfl, rfl⟩
  have k1 : Keep nob w (w.alloc (.cells #[.int .i64 c.c0, .int .i64 c.c1, .int .i64 c.c2, .int .i64 c.c3, .int .i64 c.c4] 40)) := Keep.alloc (Keep.refl _ _) _
  have B1 : Blk (w.alloc (.cells #[.int .i64 c.c0, .int .i64 c.c1, .int .i64 c.c2, .int .i64 c.c3, .int .i64 c.c4] 40)) w.heap.size 40 c.cells := Blk.new w _ _
  have d1 := k1.cell0 d0
  generalize (w.alloc (.cells #[.int .i64 c.c0, .int .i64 c.c1, .int .i64 c.c2, .int .i64 c.c3, .int .i64 c.c4] 40)) = w1 at *
  have K1 := Lib.hid k1
  have HB := Lib.hid B1
  clear k1 B1 d0
  go_wp2
  go_loopg [9, 10, 11, 21] p.n (fun gg s9 _ _ s21 wr => ∃ kk : Nat, kk ≤ p.n ∧ p.n - kk ≤ gg ∧ s21 = .int .i64 kk ∧ wr.ownsRow w1.heap.size 62 12 s9 (fetchK p.base p.kept r c kk).length (evs (fetchK p.base p.kept r c kk)) ∧ Hid (Keep nob w1 wr))
  case atStart => exact ⟨0, Nat.zero_le _, by omega, rfl, World.ownsRow_nil _ _ _ _, Keep.refl _ _⟩
  case round =>
    obtain ⟨kk, hkk, hg, rfl, hown, BW⟩ := hrel
    by_cases hlt : kk < p.n
    · have hltz : (kk : Int) < (p.n : Int) := by omega
      have hk0 : (0 : Int) ≤ (kk : Int) := by omega
      have hk5 : (kk : Int) < 5 := by omega
      have K2 := K1.out.trans BW.out
      have q := HP.out _ K2 kk hlt
      have qc := ((HB.out.keep0 BW.out).cell kk (Clk.cells_at c kk (by omega)))
      have hcall := HF.out _ K2 kk hlt (c.get kk)
      clear K2
      by_cases he : kk = r
      · subst he
        go_wp2
        go_roundg (p.n - (kk + 1))
        case measure => omega
        case rel => exact ⟨kk + 1, by omega, by omega, by go_num, by rw [fetchK_self]; exact hown, BW⟩
      · have hne : ((kk : Int) != (r : Int)) = true := by rw [bne_iff_ne]; omega
        have hlen : (fetchK p.base p.kept r c kk).length + (above (c.get kk) (p.kept kk)).length ≤ 1048576 := by
          have h1 := fetchK_len p.base p.kept p.n 65536 (fun i hi => (HO.out i hi).2.2) r c kk hkk
          have h2 := (HO.out kk hlt).2.2
          unfold above
          rw [List.length_drop]
          omega
        have hfk := fetchK_other p.base p.kept r c kk he
        have HFK := Lib.hid hfk
        have HLN := Lib.hid hlen
        have HOW := Lib.hid hown
        clear hfk hlen hown
        go_wp2_with fail
        refine hcall.mono ?_
        rintro e w2 ⟨v2, rfl, hown2, k2⟩
        have hsz := BW.out.size
        have hsz2 := k2.size
        have hev := EvSl.of_own hown2
        have B2 := Lib.hid (BW.out.trans k2)
        have hown3 : w2.ownsRow w1.heap.size 62 12 u9 (fetchK p.base p.kept r c kk).length (evs (fetchK p.base p.kept r c kk)) := by
          have := HOW.out
          rcases this.2 with h | ⟨g, cap, cur, hv, hg, hh, h1⟩
          · exact ⟨this.1, .inl h⟩
          · exact ⟨this.1, .inr ⟨g, cap, cur, hv, hg, k2.heap (fun hf => hf) hh, h1⟩⟩
        have HO3 := Lib.hid hown3
        have HE := Lib.hid hev
        clear hown3 hev hown2 k2 HOW BW
        go_wp2_with (at_builtin; refine wpList_append_evs rfl (.tmp 29) (.tmp 35) rfl w1.heap.size _ _ rfl HO3.out _ _ rfl HE.out HLN.out (by omega) ?_; intro v3 w3 hown4 k3)
        have B3 := Lib.hid (B2.out.own rfl k3)
        rw [← HFK.out] at hown4
        have H4 := Lib.hid hown4
        clear hown4 k3 B2 HE HO3
        go_wp2
        go_roundg (p.n - (kk + 1))
        case measure => omega
        case rel => exact ⟨kk + 1, by omega, by omega, by go_num, H4.out, B3⟩
    · obtain rfl : kk = p.n := by omega
      have hltz : ¬ (p.n : Int) < (p.n : Int) := by omega
      have hev := EvSl.of_own hown
      have HE := Lib.hid hev
      clear hown hev
      go_wp2
      go_ret2
      exact ⟨⟨_, rfl, HE.out⟩, K1.out.trans BW.out⟩
end Go.Proofs.Ytfhhjabclmkkmaa
