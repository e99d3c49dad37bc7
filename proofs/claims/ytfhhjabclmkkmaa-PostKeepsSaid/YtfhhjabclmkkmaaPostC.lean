/- Contracts of the post: is, cut, Push, Fetch, Ack. -/
import Derived.Test.YtfhhjabclmkkmaaPostW
import Derived.Deep.LoopGhost
namespace Go.Proofs.Ytfhhjabclmkkmaa
open Go.RowKit Go.Proofs

theorem PostAt.cells {w : World} {L : PLay} {p : PSt} (h : PostAt w L p) : ∃ cs ca, w.cell? ⟨L.b, 0, none⟩ = some (.slice (some ⟨L.gs, 0, none⟩) p.n cs) ∧ w.cell? ⟨L.b, 1, none⟩ = some (.slice (some ⟨L.ga, 0, none⟩) p.n ca) ∧ p.n ≤ cs ∧ cs ≤ 2 ^ 63 - 1 ∧ p.n ≤ ca ∧ ca ≤ 2 ^ 63 - 1 := by
  obtain ⟨cs, ca, h1, h2, h3, h4, h5⟩ := h.head
  exact ⟨cs, ca, h1.cell 0 rfl, h1.cell 1 rfl, h2, h3, h4, h5⟩
theorem PostAt.ptr {w : World} {L : PLay} {p : PSt} (h : PostAt w L p) (i : Nat) (hi : i < p.n) : w.cell? ⟨L.gs, i, none⟩ = some (.pointer (some ⟨L.bs i, 0, none⟩)) := by
  obtain ⟨cur, fr, h3, h4⟩ := h.ptrs
  rw [cell_of_row w _ i _ _ _ h3]
  exact h4 i hi
theorem PostAt.ack_at {w : World} {L : PLay} {p : PSt} (h : PostAt w L p) (i s : Nat) (hi : i < p.n) (hs : s < 5) : w.cell? ⟨L.ga, i * 5 + s, none⟩ = some (.int .i64 ((p.ack i).get s)) :=
  h.acks.cell _ (ackCells_at _ _ i s hi hs)

/-- There is such a replica. -/
def isB (r : Int) (n : Nat) : Bool := decide (0 ≤ r ∧ r < n)
theorem isB_yes {r : Int} {n : Nat} (h : 0 ≤ r ∧ r < n) : isB r n = true := by unfold isB; rw [decide_eq_true_iff]; exact h
theorem isB_no {r : Int} {n : Nat} (h : ¬ (0 ≤ r ∧ r < n)) : isB r n = false := by unfold isB; rw [decide_eq_false_iff_not]; exact h

theorem is_any (r : Int) (w : World) (L : PLay) (p : PSt) (h : PostAt w L p) :
    Calls Try.prog 31 #[.pointer (some ⟨L.b, 0, none⟩), .int .i64 r] w fun e w' => e = .returned (.bool (isB r p.n)) ∧ w = w' := by
  obtain ⟨cs, ca, d0, -, hc1, hc2, -⟩ := h.cells
  have hp := h.pos
  clear h
  by_cases h0 : 0 ≤ r
  · have g0 : decide (0 ≤ r) = true := by simpa using h0
    by_cases h1 : r < p.n
    · have hb := Lib.hid (isB_yes ⟨h0, h1⟩)
      go_enter Try.func31, Try.ntmps31
      go_wp2
      go_ret
      exact ⟨by rw [hb.out]; rfl, rfl⟩
    · have hb := Lib.hid (isB_no (r := r) (n := p.n) (by omega))
      go_enter Try.func31, Try.ntmps31
      go_wp2
      go_ret
      exact ⟨by rw [hb.out]; rfl, rfl⟩
  · have g0 : decide (0 ≤ r) = false := by simpa using h0
    have hb := Lib.hid (isB_no (r := r) (n := p.n) (by omega))
    go_enter Try.func31, Try.ntmps31
    go_wp2
    go_ret
    exact ⟨by rw [hb.out]; rfl, rfl⟩

set_option maxHeartbeats 1000000 in
theorem pcut_any (s : Nat) (w : World) (L : PLay) (p : PSt) (h : PostAt w L p) (hok : p.ok) (hs : s < p.n) :
    Calls Try.prog 34 #[.pointer (some ⟨L.b, 0, none⟩), .int .i64 (s : Int)] w fun e w' => e = .returned (.tuple #[]) ∧ PostAt w' L (p.cut s) ∧ Keep (oneb (L.bs s)) w w' := by
  obtain ⟨cs, ca, d0, d1, hc1, hc2, hc3, hc4⟩ := h.cells
  have hp := h.pos
  have hs5 : s < 5 := by omega
  have a0 := h.ack_at 0 s (by omega) hs5
  rw [Nat.zero_mul, Nat.zero_add] at a0
  have i0 : (0 : Int) < (p.n : Int) := by omega
  have i1 : (0 : Int) ≤ (s : Int) := by omega
  have i2 : (s : Int) < 5 := by omega
  have i3 : (s : Int) < (p.n : Int) := by omega
  have H := Lib.hid h
  have HO := Lib.hid hok
  clear h hok
  go_enter Try.func34, Try.ntmps34
  go_wp2
  go_loopg [4, 6, 20] p.n (fun gg s4 _ s20 wr => ∃ kk : Nat, kk ≤ p.n ∧ p.n - kk ≤ gg ∧ s20 = .int .i64 kk ∧ s4 = .int .i64 (leastK p.ack s kk) ∧ Hid (Keep nob w wr))
  case atStart => exact ⟨0, Nat.zero_le _, by omega, rfl, rfl, Keep.refl _ w⟩
  case round =>
    obtain ⟨kk, hkk, hg, rfl, rfl, BW⟩ := hrel
    by_cases hlt : kk < p.n
    · have hltz : (kk : Int) < (p.n : Int) := by omega
      have hk0 : (0 : Int) ≤ (kk : Int) := by omega
      have c0 := BW.out.cell0 (H.out.ack_at kk 0 hlt (by omega))
      have c1 := BW.out.cell0 (H.out.ack_at kk 1 hlt (by omega))
      have c2 := BW.out.cell0 (H.out.ack_at kk 2 hlt (by omega))
      have c3 := BW.out.cell0 (H.out.ack_at kk 3 hlt (by omega))
      have c4 := BW.out.cell0 (H.out.ack_at kk 4 hlt (by omega))
      rw [Nat.add_zero] at c0
      have e5 : ([Value.int .i64 ((p.ack kk).get 0), .int .i64 ((p.ack kk).get 1), .int .i64 ((p.ack kk).get 2), .int .i64 ((p.ack kk).get 3), .int .i64 ((p.ack kk).get 4)] : List Value)[s]'(by simp; omega) = .int .i64 ((p.ack kk).get s) := by
        have := Clk.cells_at (p.ack kk) s hs5
        rw [List.getElem?_eq_getElem (by simp [Clk.cells]; omega)] at this
        exact Option.some.inj this
      by_cases hm : (p.ack kk).get s < leastK p.ack s kk
      · have hle : leastK p.ack s (kk + 1) = (p.ack kk).get s := by show min _ _ = _; omega
        have HL := Lib.hid hle
        clear hle
        go_wp2
        go_roundg (p.n - (kk + 1))
        case measure => omega
        case rel => exact ⟨kk + 1, by omega, by omega, by go_num, by rw [HL.out], Keep.alloc BW.out _⟩
      · have hle : leastK p.ack s (kk + 1) = leastK p.ack s kk := by show min _ _ = _; omega
        have HL := Lib.hid hle
        clear hle
        go_wp2
        go_roundg (p.n - (kk + 1))
        case measure => omega
        case rel => exact ⟨kk + 1, by omega, by omega, by go_num, by rw [HL.out], Keep.alloc BW.out _⟩
    · obtain rfl : kk = p.n := by omega
      have hltz : ¬ (p.n : Int) < (p.n : Int) := by omega
      have d2 := BW.out.cell0 d0
      have d3 := BW.out.cell0 (H.out.ptr s hs)
      clear d0 d1 a0
      have hcut := cut_any (L.bs s) p.most (p.base s) (leastK p.ack s p.n) (p.kept s) wr ((H.out.keep0 BW.out).shelf s hs) (HO.out s hs).1 (by have := (HO.out s hs).2; omega)
      have HC := Lib.hid hcut
      clear hcut
      go_wp2_with (go_at_call 13; refine (unhide HC).mono ?_; rintro e w2 ⟨rfl, hs2, hk2⟩)
      refine bodyPost_end (results_none rfl _ _ _) rfl ⟨rfl, (H.out.keep0 BW.out).setShelf hs hk2 hs2, BW.out.all.trans hk2⟩
end Go.Proofs.Ytfhhjabclmkkmaa
