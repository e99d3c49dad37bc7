/- Contract of the post's Ack. -/
import Derived.Test.YtfhhjabclmkkmaaPostD
import Derived.Deep.RegionHeld3
import Derived.RegionTactic
import Derived.Deep.DeepCutAuto
namespace Go.Proofs.Ytfhhjabclmkkmaa
open Go.RowKit Go.Proofs

set_option maxHeartbeats 4000000 in
theorem ack_any (r : Nat) (c : Clk) (w : World) (L : PLay) (p : PSt) (h : PostAt w L p) (hok : p.ok) (hr : r < p.n) :
    Calls Try.prog 24 #[.pointer (some ⟨L.b, 0, none⟩), .int .i64 (r : Int), Clk.agg c] w fun e w' => e = .returned (.int .i64 0) ∧ PostAt w' L (p.told r c) ∧ Keep (L.foot p.n) w w' := by
  have his := fun W (hW : Keep nob w W) => is_any r W L p (h.keep0 hW)
  rw [isB_yes ⟨by omega, by omega⟩] at his
  obtain ⟨cs, ca, d0, d1, hc1, hc2, hc3, hc4⟩ := h.cells
  have HI := Lib.hid his
  have H := Lib.hid h
  have HO := Lib.hid hok
  have hp5 := h.pos
  have hbl : L.b < w.heap.size := World.block_lt_of_cell? w ⟨L.b, 0, none⟩ d0
  have i1 : (0 : Int) ≤ (r : Int) := by omega
  have i3 : (r : Int) < (p.n : Int) := by omega
  have hj := fun W => join_any (p.ack r) c W
  simp only [Clk.agg, Clk.cells] at hj
  clear h hok his
  simp only [Clk.agg, Clk.cells]
  go_enter Try.func24, Try.ntmps24
  go_wp2_with fail
  refine (HI.out _ (Keep.alloc (Keep.refl _ _) _)).mono ?_
  rintro e w1 ⟨rfl, rfl⟩
  have k1 : Keep nob w (w.alloc (.cells #[.int .i64 c.c0, .int .i64 c.c1, .int .i64 c.c2, .int .i64 c.c3, .int .i64 c.c4] 40)) := Keep.alloc (Keep.refl _ _) _
  have B1 : Blk (w.alloc (.cells #[.int .i64 c.c0, .int .i64 c.c1, .int .i64 c.c2, .int .i64 c.c3, .int .i64 c.c4] 40)) w.heap.size 40 c.cells := Blk.new w _ _
  have d1' := k1.cell0 d1
  have d0' := k1.cell0 d0
  generalize (w.alloc (.cells #[.int .i64 c.c0, .int .i64 c.c1, .int .i64 c.c2, .int .i64 c.c3, .int .i64 c.c4] 40)) = w1 at *
  have P1 := H.out.keep0 k1
  have x0 := B1.cell 0 (Clk.cells_at c 0 (by omega))
  have x1 := B1.cell 1 (Clk.cells_at c 1 (by omega))
  have x2 := B1.cell 2 (Clk.cells_at c 2 (by omega))
  have x3 := B1.cell 3 (Clk.cells_at c 3 (by omega))
  have x4 := B1.cell 4 (Clk.cells_at c 4 (by omega))
  have y0 := P1.ack_at r 0 hr (by omega)
  have y1 := P1.ack_at r 1 hr (by omega)
  have y2 := P1.ack_at r 2 hr (by omega)
  have y3 := P1.ack_at r 3 hr (by omega)
  have y4 := P1.ack_at r 4 hr (by omega)
  rw [Nat.add_zero] at y0
  simp only [Clk.get] at x0 x1 x2 x3 x4 y0 y1 y2 y3 y4
  have fz : ∀ W, Keep nob w1 W → ∀ i, W.frozen? ⟨L.ga, i, none⟩ = false := fun W hW i => (P1.acks.keep0 hW).frozen i
  have FZ := Lib.hid fz
  have K1 := Lib.hid k1
  have HP1 := Lib.hid P1
  clear k1 B1 d0 d1 fz P1
  go_upto_region 3 with fail
  go_cut [] (fun wx => Hid (PostAt wx L { p with ack := upd p.ack r (join (p.ack r) c) }) ∧ Hid (Keep (L.foot p.n) w wx))
  case first =>
    go_region_with ((go_at_call 35; refine (hj _).mono ?_; rintro e w2 ⟨rfl, k2⟩; have k3 := ((Keep.refl nob w1).drew).trans k2; have q1 := k3.cell0 d1'; have f0 := FZ.out _ k3 (r * 5); have f1 := FZ.out _ k3 (r * 5 + 1); have f2 := FZ.out _ k3 (r * 5 + 2); have f3 := FZ.out _ k3 (r * 5 + 3); have f4 := FZ.out _ k3 (r * 5 + 4); have K3 := Lib.hid k3; clear k2 k3; have z0 := K3.out.cell0 y0; have z1 := K3.out.cell0 y1; have z2 := K3.out.cell0 y2; have z3 := K3.out.cell0 y3; have z4 := K3.out.cell0 y4))
    all_goals
      go_wp2_with fail
      go_meet
      have kk : Keep (oneb L.ga) w2 (((((w2.setCell ⟨L.ga, r * 5, none⟩ (.int .i64 (join (p.ack r) c).c0)).setCell ⟨L.ga, r * 5 + 1, none⟩ (.int .i64 (join (p.ack r) c).c1)).setCell ⟨L.ga, r * 5 + 2, none⟩ (.int .i64 (join (p.ack r) c).c2)).setCell ⟨L.ga, r * 5 + 3, none⟩ (.int .i64 (join (p.ack r) c).c3)).setCell ⟨L.ga, r * 5 + 4, none⟩ (.int .i64 (join (p.ack r) c).c4)) :=
        (((((Keep.refl (oneb L.ga) w2).setCell (p := ⟨L.ga, r * 5, none⟩) (.inr rfl) _).setCell (p := ⟨L.ga, r * 5 + 1, none⟩) (.inr rfl) _).setCell (p := ⟨L.ga, r * 5 + 2, none⟩) (.inr rfl) _).setCell (p := ⟨L.ga, r * 5 + 3, none⟩) (.inr rfl) _).setCell (p := ⟨L.ga, r * 5 + 4, none⟩) (.inr rfl) _
      refine ⟨(HP1.out.keep0 K3.out).setAck kk ?_, (K1.out.all.trans K3.out.all).trans (kk.mono (T := L.foot p.n) (fun j hj => .inl hj))⟩
      have := ((((((HP1.out.keep0 K3.out).acks.set (r * 5) (.int .i64 (join (p.ack r) c).c0)).set (r * 5 + 1) (.int .i64 (join (p.ack r) c).c1)).set (r * 5 + 2) (.int .i64 (join (p.ack r) c).c2)).set (r * 5 + 3) (.int .i64 (join (p.ack r) c).c3)).set (r * 5 + 4) (.int .i64 (join (p.ack r) c).c4))
      rw [ackCells_set p.n p.ack r (join (p.ack r) c) hr] at this
      exact this
  case rest =>
    obtain ⟨P2, K2⟩ := hcut
    have hn : ({ p with ack := upd p.ack r (join (p.ack r) c) } : PSt).n = p.n := rfl
    have hq : ({ p with ack := upd p.ack r (join (p.ack r) c) } : PSt).ok := HO.out
    have ht : p.told r c = ({ p with ack := upd p.ack r (join (p.ack r) c) } : PSt).cuts p.n := rfl
    have HT := Lib.hid ht
    clear ht
    generalize ({ p with ack := upd p.ack r (join (p.ack r) c) } : PSt) = q at *
    obtain ⟨cs3, ca3, g0, -, hd1, hd2, -⟩ := P2.out.cells
    rw [hn] at g0 hd1
    have HN := Lib.hid hn
    have HQ := Lib.hid hq
    clear hn hq
    clear x0 x1 x2 x3 x4 y0 y1 y2 y3 y4 hj FZ HI d1' d0' K1 HP1
    go_wp2
    go_loopg [7, 32] p.n (fun gg _ s32 wr => ∃ kk : Nat, kk ≤ p.n ∧ p.n - kk ≤ gg ∧ s32 = .int .i64 kk ∧ Hid (PostAt wr L (q.cuts kk)) ∧ Hid (Keep (L.foot p.n) w wr))
    case atStart => exact ⟨0, Nat.zero_le _, by omega, rfl, P2, K2⟩
    case round =>
      obtain ⟨kk, hkk, hg, rfl, P3, K3⟩ := hrel
      by_cases hlt : kk < p.n
      · have hltz : (kk : Int) < (p.n : Int) := by omega
        have hcut := pcut_any kk wr L (q.cuts kk) P3.out (PSt.cuts_ok HQ.out kk) (by rw [PSt.cuts_n, HN.out]; exact hlt)
        have HC := Lib.hid hcut
        clear hcut
        go_wp2_with fail
        refine HC.out.mono ?_
        rintro e w2 ⟨rfl, P4, k4⟩
        have P4' : Hid (PostAt w2 L (q.cuts (kk + 1))) := P4
        have K4 := Lib.hid (K3.out.trans (k4.mono (T := L.foot p.n) (fun j hj => .inr ⟨kk, hlt, hj⟩)))
        clear P4 k4 HC
        go_wp2
        go_roundg (p.n - (kk + 1))
        case measure => omega
        case rel => exact ⟨kk + 1, by omega, by omega, by go_num, P4', K4⟩
      · obtain rfl : kk = p.n := by omega
        have hltz : ¬ (p.n : Int) < (p.n : Int) := by omega
        go_wp2
        go_ret
        refine ⟨rfl, ?_, K3.out⟩
        rw [HT.out]
        exact P3.out

theorem ack_no_any (r : Int) (c : Clk) (w : World) (L : PLay) (p : PSt) (h : PostAt w L p) (hr : ¬ (0 ≤ r ∧ r < p.n)) :
    Calls Try.prog 24 #[.pointer (some ⟨L.b, 0, none⟩), .int .i64 r, Clk.agg c] w fun e w' => e = .returned (.int .i64 23) ∧ Keep nob w w' := by
  have his := fun W (hW : Keep nob w W) => is_any r W L p (h.keep0 hW)
  rw [isB_no hr] at his
  have HI := Lib.hid his
  clear h his
  simp only [Clk.agg, Clk.cells]
  go_enter Try.func24, Try.ntmps24
  go_wp2_with fail
  refine (HI.out _ (Keep.alloc (Keep.refl _ _) _)).mono ?_
  rintro e w1 ⟨rfl, rfl⟩
  go_wp2
  go_ret
  exact ⟨rfl, Keep.alloc (Keep.refl _ _) _⟩

theorem fetch_no_any (r : Int) (c : Clk) (w : World) (L : PLay) (p : PSt) (h : PostAt w L p) (hr : ¬ (0 ≤ r ∧ r < p.n)) :
    Calls Try.prog 26 #[.pointer (some ⟨L.b, 0, none⟩), .int .i64 r, Clk.agg c] w fun e w' => e = .returned (.tuple #[.slice none 0 0, .int .i64 23]) ∧ Keep nob w w' := by
  have his := fun W (hW : Keep nob w W) => is_any r W L p (h.keep0 hW)
  rw [isB_no hr] at his
  have HI := Lib.hid his
  clear h his
  simp only [Clk.agg, Clk.cells]
  go_enter Try.func26, Try.ntmps26
  go_wp2_with fail
  refine (HI.out _ (Keep.alloc (Keep.refl _ _) _)).mono ?_
  rintro e w1 ⟨rfl, rfl⟩
  go_wp2
  go_ret2
  exact ⟨rfl, Keep.alloc (Keep.refl _ _) _⟩
end Go.Proofs.Ytfhhjabclmkkmaa
