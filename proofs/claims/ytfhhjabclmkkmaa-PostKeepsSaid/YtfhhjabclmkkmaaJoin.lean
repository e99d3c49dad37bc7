/- The join of two clocks: the program's and the reference's. -/
import Derived.Test.YtfhhjabclmkkmaaLib
namespace Go.Proofs.Ytfhhjabclmkkmaa
open Go.RowKit Go.Proofs

def Clk.agg (c : Clk) : Value := .agg c.cells.toArray
def join (a b : Clk) : Clk := ⟨max a.c0 b.c0, max a.c1 b.c1, max a.c2 b.c2, max a.c3 b.c3, max a.c4 b.c4⟩
/-- The first k places joined. -/
def joinK (a b : Clk) : Nat → Clk
  | 0 => a
  | 1 => ⟨max a.c0 b.c0, a.c1, a.c2, a.c3, a.c4⟩
  | 2 => ⟨max a.c0 b.c0, max a.c1 b.c1, a.c2, a.c3, a.c4⟩
  | 3 => ⟨max a.c0 b.c0, max a.c1 b.c1, max a.c2 b.c2, a.c3, a.c4⟩
  | 4 => ⟨max a.c0 b.c0, max a.c1 b.c1, max a.c2 b.c2, max a.c3 b.c3, a.c4⟩
  | _ => join a b

theorem joinK_step (a b : Clk) (k : Nat) (hk : k < 5) : (joinK a b k).cells.set k (.int .i64 (if (joinK a b k).get k < b.get k then b.get k else (joinK a b k).get k)) = (joinK a b (k + 1)).cells := by
  have hm : ∀ x y : Int, (if x < y then y else x) = max x y := fun x y => by split <;> omega
  rw [hm]
  match k, hk with
  | 0, _ => rfl
  | 1, _ => rfl
  | 2, _ => rfl
  | 3, _ => rfl
  | 4, _ => rfl
theorem Blk.step {w : World} {g : Nat} {t : TypeId} {cs cs' : List Value} (h : Blk w g t cs) (i : Nat) (v : Value) (n : Nat) (he : cs.set i v = cs') : Blk ((w.setCell ⟨g, i, none⟩ v).drewN n) g t cs' := by
  rw [← he]; exact (h.set i v).drewN n

set_option maxHeartbeats 1000000 in
theorem join_any (a b : Clk) (w : World) :
    Calls Try.prog 35 #[a.agg, b.agg] w fun e w' => e = .returned (join a b).agg ∧ Keep nob w w' := by
  simp only [Clk.agg, Clk.cells]
  go_enter Try.func35, Try.ntmps35
  go_wp2
  go_loopw [5, 6] (fun _ i wr => ∃ k : Nat, k ≤ 5 ∧ i = .int .i64 k ∧ Blk wr w.heap.size 40 (joinK a b k).cells ∧ Blk wr (w.heap.size + 1) 40 b.cells ∧ Blk wr (w.heap.size + 1 + 1) 40 Clk.zero.cells ∧ Hid (Keep nob w wr))
    (fun _ i _ => (5 - intOf i).toNat)
  case atStart =>
    refine ⟨0, Nat.zero_le _, rfl, ?_, ?_, ?_, ((((Keep.refl nob w).alloc _).alloc _).alloc _)⟩
    · exact ((Blk.new w _ a.cells).alloc _).alloc _
    · exact (show Blk ((w.alloc (.cells a.cells.toArray 40)).alloc (.cells b.cells.toArray 40)) (w.heap.size + 1) _ _ from by have := Blk.new (w.alloc (.cells a.cells.toArray 40)) 40 b.cells; rw [World.size_alloc] at this; exact this).alloc _
    · have := Blk.new ((w.alloc (.cells a.cells.toArray 40)).alloc (.cells b.cells.toArray 40)) 40 Clk.zero.cells
      rw [World.size_alloc, World.size_alloc] at this
      exact this
  case round =>
    obtain ⟨k, hk, rfl, b0, b1, b2, hk1⟩ := hrel
    by_cases hlt : k < 5
    · have hltz : (k : Int) < 5 := by omega
      have hk0 : (0 : Int) ≤ (k : Int) := by omega
      have d0 := b0.cell k (Clk.cells_at _ k hlt)
      have d1 := b1.cell k (Clk.cells_at _ k hlt)
      have f0 := b0.frozen k
      have B0 := Lib.hid b0
      have B1 := Lib.hid b1
      have B2 := Lib.hid b2
      clear b0 b1 b2
      go_wp2
      go_region
      all_goals
        go_wp2
        go_roundw
        case rel => exact ⟨k + 1, by omega, by go_num, Blk.step B0.out k _ 1 (joinK_step a b k hlt), (B1.out.far (p := ⟨w.heap.size, k, none⟩) (by simp) _).drew, (B2.out.far (p := ⟨w.heap.size, k, none⟩) (by simp; omega) _).drew, (Keep.setCell hk1.out (.inl (Nat.le_refl _)) _).drew⟩
        case measure => simp [intOf]; omega
    · obtain rfl : k = 5 := by omega
      have d0 := b0.cell 0 rfl
      have d1 := b0.cell 1 rfl
      have d2 := b0.cell 2 rfl
      have d3 := b0.cell 3 rfl
      have d4 := b0.cell 4 rfl
      have f0 := b2.frozen 0
      have f1 := b2.frozen 1
      have f2 := b2.frozen 2
      have f3 := b2.frozen 3
      have f4 := b2.frozen 4
      have g0 := b2.cell 0 rfl
      have g1 := b2.cell 1 rfl
      have g2 := b2.cell 2 rfl
      have g3 := b2.cell 3 rfl
      have g4 := b2.cell 4 rfl
      have B2 := Lib.hid b2
      clear b2 b0 b1
      go_wp2
      refine ret_blk (g := w.heap.size + 1 + 1) (cs := (join a b).cells) Try.results35 rfl (((((Blk.set B2.out 0 _).set 1 _).set 2 _).set 3 _).set 4 _) Try.underlying40 rfl (by kernel_rfl) rfl ⟨rfl, ?_⟩
      exact ((((Keep.setCell hk1.out (.inl (by simp; omega)) _).setCell (.inl (by simp; omega)) _).setCell (.inl (by simp; omega)) _).setCell (.inl (by simp; omega)) _).setCell (.inl (by simp; omega)) _

/-- The first k places of a join, behind them noughts. -/
def outK (a b : Clk) : Nat → Clk
  | 0 => Clk.zero
  | 1 => ⟨max a.c0 b.c0, 0, 0, 0, 0⟩
  | 2 => ⟨max a.c0 b.c0, max a.c1 b.c1, 0, 0, 0⟩
  | 3 => ⟨max a.c0 b.c0, max a.c1 b.c1, max a.c2 b.c2, 0, 0⟩
  | 4 => ⟨max a.c0 b.c0, max a.c1 b.c1, max a.c2 b.c2, max a.c3 b.c3, 0⟩
  | _ => join a b
theorem outK_step (a b : Clk) (k : Nat) (hk : k < 5) : (outK a b k).cells.set k (.int .i64 (if a.get k < b.get k then b.get k else a.get k)) = (outK a b (k + 1)).cells := by
  have hm : ∀ x y : Int, (if x < y then y else x) = max x y := fun x y => by split <;> omega
  rw [hm]
  match k, hk with
  | 0, _ => rfl
  | 1, _ => rfl
  | 2, _ => rfl
  | 3, _ => rfl
  | 4, _ => rfl

set_option maxHeartbeats 1000000 in
theorem joinR_any (a b : Clk) (w : World) :
    Calls Try.prog 25 #[a.agg, b.agg] w fun e w' => e = .returned (join a b).agg ∧ Keep nob w w' := by
  simp only [Clk.agg, Clk.cells]
  go_enter Try.func25, Try.ntmps25
  go_wp2
  go_loopw [6] (fun i wr => ∃ k : Nat, k ≤ 5 ∧ i = .int .i64 k ∧ Blk wr w.heap.size 40 a.cells ∧ Blk wr (w.heap.size + 1) 40 b.cells ∧ Blk wr (w.heap.size + 1 + 1) 40 Clk.zero.cells ∧ Blk wr (w.heap.size + 1 + 1 + 1) 40 (outK a b k).cells ∧ Hid (Keep nob w wr))
    (fun i _ => (5 - intOf i).toNat)
  case atStart =>
    refine ⟨0, Nat.zero_le _, rfl, ?_, ?_, ?_, ?_, (((((Keep.refl nob w).alloc _).alloc _).alloc _).alloc _)⟩
    · exact (((Blk.new w _ a.cells).alloc _).alloc _).alloc _
    · exact ((show Blk ((w.alloc (.cells a.cells.toArray 40)).alloc (.cells b.cells.toArray 40)) (w.heap.size + 1) _ _ from by have := Blk.new (w.alloc (.cells a.cells.toArray 40)) 40 b.cells; rw [World.size_alloc] at this; exact this).alloc _).alloc _
    · have := Blk.new ((w.alloc (.cells a.cells.toArray 40)).alloc (.cells b.cells.toArray 40)) 40 Clk.zero.cells
      rw [World.size_alloc, World.size_alloc] at this
      exact this.alloc _
    · have := Blk.new (((w.alloc (.cells a.cells.toArray 40)).alloc (.cells b.cells.toArray 40)).alloc (.cells Clk.zero.cells.toArray 40)) 40 Clk.zero.cells
      rw [World.size_alloc, World.size_alloc, World.size_alloc] at this
      exact this
  case round =>
    obtain ⟨k, hk, rfl, b0, b1, b2, b3, hk1⟩ := hrel
    by_cases hlt : k < 5
    · have hltz : (k : Int) < 5 := by omega
      have hk0 : (0 : Int) ≤ (k : Int) := by omega
      have d0 := b0.cell k (Clk.cells_at _ k hlt)
      have d1 := b1.cell k (Clk.cells_at _ k hlt)
      have d3 := b3.cell k (Clk.cells_at _ k hlt)
      have f3 := b3.frozen k
      have B0 := Lib.hid b0
      have B1 := Lib.hid b1
      have B2 := Lib.hid b2
      have B3 := Lib.hid b3
      clear b0 b1 b2 b3
      go_wp2
      go_region
      all_goals
        go_wp2
        go_roundw
        case rel => exact ⟨k + 1, by omega, by go_num, (B0.out.far (p := ⟨w.heap.size + 1 + 1 + 1, k, none⟩) (fun e => by simp at e <;> omega) _).drew, (B1.out.far (p := ⟨w.heap.size + 1 + 1 + 1, k, none⟩) (fun e => by simp at e <;> omega) _).drew, (B2.out.far (p := ⟨w.heap.size + 1 + 1 + 1, k, none⟩) (fun e => by simp at e <;> omega) _).drew, Blk.step B3.out k _ 1 (outK_step a b k hlt), (Keep.setCell hk1.out (.inl (by simp; omega)) _).drew⟩
        case measure => simp [intOf]; omega
    · obtain rfl : k = 5 := by omega
      have d0 := b3.cell 0 rfl
      have d1 := b3.cell 1 rfl
      have d2 := b3.cell 2 rfl
      have d3 := b3.cell 3 rfl
      have d4 := b3.cell 4 rfl
      have f0 := b2.frozen 0
      have f1 := b2.frozen 1
      have f2 := b2.frozen 2
      have f3 := b2.frozen 3
      have f4 := b2.frozen 4
      have g0 := b2.cell 0 rfl
      have g1 := b2.cell 1 rfl
      have g2 := b2.cell 2 rfl
      have g3 := b2.cell 3 rfl
      have g4 := b2.cell 4 rfl
      have B2 := Lib.hid b2
      clear b2 b0 b1 b3
      go_wp2
      refine ret_blk (g := w.heap.size + 1 + 1) (cs := (join a b).cells) Try.results25 rfl (((((Blk.set B2.out 0 _).set 1 _).set 2 _).set 3 _).set 4 _) Try.underlying40 rfl (by kernel_rfl) rfl ⟨rfl, ?_⟩
      exact ((((Keep.setCell hk1.out (.inl (by simp; omega)) _).setCell (.inl (by simp; omega)) _).setCell (.inl (by simp; omega)) _).setCell (.inl (by simp; omega)) _).setCell (.inl (by simp; omega)) _
end Go.Proofs.Ytfhhjabclmkkmaa
