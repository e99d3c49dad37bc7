/- Contract of the post's Site. -/
import Derived.Test.YtfhhjabclmkkmaaPostA
import Derived.Test.YtfhhjabclmkkmaaBig
import Derived.Great.Ranges
import Derived.Deep.CutBlock
namespace Go.Proofs.Ytfhhjabclmkkmaa
open Go.RowKit Go.Proofs

def clkOf (f : Nat → Int) : Clk := ⟨f 0, f 1, f 2, f 3, f 4⟩
theorem clkOf_get (f : Nat → Int) (k : Nat) (hk : k < 5) : (clkOf f).get k = f k := by
  match k, hk with
  | 0, _ => rfl
  | 1, _ => rfl
  | 2, _ => rfl
  | 3, _ => rfl
  | 4, _ => rfl

/-- What Site tells. -/
structure Site where
  b : Clk
  l : Clk
  a : Nat → Clk
def Site.cells (s : Site) : List Value := .bool true :: (s.b.cells ++ s.l.cells ++ ackCells 5 s.a)
def PSt.siteK (p : PSt) (k : Nat) : Site :=
  ⟨clkOf fun j => if j < k then p.base j else 0, clkOf fun j => if j < k then p.base j + (p.kept j).length else 0, fun j => if j < k then p.ack j else Clk.zero⟩
def PSt.site (p : PSt) : Site := p.siteK p.n
theorem Site.cells_length (s : Site) : s.cells.length = 36 := by
  unfold Site.cells
  rw [List.length_cons, List.length_append, List.length_append, ackCells_length]
  rfl
theorem PSt.siteK_step (p : PSt) (k : Nat) (hk : k < 5) :
    ((((((((p.siteK k).cells.set (1 + k) (.int .i64 (p.base k))).set (6 + k) (.int .i64 (p.base k + (p.kept k).length))).set (11 + k * 5) (.int .i64 (p.ack k).c0)).set (11 + k * 5 + 1) (.int .i64 (p.ack k).c1)).set (11 + k * 5 + 2) (.int .i64 (p.ack k).c2)).set (11 + k * 5 + 3) (.int .i64 (p.ack k).c3)).set (11 + k * 5 + 4) (.int .i64 (p.ack k).c4)) = (p.siteK (k + 1)).cells := by
  match k, hk with
  | 0, _ => rfl
  | 1, _ => rfl
  | 2, _ => rfl
  | 3, _ => rfl
  | 4, _ => rfl

theorem Site.one (s : Site) : ∀ v ∈ s.cells, v.oneCell' = true := by
  intro v hv
  unfold Site.cells ackCells at hv
  simp only [List.mem_cons, List.mem_append, List.mem_flatMap] at hv
  have hc : ∀ c : Clk, ∀ v ∈ c.cells, v.oneCell' = true := by
    intro c v hv
    simp only [Clk.cells, List.mem_cons, List.not_mem_nil, or_false] at hv
    rcases hv with h | h | h | h | h <;> subst h <;> rfl
  rcases hv with rfl | (h | h) | ⟨_, _, h⟩
  · rfl
  · exact hc _ _ h
  · exact hc _ _ h
  · exact hc _ _ h

set_option maxHeartbeats 4000000 in
theorem site_any (w : World) (L : PLay) (p : PSt) (h : PostAt w L p) (hok : p.ok) :
    Calls Try.prog 23 #[.pointer (some ⟨L.b, 0, none⟩)] w fun e w' => e = .returned (.agg p.site.cells.toArray) ∧ Keep nob w w' := by
  obtain ⟨cs, ca, d0, d1, hc1, hc2, hc3, hc4⟩ := h.cells
  have H := Lib.hid h
  have HO := Lib.hid hok
  have hp5 := h.pos
  have hbl : L.b < w.heap.size := World.block_lt_of_cell? w ⟨L.b, 0, none⟩ d0
  clear h hok
  go_enter Try.func23, Try.ntmps23
  go_upto_region 0 with fail
  refine wp_region_lit (wpList_zvar rfl 51 rfl 36 (by kernel_rfl) ?_)
  intro w1 old B0 ho k1 s1
  have HB0 := Lib.hid B0
  have K1 := Lib.hid k1
  have S1 := Lib.hid s1
  have HO' := Lib.hid ho
  clear B0 k1 s1 ho
  go_upto_region 1 with fail
  refine wp_region_lit (wpList_buildTo rfl 51 _ rfl (some 6) rfl (p.siteK 0).cells.toArray (by kernel_rfl) ?_)
  refine wpList_newvar rfl rfl 51 3 rfl rfl (.tmp 6) rfl rfl (p.siteK 0).cells 36 rfl rfl (by kernel_rfl) (by kernel_rfl) (Site.cells_length _) (Site.one _) ?_
  intro w2 B1 k2 s2
  rw [S1.out] at B1 s2 ⊢
  have k2' := K1.out.trans k2
  have HB1 := Lib.hid B1
  have HB2 := Lib.hid (HB0.out.keep0 k2)
  have K2 := Lib.hid k2'
  have e0 := k2'.cell0 d0
  clear k2 k2' B1 s2 HB0 K1 S1
  go_wp2
  go_loopg [4, 5, 12] p.n (fun gg _ _ s12 wr => ∃ kk : Nat, kk ≤ p.n ∧ p.n - kk ≤ gg ∧ s12 = .int .i64 kk ∧ Hid (Blk wr w.heap.size 51 old) ∧ Hid (Blk wr (w.heap.size + 1) 51 (p.siteK kk).cells) ∧ Hid (Keep nob w wr))
  case atStart => exact ⟨0, Nat.zero_le _, by omega, rfl, HB2, HB1, K2⟩
  case round =>
    obtain ⟨kk, hkk, hg, rfl, C0, C1, BW⟩ := hrel
    by_cases hlt : kk < p.n
    · have hltz : (kk : Int) < (p.n : Int) := by omega
      have hk0 : (0 : Int) ≤ (kk : Int) := by omega
      have hk5 : (kk : Int) < 5 := by omega
      have P3 := H.out.keep0 BW.out
      have q := P3.ptr kk hlt
      have q1 := BW.out.cell0 d1
      have y0 := P3.ack_at kk 0 hlt (by omega)
      have y1 := P3.ack_at kk 1 hlt (by omega)
      have y2 := P3.ack_at kk 2 hlt (by omega)
      have y3 := P3.ack_at kk 3 hlt (by omega)
      have y4 := P3.ack_at kk 4 hlt (by omega)
      rw [Nat.add_zero] at y0
      have hok := HO.out kk hlt
      have hbase := base_any (L.bs kk) _ _ _ wr.drew ((P3.keep0 (Keep.refl _ _).drew).shelf kk hlt)
      have hlen := len_any (L.bs kk) _ _ _ wr.drew ((P3.keep0 (Keep.refl _ _).drew).shelf kk hlt) hok.1 (by omega)
      have HBA := Lib.hid hbase
      have HLE := Lib.hid hlen
      have fz := fun i => C1.out.frozen i
      have FZ := Lib.hid fz
      clear P3 hok hbase hlen fz
      have z1 := FZ.out (1 + kk)
      have z2 := FZ.out (6 + kk)
      have z3 := FZ.out (11 + kk * 5)
      have z4 := FZ.out (11 + kk * 5 + 1)
      have z5 := FZ.out (11 + kk * 5 + 2)
      have z6 := FZ.out (11 + kk * 5 + 3)
      have z7 := FZ.out (11 + kk * 5 + 4)
      have cx := fun (i : Nat) (hi : i < 36) => (⟨_, C1.out.cell i (List.getElem?_eq_getElem (by rw [Site.cells_length]; exact hi))⟩ : ∃ v, wr.cell? ⟨w.heap.size + 1, i, none⟩ = some v)
      obtain ⟨v1, x1⟩ := cx (1 + kk) (by omega)
      obtain ⟨v2, x2⟩ := cx (6 + kk) (by omega)
      obtain ⟨v3, x3⟩ := cx (11 + kk * 5) (by omega)
      obtain ⟨v4, x4⟩ := cx (11 + kk * 5 + 1) (by omega)
      obtain ⟨v5, x5⟩ := cx (11 + kk * 5 + 2) (by omega)
      obtain ⟨v6, x6⟩ := cx (11 + kk * 5 + 3) (by omega)
      obtain ⟨v7, x7⟩ := cx (11 + kk * 5 + 4) (by omega)
      clear cx
      have la : L.ga < w.heap.size := H.out.acks.lt
      have n1 : L.ga ≠ w.heap.size + 1 := by omega
      have n2 : w.heap.size + 1 ≠ L.ga := by omega
      have n3 : L.b ≠ w.heap.size + 1 := by omega
      have n4 : w.heap.size + 1 ≠ L.b := by omega
      have fin : ∀ m, ∀ W, W = ((((((((wr.drewN m).setCell ⟨w.heap.size + 1, 1 + kk, none⟩ (.int .i64 (p.base kk))).setCell ⟨w.heap.size + 1, 6 + kk, none⟩ (.int .i64 (p.base kk + ((p.kept kk).length : Nat)))).setCell ⟨w.heap.size + 1, 11 + kk * 5, none⟩ (.int .i64 ((p.ack kk).get 0))).setCell ⟨w.heap.size + 1, 11 + kk * 5 + 1, none⟩ (.int .i64 ((p.ack kk).get 1))).setCell ⟨w.heap.size + 1, 11 + kk * 5 + 2, none⟩ (.int .i64 ((p.ack kk).get 2))).setCell ⟨w.heap.size + 1, 11 + kk * 5 + 3, none⟩ (.int .i64 ((p.ack kk).get 3))).setCell ⟨w.heap.size + 1, 11 + kk * 5 + 4, none⟩ (.int .i64 ((p.ack kk).get 4))) →
          Hid (Blk W w.heap.size 51 old) ∧ Hid (Blk W (w.heap.size + 1) 51 (p.siteK (kk + 1)).cells) ∧ Hid (Keep nob w W) := by
        rintro m W rfl
        have hne : w.heap.size ≠ w.heap.size + 1 := by omega
        have hS : w.heap.size ≤ w.heap.size + 1 := by omega
        refine ⟨(((((((C0.out.drewN m).far hne _).far hne _).far hne _).far hne _).far hne _).far hne _).far hne _, ?_, (((((((BW.out.drewN m).setCell (.inl hS) _).setCell (.inl hS) _).setCell (.inl hS) _).setCell (.inl hS) _).setCell (.inl hS) _).setCell (.inl hS) _).setCell (.inl hS) _⟩
        have := (((((((C1.out.drewN m).set (1 + kk) (.int .i64 (p.base kk))).set (6 + kk) (.int .i64 (p.base kk + ((p.kept kk).length : Nat)))).set (11 + kk * 5) (.int .i64 ((p.ack kk).get 0))).set (11 + kk * 5 + 1) (.int .i64 ((p.ack kk).get 1))).set (11 + kk * 5 + 2) (.int .i64 ((p.ack kk).get 2))).set (11 + kk * 5 + 3) (.int .i64 ((p.ack kk).get 3))).set (11 + kk * 5 + 4) (.int .i64 ((p.ack kk).get 4))
        rw [← PSt.siteK_step p kk (by omega)]
        exact this
      have FIN := Lib.hid fin
      clear fin
      go_upto_block 1 with fail
      go_cut [4, 5] (fun _ _ wx => Hid (Blk wx w.heap.size 51 old) ∧ Hid (Blk wx (w.heap.size + 1) 51 (p.siteK (kk + 1)).cells) ∧ Hid (Keep nob w wx))
      case first =>
        go_wp2_with fail
        go_region_with (first | (go_at_call 15; refine HBA.out.mono ?_; rintro e w2 ⟨rfl, rfl⟩) | (go_at_call 16; refine HLE.out.mono ?_; rintro e w2 ⟨rfl, nn, rfl⟩))
        all_goals (go_wp2_with fail; go_meet; exact FIN.out _ _ rfl)
      case rest =>
        obtain ⟨D0, D1, DW⟩ := hcut
        go_wp2
        go_roundg (p.n - (kk + 1))
        case measure => omega
        case rel => exact ⟨kk + 1, by omega, by omega, by go_num, D0, D1, DW⟩
    · obtain rfl : kk = p.n := by omega
      have hltz : ¬ (p.n : Int) < (p.n : Int) := by omega
      go_upto_region 7 with fail
      refine wp_region_lit (wpList_copyvar rfl rfl 51 38 (.tmp 3) (.tmp 2) rfl rfl rfl rfl (w.heap.size + 1) w.heap.size (p.siteK p.n).cells old C1.out C0.out rfl rfl rfl _ Try.underlying51 rfl (by rw [Site.cells_length]; kernel_rfl) (by rw [HO'.out, Site.cells_length]) (Site.one _) ?_)
      intro w3 B3 k3
      have B3' := Lib.hid B3
      have K3 := Lib.hid (BW.out.then k3 (S := nob) (fun i hi e => by unfold oneb at e; omega))
      clear B3 k3
      go_wp2
      exact ret_blk (g := w.heap.size) (cs := p.site.cells) Try.results23 rfl B3'.out Try.underlying51 rfl (by rw [Site.cells_length]; kernel_rfl) rfl ⟨rfl, K3.out⟩
end Go.Proofs.Ytfhhjabclmkkmaa
