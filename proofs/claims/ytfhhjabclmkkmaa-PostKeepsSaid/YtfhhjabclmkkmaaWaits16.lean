/- Layer 16: PostWaits. -/
import Derived.Test.YtfhhjabclmkkmaaShown16
namespace Go.Proofs.Ytfhhjabclmkkmaa
open Go.RowKit Go.Proofs

/-- One that waits: all others told more than there is. -/
structure WaitAt (n k late : Nat) (s : NSt) (j : Nat) : Prop where
  n_ : s.n = n
  len : s.len 0 = k
  base : s.base 0 = 0
  own : (s.ack late).get 0 = 0
  others : ∀ r, r < j → r ≠ late → (k : Int) ≤ (s.ack r).get 0

theorem NSt.told_base (s : NSt) (r : Nat) (c : Clk) (i : Nat) (hi : i < s.n) : (s.told r c).base i = max (s.base i) (min (leastK (upd s.ack r (join (s.ack r) c)) i s.n).toNat (s.len i)) := by
  show (({ s with ack := upd s.ack r (join (s.ack r) c) } : NSt).cuts s.n).base i = _
  rw [NSt.cuts_base, if_pos hi]
  rfl
theorem NSt.told_rest (s : NSt) (r : Nat) (c : Clk) : (s.told r c).n = s.n ∧ (s.told r c).len = s.len ∧ (s.told r c).ack = upd s.ack r (join (s.ack r) c) ∧ (s.told r c).most = s.most := NSt.cuts_n _ _


theorem WaitAt.step {n k late j : Nat} {s : NSt} (h : WaitAt n k late s j) (hl : late < n) (hne : j ≠ late) : WaitAt n k late (s.told j ⟨k + 5, 9, 9, 9, 9⟩) (j + 1) := by
  obtain ⟨h1, h2, h3, h4⟩ := s.told_rest j ⟨k + 5, 9, 9, 9, 9⟩
  have hle := leastK_le (upd s.ack j (join (s.ack j) ⟨k + 5, 9, 9, 9, 9⟩)) 0 s.n late (by rw [h.n_]; exact hl)
  rw [upd_other _ _ _ _ (Ne.symm hne), h.own] at hle
  refine ⟨by rw [h1, h.n_], by rw [h2, h.len], ?_, by rw [h3, upd_other _ _ _ _ (Ne.symm hne), h.own], fun r hr hrl => ?_⟩
  · rw [NSt.told_base _ _ _ _ (by rw [h.n_]; omega), h.base, h.len]
    omega
  · rw [h3]
    by_cases e : r = j
    · subst e
      rw [upd_same, join_get _ _ _ (by omega)]
      show (k : Int) ≤ max _ ((k : Int) + 5)
      omega
    · rw [upd_other _ _ _ _ e]
      exact h.others r (by omega) hrl

theorem WaitAt.skip {n k late : Nat} {s : NSt} (h : WaitAt n k late s late) : WaitAt n k late s (late + 1) :=
  ⟨h.n_, h.len, h.base, h.own, fun r hr hrl => h.others r (by omega) hrl⟩

/-- The late one tells x of k. -/
theorem WaitAt.tell {n k late : Nat} {s : NSt} {b x : Nat} (hn : s.n = n) (hlen : s.len 0 = k) (hb : s.base 0 = b) (hbx : b ≤ x) (hx : x ≤ k) (hl : late < n) (hown : (s.ack late).get 0 ≤ x) (hoth : ∀ r, r < n → r ≠ late → (k : Int) ≤ (s.ack r).get 0) :
    (s.told late ⟨x, 0, 0, 0, 0⟩).n = n ∧ (s.told late ⟨x, 0, 0, 0, 0⟩).len 0 = k ∧ (s.told late ⟨x, 0, 0, 0, 0⟩).base 0 = x ∧ ((s.told late ⟨x, 0, 0, 0, 0⟩).ack late).get 0 = x ∧ ∀ r, r < n → r ≠ late → (k : Int) ≤ ((s.told late ⟨x, 0, 0, 0, 0⟩).ack r).get 0 := by
  obtain ⟨h1, h2, h3, h4⟩ := s.told_rest late ⟨x, 0, 0, 0, 0⟩
  have e0 : ((upd s.ack late (join (s.ack late) ⟨x, 0, 0, 0, 0⟩)) late).get 0 = x := by
    rw [upd_same, join_get _ _ _ (by omega)]
    show max _ (x : Int) = x
    omega
  have hle := leastK_le (upd s.ack late (join (s.ack late) ⟨x, 0, 0, 0, 0⟩)) 0 s.n late (by rw [hn]; exact hl)
  have hge := leastK_ge (upd s.ack late (join (s.ack late) ⟨x, 0, 0, 0, 0⟩)) 0 s.n (by omega) x (fun j hj => by
    by_cases e : j = late
    · subst e; omega
    · rw [upd_other _ _ _ _ e]
      have := hoth j (by omega) e
      omega)
  refine ⟨by rw [h1, hn], by rw [h2, hlen], ?_, by rw [h3]; exact e0, fun r hr hrl => by rw [h3, upd_other _ _ _ _ hrl]; exact hoth r hr hrl⟩
  rw [NSt.told_base _ _ _ _ (by omega), hb, hlen]
  omega

theorem NSt.first (n wd k : Nat) (hk : 1 ≤ k ∧ k ≤ wd) : (NSt.new n wd).pushE 0 1 k = 0 ∧ (NSt.new n wd).pushN 0 1 k = k := by
  have hE : (NSt.new n wd).pushE 0 1 k = 0 := by
    unfold NSt.pushE
    show (if 1 + k ≤ 0 + 1 then (0 : Int) else if wd < 1 + k - 1 - 0 then 21 else 0) = 0
    rw [if_neg (by omega), if_neg (by omega)]
  refine ⟨hE, ?_⟩
  unfold NSt.pushN
  rw [if_pos hE]
  show ((upd (fun _ => 0) 0 (max 0 (1 + k - 1)) 0 : Nat) : Int) = k
  rw [upd_same]
  omega
theorem WaitAt.start (n wd k late : Nat) (hn : 0 < n) (hk : 1 ≤ k ∧ k ≤ wd) : WaitAt n k late ((NSt.new n wd).push 0 1 k) 0 := by
  have hE := (NSt.first n wd k hk).1
  unfold NSt.push
  rw [if_pos hE]
  refine ⟨rfl, ?_, ?_, ?_, fun r hr => absurd hr (Nat.not_lt_zero _)⟩
  · show upd (fun _ => 0) 0 (max 0 (1 + k - 1)) 0 = k
    rw [upd_same]; omega
  · show upd (fun _ => 0) 0 (((NSt.new n wd).grow 0 1 k).cutB 0) 0 = 0
    rw [upd_same]
    unfold NSt.cutB
    have := leastK_le (fun _ => Clk.zero) 0 n 0 hn
    show max 0 (min (leastK (fun _ => Clk.zero) 0 n).toNat _) = 0
    have e : (Clk.zero).get 0 = 0 := rfl
    rw [e] at this
    omega
  · rfl

theorem Site.cell_l (s : Site) (k : Nat) (hk : k < 5) : s.cells[6 + k]? = some (.int .i64 (s.l.get k)) := by
  unfold Site.cells
  rw [show 6 + k = (5 + k) + 1 from by omega, List.getElem?_cons_succ, List.append_assoc, List.getElem?_append_right (by simp [Clk.cells]), List.getElem?_append_left (by simp [Clk.cells]; omega)]
  have : 5 + k - s.b.cells.length = k := by simp [Clk.cells]
  rw [this]
  exact Clk.cells_at _ _ hk
theorem NSt.site_b (s : NSt) (k : Nat) (hk : k < s.n) (h5 : k < 5) : s.site.b.get k = s.base k := by
  show (clkOf fun j => if j < s.n then ((s.base j : Nat) : Int) else 0).get k = _
  rw [clkOf_get _ _ h5, if_pos hk]
theorem NSt.site_l (s : NSt) (k : Nat) (hk : k < s.n) (h5 : k < 5) : s.site.l.get k = s.len k := by
  show (clkOf fun j => if j < s.n then ((s.len j : Nat) : Int) else 0).get k = _
  rw [clkOf_get _ _ h5, if_pos hk]

theorem Blk.pcell {w0 w : World} {L : PLay} {s : NSt} {M g : Nat} {t : TypeId} {cs : List Value} (h : Blk w0 g t cs) (R : PRow w0 L s M w) (i : Nat) {v : Value} (hv : cs[i]? = some v) : w.cell? ⟨g, i, none⟩ = some v := (h.keep0 R.keep).cell i hv

set_option maxHeartbeats 4000000 in
theorem postWaits_any (c0 c1 c2 c3 c4 c5 who many : Int) (w : World) (hw : 0 ≤ who ∧ who < 256) (hm : 0 ≤ many ∧ many < 256) :
    Calls Try.prog 8 #[cfg c0 c1 c2 c3 c4 c5, .int .u8 who, .int .u8 many] w fun e w' => e = .returned (.bool true) ∧ Keep nob w w' := by
  have hfit := fit_any c0 c1 c2 c3 c4 c5
  unfold cfg at hfit ⊢
  go_enter Try.func8, Try.ntmps8
  go_wp2_with fail
  refine (shown16 _).mono ?_
  rintro e w0 ⟨rfl, k0⟩
  have bx := (Blk.new w 37 [.int .i64 c0, .int .i64 c1, .int .i64 c2, .int .i64 c3, .int .i64 c4, .int .i64 c5]).keep0 k0
  have k0' := (Keep.alloc (Keep.refl nob w) _).trans k0
  have x0 := bx.cell 0 rfl
  have x1 := bx.cell 1 rfl
  have x2 := bx.cell 2 rfl
  have x3 := bx.cell 3 rfl
  have x4 := bx.cell 4 rfl
  have x5 := bx.cell 5 rfl
  have HK0 := Lib.hid k0'
  clear k0 k0' bx
  go_wp2_with fail
  refine (hfit _).mono ?_
  rintro e w1 ⟨n, wd, q, h, l, p, rfl, hn, hwd, k1⟩
  have HK1 := Lib.hid (HK0.out.trans k1)
  clear k1 x0 x1 x2 x3 x4 x5 hfit HK0
  obtain ⟨m, hmm, hm4⟩ : ∃ m : Nat, many.tmod (wd : Int) = m ∧ m < wd := ⟨(many.tmod wd).toNat, by rw [Int.toNat_of_nonneg (Int.tmod_nonneg _ hm.1)], by have h1 := Int.tmod_lt_of_pos many (b := (wd : Int)) (by omega); have h2 := Int.tmod_nonneg (wd : Int) hm.1; omega⟩
  obtain ⟨late, hla, hl5⟩ : ∃ late : Nat, who.tmod (n : Int) = late ∧ late < n := ⟨(who.tmod n).toNat, by rw [Int.toNat_of_nonneg (Int.tmod_nonneg _ hw.1)], by have h1 := Int.tmod_lt_of_pos who (b := (n : Int)) (by omega); have h2 := Int.tmod_nonneg (n : Int) hw.1; omega⟩
  obtain ⟨k, hk⟩ : ∃ k : Nat, 1 + (m : Int) = k := ⟨1 + m, by omega⟩
  have hk1 : 1 ≤ k ∧ k ≤ wd := by omega
  have hz1 : ((wd : Int) == 0) = false := by rw [beq_eq_false_iff_ne]; omega
  have hz2 : ((n : Int) == 0) = false := by rw [beq_eq_false_iff_ne]; omega
  go_wp2_with fail
  have bc := Blk.new w1 37 [.int .i64 (n : Int), .int .i64 (wd : Int), .int .i64 q, .int .i64 h, .int .i64 l, .int .i64 p]
  have HK2 := Lib.hid (HK1.out.alloc (.cells #[.int .i64 (n : Int), .int .i64 (wd : Int), .int .i64 q, .int .i64 h, .int .i64 l, .int .i64 p] 37))
  change Calls _ _ _ (w1.alloc (.cells #[.int .i64 (n : Int), .int .i64 (wd : Int), .int .i64 q, .int .i64 h, .int .i64 l, .int .i64 p] 37)) _
  generalize (w1.alloc (.cells #[.int .i64 (n : Int), .int .i64 (wd : Int), .int .i64 q, .int .i64 h, .int .i64 l, .int .i64 p] 37)) = w2 at *
  refine (new_row_any n wd q h l p hn w2).mono ?_
  rintro e w3 ⟨L, rfl, R0⟩
  have HR0 := Lib.hid R0
  have HBC := Lib.hid bc
  have y0 := bc.pcell R0 0 rfl
  have y1 := bc.pcell R0 1 rfl
  clear R0 bc
  go_wp2_with fail
  refine (row16_sl 0 1 k w3 (by omega) (by omega)).mono ?_
  rintro e w4 ⟨v, rfl, hv, k4⟩
  have R1 := HR0.out.more k4
  have HE := (NSt.first n wd k hk1)
  have hpush := push_row_any 0 1 k k v R1 (by show 0 < n; omega) hv (by show 1 ≤ 0 + 1; omega) (by omega) (by omega) (by omega)
  rw [HE.1, HE.2] at hpush
  have HP := Lib.hid hpush
  have HST := Lib.hid (WaitAt.start n wd k late (by omega) hk1)
  have z0 := k4.cell0 y0
  have z1 := k4.cell0 y1
  clear k4 hv R1 HE hpush HR0 y0 y1
  go_wp2_with fail
  refine HP.out.mono ?_
  rintro e w5 ⟨rfl, R2, -⟩
  have HR2 := Lib.hid R2
  have y0 := HBC.out.pcell R2 0 rfl
  have y1 := HBC.out.pcell R2 1 rfl
  clear R2 HP z0 z1
  generalize (NSt.new n wd).push 0 1 k = s1 at *
  go_wp2
  go_loopg [14] n (fun gg s14 wr => ∃ (j : Nat) (s : NSt), j ≤ n ∧ n - j ≤ gg ∧ s14 = .int .i64 j ∧ WaitAt n k late s j ∧ Hid (PRow w2 L s k wr))
  case atStart => exact ⟨0, s1, Nat.zero_le _, by omega, rfl, HST.out, HR2⟩
  case round =>
    obtain ⟨j, s, hj, hg, rfl, hW, HR⟩ := hrel
    have t0 := HBC.out.pcell HR.out 0 rfl
    have HWW := Lib.hid hW
    clear hW
    by_cases hlt : j < n
    · have hltz : (j : Int) < (n : Int) := by omega
      by_cases hjl : j = late
      · subst hjl
        go_wp2
        go_roundg (n - (j + 1))
        case measure => omega
        case rel => exact ⟨j + 1, s, by omega, by omega, by go_num, HWW.out.skip, HR⟩
      · have hne : ((j : Int) != (late : Int)) = true := by rw [bne_iff_ne]; omega
        have hack := ack_row_any j ⟨k + 5, 9, 9, 9, 9⟩ HR.out (by rw [HWW.out.n_]; exact hlt)
        have HA := Lib.hid hack
        clear hack
        go_wp2_with fail
        refine HA.out.mono ?_
        rintro e w6 ⟨rfl, R3, -⟩
        have HR3 := Lib.hid R3
        clear R3 HA
        go_wp2
        go_roundg (n - (j + 1))
        case measure => omega
        case rel => exact ⟨j + 1, _, by omega, by omega, by go_num, HWW.out.step hl5 hjl, HR3⟩
    · obtain rfl : j = n := by omega
      have hltz : ¬ (j : Int) < (j : Int) := by omega
      have hna := HWW.out.n_
      have HNA := Lib.hid hna
      clear hna
      go_wp2_with fail
      clear t0 y0 y1
      refine (site_row_any HR.out).mono ?_
      rintro e w6 ⟨rfl, R6, -⟩
      rename_i K hK
      refine hK _ _ (wpList_newvar rfl rfl 51 15 rfl rfl (.tmp 68) rfl rfl s.site.cells 36 rfl rfl (by kernel_rfl) (by kernel_rfl) (Site.cells_length _) (Site.one _) ?_)
      intro w7 B7 k7 s7
      have R7 := R6.more k7
      have f7 := R6.fresh (Nat.le_refl _)
      obtain ⟨g7, hg7⟩ : ∃ g, g = w6.heap.size := ⟨_, rfl⟩
      rw [← hg7] at B7 f7 ⊢
      have HR7 := Lib.hid R7
      have HB7 := Lib.hid B7
      have HF7 := Lib.hid f7
      clear R6 k7 s7 R7 B7 f7 hg7 hK K
      have hkm : (k : Int) - 1 = (m : Int) := by omega
      have hack := ack_row_any late ⟨m, 0, 0, 0, 0⟩ HR7.out (by rw [HNA.out]; exact hl5)
      have HA := Lib.hid hack
      clear hack
      go_wp2_with fail
      refine HA.out.mono ?_
      rintro e w8 ⟨rfl, R8, k8⟩
      have HR8 := Lib.hid R8
      have HB8 := Lib.hid (HB7.out.keep k8 HF7.out)
      have ht1 := WaitAt.tell (b := 0) (x := m) HNA.out HWW.out.len HWW.out.base (by omega) (by omega) hl5 (by rw [HWW.out.own]; omega) HWW.out.others
      have HT1 := Lib.hid ht1
      have HF := HF7
      clear R8 k8 HB7 HR7 HA HF7 ht1
      generalize hst : s.told late ⟨m, 0, 0, 0, 0⟩ = st at *
      clear hst
      go_wp2_with fail
      refine (site_row_any HR8.out).mono ?_
      rintro e w9 ⟨rfl, R9, k9⟩
      have HB9 := Lib.hid (HB8.out.keep0 k9)
      clear k9 HB8 HR8
      rename_i K hK
      refine hK _ _ (wpList_newvar rfl rfl 51 17 rfl rfl (.tmp 76) rfl rfl st.site.cells 36 rfl rfl (by kernel_rfl) (by kernel_rfl) (Site.cells_length _) (Site.one _) ?_)
      intro w10 C10 k10 s10
      have R10 := R9.more k10
      have f10 := R9.fresh (Nat.le_refl _)
      obtain ⟨g10, hg10⟩ : ∃ g, g = w9.heap.size := ⟨_, rfl⟩
      rw [← hg10] at C10 f10 ⊢
      have f7 : ¬ L.foot st.n g7 := by
        have e1 : st.n = s.n := by rw [HNA.out, HT1.out.1]
        rw [e1]; exact HF.out
      have HB10 := Lib.hid (HB9.out.keep0 k10)
      have HC10 := Lib.hid C10
      have HR10 := Lib.hid R10
      have HF10 := Lib.hid f10
      have HF7 := Lib.hid f7
      clear R9 k10 s10 R10 C10 f10 f7 hg10 hK K HB9
      have hack := ack_row_any late ⟨k, 0, 0, 0, 0⟩ HR10.out (by rw [HT1.out.1]; exact hl5)
      have HA := Lib.hid hack
      clear hack
      go_wp2_with fail
      refine HA.out.mono ?_
      rintro e w11 ⟨rfl, R11, k11⟩
      have HR11 := Lib.hid R11
      have HB11 := Lib.hid (HB10.out.keep k11 HF7.out)
      have HC11 := Lib.hid (HC10.out.keep k11 HF10.out)
      have ht2 := WaitAt.tell (b := m) (x := k) HT1.out.1 HT1.out.2.1 HT1.out.2.2.1 (by omega) (by omega) hl5 (by rw [HT1.out.2.2.2.1]; omega) HT1.out.2.2.2.2
      have HT2 := Lib.hid ht2
      clear R11 k11 HB10 HC10 HR10 HA HF10 HF7 ht2
      generalize hsu : st.told late ⟨k, 0, 0, 0, 0⟩ = su at *
      clear hsu
      go_wp2_with fail
      refine (site_row_any HR11.out).mono ?_
      rintro e w12 ⟨rfl, R12, k12⟩
      have HB12 := Lib.hid (HB11.out.keep0 k12)
      have HC12 := Lib.hid (HC11.out.keep0 k12)
      clear k12 HB11 HC11 HR11
      rename_i K hK
      refine hK _ _ (wpList_newvar rfl rfl 51 19 rfl rfl (.tmp 83) rfl rfl su.site.cells 36 rfl rfl (by kernel_rfl) (by kernel_rfl) (Site.cells_length _) (Site.one _) ?_)
      intro w13 D13 k13 s13
      obtain ⟨g13, hg13⟩ : ∃ g, g = w12.heap.size := ⟨_, rfl⟩
      rw [← hg13] at D13 ⊢
      have hb := (HB12.out.keep0 k13).cell 1 (Site.cell_b _ 0 (by decide))
      have hc := (HC12.out.keep0 k13).cell 1 (Site.cell_b _ 0 (by decide))
      have hd := D13.cell 1 (Site.cell_b _ 0 (by decide))
      have hd6 := D13.cell 6 (Site.cell_l _ 0 (by decide))
      rw [NSt.site_b _ _ (by rw [HNA.out]; omega) (by decide), HWW.out.base] at hb
      rw [NSt.site_b _ _ (by rw [HT1.out.1]; omega) (by decide), HT1.out.2.2.1] at hc
      rw [NSt.site_b _ _ (by rw [HT2.out.1]; omega) (by decide), HT2.out.2.2.1] at hd
      rw [NSt.site_l _ _ (by rw [HT2.out.1]; omega) (by decide), HT2.out.2.1] at hd6
      have HKE := Lib.hid (HK2.out.trans (R12.more k13).keep)
      clear R12 k13 s13 D13 hg13 hK K HB12 HC12
      go_wp2
      go_ret
      exact ⟨rfl, HKE.out⟩
end Go.Proofs.Ytfhhjabclmkkmaa
