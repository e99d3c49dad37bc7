/- Layer 16: PostApart. -/
import Derived.Test.YtfhhjabclmkkmaaWaits16
import Derived.BigQuiet
namespace Go.Proofs.Ytfhhjabclmkkmaa
open Go.RowKit Go.Proofs

theorem NSt.next_yes (s : NSt) (r k : Nat) (hb : s.base r ≤ s.len r) (hfit : s.len r - s.base r + k ≤ s.most) :
    s.pushE r (s.len r + 1) k = 0 ∧ s.pushN r (s.len r + 1) k = (s.len r : Int) + k ∧ (s.push r (s.len r + 1) k).len = upd s.len r (s.len r + k) ∧ (s.push r (s.len r + 1) k).n = s.n ∧ (s.push r (s.len r + 1) k).most = s.most ∧ (s.push r (s.len r + 1) k).ack = s.ack := by
  have hE : s.pushE r (s.len r + 1) k = 0 := by
    unfold NSt.pushE
    by_cases h : s.len r + 1 + k ≤ s.len r + 1
    · rw [if_pos h]
    · rw [if_neg h, if_neg (by omega)]
  have hg : (s.grow r (s.len r + 1) k).len = upd s.len r (s.len r + k) := by
    show upd s.len r (max (s.len r) (s.len r + 1 + k - 1)) = _
    congr 1
    omega
  refine ⟨hE, ?_, ?_, ?_, ?_, ?_⟩
  · unfold NSt.pushN
    rw [if_pos hE, hg, upd_same]
    omega
  all_goals unfold NSt.push; rw [if_pos hE]
  · exact hg
  all_goals rfl
theorem NSt.next_no (s : NSt) (r k : Nat) (hg : s.len r - s.base r ≤ s.most) (hfit : ¬ s.len r - s.base r + k ≤ s.most) (hb : s.base r ≤ s.len r) :
    s.pushE r (s.len r + 1) k = 21 ∧ s.pushN r (s.len r + 1) k = 0 ∧ s.push r (s.len r + 1) k = s := by
  have hE : s.pushE r (s.len r + 1) k = 21 := by
    unfold NSt.pushE
    rw [if_neg (by omega), if_pos (by omega)]
  unfold NSt.pushN NSt.push
  rw [hE]
  exact ⟨rfl, if_neg (by decide), if_neg (by decide)⟩

theorem above_all (n a : Int) (k : Nat) (r : Int) (h : n < a) : above n (row16 r a k) = row16 r a k := by
  rw [above_row16]
  have : (n + 1 - a).toNat = 0 := by omega
  rw [this]
  simp

/-- Who fetches has none of its own, and of two that pushed just the other's. -/
theorem fetch_two (s : NSt) (h0 : ∀ j, 2 ≤ j → s.len j = 0) (k : Nat) (hk : 2 ≤ k) : fetchK s.p.base s.p.kept 0 Clk.zero k = row16 1 ((s.base 1 : Int) + 1) (s.len 1 - s.base 1) := by
  induction k with
  | zero => omega
  | succ k ih =>
    by_cases e : k = 1
    · subst e
      have h1 : fetchK s.p.base s.p.kept 0 Clk.zero 1 = [] := rfl
      show fetchK s.p.base s.p.kept 0 Clk.zero 1 ++ above 0 (row16 1 ((s.base 1 : Int) + 1) (s.len 1 - s.base 1)) = _
      rw [h1, above_all _ _ _ _ (by omega), List.nil_append]
    · have hz : Clk.zero.get k = 0 := by
        unfold Clk.get Clk.zero
        split <;> rfl
      have hrow : above (Clk.zero.get k) (row16 k ((s.base k : Int) + 1) (s.len k - s.base k)) = [] := by
        rw [h0 k (by omega), Nat.zero_sub]
        rfl
      show fetchK s.p.base s.p.kept 0 Clk.zero k ++ (if k = 0 then [] else above (Clk.zero.get k) (row16 k ((s.base k : Int) + 1) (s.len k - s.base k))) = _
      rw [ih (by omega), hrow, if_neg (by omega), List.append_nil]

/-- A slice of pairs of bytes. -/
def Pairs (w : World) (v : Value) (n : Nat) : Prop :=
  ∃ A c, v = .slice A n c ∧ n ≤ 9223372036854775807 ∧ ∀ i, i < n → ∀ r, r < 2 → ∃ (a : Addr) (b : Int), A = some a ∧ w.cell? ((a.add (i * 2)).add r) = some (.int .u8 b) ∧ 0 ≤ b ∧ b < 256

/-- What the walk of PostApart carries. -/
structure ApSt (w2 : World) (L : PLay) (n wd i : Nat) (s : NSt) (W : World) : Prop where
  row : PRow w2 L s i W
  n_ : s.n = n
  most : s.most = wd
  rest : ∀ j, 2 ≤ j → s.len j = 0

set_option maxRecDepth 100000 in
set_option maxHeartbeats 8000000 in
theorem postApart_any (c0 c1 c2 c3 c4 c5 : Int) (v : Value) (N : Nat) (w : World) (hv : Pairs w v N) :
    Calls Try.prog 7 #[cfg c0 c1 c2 c3 c4 c5, v] w fun e w' => e = .returned (.bool true) ∧ Keep nob w w' := by
  obtain ⟨A, cc, rfl, hN, hvv⟩ := hv
  have hfit := fit_any c0 c1 c2 c3 c4 c5
  have HV := Lib.hid hvv
  clear hvv
  unfold cfg at hfit ⊢
  go_enter Try.func7, Try.ntmps7
  go_wp2_with fail
  refine (shown16 _).mono ?_
  rintro e w0 ⟨rfl, k0⟩
  have bx := (Blk.new w 37 [.int .i64 c0, .int .i64 c1, .int .i64 c2, .int .i64 c3, .int .i64 c4, .int .i64 c5]).keep0 k0
  have k0' := (Keep.alloc (Keep.refl nob w) _).trans k0
  have x0 := bx.cell 0 rfl
  have x1 := bx.cell 1 rfl
  have x2 := bx.cell 2 rfl
  have x3 := bx.cell 3 rfl
  have x4 := bx.cell 4 rfl
  have x5 := bx.cell 5 rfl
  have HK0 := Lib.hid k0'
  clear k0 k0' bx
  go_wp2_with fail
  refine (hfit _).mono ?_
  rintro e w1 ⟨n1, wd, q, h, l, p, rfl, hn1, hwd, k1⟩
  have HK1 := Lib.hid (HK0.out.trans k1)
  clear k1 x0 x1 x2 x3 x4 x5 hfit HK0
  go_upto_region 3 with fail
  have bc := Blk.new w1 37 [.int .i64 (n1 : Int), .int .i64 (wd : Int), .int .i64 q, .int .i64 h, .int .i64 l, .int .i64 p]
  have k2 := HK1.out.alloc (.cells #[.int .i64 (n1 : Int), .int .i64 (wd : Int), .int .i64 q, .int .i64 h, .int .i64 l, .int .i64 p] 37)
  change Code.wp _ _ _ _ (w1.alloc (.cells #[.int .i64 (n1 : Int), .int .i64 (wd : Int), .int .i64 q, .int .i64 h, .int .i64 l, .int .i64 p] 37))
  have hcb : w.heap.size ≤ w1.heap.size := HK1.out.size
  generalize (w1.alloc (.cells #[.int .i64 (n1 : Int), .int .i64 (wd : Int), .int .i64 q, .int .i64 h, .int .i64 l, .int .i64 p] 37)) = wa at *
  obtain ⟨CB, hCB⟩ : ∃ CB, CB = w1.heap.size := ⟨_, rfl⟩
  rw [← hCB] at bc hcb ⊢
  clear hCB HK1
  have x0 := bc.cell 0 rfl
  have f0 := bc.frozen 0
  have BC := Lib.hid bc
  have K2 := Lib.hid k2
  clear bc k2
  go_cut [] (fun wx => Hid (Blk wx CB 37 [.int .i64 (max (n1 : Int) 2), .int .i64 (wd : Int), .int .i64 q, .int .i64 h, .int .i64 l, .int .i64 p]) ∧ Hid (Keep nob w wx))
  case first =>
    have kk : ∀ v, Keep nob w (wa.setCell ⟨CB, 0, none⟩ v) := fun v => K2.out.setCell (.inl hcb) v
    go_wp2
    go_meet
    exact ⟨BC.out.set 0 _, kk _⟩
  case rest =>
    obtain ⟨BD, K3⟩ := hcut
    clear BC K2 x0 f0
    obtain ⟨n, hn⟩ : ∃ n, n = max n1 2 := ⟨_, rfl⟩
    rw [show max (n1 : Int) 2 = (n : Nat) from by omega] at BD
    have hn5 : 2 ≤ n ∧ n ≤ 5 := by omega
    clear hn
    have y0 := BD.out.cell 0 rfl
    have y1 := BD.out.cell 1 rfl
    have y2 := BD.out.cell 2 rfl
    have y3 := BD.out.cell 3 rfl
    have y4 := BD.out.cell 4 rfl
    have y5 := BD.out.cell 5 rfl
    go_wp2_with fail
    refine (new_row_any n wd q h l p (by omega) wc).mono ?_
    rintro e w3 ⟨L, rfl, R0⟩
    have HA0 : Hid (ApSt wc L n wd (4 * 0) (NSt.new n wd) w3) := ⟨R0, rfl, rfl, fun _ _ => rfl⟩
    clear y0 y1 y2 y3 y4 y5 R0
    go_wp2
    go_loopg [8] 12 (fun gg s8 wr => ∃ (i : Nat) (s : NSt), i ≤ 12 ∧ 12 - i ≤ gg ∧ s8 = .int .i64 i ∧ Hid (ApSt wc L n wd (4 * i) s wr))
    case atStart => exact ⟨0, _, by omega, by omega, rfl, HA0⟩
    case round =>
      obtain ⟨i, s, hi, hg, rfl, HA⟩ := hrel
      by_cases hiN : i < N
      · have hiNz : (i : Int) < (N : Int) := by omega
        by_cases hi12 : i < 12
        · have hi12z : (i : Int) < 12 := by omega
          have hi0 : (0 : Int) ≤ (i : Int) := by omega
          obtain ⟨a, _, rfl, -⟩ := HV.out i hiN 0 (by omega)
          go_wp2
          go_loopg [9] 2 (fun gg2 s9 wq => ∃ (r : Nat) (t : NSt), r ≤ 2 ∧ 2 - r ≤ gg2 ∧ s9 = .int .i64 r ∧ Hid (ApSt wc L n wd (4 * i + 2 * r) t wq))
          case atStart => exact ⟨0, s, by omega, by omega, rfl, HA⟩
          case round =>
            obtain ⟨r, t, hr, hg2, rfl, HB⟩ := hrel
            by_cases hr2 : r < 2
            · have hr2z : (r : Int) < 2 := by omega
              have hr0 : (0 : Int) ≤ (r : Int) := by omega
              have hr5 : (r : Int) < 5 := by omega
              go_wp2_with fail
              refine (site_row_any HB.out.row).mono ?_
              rintro e w4 ⟨rfl, R4, -⟩
              rename_i K hK
              refine hK _ _ (wpList_newvar rfl rfl 51 10 rfl rfl (.tmp 51) rfl rfl t.site.cells 36 rfl rfl (by kernel_rfl) (by kernel_rfl) (Site.cells_length _) (Site.one _) ?_)
              intro w5 B5 k5 s5
              have R5 := R4.more k5
              have f5 := R4.fresh (Nat.le_refl _)
              obtain ⟨g5, hg5⟩ : ∃ g, g = w4.heap.size := ⟨_, rfl⟩
              rw [← hg5] at B5 f5 ⊢
              obtain ⟨a', b, ha', hbc, hb0, hb1⟩ := HV.out i hiN r hr2
              obtain rfl : a = a' := Option.some.inj ha'
              have t0 := (K3.out.trans R5.keep).cell0 hbc
              obtain ⟨k, hk, hk3⟩ : ∃ k : Nat, b.tmod 3 = k ∧ k < 3 := ⟨(b.tmod 3).toNat, by rw [Int.toNat_of_nonneg (Int.tmod_nonneg _ hb0)], by have h1 := Int.tmod_lt_of_pos b (b := 3) (by omega); have h2 := Int.tmod_nonneg 3 hb0; omega⟩
              have hrn : r < t.n := by rw [HB.out.n_]; omega
              obtain ⟨g1, g2, g3, _⟩ := HB.out.row.good r hrn
              rw [HB.out.most] at g3
              obtain ⟨lr, hlr⟩ : ∃ lr, lr = t.len r := ⟨_, rfl⟩
              obtain ⟨br, hbr⟩ : ∃ br, br = t.base r := ⟨_, rfl⟩
              rw [← hlr, ← hbr] at g1 g3
              rw [← hlr] at g2
              have cl := B5.cell (6 + r) (Site.cell_l _ r (by omega))
              have cb := B5.cell (1 + r) (Site.cell_b _ r (by omega))
              rw [NSt.site_l _ _ hrn (by omega), ← hlr] at cl
              rw [NSt.site_b _ _ hrn (by omega), ← hbr] at cb
              obtain ⟨a1, ha1⟩ : ∃ a1 : Nat, (lr : Int) + 1 = a1 := ⟨lr + 1, by omega⟩
              have hlr' : lr ≤ 100 := by omega
              have HR5 := Lib.hid R5
              have HB5 := Lib.hid B5
              have HF5 := Lib.hid f5
              have HLR := Lib.hid hlr
              have HBR := Lib.hid hbr
              have HBC := Lib.hid hbc
              clear R4 k5 s5 R5 B5 f5 hg5 hK K hlr hbr hbc
              go_wp2_with fail
              refine (row16_sl r a1 k _ (by omega) (by omega)).mono ?_
              rintro e w6 ⟨v6, rfl, hv6, k6⟩
              have R6 := HR5.out.more k6
              have B6 := HB5.out.keep0 k6
              have hpush := push_row_any r a1 k (4 * i + 2 * (r + 1)) v6 R6 hrn hv6 (by rw [← HLR.out]; omega) (by omega) (by omega) (by omega)
              have e1 : a1 = t.len r + 1 := by rw [← HLR.out]; omega
              rw [e1] at hpush
              by_cases hfit : lr - br + k ≤ wd
              · obtain ⟨q1, q2, q3, q4, q5, q6⟩ := t.next_yes r k (by rw [← HLR.out, ← HBR.out]; exact g1) (by rw [← HLR.out, ← HBR.out, HB.out.most]; exact hfit)
                obtain ⟨lk, hlk⟩ : ∃ lk : Nat, (lr : Int) + k = lk := ⟨lr + k, by omega⟩
                have q2' : t.pushN r (t.len r + 1) k = lk := by rw [q2, ← HLR.out, hlk]
                rw [q1, q2'] at hpush
                have HP := Lib.hid hpush
                clear hpush hv6 k6 R6 q1 q2 q2' t0 ha1 cl cb e1
                go_wp2_with fail
                refine HP.out.mono ?_
                rintro e w7 ⟨rfl, R7, k7⟩
                have B7 := B6.keep k7 HF5.out
                have HR7 := Lib.hid R7
                have HB7 := Lib.hid B7
                clear R7 B7 k7 B6 HP
                go_wp2_with fail
                refine (site_row_any HR7.out).mono ?_
                rintro e w8 ⟨rfl, R8, k8⟩
                have B8 := HB7.out.keep0 k8
                rename_i K hK
                refine hK _ _ (wpList_newvar rfl rfl 51 14 rfl rfl (.tmp 75) rfl rfl (t.push r (t.len r + 1) k).site.cells 36 rfl rfl (by kernel_rfl) (by kernel_rfl) (Site.cells_length _) (Site.one _) ?_)
                intro w9 B9 k9 s9
                have R9 := R8.more k9
                obtain ⟨g9, hg9⟩ : ∃ g, g = w8.heap.size := ⟨_, rfl⟩
                rw [← hg9] at B9 ⊢
                have C9 := B8.keep0 k9
                have cl := C9.cell (6 + r) (Site.cell_l _ r (by omega))
                have cb := C9.cell (1 + r) (Site.cell_b _ r (by omega))
                obtain ⟨o, ho⟩ : ∃ o : Nat, 1 - (r : Int) = o := ⟨1 - r, by omega⟩
                have ho2 : o < 2 := by omega
                have hor : o ≠ r := by omega
                have hon : o < t.n := by rw [HB.out.n_]; omega
                have co := C9.cell (6 + o) (Site.cell_l _ o (by omega))
                have cn := B9.cell (6 + o) (Site.cell_l _ o (by omega))
                have cw := ((BD.out.keep0 R9.keep)).cell 1 rfl
                rw [NSt.site_l _ _ hrn (by omega), ← HLR.out] at cl
                rw [NSt.site_b _ _ hrn (by omega), ← HBR.out] at cb
                rw [NSt.site_l _ _ hon (by omega)] at co
                rw [NSt.site_l _ _ (by rw [q4]; exact hon) (by omega), q3, upd_other _ _ _ _ hor] at cn
                generalize t.len o = lo at co cn
                have HR9 := Lib.hid R9
                have HQ3 := Lib.hid q3
                have HQ4 := Lib.hid q4
                have HQ5 := Lib.hid q5
                have ho0 : (0 : Int) ≤ (o : Int) := by omega
                have ho5 : (o : Int) < 5 := by omega
                obtain ⟨d, hd⟩ : ∃ d : Nat, IntKind.i64.wrap ((lr : Int) - br) = d ∧ d = lr - br := ⟨lr - br, by rw [IntKind.wrap_i64]; omega, rfl⟩
                obtain ⟨dk, hdk⟩ : ∃ dk : Nat, IntKind.i64.wrap ((d : Int) + k) = dk ∧ dk = lr - br + k := ⟨d + k, by rw [IntKind.wrap_i64]; omega, by omega⟩
                have hwlk : IntKind.i64.wrap ((lr : Int) + k) = lk := by rw [IntKind.wrap_i64]; omega
                have hwo : IntKind.i64.wrap (1 - (r : Int)) = o := by rw [IntKind.wrap_i64]; omega
                have hle : decide (dk ≤ wd) = true := by rw [decide_eq_true_iff]; omega
                obtain ⟨hd, -⟩ := hd
                obtain ⟨hdk, -⟩ := hdk
                clear R8 k8 R9 B9 C9 B8 s9 hg9 hK K q3 q4 q5 q6 HB7 HR7 k9 ho hor
                simp only [Act.put, List.setIfInBounds_toArray, List.set_cons_succ, List.set_cons_zero]
                go_wp2_with fail
                go_quiet (fail)
                go_wp2_with fail
                go_quiet (fail)
                go_wp2
                go_roundg (2 - (r + 1))
                case measure => omega
                case rel =>
                  refine ⟨r + 1, t.push r (t.len r + 1) k, by omega, by omega, by go_num, (show Hid _ from ⟨(HR9.out.more ((Keep.refl _ _).drewN _)), by rw [HQ4.out, HB.out.n_], by rw [HQ5.out, HB.out.most], fun j hj => ?_⟩)⟩
                  rw [HQ3.out, upd_other _ _ _ _ (by omega)]
                  exact HB.out.rest j hj
              · obtain ⟨q1, q2, q3⟩ := t.next_no r k (by rw [← HLR.out, ← HBR.out, HB.out.most]; exact g3) (by rw [← HLR.out, ← HBR.out, HB.out.most]; exact hfit) (by rw [← HLR.out, ← HBR.out]; exact g1)
                rw [q1, q2, q3] at hpush
                have HP := Lib.hid hpush
                clear hpush hv6 k6 R6 q1 q2 q3 t0 ha1 cl cb e1
                go_wp2_with fail
                refine HP.out.mono ?_
                rintro e w7 ⟨rfl, R7, k7⟩
                have B7 := B6.keep k7 HF5.out
                have HR7 := Lib.hid R7
                have HB7 := Lib.hid B7
                clear R7 B7 k7 B6 HP
                go_wp2_with fail
                refine (site_row_any HR7.out).mono ?_
                rintro e w8 ⟨rfl, R8, k8⟩
                have B8 := HB7.out.keep0 k8
                rename_i K hK
                refine hK _ _ (wpList_newvar rfl rfl 51 14 rfl rfl (.tmp 75) rfl rfl t.site.cells 36 rfl rfl (by kernel_rfl) (by kernel_rfl) (Site.cells_length _) (Site.one _) ?_)
                intro w9 B9 k9 s9
                have R9 := R8.more k9
                obtain ⟨g9, hg9⟩ : ∃ g, g = w8.heap.size := ⟨_, rfl⟩
                rw [← hg9] at B9 ⊢
                have C9 := B8.keep0 k9
                have cl := C9.cell (6 + r) (Site.cell_l _ r (by omega))
                have cb := C9.cell (1 + r) (Site.cell_b _ r (by omega))
                obtain ⟨o, ho⟩ : ∃ o : Nat, 1 - (r : Int) = o := ⟨1 - r, by omega⟩
                have ho2 : o < 2 := by omega
                have hon : o < t.n := by rw [HB.out.n_]; omega
                have co := C9.cell (6 + o) (Site.cell_l _ o (by omega))
                have cn := B9.cell (6 + o) (Site.cell_l _ o (by omega))
                have cw := ((BD.out.keep0 R9.keep)).cell 1 rfl
                rw [NSt.site_l _ _ hrn (by omega), ← HLR.out] at cl
                rw [NSt.site_b _ _ hrn (by omega), ← HBR.out] at cb
                rw [NSt.site_l _ _ hon (by omega)] at co cn
                generalize t.len o = lo at co cn
                have HR9 := Lib.hid R9
                have ho0 : (0 : Int) ≤ (o : Int) := by omega
                have ho5 : (o : Int) < 5 := by omega
                obtain ⟨d, hd⟩ : ∃ d : Nat, IntKind.i64.wrap ((lr : Int) - br) = d ∧ d = lr - br := ⟨lr - br, by rw [IntKind.wrap_i64]; omega, rfl⟩
                obtain ⟨dk, hdk⟩ : ∃ dk : Nat, IntKind.i64.wrap ((d : Int) + k) = dk ∧ dk = lr - br + k := ⟨d + k, by rw [IntKind.wrap_i64]; omega, by omega⟩
                have hwo : IntKind.i64.wrap (1 - (r : Int)) = o := by rw [IntKind.wrap_i64]; omega
                have hle : decide (dk ≤ wd) = false := by rw [decide_eq_false_iff_not]; omega
                have hk0 : ((k : Int) == 0) = false := by rw [beq_eq_false_iff_ne]; omega
                have HB9 := Lib.hid B9
                have HC9 := Lib.hid C9
                have hns := neq_site t.site
                have hgs := guard_site
                obtain ⟨hd, -⟩ := hd
                obtain ⟨hdk, -⟩ := hdk
                clear R8 k8 R9 B9 C9 B8 s9 hg9 hK K HB7 HR7 k9 ho
                simp only [Act.put, List.setIfInBounds_toArray, List.set_cons_succ, List.set_cons_zero]
                go_wp2_with fail
                go_quiet (fail)
                go_wp2_with fail
                refine wp_region_quiet_lit (by kernel_rfl) (by kernel_rfl) ?_
                iterate 34 (go_big_quiet_step (fail))
                go_big_quiet_want
                refine quiet_loadrow 51 (.tmp 14) rfl g9 rfl t.site.cells (fun _ ⟨m, hm⟩ => by rw [hm]; exact (HB9.out.drewN nq).drewN m) _ Try.underlying51 rfl (by rw [Site.cells_length]; kernel_rfl) ?_
                go_big_quiet_on
                simp only [Act.put, List.setIfInBounds_toArray, List.set_cons_succ, List.set_cons_zero]
                go_big_quiet_want
                refine quiet_loadrow 51 (.tmp 10) rfl g5 rfl t.site.cells (fun _ ⟨m, hm⟩ => by rw [hm]; exact (HC9.out.drewN nq).drewN m) _ Try.underlying51 rfl (by rw [Site.cells_length]; kernel_rfl) ?_
                go_big_quiet_on
                simp only [Act.put, List.setIfInBounds_toArray, List.set_cons_succ, List.set_cons_zero]
                repeat (go_big_quiet_step (fail))
                refine wpQuiet_nil ?_
                intro _ hw'
                obtain ⟨nz, rfl⟩ := hw'
                go_wp2
                go_roundg (2 - (r + 1))
                case measure => omega
                case rel => exact ⟨r + 1, t, by omega, by omega, by go_num, (show Hid _ from ⟨(HR9.out.more ((Keep.refl _ _).drewN _)), HB.out.n_, HB.out.most, HB.out.rest⟩)⟩
            · obtain rfl : r = 2 := by omega
              have hr2z : ¬ ((2 : Nat) : Int) < 2 := by omega
              have hfe := fetch_two t HB.out.rest t.n (by rw [HB.out.n_]; omega)
              have hfetch := fetch_row_any 0 Clk.zero HB.out.row (by rw [HB.out.n_]; omega)
              rw [hfe] at hfetch
              have HFE := Lib.hid hfetch
              clear hfe hfetch
              have h1n : 1 < t.n := by rw [HB.out.n_]; omega
              obtain ⟨g1, g2, g3, _⟩ := HB.out.row.good 1 h1n
              obtain ⟨m1, hm1⟩ : ∃ m1, m1 = t.len 1 - t.base 1 := ⟨_, rfl⟩
              obtain ⟨b1, hb1⟩ : ∃ b1, b1 = t.base 1 := ⟨_, rfl⟩
              obtain ⟨l1, hl1⟩ : ∃ l1, l1 = t.len 1 := ⟨_, rfl⟩
              have hm9 : m1 ≤ 100 := by omega
              have hsub : IntKind.i64.wrap ((l1 : Int) - b1) = m1 := by rw [IntKind.wrap_i64]; omega
              rw [← hm1] at HFE
              have HB1 := Lib.hid hb1
              have HL1 := Lib.hid hl1
              have HSUB := Lib.hid hsub
              clear hm1 hb1 hl1 g1 g2 g3 hsub
              go_wp2_with fail
              refine HFE.out.mono ?_
              rintro e w5 ⟨⟨v5, rfl, hv5⟩, R5, k5⟩
              have HR5 := Lib.hid R5
              obtain ⟨A5, c5', rfl, hlc, -, hA5⟩ := hv5.form
              rw [row16_length] at hlc ⊢
              have hrd : ∀ kk, kk < m1 → ∃ g o, A5 = some ⟨g, o, none⟩ ∧ w5.cell? ⟨g, o + kk * 12, none⟩ = some (.int .i64 1) := by
                intro kk hkk
                rcases hA5 with ⟨_, _, h0⟩ | ⟨g, o, cur, fr, rfl, hh, hx⟩
                · have := congrArg List.length h0
                  rw [row16_length] at this
                  simp at this
                  omega
                · exact ⟨g, o, rfl, (ev_at hh hx (row16_at (r := 1) _ _ _ hkk)).1⟩
              have HRD := Lib.hid hrd
              clear R5 k5 hv5 hA5 hrd HFE
              go_wp2
              go_loopg [18] m1 (fun gg3 s18 wx => ∃ kk : Nat, kk ≤ m1 ∧ m1 - kk ≤ gg3 ∧ s18 = .int .i64 kk ∧ wx = w5)
              case atStart => exact ⟨0, by omega, by omega, rfl, rfl⟩
              case round =>
                obtain ⟨kk, hkk, hg3, rfl, rfl⟩ := hrel
                by_cases hkm : kk < m1
                · have hkmz : (kk : Int) < (m1 : Int) := by omega
                  have hkk0 : (0 : Int) ≤ (kk : Int) := by omega
                  obtain ⟨g, o, rfl, ce⟩ := HRD.out kk hkm
                  go_wp2
                  go_roundg (m1 - (kk + 1))
                  case measure => omega
                  case rel => exact ⟨kk + 1, by omega, by omega, by go_num, rfl⟩
                · obtain rfl : kk = m1 := by omega
                  have hkmz : ¬ (kk : Int) < (kk : Int) := by omega
                  go_wp2_with fail
                  refine (site_row_any HR5.out).mono ?_
                  rintro e w6 ⟨rfl, R6, -⟩
                  rename_i K hK
                  refine hK _ _ (wpList_newvar rfl rfl 51 19 rfl rfl (.tmp 152) rfl rfl t.site.cells 36 rfl rfl (by kernel_rfl) (by kernel_rfl) (Site.cells_length _) (Site.one _) ?_)
                  intro w7 B7 k7 s7
                  have R7 := R6.more k7
                  obtain ⟨g7, hg7⟩ : ∃ g, g = w6.heap.size := ⟨_, rfl⟩
                  rw [← hg7] at B7 ⊢
                  have cl := B7.cell (6 + 1) (Site.cell_l _ 1 (by omega))
                  have cb := B7.cell (1 + 1) (Site.cell_b _ 1 (by omega))
                  rw [NSt.site_l _ _ h1n (by omega), ← HL1.out] at cl
                  rw [NSt.site_b _ _ h1n (by omega), ← HB1.out] at cb
                  have hsub := HSUB.out
                  have HA7 : Hid (ApSt wc L n wd (4 * (i + 1)) t w7) := ⟨R7, HB.out.n_, HB.out.most, HB.out.rest⟩
                  have cN := (BD.out.keep0 R7.keep).cell 0 rfl
                  clear R6 R7 B7 k7 s7 hg7 hK K
                  obtain ⟨m3, hm3, hm33⟩ : ∃ m3 : Nat, (i : Int).tmod 3 = m3 ∧ m3 < 3 := ⟨i % 3, by rw [Int.tmod_eq_emod_of_nonneg (by omega)]; omega, by omega⟩
                  go_wp2
                  go_loopg [20] n (fun gg4 s20 wz => ∃ (r' : Nat) (u : NSt), r' ≤ n ∧ n - r' ≤ gg4 ∧ s20 = .int .i64 r' ∧ Hid (ApSt wc L n wd (4 * (i + 1)) u wz))
                  case atStart => exact ⟨0, t, by omega, by omega, rfl, HA7⟩
                  case round =>
                    obtain ⟨r', u, hr', hg4, rfl, HZ⟩ := hrel
                    have cZ := (BD.out.keep0 HZ.out.row.keep).cell 0 rfl
                    by_cases hrn' : r' < n
                    · have hrnz : (r' : Int) < (n : Int) := by omega
                      by_cases hm2 : m3 = 2
                      · subst hm2
                        have hfl := field_l u.site
                        have hack := fun W (R : PRow wc L u (4 * (i + 1)) W) => ack_row_any r' u.site.l R (by rw [HZ.out.n_]; exact hrn')
                        have HAK := Lib.hid hack
                        clear hack
                        go_wp2_with fail
                        refine (site_row_any HZ.out.row).mono ?_
                        rintro e w8 ⟨rfl, R8, -⟩
                        have HR8 := Lib.hid R8
                        clear R8
                        go_wp2_with fail
                        refine (HAK.out _ HR8.out).mono ?_
                        rintro e w9 ⟨rfl, R9, -⟩
                        obtain ⟨q1, q2, q3, q4⟩ := u.told_rest r' u.site.l
                        have HA9 : Hid (ApSt wc L n wd (4 * (i + 1)) (u.told r' u.site.l) w9) := ⟨R9, by rw [q1, HZ.out.n_], by rw [q4, HZ.out.most], fun j hj => by rw [q2]; exact HZ.out.rest j hj⟩
                        clear R9 q1 q2 q3 q4 HR8 HAK hfl
                        go_wp2
                        go_roundg (n - (r' + 1))
                        case measure => omega
                        case rel => exact ⟨r' + 1, _, by omega, by omega, by go_num, HA9⟩
                      · have hm2z : ((m3 : Int) == 2) = false := by rw [beq_eq_false_iff_ne]; omega
                        go_wp2
                        go_roundg (12 - (i + 1))
                        case measure => omega
                        case rel => exact ⟨i + 1, u, by omega, by omega, by go_num, HZ⟩
                    · have hrnz : ¬ (r' : Int) < (n : Int) := by omega
                      go_wp2
                      go_roundg (12 - (i + 1))
                      case measure => omega
                      case rel => exact ⟨i + 1, u, by omega, by omega, by go_num, HZ⟩
        · have hi12z : ¬ (i : Int) < 12 := by omega
          go_wp2
          go_ret
          exact ⟨rfl, K3.out.trans HA.out.row.keep⟩
      · have hiNz : ¬ (i : Int) < (N : Int) := by omega
        go_wp2
        go_ret
        exact ⟨rfl, K3.out.trans HA.out.row.keep⟩
end Go.Proofs.Ytfhhjabclmkkmaa
