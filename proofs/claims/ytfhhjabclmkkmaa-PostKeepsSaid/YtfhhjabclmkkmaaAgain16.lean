/- Layer 16: PostAgain. -/
import Derived.Test.YtfhhjabclmkkmaaApart16
import Derived.StillTailTactics
import Derived.Deep.RegionHeld3
import Derived.Deep.MidRow
namespace Go.Proofs.Ytfhhjabclmkkmaa
open Go.RowKit Go.Proofs

theorem NSt.ext' {s t : NSt} (h1 : s.n = t.n) (h2 : s.most = t.most) (h3 : ∀ i, s.base i = t.base i) (h4 : ∀ i, s.len i = t.len i) (h5 : ∀ i, s.ack i = t.ack i) : s = t := by
  cases s; cases t
  simp only at h1 h2 h3 h4 h5
  subst h1 h2
  congr 1
  · funext i; exact h3 i
  · funext i; exact h4 i
  · funext i; exact h5 i
theorem join_idem (a c : Clk) : join (join a c) c = join a c := by
  apply Clk.ext_get
  intro k hk
  rw [join_get _ _ _ hk, join_get _ _ _ hk]
  omega

/-- Told once, told twice: the same. -/
theorem NSt.told_twice (s : NSt) (r : Nat) (c : Clk) : (s.told r c).told r c = s.told r c ∧ ∀ i, i < s.n → (s.told r c).cutB i = (s.told r c).base i := by
  obtain ⟨h1, h2, h3, h4⟩ := s.told_rest r c
  obtain ⟨g1, g2, g3, g4⟩ := (s.told r c).told_rest r c
  have hb : ∀ i, i < s.n → (s.told r c).cutB i = (s.told r c).base i := by
    intro i hi
    unfold NSt.cutB
    rw [h1, h2, h3, NSt.told_base _ _ _ _ hi]
    omega
  have hack : upd (s.told r c).ack r (join ((s.told r c).ack r) c) = (s.told r c).ack := by
    funext i
    by_cases e : i = r
    · subst e
      rw [upd_same, h3, upd_same, join_idem]
    · rw [upd_other _ _ _ _ e]
  refine ⟨NSt.ext' g1 g4 (fun i => ?_) (fun i => by rw [g2]) (fun i => by rw [g3, hack]), hb⟩
  by_cases hi : i < s.n
  · rw [NSt.told_base _ _ _ _ (by rw [h1]; exact hi), hack]
    have := hb i hi
    unfold NSt.cutB at this
    exact this
  · show (({ s.told r c with ack := upd (s.told r c).ack r (join ((s.told r c).ack r) c) } : NSt).cuts (s.told r c).n).base i = _
    rw [NSt.cuts_base, if_neg (by rw [h1]; exact hi)]

/-- The same pushed once more, behind what was told: nothing turns. -/
theorem NSt.push_twice (s : NSt) (r k n0 : Nat) (c : Clk) (hr : r < s.n) (hlen : s.len r = n0 + k) :
    (s.told r c).pushE r (n0 + 1) k = 0 ∧ (s.told r c).pushN r (n0 + 1) k = (n0 : Int) + k ∧ (s.told r c).push r (n0 + 1) k = s.told r c := by
  obtain ⟨h1, h2, h3, h4⟩ := s.told_rest r c
  have hE : (s.told r c).pushE r (n0 + 1) k = 0 := by
    unfold NSt.pushE
    rw [if_pos (by rw [h2, hlen]; omega)]
  have hl : ((s.told r c).grow r (n0 + 1) k).len = (s.told r c).len := by
    funext i
    show upd (s.told r c).len r (max ((s.told r c).len r) (n0 + 1 + k - 1)) i = (s.told r c).len i
    by_cases e : i = r
    · subst e
      rw [upd_same, h2, hlen]
      omega
    · rw [upd_other _ _ _ _ e]
  have hgr : (s.told r c).grow r (n0 + 1) k = s.told r c := NSt.ext' rfl rfl (fun _ => rfl) (fun i => by rw [hl]) (fun _ => rfl)
  refine ⟨hE, ?_, ?_⟩
  · unfold NSt.pushN
    rw [if_pos hE, hl, h2, hlen]
    omega
  · unfold NSt.push
    rw [if_pos hE, hgr]
    refine NSt.ext' rfl rfl (fun i => ?_) (fun _ => rfl) (fun _ => rfl)
    show upd (s.told r c).base r ((s.told r c).cutB r) i = (s.told r c).base i
    by_cases e : i = r
    · subst e
      rw [upd_same]
      exact (NSt.told_twice s i c).2 i hr
    · rw [upd_other _ _ _ _ e]

theorem NSt.push_rest (s : NSt) (r a k : Nat) : (s.push r a k).n = s.n ∧ (∀ i, s.len i ≤ (s.push r a k).len i) ∧ (s.pushE r a k = 0 → s.pushN r a k = ((s.push r a k).len r : Nat) ∧ (s.push r a k).len r = max (s.len r) (a + k - 1)) := by
  unfold NSt.push NSt.pushN
  by_cases h : s.pushE r a k = 0
  · rw [if_pos h]
    refine ⟨rfl, fun i => s.grow_le r a k i, fun _ => ⟨?_, ?_⟩⟩
    · rw [if_pos h]; rfl
    · show upd s.len r (max (s.len r) (a + k - 1)) r = _
      rw [upd_same]
  · rw [if_neg h]
    exact ⟨rfl, fun _ => Nat.le_refl _, fun h' => absurd h' h⟩

/-- What of an operation the laws look at. -/
structure OpV where
  kind : Int
  many : Int
  back : Int
  R : Int
  C : Clk
def OpV.ok (x : OpV) : Prop := (0 ≤ x.kind ∧ x.kind < 256) ∧ (0 ≤ x.many ∧ x.many < 256) ∧ -9223372036854775808 ≤ x.R ∧ x.R ≤ 9223372036854775807
def OpAt (w : World) (g o : Nat) (x : OpV) : Prop :=
  w.cell? ⟨g, o, none⟩ = some (.int .u8 x.kind) ∧ w.cell? ⟨g, o + 1, none⟩ = some (.int .u8 x.many) ∧ w.cell? ⟨g, o + 3, none⟩ = some (.int .i64 x.R) ∧
  w.cell? ⟨g, o + 4, none⟩ = some (.int .i64 x.C.c0) ∧ w.cell? ⟨g, o + 4 + 1, none⟩ = some (.int .i64 x.C.c1) ∧ w.cell? ⟨g, o + 4 + 2, none⟩ = some (.int .i64 x.C.c2) ∧ w.cell? ⟨g, o + 4 + 3, none⟩ = some (.int .i64 x.C.c3) ∧ w.cell? ⟨g, o + 4 + 4, none⟩ = some (.int .i64 x.C.c4)
theorem OpAt.keep0 {w w' : World} {g o : Nat} {x : OpV} (h : OpAt w g o x) (hk : Keep nob w w') : OpAt w' g o x := by
  obtain ⟨h1, h2, h3, h4, h5, h6, h7, h8⟩ := h
  exact ⟨hk.cell0 h1, hk.cell0 h2, hk.cell0 h3, hk.cell0 h4, hk.cell0 h5, hk.cell0 h6, hk.cell0 h7, hk.cell0 h8⟩
/-- A slice of operations. -/
def Ops (w : World) (v : Value) (n : Nat) : Prop :=
  ∃ A c, v = .slice A n c ∧ n ≤ 9223372036854775807 ∧ ∀ i, i < n → ∃ g o x, A = some ⟨g, o, none⟩ ∧ OpV.ok x ∧ OpAt w g (o + i * 10) x

set_option maxRecDepth 100000 in
set_option maxHeartbeats 8000000 in
theorem postAgain_any (c0 c1 c2 c3 c4 c5 : Int) (v : Value) (N : Nat) (w : World) (hv : Ops w v N) :
    Calls Try.prog 6 #[cfg c0 c1 c2 c3 c4 c5, v] w fun e w' => e = .returned (.bool true) ∧ Keep nob w w' := by
  obtain ⟨A, cc, rfl, hN, hvv⟩ := hv
  have hfit := fit_any c0 c1 c2 c3 c4 c5
  have HV := Lib.hid hvv
  clear hvv
  unfold cfg at hfit ⊢
  go_enter Try.func6, Try.ntmps6
  go_wp2_with fail
  refine (shown16 _).mono ?_
  rintro e w0 ⟨rfl, k0⟩
  have bx := (Blk.new w 37 [.int .i64 c0, .int .i64 c1, .int .i64 c2, .int .i64 c3, .int .i64 c4, .int .i64 c5]).keep0 k0
  have k0' := (Keep.alloc (Keep.refl nob w) _).trans k0
  have x0 := bx.cell 0 rfl
  have x1 := bx.cell 1 rfl
  have x2 := bx.cell 2 rfl
  have x3 := bx.cell 3 rfl
  have x4 := bx.cell 4 rfl
  have x5 := bx.cell 5 rfl
  have HK0 := Lib.hid k0'
  clear k0 k0' bx
  go_wp2_with fail
  refine (hfit _).mono ?_
  rintro e w1 ⟨n, wd, q, h, l, p, rfl, hn, hwd, k1⟩
  have HK1 := Lib.hid (HK0.out.trans k1)
  clear k1 x0 x1 x2 x3 x4 x5 hfit HK0
  go_upto_region 3 with fail
  have bc := Blk.new w1 37 [.int .i64 (n : Int), .int .i64 (wd : Int), .int .i64 q, .int .i64 h, .int .i64 l, .int .i64 p]
  have k2 := HK1.out.alloc (.cells #[.int .i64 (n : Int), .int .i64 (wd : Int), .int .i64 q, .int .i64 h, .int .i64 l, .int .i64 p] 37)
  change Code.wp _ _ _ _ (w1.alloc (.cells #[.int .i64 (n : Int), .int .i64 (wd : Int), .int .i64 q, .int .i64 h, .int .i64 l, .int .i64 p] 37))
  generalize (w1.alloc (.cells #[.int .i64 (n : Int), .int .i64 (wd : Int), .int .i64 q, .int .i64 h, .int .i64 l, .int .i64 p] 37)) = wc at *
  obtain ⟨CB, hCB⟩ : ∃ CB, CB = w1.heap.size := ⟨_, rfl⟩
  rw [← hCB] at bc ⊢
  clear hCB HK1
  have BD := Lib.hid bc
  have K3 := Lib.hid k2
  clear bc k2
  have y0 := BD.out.cell 0 rfl
  have y1 := BD.out.cell 1 rfl
  have y2 := BD.out.cell 2 rfl
  have y3 := BD.out.cell 3 rfl
  have y4 := BD.out.cell 4 rfl
  have y5 := BD.out.cell 5 rfl
  go_wp2_with fail
  refine (new_row_any n wd q h l p (by omega) wc).mono ?_
  rintro e w3 ⟨L, rfl, R0⟩
  have HR0 := Lib.hid R0
  clear y0 y1 y2 y3 y4 y5 R0
  go_wp2
  go_loopg [8] 40 (fun gg s8 wr => ∃ (i : Nat) (s : NSt), i ≤ 40 ∧ 40 - i ≤ gg ∧ s8 = .int .i64 i ∧ s.n = n ∧ Hid (PRow wc L s (6 * i) wr))
  case atStart => exact ⟨0, _, by omega, by omega, rfl, rfl, HR0⟩
  case round =>
    obtain ⟨i, s, hi, hg, rfl, hsn, HR⟩ := hrel
    have HSN := Lib.hid hsn
    clear hsn
    by_cases hiN : i < N
    · have hiNz : (i : Int) < (N : Int) := by omega
      by_cases hi12 : i < 40
      · have hi12z : (i : Int) < 40 := by omega
        have hi0 : (0 : Int) ≤ (i : Int) := by omega
        obtain ⟨g, o, x, rfl, hxo, hxa⟩ := HV.out i hiN
        have KW := Lib.hid (K3.out.trans HR.out.keep)
        have HXA := Lib.hid hxa
        obtain ⟨t0, t1, t3, u0, u1, u2, u3, u4⟩ := hxa.keep0 KW.out
        obtain ⟨a, b, ea, la, ua, eb, lb, ub⟩ := fit1 x.R n (by omega)
        obtain ⟨s1, hs1, hs2⟩ : ∃ s1, IntKind.i64.wrap (a + (n : Int)) = s1 ∧ s1.tmod n = b := ⟨a + n, by rw [IntKind.wrap_i64]; omega, eb⟩
        obtain ⟨r, rfl⟩ : ∃ r : Nat, b = r := ⟨b.toNat, by omega⟩
        have hz2 : ((n : Int) == 0) = false := by rw [beq_eq_false_iff_ne]; omega
        have hrn : r < s.n := by rw [HSN.out]; omega
        have y0 := (BD.out.keep0 HR.out.keep).cell 0 rfl
        clear eb hxa
        go_wp2_with fail
        go_quiet (fail)
        obtain ⟨w4, hw4⟩ : ∃ w4, w4 = wr.drewN nq := ⟨_, rfl⟩
        rw [← hw4]
        have k4 : Keep nob wr w4 := by rw [hw4]; exact (Keep.refl _ _).drewN _
        have R4 := HR.out.more k4
        clear hw4 t0 t1 t3 u0 u1 u2 u3 u4 y0 ea k4
        obtain ⟨t0, t1, t3, u0, u1, u2, u3, u4⟩ := HXA.out.keep0 (K3.out.trans R4.keep)
        obtain ⟨k, hk, hk6⟩ : ∃ k : Nat, x.many.tmod 6 = k ∧ k < 6 := ⟨(x.many.tmod 6).toNat, by rw [Int.toNat_of_nonneg (Int.tmod_nonneg _ hxo.2.1.1)], by have h1 := Int.tmod_lt_of_pos x.many (b := 6) (by omega); have h2 := Int.tmod_nonneg 6 hxo.2.1.1; omega⟩
        obtain ⟨g1, g2, g3, _⟩ := HR.out.good r hrn
        obtain ⟨lr, hlr⟩ : ∃ lr, lr = s.len r := ⟨_, rfl⟩
        rw [← hlr] at g1 g2 g3
        obtain ⟨a1, ha1⟩ : ∃ a1 : Nat, a1 = lr + 1 := ⟨_, rfl⟩
        have hwa : IntKind.i64.wrap ((lr : Int) + 1) = a1 := by rw [IntKind.wrap_i64]; omega
        have hwk : IntKind.i64.wrap (k : Int) = k := by rw [IntKind.wrap_i64]; omega
        have hr5 : r < 5 := by omega
        have hfl := field_l s.site
        have hix := index_clk s.site.l r (r : Int) rfl hr5
        rw [NSt.site_l _ _ hrn hr5, ← hlr] at hix
        have hsite := site_row_any (R4.more (Keep.refl nob w4).drew)
        have hrow := fun W => row16_sl r a1 k W (by omega) (by omega)
        have HSI := Lib.hid hsite
        have HRO := Lib.hid hrow
        have HR4 := Lib.hid R4
        have HLR := Lib.hid hlr
        have HA1 := Lib.hid ha1
        clear hsite hrow R4 hlr ha1 t0 t3 u0 u1 u2 u3 u4 hs1 hs2
        go_wp2_with fail
        go_region_held3 (fun w' => w'.cell? ⟨g, o + i * 10 + 1, none⟩ = some (.int .u8 x.many)) (first | exact K6.out.cell0 t1 | exact K5.out.cell0 t1 | go_keep)
          (first
            | ((go_at_call 23; refine HSI.out.mono ?_; rintro e w5 ⟨rfl, R5, k5⟩; have K5 : Hid (Keep nob w4 w5) := (Keep.refl nob w4).drew.trans k5; have HR5 := Lib.hid R5; clear R5 k5))
            | ((go_at_call 22; refine (HRO.out _).mono ?_; rintro e w6 ⟨v6, rfl, hv6, k6⟩; have K6 : Hid (Keep nob w4 w6) := K5.out.trans k6; have HR6 := Lib.hid (HR5.out.more k6); have HV6 := Lib.hid hv6; clear hv6 k6)))
        go_wp2_with fail
        obtain ⟨p1, p2, p3⟩ := s.push_rest r a1 k
        have hpush := push_row_any r a1 k (6 * (i + 1)) v6 HR6.out hrn HV6.out (by rw [HA1.out, HLR.out]; exact Nat.le_refl _) (by omega) (by have := HA1.out; omega) (by omega)
        obtain ⟨E1, hE1⟩ : ∃ E1, E1 = s.pushE r a1 k := ⟨_, rfl⟩
        obtain ⟨N1, hN1⟩ : ∃ N1, N1 = s.pushN r a1 k := ⟨_, rfl⟩
        rw [← hE1, ← hN1] at hpush
        refine hpush.mono ?_
        rintro e w7 ⟨rfl, R7, k7⟩
        have V7 := HV6.out.keep k7 HR6.out.at_.ev_apart
        have P3 := Lib.hid p3
        have HE1 := Lib.hid hE1
        have HN1 := Lib.hid hN1
        obtain ⟨s1, hs1⟩ : ∃ s1, s1 = s.push r a1 k := ⟨_, rfl⟩
        rw [← hs1] at R7 p1 p2
        have HS1 := Lib.hid hs1
        have hr1 : r < s1.n := by rw [p1]; exact hrn
        have h1n : s1.n = n := by rw [p1]; exact HSN.out
        have H1N := Lib.hid h1n
        have hl1 : a1 ≤ s1.len r + 1 := by
          have := p2 r
          have := HA1.out
          have := HLR.out
          omega
        have HR7 := Lib.hid R7
        have HV7 := Lib.hid V7
        obtain ⟨t0, t1', t3, u0, u1, u2, u3, u4⟩ := HXA.out.keep0 (K3.out.trans R7.keep)
        clear hpush p1 p2 p3 hE1 hN1 hs1 k7 R7 V7 HR6 HV6 K5 K6 HR5 hk hwa hfl hix hwk h1n t1
        go_wp2_with fail
        refine (ack_row_any r x.C HR7.out hr1).mono ?_
        rintro e w8 ⟨rfl, R8, k8⟩
        have V8 := HV7.out.keep k8 HR7.out.at_.ev_apart
        obtain ⟨q1, q2, q3, q4⟩ := s1.told_rest r x.C
        obtain ⟨s2, hs2⟩ : ∃ s2, s2 = s1.told r x.C := ⟨_, rfl⟩
        rw [← hs2] at R8 q1 q2
        have HS2 := Lib.hid hs2
        have hr2 : r < s2.n := by rw [q1]; exact hr1
        have hl2 : a1 ≤ s2.len r + 1 := by rw [q2]; exact hl1
        have H2N : Hid (s2.n = n) := by have := H1N.out; show s2.n = n; rw [q1]; exact this
        have HR8 := Lib.hid R8
        have HV8 := Lib.hid V8
        clear t0 t1' t3 u0 u1 u2 u3 u4 q1 q2 q3 q4 hs2 k8 R8 V8 HR7 HV7
        go_wp2_with fail
        refine (site_row_any HR8.out).mono ?_
        rintro e w9 ⟨rfl, R9, k9⟩
        have V9 := HV8.out.keep0 k9
        rename_i K hK
        refine hK _ _ (wpList_newvar rfl rfl 51 13 rfl rfl (.tmp 88) rfl rfl s2.site.cells 36 rfl rfl (by kernel_rfl) (by kernel_rfl) (Site.cells_length _) (Site.one _) ?_)
        intro w10 B10 k10 s10
        have R10 := R9.more k10
        have f10 := R9.fresh (Nat.le_refl _)
        obtain ⟨gb, hgb⟩ : ∃ gb, gb = w9.heap.size := ⟨_, rfl⟩
        rw [← hgb] at B10 f10 ⊢
        have V10 := V9.keep0 k10
        have HR10 := Lib.hid R10
        have HB10 := Lib.hid B10
        have HF10 := Lib.hid f10
        have HV10 := Lib.hid V10
        clear R9 k9 V9 k10 s10 R10 B10 f10 V10 hgb hK K HR8 HV8
        go_wp2_with fail
        have hpush2 := push_row_any r a1 k (6 * (i + 1)) v6 HR10.out hr2 HV10.out hl2 (by omega) (by have := HA1.out; omega) (by omega)
        obtain ⟨p1, p2, p3⟩ := s2.push_rest r a1 k
        obtain ⟨E2, hE2⟩ : ∃ E2, E2 = s2.pushE r a1 k := ⟨_, rfl⟩
        obtain ⟨N2, hN2⟩ : ∃ N2, N2 = s2.pushN r a1 k := ⟨_, rfl⟩
        rw [← hE2, ← hN2] at hpush2
        refine hpush2.mono ?_
        rintro e w11 ⟨rfl, R11, k11⟩
        have B11 := HB10.out.keep k11 HF10.out
        have HE2 := Lib.hid hE2
        have HN2 := Lib.hid hN2
        obtain ⟨s3, hs3⟩ : ∃ s3, s3 = s2.push r a1 k := ⟨_, rfl⟩
        rw [← hs3] at R11 p1
        have HS3 := Lib.hid hs3
        have hr3 : r < s3.n := by rw [p1]; exact hr2
        have H3N : Hid (s3.n = n) := by have := H2N.out; show s3.n = n; rw [p1]; exact this
        have HF11 : Hid (¬ L.foot s3.n gb) := by show ¬ L.foot s3.n gb; rw [p1]; exact HF10.out
        have HR11 := Lib.hid R11
        have HB11 := Lib.hid B11
        obtain ⟨t0, t1', t3, u0, u1, u2, u3, u4⟩ := HXA.out.keep0 (K3.out.trans R11.keep)
        clear hpush2 p1 p2 p3 hE2 hN2 hs3 k11 R11 B11 HR10 HB10 HF10 HV10
        go_wp2_with fail
        refine (ack_row_any r x.C HR11.out hr3).mono ?_
        rintro e w12 ⟨rfl, R12, k12⟩
        have B12 := HB11.out.keep k12 HF11.out
        obtain ⟨q1, q2, q3, q4⟩ := s3.told_rest r x.C
        obtain ⟨s4, hs4⟩ : ∃ s4, s4 = s3.told r x.C := ⟨_, rfl⟩
        rw [← hs4] at R12 q1
        have HS4 := Lib.hid hs4
        have H4N : Hid (s4.n = n) := by have := H3N.out; show s4.n = n; rw [q1]; exact this
        have HF12 : Hid (¬ L.foot s4.n gb) := by show ¬ L.foot s4.n gb; rw [q1]; exact HF11.out
        have HR12 := Lib.hid R12
        have HB12 := Lib.hid B12
        have y0 := (BD.out.keep0 R12.keep).cell 0 rfl
        clear t0 t1' t3 u0 u1 u2 u3 u4 q1 q2 q3 q4 hs4 k12 R12 B12 HR11 HB11 HF11
        go_wp2_with fail
        refine (push_no_row_any (n : Int) HR12.out (by rw [H4N.out]; omega)).mono ?_
        rintro e w13 ⟨rfl, R13, k13⟩
        have HR13 := Lib.hid R13
        have HB13 := Lib.hid (HB12.out.keep k13 HF12.out)
        clear R13 k13 HR12 HB12 HF12 y0
        go_wp2_with fail
        refine (fetch_no_row_any (-1) Clk.zero HR13.out (by omega)).mono ?_
        rintro e w14 ⟨rfl, R14, k14⟩
        have y0 := (BD.out.keep0 R14.keep).cell 0 rfl
        obtain ⟨t0, t1', t3, u0, u1, u2, u3, u4⟩ := HXA.out.keep0 (K3.out.trans R14.keep)
        have HR14 := Lib.hid R14
        have HB14 := Lib.hid (HB13.out.keep0 k14)
        clear R14 k14 HR13 HB13
        go_wp2_with fail
        go_still_tail 8, (by kernel_rfl)
        change wpList _ _ _ _ _ w14.drew
        have R15 := HR14.out.more (Keep.refl nob w14).drew
        have B15 := HB14.out.drew
        generalize w14.drew = w15 at *
        have HR15 := Lib.hid R15
        have HB15 := Lib.hid B15
        clear R15 B15 HR14 HB14 t0 t1' t3 u0 u1 u2 u3 u4 y0
        go_wp2_with fail
        refine (ack_no_row_any (n : Int) x.C HR15.out (by rw [H4N.out]; omega)).mono ?_
        rintro e w16 ⟨rfl, R16, k16⟩
        have HR16 := Lib.hid R16
        have HB16 := Lib.hid (HB15.out.keep0 k16)
        clear R16 k16 HR15 HB15
        by_cases hE0 : E1 = 0
        · as_aux_lemma =>
            subst hE0
            have e0 : s.pushE r a1 k = 0 := HE1.out.symm
            obtain ⟨e1, e2⟩ := P3.out e0
            have e3 : s1.len r = lr + k := by rw [HS1.out, e2, ← HLR.out, HA1.out]; omega
            obtain ⟨e4, e5, e6⟩ := s1.push_twice r k lr x.C (by rw [H1N.out]; omega) e3
            have e7 := (s1.told_twice r x.C).1
            rw [← HS2.out] at e4 e5 e6 e7
            rw [← HA1.out] at e4 e5 e6
            have f1 : N2 = N1 := by rw [HN2.out, e5, HN1.out, e1, ← HS1.out, e3, Int.natCast_add]
            have f2 : E2 = 0 := by rw [HE2.out, e4]
            have f3 : s4 = s2 := by rw [HS4.out, HS3.out, e6, e7]
            subst f1 f2
            rw [f3] at HR16 H4N
            clear e0 e1 e2 e3 e4 e5 e6 e7 f3
            have hns := neq_site s2.site
            have hgs := guard_site
            have hsite : ∀ W, (∃ n : Later w16, W = n.val) → Calls Try.prog 23 #[.pointer (some ⟨L.b, 0, none⟩)] W fun e w'' => e = .returned (.agg s2.site.cells.toArray) ∧ ∃ n : Later w16, w'' = n.val :=
              fun W ⟨m, hm⟩ => hm ▸ (site_row_any (HR16.out.more m.keep)).mono fun e w'' hh => ⟨hh.1, ⟨w'', m.keep.trans hh.2.2⟩, rfl⟩
            have HSI2 := Lib.hid hsite
            clear hsite
            go_wp2_with fail
            refine wp_region_keep (by kernel_rfl) (by kernel_rfl) ?_
            iterate 12 (go_big_quiet_step (fail))
            go_big_quiet_want
            refine quiet_callfn 23 (.tmp 137) 44 rfl _ rfl (fun _ _ => rfl) _ HSI2.out ?_
            go_big_quiet_on
            simp only [Act.put, List.setIfInBounds_toArray, List.set_cons_succ, List.set_cons_zero]
            go_big_quiet_want
            refine quiet_loadrow 51 (.tmp 13) rfl gb rfl s2.site.cells (fun _ ⟨m, hm⟩ => hm ▸ HB16.out.keep0 m.keep) _ Try.underlying51 rfl (by rw [Site.cells_length]; kernel_rfl) ?_
            go_big_quiet_on
            simp only [Act.put, List.setIfInBounds_toArray, List.set_cons_succ, List.set_cons_zero]
            repeat (go_big_quiet_step (fail))
            refine wpQuiet_nil ?_
            rintro _ ⟨⟨w17, K17⟩, rfl⟩
            have HR17 := Lib.hid (HR16.out.more K17)
            go_wp2
            go_roundg (40 - (i + 1))
            case measure => omega
            case rel => exact ⟨i + 1, s2, by omega, by omega, by go_num, H2N.out, HR17⟩
        · have hE0z : (E1 == 0) = false := by simpa using hE0
          go_wp2_with fail
          go_quiet (fail)
          go_wp2
          go_roundg (40 - (i + 1))
          case measure => omega
          case rel => exact ⟨i + 1, s4, by omega, by omega, by go_num, H4N.out, HR16.out.more ((Keep.refl _ _).drewN _)⟩
      · have hi12z : ¬ (i : Int) < 40 := by omega
        go_wp2
        go_ret
        exact ⟨rfl, K3.out.trans HR.out.keep⟩
    · have hiNz : ¬ (i : Int) < (N : Int) := by omega
      go_wp2
      go_ret
      exact ⟨rfl, K3.out.trans HR.out.keep⟩
end Go.Proofs.Ytfhhjabclmkkmaa
