/- Layer 16: PostKeeps. -/
import Derived.Test.YtfhhjabclmkkmaaAgain16
import Derived.RegionTactic
namespace Go.Proofs.Ytfhhjabclmkkmaa
open Go.RowKit Go.Proofs

theorem Site.cell_a (s : Site) (k j : Nat) (hk : k < 5) (hj : j < 5) : s.cells[11 + k * 5 + j]? = some (.int .i64 ((s.a k).get j)) := by
  unfold Site.cells
  rw [show 11 + k * 5 + j = (10 + (k * 5 + j)) + 1 from by omega, List.getElem?_cons_succ, List.getElem?_append_right (by simp [Clk.cells])]
  have : 10 + (k * 5 + j) - (s.b.cells ++ s.l.cells).length = k * 5 + j := by simp [Clk.cells]
  rw [this]
  exact ackCells_at 5 s.a k j hk hj
theorem NSt.site_a (s : NSt) (k : Nat) (hk : k < s.n) : s.site.a k = s.ack k := by
  show (if k < s.n then s.ack k else Clk.zero) = _
  rw [if_pos hk]
theorem NSt.push_same (s : NSt) (r a k : Nat) : (s.push r a k).most = s.most ∧ (s.push r a k).ack = s.ack := by
  unfold NSt.push
  split <;> exact ⟨rfl, rfl⟩
theorem neq_clk (c : Clk) (w : World) : (binOp .neq 40 (.agg #[.int .i64 c.c0, .int .i64 c.c1, .int .i64 c.c2, .int .i64 c.c3, .int .i64 c.c4]) (.agg #[.int .i64 c.c0, .int .i64 c.c1, .int .i64 c.c2, .int .i64 c.c3, .int .i64 c.c4])).run Try.prog w = .ok (.bool false) w := by
  have h := eq_clk 9998 c c w
  simp only [Clk.cells, beq_self_eq_true] at h
  rw [run_neq_struct, h]
  rfl
theorem guard_clk : Try.prog.eqGuardType Try.prog.depth 40 = false := by kernel_rfl

theorem acks_one (a : Nat → Clk) : ∀ v ∈ ackCells 5 a, v.oneCell' = true := by
  intro v hv
  unfold ackCells at hv
  simp only [List.mem_flatMap] at hv
  obtain ⟨i, _, hv⟩ := hv
  simp only [Clk.cells, List.mem_cons, List.not_mem_nil, or_false] at hv
  rcases hv with h | h | h | h | h <;> subst h <;> rfl

/-- What the walk of PostKeeps carries: the post, and what was told, in a block of its own. -/
structure KpSt (wq : World) (L : PLay) (TB n wd M : Nat) (s : NSt) (W : World) : Prop where
  row : PRow wq L s M W
  n_ : s.n = n
  most : s.most = wd
  told : Blk W TB 46 (ackCells 5 s.ack)

/-- One told: the post, and what was told. -/
theorem KpSt.tell {wq w5 w8 w9 : World} {L : PLay} {TB n wd M M' r : Nat} {s : NSt} {c : Clk} (h : KpSt wq L TB n wd M s w5) (R8 : PRow wq L (s.told r c) M w8) (T8 : Blk w8 TB 46 (ackCells 5 s.ack)) (hr : r < 5) (k9 : Keep nob w8 w9) (hb : wq.heap.size ≤ TB) (hM : M ≤ M') (hM' : M' ≤ 1000) :
    ∃ s', KpSt wq L TB n wd M' s' (((((w9.setCell ⟨TB, r * 5, none⟩ (.int .i64 (join (s.ack r) c).c0)).setCell ⟨TB, r * 5 + 1, none⟩ (.int .i64 (join (s.ack r) c).c1)).setCell ⟨TB, r * 5 + 2, none⟩ (.int .i64 (join (s.ack r) c).c2)).setCell ⟨TB, r * 5 + 3, none⟩ (.int .i64 (join (s.ack r) c).c3)).setCell ⟨TB, r * 5 + 4, none⟩ (.int .i64 (join (s.ack r) c).c4)) := by
  obtain ⟨q1, q2, q3, q4⟩ := s.told_rest r c
  have kk : Keep (oneb TB) w9 (((((w9.setCell ⟨TB, r * 5, none⟩ (.int .i64 (join (s.ack r) c).c0)).setCell ⟨TB, r * 5 + 1, none⟩ (.int .i64 (join (s.ack r) c).c1)).setCell ⟨TB, r * 5 + 2, none⟩ (.int .i64 (join (s.ack r) c).c2)).setCell ⟨TB, r * 5 + 3, none⟩ (.int .i64 (join (s.ack r) c).c3)).setCell ⟨TB, r * 5 + 4, none⟩ (.int .i64 (join (s.ack r) c).c4)) :=
    (((((Keep.refl (oneb TB) w9).setCell (p := ⟨TB, r * 5, none⟩) (.inr rfl) _).setCell (p := ⟨TB, r * 5 + 1, none⟩) (.inr rfl) _).setCell (p := ⟨TB, r * 5 + 2, none⟩) (.inr rfl) _).setCell (p := ⟨TB, r * 5 + 3, none⟩) (.inr rfl) _).setCell (p := ⟨TB, r * 5 + 4, none⟩) (.inr rfl) _
  have R9 := R8.more k9
  have T9 := T8.keep0 k9
  refine ⟨s.told r c, ⟨R9.keep.then kk (fun i hi e => by unfold oneb at e; omega), R9.new, R9.at_.keep kk ?_ ?_ ?_ ?_ ?_, fun i hi => ?_, hM'⟩, by rw [q1]; exact h.n_, by rw [q4]; exact h.most, ?_⟩
  · obtain ⟨cs, ca, h1, _⟩ := R9.at_.head
    exact heap_ty_ne h1 T9 (by decide)
  · obtain ⟨cur, fr, h3, _⟩ := R9.at_.ptrs
    exact heap_ty_ne h3 T9 (by decide)
  · exact heap_ty_ne R9.at_.acks T9 (by decide)
  · intro i hi
    obtain ⟨v, hv, _⟩ := R9.at_.shelf i hi
    exact heap_ty_ne hv T9 (by decide)
  · intro g cur fr hg
    exact heap_ty_ne hg T9 (by decide)
  · obtain ⟨h1, h2, h3, h4⟩ := R9.good i hi
    exact ⟨h1, by omega, h3, h4⟩
  · rw [q3, ← ackCells_set 5 s.ack r (join (s.ack r) c) hr]
    exact ((((T9.set (r * 5) (.int .i64 (join (s.ack r) c).c0)).set (r * 5 + 1) (.int .i64 (join (s.ack r) c).c1)).set (r * 5 + 2) (.int .i64 (join (s.ack r) c).c2)).set (r * 5 + 3) (.int .i64 (join (s.ack r) c).c3)).set (r * 5 + 4) (.int .i64 (join (s.ack r) c).c4)

/-- What a fetch gets of one replica. -/
theorem above_want (c : Int) (k b l : Nat) (f : Int) (hf : f = max c b) (hb : b ≤ l) : above c (row16 k ((b : Int) + 1) (l - b)) = if f < l then row16 k (f.toNat + 1 : Nat) (l - f.toNat) else [] := by
  rw [above_row16]
  by_cases h : f < l
  · rw [if_pos h]
    refine row16_congr (by omega) (fun _ => by omega)
  · rw [if_neg h, show l - b - (c + 1 - ((b : Int) + 1)).toNat = 0 from by omega]
    rfl

theorem owns_keep {w w' : World} {base : Nat} {e : TypeId} {size n : Nat} {v : Value} {xs : List Value} (h : w.ownsRow base e size v n xs) (hk : Keep nob w w') : w'.ownsRow base e size v n xs := by
  refine ⟨h.1, ?_⟩
  rcases h.2 with h | ⟨g, cap, cur, hv, hg, hh, r⟩
  · exact .inl h
  · exact .inr ⟨g, cap, cur, hv, hg, hk.heap (fun hf => hf) hh, r⟩

/-- An operation by value. -/
def opAgg (k m b : Value) (R : Int) (C : Clk) (l : Value) : Value := .agg #[k, m, b, .int .i64 R, .int .i64 C.c0, .int .i64 C.c1, .int .i64 C.c2, .int .i64 C.c3, .int .i64 C.c4, l]

theorem op_clk (k m b : Value) (R : Int) (C : Clk) (l : Value) (i : Nat) (hi : i < 5) : [k, m, b, .int .i64 R, .int .i64 C.c0, .int .i64 C.c1, .int .i64 C.c2, .int .i64 C.c3, .int .i64 C.c4, l][4 + i]? = some (.int .i64 (C.get i)) := by
  match i, hi with
  | 0, _ => rfl
  | 1, _ => rfl
  | 2, _ => rfl
  | 3, _ => rfl
  | 4, _ => rfl

set_option maxRecDepth 100000 in
set_option maxHeartbeats 8000000 in
theorem postKeeps_any (c0 c1 c2 c3 c4 c5 : Int) (v : Value) (N : Nat) (xk xm xb xl : Value) (R : Int) (C : Clk) (w : World) (hv : Ops w v N) :
    Calls Try.prog 5 #[cfg c0 c1 c2 c3 c4 c5, v, opAgg xk xm xb R C xl] w fun e w' => e = .returned (.bool true) ∧ Keep nob w w' := by
  obtain ⟨A, cc, rfl, hN, hvv⟩ := hv
  have hfit := fit_any c0 c1 c2 c3 c4 c5
  have HV := Lib.hid hvv
  clear hvv
  unfold cfg at hfit ⊢
  unfold opAgg
  go_enter Try.func5, Try.ntmps5
  go_wp2_with fail
  refine (shown16 _).mono ?_
  rintro e w0 ⟨rfl, k0⟩
  have kx := Keep.alloc (Keep.refl nob w) (.cells #[.int .i64 c0, .int .i64 c1, .int .i64 c2, .int .i64 c3, .int .i64 c4, .int .i64 c5] 37)
  have bx := (((Blk.new w 37 [.int .i64 c0, .int .i64 c1, .int .i64 c2, .int .i64 c3, .int .i64 c4, .int .i64 c5]).alloc (.cells #[xk, xm, xb, .int .i64 R, .int .i64 C.c0, .int .i64 C.c1, .int .i64 C.c2, .int .i64 C.c3, .int .i64 C.c4, xl] 42))).keep0 k0
  have bo := Blk.new (w.alloc (.cells #[.int .i64 c0, .int .i64 c1, .int .i64 c2, .int .i64 c3, .int .i64 c4, .int .i64 c5] 37)) 42 [xk, xm, xb, .int .i64 R, .int .i64 C.c0, .int .i64 C.c1, .int .i64 C.c2, .int .i64 C.c3, .int .i64 C.c4, xl]
  rw [World.size_alloc] at bo
  have bo' := bo.keep0 k0
  have k0' := (kx.alloc (.cells #[xk, xm, xb, .int .i64 R, .int .i64 C.c0, .int .i64 C.c1, .int .i64 C.c2, .int .i64 C.c3, .int .i64 C.c4, xl] 42)).trans k0
  have x0 := bx.cell 0 rfl
  have x1 := bx.cell 1 rfl
  have x2 := bx.cell 2 rfl
  have x3 := bx.cell 3 rfl
  have x4 := bx.cell 4 rfl
  have x5 := bx.cell 5 rfl
  obtain ⟨XB, hXB⟩ : ∃ XB, XB = w.heap.size + 1 := ⟨_, rfl⟩
  rw [← hXB] at bo' ⊢
  have HX := Lib.hid bo'
  have HK0 := Lib.hid k0'
  clear k0 k0' bx bo bo' kx hXB
  go_wp2_with fail
  refine (hfit _).mono ?_
  rintro e w1 ⟨n, wd, q, h, l, p, rfl, hn, hwd, k1⟩
  have HK1 := Lib.hid (HK0.out.trans k1)
  have HX1 := Lib.hid (HX.out.keep0 k1)
  clear k1 x0 x1 x2 x3 x4 x5 hfit HK0 HX
  go_upto_region 3 with fail
  have bc := Blk.new w1 37 [.int .i64 (n : Int), .int .i64 (wd : Int), .int .i64 q, .int .i64 h, .int .i64 l, .int .i64 p]
  have k2 := HK1.out.alloc (.cells #[.int .i64 (n : Int), .int .i64 (wd : Int), .int .i64 q, .int .i64 h, .int .i64 l, .int .i64 p] 37)
  have HX2 := Lib.hid (HX1.out.alloc (.cells #[.int .i64 (n : Int), .int .i64 (wd : Int), .int .i64 q, .int .i64 h, .int .i64 l, .int .i64 p] 37))
  change Code.wp _ _ _ _ (w1.alloc (.cells #[.int .i64 (n : Int), .int .i64 (wd : Int), .int .i64 q, .int .i64 h, .int .i64 l, .int .i64 p] 37))
  generalize (w1.alloc (.cells #[.int .i64 (n : Int), .int .i64 (wd : Int), .int .i64 q, .int .i64 h, .int .i64 l, .int .i64 p] 37)) = wq at *
  obtain ⟨CB, hCB⟩ : ∃ CB, CB = w1.heap.size := ⟨_, rfl⟩
  rw [← hCB] at bc ⊢
  clear hCB HK1 HX1
  have BD := Lib.hid bc
  have K3 := Lib.hid k2
  clear bc k2
  have y0 := BD.out.cell 0 rfl
  have y1 := BD.out.cell 1 rfl
  have y2 := BD.out.cell 2 rfl
  have y3 := BD.out.cell 3 rfl
  have y4 := BD.out.cell 4 rfl
  have y5 := BD.out.cell 5 rfl
  go_wp2_with fail
  refine (new_row_any n wd q h l p (by omega) wq).mono ?_
  rintro e w3 ⟨L, rfl, R0⟩
  have HR0 := Lib.hid R0
  clear y0 y1 y2 y3 y4 y5 R0
  go_upto_region 6 with fail
  refine wp_region_lit (wpList_buildTo rfl 46 _ rfl (some 34) rfl (ackCells 5 (fun _ => Clk.zero)).toArray (by kernel_rfl) ?_)
  refine wpList_newvar rfl rfl 46 10 rfl rfl (.tmp 34) rfl rfl (ackCells 5 (fun _ => Clk.zero)) 25 rfl rfl (by kernel_rfl) (by kernel_rfl) (ackCells_length _ _) (acks_one _) ?_
  intro w4 B4 k4 s4
  have R4 := HR0.out.more k4
  have f4 := HR0.out.fresh (Nat.le_refl _)
  obtain ⟨TB, hTB⟩ : ∃ TB, TB = w3.heap.size := ⟨_, rfl⟩
  rw [← hTB] at B4 f4 ⊢
  have HS0 : Hid (KpSt wq L TB n wd (6 * 0) (NSt.new n wd) w4) := ⟨R4, rfl, rfl, B4⟩
  have hcb : wq.heap.size ≤ TB := by have := HR0.out.keep.size; omega
  have HT : Hid (¬ L.foot n TB) := f4
  clear R4 f4 B4 k4 s4 hTB HR0
  go_upto_block 0 with fail
  go_cut [] (fun wx => Hid (∃ i s, i ≤ 40 ∧ KpSt wq L TB n wd (6 * i) s wx))
  case first =>
    --[B
    go_wp2
    go_loopg [11] 40 (fun gg s11 wr => ∃ (i : Nat) (s : NSt), i ≤ 40 ∧ 40 - i ≤ gg ∧ s11 = .int .i64 i ∧ Hid (KpSt wq L TB n wd (6 * i) s wr))
    case atStart => exact ⟨0, _, by omega, by omega, rfl, HS0⟩
    case round =>
      obtain ⟨i, s, hi, hg, rfl, HS⟩ := hrel
      by_cases hiN : i < N
      · have hiNz : (i : Int) < (N : Int) := by omega
        by_cases hi40 : i < 40
        · have hi40z : (i : Int) < 40 := by omega
          have hi0 : (0 : Int) ≤ (i : Int) := by omega
          obtain ⟨g, o, x, rfl, hxo, hxa⟩ := HV.out i hiN
          have KW := Lib.hid (K3.out.trans HS.out.row.keep)
          have HXA := Lib.hid hxa
          obtain ⟨t0, t1, t3, u0, u1, u2, u3, u4⟩ := hxa.keep0 KW.out
          obtain ⟨a, b, ea, la, ua, eb, lb, ub⟩ := fit1 x.R n (by omega)
          obtain ⟨s1, hs1, hs2⟩ : ∃ s1, IntKind.i64.wrap (a + (n : Int)) = s1 ∧ s1.tmod n = b := ⟨a + n, by rw [IntKind.wrap_i64]; omega, eb⟩
          obtain ⟨r, rfl⟩ : ∃ r : Nat, b = r := ⟨b.toNat, by omega⟩
          have hz2 : ((n : Int) == 0) = false := by rw [beq_eq_false_iff_ne]; omega
          have hrn : r < s.n := by rw [HS.out.n_]; omega
          have y0 := (BD.out.keep0 HS.out.row.keep).cell 0 rfl
          obtain ⟨kd, hkd⟩ : ∃ kd : Nat, x.kind.tmod 2 = kd ∧ kd < 2 := ⟨(x.kind.tmod 2).toNat, by rw [Int.toNat_of_nonneg (Int.tmod_nonneg _ hxo.1.1)], by have h1 := Int.tmod_lt_of_pos x.kind (b := 2) (by omega); have h2 := Int.tmod_nonneg 2 hxo.1.1; omega⟩
          clear eb hxa
          go_wp2_with fail
          go_quiet (fail)
          obtain ⟨w5, hw5⟩ : ∃ w5, w5 = wr.drewN nq := ⟨_, rfl⟩
          rw [← hw5]
          have k5 : Keep nob wr w5 := by rw [hw5]; exact (Keep.refl _ _).drewN _
          have HS5 : Hid (KpSt wq L TB n wd (6 * i) s w5) := ⟨HS.out.row.more k5, HS.out.n_, HS.out.most, HS.out.told.keep0 k5⟩
          clear hw5 t0 t1 t3 u0 u1 u2 u3 u4 y0 ea k5 KW HS
          obtain ⟨t0, t1, t3, u0, u1, u2, u3, u4⟩ := HXA.out.keep0 (K3.out.trans HS5.out.row.keep)
          obtain ⟨hkd, hkd2⟩ := hkd
          go_upto_if 65 with fail
          go_cut [] (fun wx => Hid (∃ s', KpSt wq L TB n wd (6 * (i + 1)) s' wx))
          case first =>
            --[A
            by_cases hk0 : kd = 0
            · subst hk0
              obtain ⟨k, hk, hk6⟩ : ∃ k : Nat, x.many.tmod 6 = k ∧ k < 6 := ⟨(x.many.tmod 6).toNat, by rw [Int.toNat_of_nonneg (Int.tmod_nonneg _ hxo.2.1.1)], by have h1 := Int.tmod_lt_of_pos x.many (b := 6) (by omega); have h2 := Int.tmod_nonneg 6 hxo.2.1.1; omega⟩
              obtain ⟨g1, g2, g3, _⟩ := HS5.out.row.good r hrn
              obtain ⟨lr, hlr⟩ : ∃ lr, lr = s.len r := ⟨_, rfl⟩
              rw [← hlr] at g1 g2 g3
              obtain ⟨a1, ha1⟩ : ∃ a1 : Nat, a1 = lr + 1 := ⟨_, rfl⟩
              have hwa : IntKind.i64.wrap ((lr : Int) + 1) = a1 := by rw [IntKind.wrap_i64]; omega
              have hwk : IntKind.i64.wrap (k : Int) = k := by rw [IntKind.wrap_i64]; omega
              have hr5 : r < 5 := by omega
              have hfl := field_l s.site
              have hix := index_clk s.site.l r (r : Int) rfl hr5
              rw [NSt.site_l _ _ hrn hr5, ← hlr] at hix
              have hsite := site_row_any (HS5.out.row.more (Keep.refl nob w5).drew)
              have hrow := fun W => row16_sl r a1 k W (by omega) (by omega)
              have hpush := fun (W : World) (h : PRow wq L s (6 * i) W) (v6 : Value) (hv : EvSl W v6 (row16 r a1 k)) => push_row_any r a1 k (6 * (i + 1)) v6 h hrn hv (by omega) (by omega) (by omega) (by omega)
              obtain ⟨p1, p2⟩ := s.push_same r a1 k
              obtain ⟨p3, -, -⟩ := s.push_rest r a1 k
              have P1 := Lib.hid p1
              have P2 := Lib.hid p2
              have P3 := Lib.hid p3
              have HSI := Lib.hid hsite
              have HRO := Lib.hid hrow
              have HPU := Lib.hid hpush
              clear hsite hrow hpush hlr ha1 t0 t3 u0 u1 u2 u3 u4 hs1 hs2 hkd p1 p2 p3
              go_wp2_with fail
              go_region_held3 (fun w' => w'.cell? ⟨g, o + i * 10 + 1, none⟩ = some (.int .u8 x.many)) (first | exact (HXA.out.keep0 (K3.out.trans HR8.out.keep)).2.1 | exact K7.out.cell0 t1 | exact K6.out.cell0 t1 | go_keep)
                (first
                  | ((go_at_call 23; refine HSI.out.mono ?_; rintro e w6 ⟨rfl, R6, k6⟩; have K6 : Hid (Keep nob w5 w6) := (Keep.refl nob w5).drew.trans k6; have HR6 := Lib.hid R6; clear R6 k6))
                  | ((go_at_call 22; refine (HRO.out _).mono ?_; rintro e w7 ⟨v7, rfl, hv7, k7⟩; have K7 : Hid (Keep nob w5 w7) := K6.out.trans k7; have HR7 := Lib.hid (HR6.out.more k7); have HV7 := Lib.hid hv7; clear hv7 k7))
                  | ((go_at_call 21; refine (HPU.out _ HR7.out _ HV7.out).mono ?_; rintro e w8 ⟨rfl, R8, k8⟩; have HR8 := Lib.hid R8; have HK8 := Lib.hid k8; clear R8 k8)))
              go_wp2_with fail
              go_meet
              refine ⟨_, HR8.out, by rw [P3.out]; exact HS5.out.n_, by rw [P1.out]; exact HS5.out.most, ?_⟩
              rw [P2.out]
              exact (HS5.out.told.keep0 K7.out).keep HK8.out (by rw [HS5.out.n_]; exact HT.out)
            · have hk0z : ((kd : Int) == 0) = false := by rw [beq_eq_false_iff_ne]; omega
              have hr5 : r < 5 := by omega
              have hj := fun W => joinR_any (s.ack r) x.C W
              simp only [Clk.agg, Clk.cells] at hj
              have HJ := Lib.hid hj
              clear hj t0 t1 t3 hs1 hs2 hkd
              go_wp2_with fail
              refine (ack_row_any r x.C HS5.out.row hrn).mono ?_
              rintro e w8 ⟨rfl, R8, k8⟩
              have T8 := HS5.out.told.keep k8 (by rw [HS5.out.n_]; exact HT.out)
              obtain ⟨q1, q2, q3, q4⟩ := s.told_rest r x.C
              have Q1 := Lib.hid q1
              have Q3 := Lib.hid q3
              have Q4 := Lib.hid q4
              clear u0 u1 u2 u3 u4 q1 q2 q3 q4
              obtain ⟨-, -, -, u0, u1, u2, u3, u4⟩ := HXA.out.keep0 (K3.out.trans R8.keep)
              have i1 : (0 : Int) ≤ (r : Int) := by omega
              have i3 : (r : Int) < 5 := by omega
              have y0 := T8.cell (r * 5 + 0) (ackCells_at 5 s.ack r 0 hr5 (by omega))
              have y1 := T8.cell (r * 5 + 1) (ackCells_at 5 s.ack r 1 hr5 (by omega))
              have y2 := T8.cell (r * 5 + 2) (ackCells_at 5 s.ack r 2 hr5 (by omega))
              have y3 := T8.cell (r * 5 + 3) (ackCells_at 5 s.ack r 3 hr5 (by omega))
              have y4 := T8.cell (r * 5 + 4) (ackCells_at 5 s.ack r 4 hr5 (by omega))
              rw [Nat.add_zero] at y0
              simp only [Clk.get] at y0 y1 y2 y3 y4
              have fz : ∀ W, Keep nob w8 W → ∀ i, W.frozen? ⟨TB, i, none⟩ = false := fun W hW i => (T8.keep0 hW).frozen i
              have FZ := Lib.hid fz
              have HT8 := Lib.hid T8
              have HR8 := Lib.hid R8
              clear R8 k8 T8 fz
              go_upto_region 14 with fail
              go_region_with ((go_at_call 25; refine (HJ.out _).mono ?_; rintro e w9 ⟨rfl, k9⟩; have k10 := ((Keep.refl nob w8).drew).trans k9; have f0 := FZ.out _ k10 (r * 5); have f1 := FZ.out _ k10 (r * 5 + 1); have f2 := FZ.out _ k10 (r * 5 + 2); have f3 := FZ.out _ k10 (r * 5 + 3); have f4 := FZ.out _ k10 (r * 5 + 4); have K10 := Lib.hid k10; clear k9 k10; have z0 := K10.out.cell0 y0; have z1 := K10.out.cell0 y1; have z2 := K10.out.cell0 y2; have z3 := K10.out.cell0 y3; have z4 := K10.out.cell0 y4))
              all_goals
                go_wp2_with fail
                go_meet
                exact KpSt.tell HS5.out HR8.out HT8.out hr5 K10.out hcb (by omega) (by omega)
            --]A
          case rest =>
            obtain ⟨s', HS'⟩ := hcut.out
            have HS6 := Lib.hid HS'
            clear hcut HS' HS5 HXA t0 t1 t3 u0 u1 u2 u3 u4 hs1 hs2 hrn hkd
            go_wp2_with fail
            refine (site_row_any HS6.out.row).mono ?_
            rintro e w9 ⟨rfl, R9, k9⟩
            rename_i K hK
            refine hK _ _ (wpList_newvar rfl rfl 51 13 rfl rfl (.tmp 104) rfl rfl s'.site.cells 36 rfl rfl (by kernel_rfl) (by kernel_rfl) (Site.cells_length _) (Site.one _) ?_)
            intro w10 B10 k10 s10
            obtain ⟨SB, hSB⟩ : ∃ SB, SB = w9.heap.size := ⟨_, rfl⟩
            rw [← hSB] at B10 ⊢
            have HB10 := Lib.hid B10
            have HS10 : Hid (KpSt wq L TB n wd (6 * (i + 1)) s' w10) := ⟨R9.more k10, HS6.out.n_, HS6.out.most, (HS6.out.told.keep0 k9).keep0 k10⟩
            clear R9 k9 k10 s10 B10 hSB hK K HS6
            go_wp2
            go_loopg [14] n (fun gg s14 wy => ∃ k m : Nat, k ≤ n ∧ n - k ≤ gg ∧ s14 = .int .i64 k ∧ wy = w10.drewN m)
            case atStart => exact ⟨0, 0, by omega, by omega, rfl, rfl⟩
            case round =>
              obtain ⟨k, m, hk, hgk, rfl, rfl⟩ := hrel
              by_cases hkn : k < n
              · have hknz : (k : Int) < (n : Int) := by omega
                have hk0 : (0 : Int) ≤ (k : Int) := by omega
                have hk5 : (k : Int) < 5 := by omega
                have hks : k < s'.n := by rw [HS10.out.n_]; exact hkn
                obtain ⟨g1, g2, g3, g4⟩ := HS10.out.row.good k hks
                have hmo := HS10.out.most
                obtain ⟨b, hb⟩ : ∃ b, b = s'.base k := ⟨_, rfl⟩
                obtain ⟨l', hl⟩ : ∃ l', l' = s'.len k := ⟨_, rfl⟩
                rw [← hb, ← hl] at g1 g3
                rw [← hl] at g2
                rw [← hb, HS10.out.n_] at g4
                have cb := HB10.out.cell (1 + k) (Site.cell_b _ k (by omega))
                have cl := HB10.out.cell (6 + k) (Site.cell_l _ k (by omega))
                have a0 := HB10.out.cell (11 + k * 5 + 0) (Site.cell_a _ k 0 (by omega) (by omega))
                have a1 := HB10.out.cell (11 + k * 5 + 1) (Site.cell_a _ k 1 (by omega) (by omega))
                have a2 := HB10.out.cell (11 + k * 5 + 2) (Site.cell_a _ k 2 (by omega) (by omega))
                have a3 := HB10.out.cell (11 + k * 5 + 3) (Site.cell_a _ k 3 (by omega) (by omega))
                have a4 := HB10.out.cell (11 + k * 5 + 4) (Site.cell_a _ k 4 (by omega) (by omega))
                have e0 := HS10.out.told.cell (k * 5 + 0) (ackCells_at 5 s'.ack k 0 (by omega) (by omega))
                have e1 := HS10.out.told.cell (k * 5 + 1) (ackCells_at 5 s'.ack k 1 (by omega) (by omega))
                have e2 := HS10.out.told.cell (k * 5 + 2) (ackCells_at 5 s'.ack k 2 (by omega) (by omega))
                have e3 := HS10.out.told.cell (k * 5 + 3) (ackCells_at 5 s'.ack k 3 (by omega) (by omega))
                have e4 := HS10.out.told.cell (k * 5 + 4) (ackCells_at 5 s'.ack k 4 (by omega) (by omega))
                rw [NSt.site_l _ _ hks (by omega), ← hl] at cl
                rw [NSt.site_b _ _ hks (by omega), ← hb] at cb
                rw [NSt.site_a _ _ hks] at a0 a1 a2 a3 a4
                rw [Nat.add_zero] at a0 e0
                simp only [Clk.get] at a0 a1 a2 a3 a4 e0 e1 e2 e3 e4
                have hnc := neq_clk (s'.ack k)
                have hgc := guard_clk
                have yn := (BD.out.keep0 HS10.out.row.keep).cell 0 rfl
                have yw := (BD.out.keep0 HS10.out.row.keep).cell 1 rfl
                obtain ⟨d, hd⟩ : ∃ d : Nat, IntKind.i64.wrap ((l' : Int) - b) = d ∧ d = l' - b := ⟨l' - b, by rw [IntKind.wrap_i64]; omega, rfl⟩
                have hc2 : decide (l' < b) = false := by rw [decide_eq_false_iff_not]; omega
                have hc3 : decide (wd < d) = false := by rw [decide_eq_false_iff_not]; omega
                have hc1 : decide ((b : Int) < 0) = false := by rw [decide_eq_false_iff_not]; omega
                have HG4 := Lib.hid g4
                have HHB := Lib.hid hb
                obtain ⟨hd, -⟩ := hd
                clear g4 hb hl hmo
                go_wp2_with fail
                go_quiet (fail)
                go_wp2_with fail
                go_loopg [15] n (fun gj s15 wz => ∃ j m' : Nat, j ≤ n ∧ n - j ≤ gj ∧ s15 = .int .i64 j ∧ wz = w10.drewN m')
                case atStart => exact ⟨0, _, by omega, by omega, rfl, World.drewN_drewN _ _ _⟩
                case round =>
                  obtain ⟨j, m', hj, hgj, rfl, rfl⟩ := hrel
                  by_cases hjn : j < n
                  · have hjnz : (j : Int) < (n : Int) := by omega
                    have hj0 : (0 : Int) ≤ (j : Int) := by omega
                    have hj5 : (j : Int) < 5 := by omega
                    have g4 := HG4.out j hjn
                    have et := HS10.out.told.cell (j * 5 + k) (ackCells_at 5 s'.ack j k (by omega) (by omega))
                    obtain ⟨t, ht⟩ : ∃ t, t = (s'.ack j).get k := ⟨_, rfl⟩
                    rw [← ht] at et g4
                    obtain ⟨mt, hmt, hbm⟩ : ∃ mt : Int, (if t < 0 then 0 else t) = mt ∧ ¬ mt < (b : Int) := ⟨_, rfl, by split <;> omega⟩
                    clear ht g4
                    go_wp2_with fail
                    go_region
                    go_wp2
                    go_roundg (n - (j + 1))
                    case measure => omega
                    case rel => exact ⟨j + 1, _, by omega, by omega, by go_num, rfl⟩
                  · have hjnz : ¬ (j : Int) < (n : Int) := by omega
                    go_wp2
                    go_roundg (n - (k + 1))
                    case measure => omega
                    case rel => exact ⟨k + 1, _, by omega, by omega, by go_num, rfl⟩
              · have hknz : ¬ (k : Int) < (n : Int) := by omega
                have yn := (BD.out.keep0 HS10.out.row.keep).cell 0 rfl
                go_wp2
                go_roundg (40 - (i + 1))
                case measure => omega
                case rel => exact ⟨i + 1, s', by omega, by omega, by go_num, (show Hid _ from ⟨HS10.out.row.more ((Keep.refl _ _).drewN _), HS10.out.n_, HS10.out.most, HS10.out.told.drewN _⟩)⟩
        · have hi40z : ¬ (i : Int) < 40 := by omega
          go_wp2
          go_meet
          exact ⟨i, s, by omega, HS.out⟩
      · have hiNz : ¬ (i : Int) < (N : Int) := by omega
        go_wp2
        go_meet
        exact ⟨i, s, by omega, HS.out⟩
    --]B
  case rest =>
    obtain ⟨i, s, hi, hs⟩ := hcut.out
    have HS := Lib.hid hs
    clear hcut hs HS0
    obtain ⟨a, b, ea, la, ua, eb, lb, ub⟩ := fit1 R n (by omega)
    obtain ⟨s1, hs1, hs2⟩ : ∃ s1, IntKind.i64.wrap (a + (n : Int)) = s1 ∧ s1.tmod n = b := ⟨a + n, by rw [IntKind.wrap_i64]; omega, eb⟩
    obtain ⟨r, rfl⟩ : ∃ r : Nat, b = r := ⟨b.toNat, by omega⟩
    have hz2 : ((n : Int) == 0) = false := by rw [beq_eq_false_iff_ne]; omega
    have hrn : r < s.n := by rw [HS.out.n_]; omega
    have y0 := (BD.out.keep0 HS.out.row.keep).cell 0 rfl
    have yr := (HX2.out.keep0 HS.out.row.keep).cell 3 rfl
    clear eb
    go_wp2_with fail
    go_quiet (fail)
    obtain ⟨w5, hw5⟩ : ∃ w5, w5 = wc.drewN nq := ⟨_, rfl⟩
    rw [← hw5]
    have k5 : Keep nob wc w5 := by rw [hw5]; exact (Keep.refl _ _).drewN _
    have R5 := Lib.hid (HS.out.row.more k5)
    have HN := Lib.hid HS.out.n_
    clear hw5 y0 yr k5 HS hs1 hs2 ea
    have u0 := (HX2.out.keep0 R5.out.keep).cell 4 rfl
    have u1 := (HX2.out.keep0 R5.out.keep).cell (4 + 1) rfl
    have u2 := (HX2.out.keep0 R5.out.keep).cell (4 + 2) rfl
    have u3 := (HX2.out.keep0 R5.out.keep).cell (4 + 3) rfl
    have u4 := (HX2.out.keep0 R5.out.keep).cell (4 + 4) rfl
    go_wp2_with fail
    refine (fetch_row_any r C R5.out hrn).mono ?_
    rintro e w6 ⟨⟨vg, rfl, hvg⟩, R6, k6⟩
    have HR6 := Lib.hid R6
    have HVG := Lib.hid hvg
    clear R6 k6 hvg u0 u1 u2 u3 u4
    go_wp2_with fail
    refine (site_row_any HR6.out).mono ?_
    rintro e w7 ⟨rfl, R7, k7⟩
    rename_i K hK
    refine hK _ _ (wpList_newvar rfl rfl 51 19 rfl rfl (.tmp 188) rfl rfl s.site.cells 36 rfl rfl (by kernel_rfl) (by kernel_rfl) (Site.cells_length _) (Site.one _) ?_)
    intro w8 B8 k8 s8
    obtain ⟨SB, hSB⟩ : ∃ SB, SB = w7.heap.size := ⟨_, rfl⟩
    rw [← hSB] at B8 ⊢
    have HB8 := Lib.hid B8
    have HR8 := Lib.hid (R7.more k8)
    have HV8 := Lib.hid ((HVG.out.keep0 k7).keep0 k8)
    clear R7 k7 k8 s8 B8 hSB hK K HR6 HVG
    have HV9 : Hid (EvSl w8 vg (fetchK s.p.base s.p.kept r C n)) := by
      have := HV8.out
      rw [HN.out] at this
      exact this
    clear HV8
    go_wp2
    go_loopg [20, 21] n (fun gg v i wr => ∃ k : Nat, k ≤ n ∧ n - k ≤ gg ∧ i = .int .i64 k ∧ wr.ownsRow w8.heap.size 62 12 v (fetchK s.p.base s.p.kept r C k).length (evs (fetchK s.p.base s.p.kept r C k)) ∧ Hid (Keep nob w8 wr))
    case atStart => exact ⟨0, by omega, by omega, rfl, World.ownsRow_made w8 #[] 0 (Nat.le_refl _) (by simp [maxLen]) rfl, (Keep.refl _ _).alloc _⟩
    case round =>
      obtain ⟨k, hk, hgk, rfl, hown, KW⟩ := hrel
      have RW := HR8.out.more KW.out
      have y0 := (BD.out.keep0 RW.keep).cell 0 rfl
      by_cases hkn : k < n
      · have hknz : (k : Int) < (n : Int) := by omega
        have hk0 : (0 : Int) ≤ (k : Int) := by omega
        have hk5 : (k : Int) < 5 := by omega
        have hks : k < s.n := by rw [HN.out]; exact hkn
        obtain ⟨g1, g2, g3, -⟩ := RW.good k hks
        have hab := above_want (C.get k) k (s.base k) (s.len k)
        obtain ⟨b, hb⟩ : ∃ b, b = s.base k := ⟨_, rfl⟩
        obtain ⟨l', hl⟩ : ∃ l', l' = s.len k := ⟨_, rfl⟩
        have hkept : s.p.kept k = row16 k ((b : Int) + 1) (l' - b) := by rw [hb, hl]; rfl
        rw [← hb, ← hl] at g1 hab
        rw [← hl] at g2
        have cb := (HB8.out.keep0 KW.out).cell (1 + k) (Site.cell_b _ k (by omega))
        have cl := (HB8.out.keep0 KW.out).cell (6 + k) (Site.cell_l _ k (by omega))
        rw [NSt.site_l _ _ hks (by omega), ← hl] at cl
        rw [NSt.site_b _ _ hks (by omega), ← hb] at cb
        have cx := (HX2.out.keep0 RW.keep).cell (4 + k) (op_clk xk xm xb R C xl k (by omega))
        obtain ⟨ck, hck⟩ : ∃ ck, ck = C.get k := ⟨_, rfl⟩
        rw [← hck] at cx hab
        obtain ⟨fn, hfn⟩ : ∃ fn : Nat, (fn : Int) = max ck b := ⟨(max ck b).toNat, by omega⟩
        have hmx : max ck (b : Int) = (fn : Int) := hfn.symm
        have hab' := hab fn hfn g1
        have hlen : (fetchK s.p.base s.p.kept r C k).length + (row16 k ((fn : Int) + 1) (l' - fn)).length ≤ 1048576 := by
          have h1 := fetchK_len s.p.base s.p.kept n 1000 (fun i hi => by
            have h2 := (RW.good i (by rw [HN.out]; exact hi)).2.1
            show (row16 i ((s.base i : Int) + 1) (s.len i - s.base i)).length ≤ 1000
            rw [row16_length]
            omega) r C k hk
          rw [row16_length]
          omega
        have HOW := Lib.hid hown
        have HAB := Lib.hid hab'
        have HKE := Lib.hid hkept
        have HCK := Lib.hid hck
        have HLN := Lib.hid hlen
        have HFN := Lib.hid hfn
        have hl1000 : l' ≤ 1000 := by omega
        clear hown hab hab' hkept hck hb hl hlen hfn g3 RW
        go_wp2_with fail
        go_region
        by_cases hkr : k = r
        · as_aux_lemma =>
            subst hkr
            have hkz : ((k : Int) != (k : Int)) = false := by simp
            go_wp2
            go_roundg (n - (k + 1))
            case measure => omega
            case rel => exact ⟨k + 1, by omega, by omega, by go_num, by rw [fetchK_self]; exact HOW.out, KW.out.drew⟩
        · have hkz : ((k : Int) != (r : Int)) = true := by rw [bne_iff_ne]; omega
          have hfk := fetchK_other s.p.base s.p.kept r C k hkr
          rw [← HCK.out, HKE.out, HAB.out] at hfk
          by_cases hfl : fn < l'
          · as_aux_lemma =>
              have hflz : decide (fn < l') = true := by rw [decide_eq_true_iff]; exact hfl
              have hflz' : (fn : Int) < (l' : Int) := by omega
              rw [if_pos hflz', Int.toNat_natCast, show ((fn + 1 : Nat) : Int) = (fn : Int) + 1 from by omega] at hfk
              have HFK := Lib.hid hfk
              have hrow := fun W => row16_sl k (fn + 1) (l' - fn) W (by omega) (by omega)
              rw [show ((fn + 1 : Nat) : Int) = (fn : Int) + 1 from by omega, show ((l' - fn : Nat) : Int) = (l' : Int) - fn from by omega] at hrow
              have HRO := Lib.hid hrow
              clear hfk hrow hmx
              go_wp2_with fail
              refine (HRO.out _).mono ?_
              rintro e w9 ⟨v9, rfl, hv9, k9⟩
              have HE := Lib.hid hv9
              have K9 := Lib.hid (KW.out.drew.trans k9)
              have hown3 := owns_keep HOW.out ((Keep.refl nob wr).drew.trans k9)
              have hsz := K9.out.size
              have HO3 := Lib.hid hown3
              clear hv9 hown3 k9 HOW
              go_wp2_with (at_builtin; refine wpList_append_evs rfl (.tmp 216) (.tmp 226) rfl w8.heap.size _ _ rfl HO3.out _ _ rfl HE.out HLN.out (by omega) ?_; intro v3 w3 hown4 k3)
              have B3 := Lib.hid (K9.out.own rfl k3)
              rw [← HFK.out] at hown4
              have H4 := Lib.hid hown4
              clear hown4 k3 HE HO3
              go_wp2
              go_roundg (n - (k + 1))
              case measure => omega
              case rel => exact ⟨k + 1, by omega, by omega, by go_num, H4.out, B3⟩
          · as_aux_lemma =>
              have hflz : decide (fn < l') = false := by rw [decide_eq_false_iff_not]; exact hfl
              have hflz' : ¬ (fn : Int) < (l' : Int) := by omega
              rw [if_neg hflz', List.append_nil] at hfk
              have HFK := Lib.hid hfk
              clear hfk
              go_wp2
              go_roundg (n - (k + 1))
              case measure => omega
              case rel => exact ⟨k + 1, by omega, by omega, by go_num, by rw [HFK.out]; exact HOW.out, KW.out.drew⟩
      · obtain rfl : k = n := by omega
        have hknz : ¬ (k : Int) < (k : Int) := by omega
        have hev := EvSl.of_own hown
        have hsame := fun W (hW : Keep nob w8 W) (hu : EvSl W u20 (fetchK s.p.base s.p.kept r C k)) => same_any vg u20 _ _ W (HV9.out.keep0 hW) hu
        rw [(sameEvs_iff _ _).2 rfl] at hsame
        have HSA := Lib.hid (hsame wr KW.out hev)
        clear hown hev hsame RW
        go_wp2_with fail
        refine HSA.out.mono ?_
        rintro e w9 ⟨rfl, m, rfl⟩
        go_wp2
        go_ret
        exact ⟨rfl, (K3.out.trans (HR8.out.keep.trans KW.out)).drewN _⟩
end Go.Proofs.Ytfhhjabclmkkmaa
