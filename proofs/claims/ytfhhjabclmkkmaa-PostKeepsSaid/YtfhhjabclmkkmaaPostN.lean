/- Contract of post.New. -/
import Derived.Test.YtfhhjabclmkkmaaPostS
import Derived.Deep.RegionLaw
import Derived.Deep.AppendLies
namespace Go.Proofs.Ytfhhjabclmkkmaa
open Go.RowKit Go.Proofs

theorem infoClk : (Try.prog.info? 40).map (fun i => (i.zero, i.size, i.bytes)) = some (some (.agg #[.int .i64 0, .int .i64 0, .int .i64 0, .int .i64 0, .int .i64 0]), 5, 40) := by kernel_rfl
theorem infoPtr : (Try.prog.info? 23).map (fun i => (i.zero, i.size, i.bytes)) = some (some (.pointer none), 1, 8) := by kernel_rfl

theorem made_clks (n : Nat) (hn : n ≤ 5) : madeCells (Value.cells (.agg #[.int .i64 0, .int .i64 0, .int .i64 0, .int .i64 0, .int .i64 0])) (n * 5) = (ackCells n (fun _ => Clk.zero)).toArray := by
  obtain rfl | rfl | rfl | rfl | rfl | rfl : n = 0 ∨ n = 1 ∨ n = 2 ∨ n = 3 ∨ n = 4 ∨ n = 5 := by omega
  all_goals kernel_rfl
theorem make_clks (n : Nat) (hn : n ≤ 5) (w : World) :
    (Instr.makeSlice 70 (.int .i64 (n : Int)) (.int .i64 (n : Int))).run Try.prog w = .ok (.slice (some ⟨w.heap.size, 0, none⟩) n n) (w.alloc (.cells (ackCells n (fun _ => Clk.zero)).toArray 40)) := by
  obtain ⟨i0, hi, hz0, hz1, hz2⟩ := info_parts infoClk
  have h := run_make_rowN (P := Try.prog) 70 40 i0 _ Try.underlying70 hi hz0 .i64 .i64 n n (Nat.le_refl _) (by rw [hz2]; omega) (by omega) w
  rw [hz1, made_clks n hn] at h
  exact h

/-- A configuration, by its six numbers. -/
def cfg (n wd q h l p : Int) : Value := .agg #[.int .i64 n, .int .i64 wd, .int .i64 q, .int .i64 h, .int .i64 l, .int .i64 p]

def ptrs (bs : Nat → Nat) (k : Nat) : List Value := (List.range k).map fun i => .pointer (some ⟨bs i, 0, none⟩)
theorem ptrs_succ (bs : Nat → Nat) (k : Nat) : ptrs bs (k + 1) = ptrs bs k ++ [.pointer (some ⟨bs k, 0, none⟩)] := by simp [ptrs, List.range_succ]
theorem ptrs_congr {bs bs' : Nat → Nat} {k : Nat} (h : ∀ i, i < k → bs i = bs' i) : ptrs bs k = ptrs bs' k := by
  unfold ptrs
  apply List.map_congr_left
  intro i hi
  rw [h i (List.mem_range.1 hi)]

/-- A new post. -/
def PSt.new (n : Nat) (most : Int) : PSt := ⟨n, most, fun _ => 0, fun _ => [], fun _ => Clk.zero⟩

theorem own_blk_ne {w : World} {base : Nat} {e t : TypeId} {size n g : Nat} {v : Value} {xs cs : List Value} (h : w.ownsRow base e size v n xs) (hg : Blk w g t cs) (hne : e ≠ t) : some g ≠ v.ownBlock := by
  rcases h.2 with ⟨rfl, _⟩ | ⟨g', cap, cur, rfl, _, hh, _⟩
  · simp [Value.ownBlock]
  · intro he
    have e1 : g = g' := by simpa [Value.ownBlock] using he
    subst e1
    exact heap_ty_ne hh hg hne rfl

theorem owns_keep0 {w w' : World} {base : Nat} {e : TypeId} {size n : Nat} {v : Value} {xs : List Value} (h : w.ownsRow base e size v n xs) (hk : Keep nob w w') : w'.ownsRow base e size v n xs := by
  rcases h.2 with h1 | ⟨g, cap, cur, hv, hg, hh, h1⟩
  · exact ⟨h.1, .inl h1⟩
  · exact ⟨h.1, .inr ⟨g, cap, cur, hv, hg, hk.heap (fun hf => hf) hh, h1⟩⟩

/-- A post under way: kk shelves are laid. -/
def NewAt (w3 wr : World) (CB GA PB n : Nat) (wd : Int) (cf : List Value) (kk : Nat) : Prop :=
  ∃ sv bs, Blk wr CB 37 cf ∧ Blk wr GA 40 (ackCells n fun _ => Clk.zero) ∧ Blk wr PB 73 [sv, .slice (some ⟨GA, 0, none⟩) n n] ∧
    wr.ownsRow w3.heap.size 23 1 sv kk (ptrs bs kk) ∧ (∀ i, i < kk → ShelfAt wr (bs i) wd 0 []) ∧ (∀ i, i < kk → w3.heap.size ≤ bs i) ∧ (∀ i j, i < kk → j < kk → bs i = bs j → i = j) ∧ Keep (oneb PB) w3 wr

theorem own_ty {w : World} {base : Nat} {e : TypeId} {size n k : Nat} {v : Value} {xs : List Value} (h : w.ownsRow base e size v n xs) (hk : v.ownBlock = some k) : base ≤ k ∧ ∃ cur, w.heap[k]? = some (.cells cur e (0, 0)) := by
  rcases h.2 with ⟨rfl, _⟩ | ⟨g', cap, cur, rfl, hb, hh, _⟩
  · simp [Value.ownBlock] at hk
  · have e1 : g' = k := by simpa [Value.ownBlock] using hk
    subst e1
    exact ⟨hb, _, hh⟩
def ownb (v : Value) (k : Nat) : Prop := v.ownBlock = some k

theorem NewAt.step {w3 wr w2 w4 : World} {CB GA PB n kk g cap : Nat} {wd : Int} {cf : List Value} {sv : Value} {bs : Nat → Nat}
    (c1 : Blk wr CB 37 cf) (c2 : Blk wr GA 40 (ackCells n fun _ => Clk.zero)) (c3 : Blk wr PB 73 [sv, .slice (some ⟨GA, 0, none⟩) n n])
    (own : wr.ownsRow w3.heap.size 23 1 sv kk (ptrs bs kk)) (sh : ∀ i, i < kk → ShelfAt wr (bs i) wd 0 []) (ge : ∀ i, i < kk → w3.heap.size ≤ bs i) (inj : ∀ i j, i < kk → j < kk → bs i = bs j → i = j) (k4 : Keep (oneb PB) w3 wr)
    (hs2 : ShelfAt w2 wr.heap.size wd 0 []) (hk2 : Keep nob wr w2)
    (hown4 : w4.ownsRow w3.heap.size 23 1 (.slice (some ⟨g, 0, none⟩) (kk + 1) cap) (kk + 1) (ptrs bs kk ++ [.pointer (some ⟨wr.heap.size, 0, none⟩)]))
    (hgrow : (w2.alloc (.cells #[.pointer (some ⟨wr.heap.size, 0, none⟩)] 23)).grownBy w4 sv.ownBlock) :
    NewAt w3 (w4.setCell ⟨PB, 0, none⟩ (.slice (some ⟨g, 0, none⟩) (kk + 1) cap)) CB GA PB n wd cf (kk + 1) := by
  have ka : Keep nob wr (w2.alloc (.cells #[.pointer (some ⟨wr.heap.size, 0, none⟩)] 23)) := hk2.alloc _
  have kg : Keep (ownb sv) (w2.alloc (.cells #[.pointer (some ⟨wr.heap.size, 0, none⟩)] 23)) w4 := (Keep.refl _ _).grown hgrow (fun k hk => .inr hk)
  have ownA := owns_keep0 own ka
  have hlt : ∀ k, ownb sv k → w3.heap.size ≤ k := fun k hk => (own_ty own hk).1
  have hblk : ∀ (k : Nat) (cur : Array Value) (t : TypeId) (fr : Nat × Nat), (w2.alloc (.cells #[.pointer (some ⟨wr.heap.size, 0, none⟩)] 23)).heap[k]? = some (.cells cur t fr) → t ≠ 23 → ¬ ownb sv k := by
    intro k cur t fr hk hne ho
    obtain ⟨_, cur', h'⟩ := own_ty ownA ho
    exact heap_ty_ne hk h' hne rfl
  have kp : Keep (oneb PB) w4 (w4.setCell ⟨PB, 0, none⟩ (.slice (some ⟨g, 0, none⟩) (kk + 1) cap)) := (Keep.refl _ _).setCell (p := ⟨PB, 0, none⟩) (.inr (show oneb PB PB from rfl)) _
  have d1 : Blk w4 CB 37 cf := (c1.keep0 ka).keep kg (hblk _ _ _ _ (c1.keep0 ka) (by decide))
  have d2 : Blk w4 GA 40 (ackCells n fun _ => Clk.zero) := (c2.keep0 ka).keep kg (hblk _ _ _ _ (c2.keep0 ka) (by decide))
  have d3 : Blk w4 PB 73 [sv, .slice (some ⟨GA, 0, none⟩) n n] := (c3.keep0 ka).keep kg (hblk _ _ _ _ (c3.keep0 ka) (by decide))
  have hsh : ∀ b, ShelfAt (w2.alloc (.cells #[.pointer (some ⟨wr.heap.size, 0, none⟩)] 23)) b wd 0 [] → ShelfAt (w4.setCell ⟨PB, 0, none⟩ (.slice (some ⟨g, 0, none⟩) (kk + 1) cap)) b wd 0 [] := by
    intro b hb
    have h4 : ShelfAt w4 b wd 0 [] := by
      have hb' := hb
      obtain ⟨v, hv, _⟩ := hb'
      exact hb.keep kg (hblk _ _ _ _ hv (by decide)) (fun g cur fr hg => hblk _ _ _ _ hg (by decide))
    have h4' := h4
    obtain ⟨v, hv, _⟩ := h4'
    exact h4.keep kp (heap_ty_ne hv d3 (by decide)) (fun g cur fr hg => heap_ty_ne hg d3 (by decide))
  refine ⟨.slice (some ⟨g, 0, none⟩) (kk + 1) cap, upd bs kk wr.heap.size, d1.keep kp (heap_ty_ne d1 d3 (by decide)), d2.keep kp (heap_ty_ne d2 d3 (by decide)), ?_, ?_, ?_, ?_, ?_, ?_⟩
  · exact d3.set 0 _
  · rw [ptrs_succ, upd_same, ptrs_congr (bs := upd bs kk wr.heap.size) (bs' := bs) (fun i hi => upd_other _ _ _ _ (by omega))]
    rcases hown4.2 with ⟨h, _⟩ | ⟨g', cap', cur, hv, hb, hh, hr⟩
    · cases h
    · exact ⟨hown4.1, .inr ⟨g', cap', cur, hv, hb, kp.heap (heap_ty_ne hh d3 (by decide)) hh, hr⟩⟩
  · intro i hi
    by_cases e : i = kk
    · subst e; rw [upd_same]; exact hsh _ (hs2.keep0 ((Keep.refl _ _).alloc _))
    · rw [upd_other _ _ _ _ e]; exact hsh _ ((sh i (by omega)).keep0 ka)
  · intro i hi
    by_cases e : i = kk
    · subst e; rw [upd_same]; exact k4.size
    · rw [upd_other _ _ _ _ e]; exact ge i (by omega)
  · have hbs : ∀ i, i < kk → bs i < wr.heap.size := fun i hi => (sh i hi).lt
    intro i j hi hj
    by_cases e : i = kk
    · subst e
      rw [upd_same]
      by_cases e' : j = i
      · intro _; exact e'.symm
      · rw [upd_other _ _ _ _ e']
        intro h
        have := hbs j (by omega)
        omega
    · rw [upd_other _ _ _ _ e]
      by_cases e' : j = kk
      · subst e'
        rw [upd_same]
        intro h
        have := hbs i (by omega)
        omega
      · rw [upd_other _ _ _ _ e']
        exact inj i j (by omega) (by omega)
  · exact ((k4.trans (ka.all)).then kg (fun i hi ho => absurd (hlt i ho) (by omega))).trans kp

set_option maxHeartbeats 4000000 in
theorem newPost_any (n : Nat) (wd q h l p : Int) (hn : 1 ≤ n ∧ n ≤ 5) (w : World) :
    Calls Try.prog 20 #[cfg n wd q h l p] w fun e w' => ∃ L, e = .returned (.pointer (some ⟨L.b, 0, none⟩)) ∧ PostAt w' L (PSt.new n wd) ∧ L.new n w.heap.size ∧ Keep nob w w' := by
  have hmk := fun W => make_clks n hn.2 W
  unfold cfg
  go_enter Try.func20, Try.ntmps20
  go_wp2
  have k3 : Keep nob w (((w.alloc (.cells #[.int .i64 n, .int .i64 wd, .int .i64 q, .int .i64 h, .int .i64 l, .int .i64 p] 37)).alloc (.cells (ackCells n fun _ => Clk.zero).toArray 40)).alloc (.cells #[.slice none 0 0, .slice (some ⟨w.heap.size + 1, 0, none⟩) n n] 73)) := (((Keep.refl _ _).alloc _).alloc _).alloc _
  have b1 : Blk (((w.alloc (.cells #[.int .i64 n, .int .i64 wd, .int .i64 q, .int .i64 h, .int .i64 l, .int .i64 p] 37)).alloc (.cells (ackCells n fun _ => Clk.zero).toArray 40)).alloc (.cells #[.slice none 0 0, .slice (some ⟨w.heap.size + 1, 0, none⟩) n n] 73)) w.heap.size 37 [.int .i64 n, .int .i64 wd, .int .i64 q, .int .i64 h, .int .i64 l, .int .i64 p] := ((Blk.new w _ _).alloc _).alloc _
  have b2 : Blk (((w.alloc (.cells #[.int .i64 n, .int .i64 wd, .int .i64 q, .int .i64 h, .int .i64 l, .int .i64 p] 37)).alloc (.cells (ackCells n fun _ => Clk.zero).toArray 40)).alloc (.cells #[.slice none 0 0, .slice (some ⟨w.heap.size + 1, 0, none⟩) n n] 73)) (w.heap.size + 1) 40 (ackCells n fun _ => Clk.zero) := by
    have := (Blk.new (w.alloc (.cells #[.int .i64 n, .int .i64 wd, .int .i64 q, .int .i64 h, .int .i64 l, .int .i64 p] 37)) 40 (ackCells n fun _ => Clk.zero)).alloc (.cells #[.slice none 0 0, .slice (some ⟨w.heap.size + 1, 0, none⟩) n n] 73)
    rw [World.size_alloc] at this
    exact this
  have b3 : Blk (((w.alloc (.cells #[.int .i64 n, .int .i64 wd, .int .i64 q, .int .i64 h, .int .i64 l, .int .i64 p] 37)).alloc (.cells (ackCells n fun _ => Clk.zero).toArray 40)).alloc (.cells #[.slice none 0 0, .slice (some ⟨w.heap.size + 1, 0, none⟩) n n] 73)) (w.heap.size + 1 + 1) 73 [.slice none 0 0, .slice (some ⟨w.heap.size + 1, 0, none⟩) n n] := by
    have := Blk.new ((w.alloc (.cells #[.int .i64 n, .int .i64 wd, .int .i64 q, .int .i64 h, .int .i64 l, .int .i64 p] 37)).alloc (.cells (ackCells n fun _ => Clk.zero).toArray 40)) 73 [.slice none 0 0, .slice (some ⟨w.heap.size + 1, 0, none⟩) n n]
    rw [World.size_alloc, World.size_alloc] at this
    exact this
  generalize (((w.alloc (.cells #[.int .i64 n, .int .i64 wd, .int .i64 q, .int .i64 h, .int .i64 l, .int .i64 p] 37)).alloc (.cells (ackCells n fun _ => Clk.zero).toArray 40)).alloc (.cells #[.slice none 0 0, .slice (some ⟨w.heap.size + 1, 0, none⟩) n n] 73)) = w3 at *
  have hg1 : w.heap.size ≤ w.heap.size + 1 := by omega
  have hg2 : w.heap.size ≤ w.heap.size + 1 + 1 := by omega
  have hg0 : w.heap.size ≤ w.heap.size := by omega
  obtain ⟨sz, hsz⟩ : ∃ sz, sz = w.heap.size := ⟨_, rfl⟩
  have HZ := Lib.hid hsz
  rw [← hsz] at b1 b2 b3 hg1 hg2 hg0 ⊢
  clear hsz
  generalize sz + 1 + 1 = PB at *
  generalize sz + 1 = GA at *
  generalize hcb : sz = CB at b1 ⊢
  obtain ⟨i0, hi, hz0, hz1, hz2⟩ := info_parts infoPtr
  have HB1 := Lib.hid b1
  have HB2 := Lib.hid b2
  have HB3 := Lib.hid b3
  have K3 := Lib.hid k3
  have HI := Lib.hid hi
  have HZ0 := Lib.hid hz0
  have HZ1 := Lib.hid hz1
  have HZ2 := Lib.hid hz2
  clear b1 b2 b3 k3 hi hz0 hz1 hz2 hmk hcb
  go_loopg [11] n (fun gg s11 wr => ∃ kk : Nat, kk ≤ n ∧ n - kk ≤ gg ∧ s11 = .int .i64 kk ∧ NewAt w3 wr CB GA PB n wd [.int .i64 n, .int .i64 wd, .int .i64 q, .int .i64 h, .int .i64 l, .int .i64 p] kk)
  case atStart => exact ⟨0, Nat.zero_le _, by omega, rfl, .slice none 0 0, fun _ => 0, HB1.out, HB2.out, HB3.out, World.ownsRow_nil _ _ _ _, fun i hi => absurd hi (Nat.not_lt_zero _), fun i hi => absurd hi (Nat.not_lt_zero _), fun i j hi => absurd hi (Nat.not_lt_zero _), Keep.refl _ _⟩
  case round =>
    obtain ⟨kk, hkk, hg, rfl, NA⟩ := hrel
    by_cases hlt : kk < n
    · have hltz : (kk : Int) < (n : Int) := by omega
      obtain ⟨sv, bs, c1, c2, c3, own, sh, ge, inj, k4⟩ := NA
      have q0 := c3.cell 0 rfl
      have q1 := c1.cell 1 rfl
      have f0 := c3.frozen 0
      have hpb := own_blk_ne own c3 (by decide)
      have hpl := c3.lt
      have hcl := c1.lt
      have C1 := Lib.hid c1
      have C2 := Lib.hid c2
      have C3 := Lib.hid c3
      have OW := Lib.hid own
      have SH := Lib.hid sh
      have GE := Lib.hid ge
      have IJ := Lib.hid inj
      have K4 := Lib.hid k4
      have HPB := Lib.hid hpb
      clear c1 c2 c3 own sh ge inj k4 hpb
      have hnew : Calls Try.prog 10 #[.int .i64 wd] wr.drew fun e w' => e = .returned (.pointer (some ⟨wr.heap.size, 0, none⟩)) ∧ ShelfAt w' wr.heap.size wd 0 [] ∧ Keep nob wr w' := by
        refine (new_any wd wr.drew).mono ?_
        rintro e w' ⟨h1, h2, h3⟩
        exact ⟨h1, h2, (Keep.refl nob wr).drew.trans h3⟩
      go_upto_block 1 with fail
      go_cut [] (fun wx => NewAt w3 wx CB GA PB n wd [.int .i64 n, .int .i64 wd, .int .i64 q, .int .i64 h, .int .i64 l, .int .i64 p] (kk + 1))
      case first =>
        go_wp2_with fail
        go_region_law (first
          | ((refine step_append_lies _ (by rfl) _ _ _ (by rfl) w3.heap.size 23 i0 _ 1 8 Try.underlying71 HI.out HZ0.out HZ1.out HZ2.out rfl (by decide) sv kk (ptrs bs kk) (by rfl) (OW2.out.alloc _) ⟨w2.heap.size, 0, none⟩ 1 1 [.pointer (some ⟨wr.heap.size, 0, none⟩)] (by rfl) (by rfl) (cell_one_new _ _ _) (by simp [Value.oneCell']) (by decide) (by unfold maxLen; omega) (by omega) (by simp; omega) (w2.heap.size + 1) (by simp) ?_; intro g cap w4 hown4 hgrow hat hlt4; have r0 := (hgrow.cell_far ⟨PB, 0, none⟩ (by simp; omega) HPB.out).trans p0a; have r1 := (hgrow.frozen_far ⟨PB, 0, none⟩ (by simp; omega) HPB.out).trans f0a))
          | (go_simp; go_at_call 10; refine hnew.mono ?_; rintro e w2 ⟨rfl, hs2, hk2⟩; have OW2 : Hid (w2.ownsRow w3.heap.size 23 1 sv kk (ptrs bs kk)) := owns_keep0 OW.out hk2; have p0 := hk2.cell0 q0; have p1 := hk2.cell0 q1; have p0a : (w2.alloc (.cells #[.pointer (some ⟨wr.heap.size, 0, none⟩)] 23)).cell? ⟨PB, 0, none⟩ = some sv := (Keep.alloc (Keep.refl nob w2) _).cell0 p0; have f0a : (w2.alloc (.cells #[.pointer (some ⟨wr.heap.size, 0, none⟩)] 23)).frozen? ⟨PB, 0, none⟩ = false := ((hk2.alloc _).frozen (p := ⟨PB, 0, none⟩) (fun hf => hf) hpl).trans f0; have hsz2 := hk2.size; have hsz4 := K4.out.size))
        all_goals (go_wp2_with fail; go_meet; exact NewAt.step C1.out C2.out C3.out OW.out SH.out GE.out IJ.out K4.out hs2 hk2 hown4 hgrow)
      case rest =>
        go_wp2
        go_roundg (n - (kk + 1))
        case measure => omega
        case rel => exact ⟨kk + 1, by omega, by omega, by go_num, hcut⟩
    · obtain rfl : kk = n := by omega
      have hltz : ¬ (kk : Int) < (kk : Int) := by omega
      have HNA := Lib.hid NA
      clear NA
      go_wp2
      go_ret
      obtain ⟨sv, bs, c1, c2, c3, own, sh, ge, inj, k4⟩ := HNA.out
      rcases own.2 with ⟨_, h0⟩ | ⟨g, cap, cur, rfl, hb, hh, hle, hmax, hsz, htake⟩
      · omega
      refine ⟨⟨PB, g, GA, bs⟩, rfl, ⟨hn, ⟨cap, kk, c3, hle, hmax, Nat.le_refl _, by unfold maxLen; omega⟩, ⟨cur, (0, 0), hh, fun i hi => ?_⟩, c2, sh, inj⟩, ⟨?_, ?_, fun i hi => ?_⟩, K3.out.then k4 (fun i hi e => ?_)⟩
      · have : (ptrs bs kk)[i]? = some (.pointer (some ⟨bs i, 0, none⟩)) := by
          have hi' : i < kk := hi
          rw [ptrs, List.getElem?_map, List.getElem?_range hi']; rfl
        rw [← htake, List.getElem?_take] at this
        split at this
        · simpa using this
        · cases this
      · have := HZ.out; show _ ≤ PB; omega
      · have := HZ.out; show _ ≤ GA; omega
      · have := ge i hi
        have := K3.out.size
        show _ ≤ bs i
        omega
      · have := HZ.out
        unfold oneb at e
        omega
end Go.Proofs.Ytfhhjabclmkkmaa
