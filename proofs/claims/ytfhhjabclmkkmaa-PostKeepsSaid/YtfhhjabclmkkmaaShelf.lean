/- Contracts of the shelf: New, Len, Base, From, Cut, Put. -/
import Derived.Test.YtfhhjabclmkkmaaLib
import Derived.Deep.QuietTactic
import Derived.BigQuiet
import Derived.Deep.RegionHeld3
import Derived.Deep.RegionWith
namespace Go.Proofs.Ytfhhjabclmkkmaa
open Go.RowKit Go.Proofs

/-- Block b is a shelf. -/
def ShelfAt (w : World) (b : Nat) (most base : Int) (l : List Ev) : Prop :=
  ∃ v, w.heap[b]? = some (.cells #[.int .i64 most, .int .i64 base, v] 66 (0, 0)) ∧ EvSl w v l

section
variable {w w' : World} {b : Nat} {most base : Int} {l : List Ev}
theorem ShelfAt.keep {S : Nat → Prop} (h : ShelfAt w b most base l) (hk : Keep S w w') (hb : ¬ S b) (hS : ∀ g cur fr, w.heap[g]? = some (.cells cur 62 fr) → ¬ S g) : ShelfAt w' b most base l := by
  obtain ⟨v, h1, h2⟩ := h
  exact ⟨v, hk.heap hb h1, h2.keep hk hS⟩
theorem ShelfAt.keep0 (h : ShelfAt w b most base l) (hk : Keep nob w w') : ShelfAt w' b most base l := h.keep hk (fun hf => hf) (fun _ _ _ _ hf => hf)
theorem ShelfAt.not_ev (h : ShelfAt w b most base l) : ∀ g cur fr, w.heap[g]? = some (.cells cur 62 fr) → ¬ oneb b g := by
  obtain ⟨v, h1, _⟩ := h
  intro g cur fr hg e
  unfold oneb at e
  subst e
  rw [h1] at hg
  injection hg with hg
  injection hg with _ ht
  cases ht
end

theorem new_any (m : Int) (w : World) :
    Calls Try.prog 10 #[.int .i64 m] w fun e w' => e = .returned (.pointer (some ⟨w.heap.size, 0, none⟩)) ∧ ShelfAt w' w.heap.size m 0 [] ∧ Keep nob w w' := by
  go_enter Try.func10, Try.ntmps10
  go_wp2
  go_ret
  exact ⟨rfl, ⟨_, heap_alloc_new w _, EvSl.nil _⟩, (Keep.refl _ _).alloc _⟩

theorem len_any (b : Nat) (most base : Int) (l : List Ev) (w : World) (h : ShelfAt w b most base l) (h0 : 0 ≤ base) (h1 : base + l.length ≤ 1099511627776) :
    Calls Try.prog 16 #[.pointer (some ⟨b, 0, none⟩)] w fun e w' => e = .returned (.int .i64 (base + l.length)) ∧ ∃ n, w' = w.drewN n := by
  obtain ⟨v, hb, hv⟩ := h
  obtain ⟨A, c, rfl, hlc, hcm, _⟩ := hv.form
  have c0 := cell_of_row w b 0 _ _ _ hb
  have c1 := cell_of_row w b 1 _ _ _ hb
  have c2 := cell_of_row w b 2 _ _ _ hb
  simp at c0 c1 c2
  clear hv hb
  have h2 : (l.length : Int) ≤ 1099511627776 := by omega
  have h3 : 0 ≤ (l.length : Int) := by omega
  have hs : IntKind.i64.wrap (base + (l.length : Int)) = base + l.length := IntWalk.i64_in _ (by omega)
  go_enter Try.func16, Try.ntmps16
  go_wp2
  go_quiet (fail)
  go_wp2
  go_ret
  exact ⟨rfl, nq, rfl⟩

theorem base_any (b : Nat) (most base : Int) (l : List Ev) (w : World) (h : ShelfAt w b most base l) :
    Calls Try.prog 15 #[.pointer (some ⟨b, 0, none⟩)] w fun e w' => e = .returned (.int .i64 base) ∧ w = w' := by
  obtain ⟨v, hb, hv⟩ := h
  have c1 := cell_of_row w b 1 _ _ _ hb
  simp at c1
  clear hv hb
  go_enter Try.func15, Try.ntmps15
  go_wp2
  go_ret
  exact ⟨rfl, rfl⟩

/-- 'e.N > n' of a captured n. -/
theorem put1_pred (n : Int) (B : Nat) (w : World) (hc : w.cell? ⟨B, 0, none⟩ = some (.int .i64 n)) (hB : B < w.heap.size) :
    PredEv 28 #[.pointer (some ⟨B, 0, none⟩)] (fun e => decide (n < e.N)) w := fun W e hk => by
  have hc' : W.cell? ⟨B, 0, none⟩ = some (.int .i64 n) := (World.cell?_of_block (w := w) (hk.block B hB (fun hf => hf))).trans hc
  have hBW : B < W.heap.size := Nat.lt_of_lt_of_le hB hk.size
  have hne : B ≠ W.heap.size := by omega
  simp only [Ev.agg, Ev.cells]
  go_enter Try.func28, Try.ntmps28
  go_wp2
  all_goals (go_ret; exact ⟨by simp_all, hk.alloc _⟩)
theorem from1_pred (n : Int) (B : Nat) (w : World) (hc : w.cell? ⟨B, 0, none⟩ = some (.int .i64 n)) (hB : B < w.heap.size) :
    PredEv 30 #[.pointer (some ⟨B, 0, none⟩)] (fun e => decide (n < e.N)) w := fun W e hk => by
  have hc' : W.cell? ⟨B, 0, none⟩ = some (.int .i64 n) := (World.cell?_of_block (w := w) (hk.block B hB (fun hf => hf))).trans hc
  have hBW : B < W.heap.size := Nat.lt_of_lt_of_le hB hk.size
  have hne : B ≠ W.heap.size := by omega
  simp only [Ev.agg, Ev.cells]
  go_enter Try.func30, Try.ntmps30
  go_wp2
  all_goals (go_ret; exact ⟨by simp_all, hk.alloc _⟩)

/-- Those whose number is above n, and whatever stands behind the first of them. -/
def above (n : Int) (l : List Ev) : List Ev := l.drop (l.findIdx fun e => decide (n < e.N))

set_option maxHeartbeats 400000 in
theorem from_any (b : Nat) (most base n : Int) (l : List Ev) (w : World) (h : ShelfAt w b most base l) (hb : l.length * 112 ≤ 140737488355328) :
    Calls Try.prog 14 #[.pointer (some ⟨b, 0, none⟩), .int .i64 n] w (OwnsEvs (above n l) w) := by
  obtain ⟨v, hh, hv⟩ := h
  obtain ⟨A, c, rfl, hlc, hcm, _⟩ := hv.form
  unfold maxLen at hcm
  have hbl : b < w.heap.size := (Array.getElem?_eq_some_iff.1 hh).1
  have c2 := cell_of_row w b 2 _ _ _ hh
  simp at c2
  have k1 : Keep nob w (w.alloc (.cells #[.int .i64 n] 3)) := (Keep.refl _ _).alloc _
  have hi := indexFunc_any 30 #[.pointer (some ⟨w.heap.size, 0, none⟩)] (fun e => decide (n < e.N)) (enters_of Try.func30 (by kernel_rfl) rfl) _ l _ (hv.keep0 k1)
    (from1_pred n w.heap.size (w.alloc (.cells #[.int .i64 n] 3)) (by simp) (by simp))
  have hmf : ∀ (fn : Fn) (first cap : Array Value) (w : World), (Instr.makeFunc fn first cap).run Try.prog w = .ok (.func fn first cap) w := fun _ _ _ _ => rfl
  have c2' : ∀ W, Keep nob w W → W.cell? ⟨b, 2, none⟩ = some (.slice A l.length c) := fun W hW => (World.cell?_of_block (w := w) (hW.block b hbl (fun hf => hf))).trans c2
  have C2 := Lib.hid c2'
  clear c2' 
  have HI := hide hi
  clear hi
  unfold above
  by_cases hk : l.findIdx (fun e => decide (n < e.N)) < l.length
  · have hix : idxB (fun e => decide (n < e.N)) l = (l.findIdx (fun e => decide (n < e.N)) : Nat) := by rw [idxB, if_pos hk]
    generalize hkk : l.findIdx (fun e => decide (n < e.N)) = k at *
    clear hkk
    rw [hix] at HI
    clear hix
    obtain ⟨g, o, rfl, hkc, hcut⟩ := hv.cut k hk
    have hcl := fun W (hW : Keep nob w W) => clone_any _ _ W (hcut.keep0 hW) (by rw [List.length_drop]; omega)
    have HC := Lib.hid hcl
    have HV := Lib.hid hv
    have HH := Lib.hid hh
    clear hv hh hcl hcut
    go_enter Try.func14, Try.ntmps14
    go_wp2_with (go_at_call 27; refine (unhide HI).mono ?_; rintro e w1 ⟨rfl, hk1⟩; have c2' := C2.out w1 (k1.trans hk1))
    refine (HC.out w1 (k1.trans hk1)).mono ?_
    rintro e w2 ⟨v, rfl, hown, hk2⟩
    go_wp2
    go_ret
    exact ⟨v, rfl, owns_base hown (k1.trans hk1).size, (k1.trans hk1).trans hk2⟩
  · have hix : idxB (fun e => decide (n < e.N)) l = -1 := by rw [idxB, if_neg hk]
    rw [hix] at HI
    rw [List.drop_of_length_le (by omega)]
    clear hix hk hv hh
    go_enter Try.func14, Try.ntmps14
    go_wp2_with (go_at_call 27; refine (unhide HI).mono ?_; rintro e w1 ⟨rfl, hk1⟩)
    go_ret
    exact ⟨_, rfl, World.ownsRow_nil _ _ _ _, k1.trans hk1⟩

/-- Up to which number all are not kept behind a cut. -/
def cutTo (base n : Int) (len : Nat) : Int := max base (min n (base + len))

set_option maxHeartbeats 1000000 in
theorem cut_any (b : Nat) (most base n : Int) (l : List Ev) (w : World) (h : ShelfAt w b most base l) (h0 : 0 ≤ base) (h1 : base + l.length ≤ 1099511627776) :
    Calls Try.prog 13 #[.pointer (some ⟨b, 0, none⟩), .int .i64 n] w fun e w' => e = .returned (.tuple #[]) ∧
      ShelfAt w' b most (cutTo base n l.length) (l.drop (cutTo base n l.length - base).toNat) ∧ Keep (oneb b) w w' := by
  have hlen := len_any b most base l w h h0 h1
  have HL := hide hlen
  clear hlen
  by_cases hn : min n (base + l.length) ≤ base
  · have e1 : cutTo base n l.length = base := by unfold cutTo; omega
    rw [e1, Int.sub_self, Int.toNat_zero, List.drop_zero]
    obtain ⟨v, hh, hv⟩ := h
    have c1 := cell_of_row w b 1 _ _ _ hh
    simp at c1
    have h' : ShelfAt w b most base l := ⟨v, hh, hv⟩
    have HV := hide h'
    clear hh hv h' e1
    go_enter Try.func13, Try.ntmps13
    go_wp2_with (go_at_call 16; refine (unhide HL).mono ?_; rintro e w1 ⟨rfl, nd, rfl⟩)
    all_goals
      refine bodyPost_ret (results_none rfl _ _ _) rfl ?_
      exact ⟨rfl, (unhide HV).keep0 ((Keep.refl _ _).drewN _), (Keep.refl _ _).drewN _⟩
  · obtain ⟨m, hm, hmb, hml⟩ : ∃ m : Nat, min n (base + l.length) = base + m ∧ 0 < m ∧ m ≤ l.length := ⟨(min n (base + l.length) - base).toNat, by omega, by omega, by omega⟩
    have e1 : cutTo base n l.length = base + m := by unfold cutTo; omega
    have e2 : (base + (m : Int) - base).toNat = m := by omega
    rw [e1, e2]
    obtain ⟨v, hh, hv⟩ := h
    have hbl : b < w.heap.size := (Array.getElem?_eq_some_iff.1 hh).1
    have hne := ShelfAt.not_ev ⟨v, hh, hv⟩
    obtain ⟨A, c, rfl, hlc, hcm, hA⟩ := hv.form
    unfold maxLen at hcm
    obtain ⟨vs, hsl, hcut⟩ := hv.from_ m hml
    have hcl := fun W (hW : Keep nob w W) => clone_any _ _ W (hcut.keep0 hW) (by rw [List.length_drop]; omega)
    have hsv : ∃ A' n' c', vs = .slice A' n' c' := by
      obtain ⟨A', c', h, _⟩ := hcut.form
      exact ⟨_, _, _, h⟩
    obtain ⟨A', n', c', rfl⟩ := hsv
    have HC := Lib.hid hcl
    have c1 := cell_of_row w b 1 _ _ _ hh
    have c2 := cell_of_row w b 2 _ _ _ hh
    simp at c1 c2
    have f2 : w.frozen? ⟨b, 2, none⟩ = false := frozen_of_row w b 2 _ _ hh
    have f1 : w.frozen? ⟨b, 1, none⟩ = false := frozen_of_row w b 1 _ _ hh
    have hsub : IntKind.i64.wrap (base + (m : Int) - base) = m := by rw [IntKind.wrap_i64]; omega
    have HV := Lib.hid hv
    have HH := Lib.hid hh
    have HN := Lib.hid hne
    have fin : ∀ (w2 : World) (v : Value), Keep nob w w2 → EvSl w2 v (l.drop m) → ShelfAt ((w2.setCell ⟨b, 2, none⟩ v).setCell ⟨b, 1, none⟩ (.int .i64 (base + m))) b most (base + m) (l.drop m) ∧ Keep (oneb b) w ((w2.setCell ⟨b, 2, none⟩ v).setCell ⟨b, 1, none⟩ (.int .i64 (base + m))) := by
      intro w2 v hk hv2
      have hh2 := hk.heap (fun hf => hf) hh
      have k2 : Keep (oneb b) w2 ((w2.setCell ⟨b, 2, none⟩ v).setCell ⟨b, 1, none⟩ (.int .i64 (base + m))) := ((Keep.refl (oneb b) w2).setCell (p := ⟨b, 2, none⟩) (.inr (show oneb b b from rfl)) _).setCell (p := ⟨b, 1, none⟩) (.inr (show oneb b b from rfl)) _
      refine ⟨⟨v, ?_, hv2.keep k2 (ShelfAt.not_ev ⟨_, hh2, hv.keep0 hk⟩)⟩, hk.all.trans k2⟩
      exact (heap_set (heap_set hh2 2 v) 1 _).trans (by simp)
    have FIN := Lib.hid fin
    generalize l.drop m = l' at *
    clear hA hh hv hcl hcut e1 e2 hne fin
    by_cases hlt : base + (l.length : Int) < n
    · obtain rfl : m = l.length := by omega
      go_enter Try.func13, Try.ntmps13
      go_wp2_with (go_at_call 16; refine (unhide HL).mono ?_; rintro e w1 ⟨rfl, nd, rfl⟩)
      go_region_with ((go_at_call 29; refine (HC.out _ (((Keep.refl _ _).drewN _).drew)).mono ?_; rintro e w2 ⟨v, rfl, hown, hk2⟩; obtain ⟨A2, cc2, rfl⟩ := owns_form hown; have hk3 := (((Keep.refl nob w).drewN _).drew).trans hk2; have q1 := hk3.cell0 c1; have q2 := hk3.cell0 c2; have f2' := (hk3.frozen (p := ⟨b, 2, none⟩) (fun hf => hf) hbl).trans f2; have f1' := (hk3.frozen (p := ⟨b, 1, none⟩) (fun hf => hf) hbl).trans f1))
      all_goals (go_wp2; refine bodyPost_end (results_none rfl _ _ _) rfl ⟨rfl, FIN.out _ _ hk3 (EvSl.of_own hown)⟩)
    · obtain rfl : n = base + m := by omega
      go_enter Try.func13, Try.ntmps13
      go_wp2_with (go_at_call 16; refine (unhide HL).mono ?_; rintro e w1 ⟨rfl, nd, rfl⟩)
      go_region_with ((go_at_call 29; refine (HC.out _ (((Keep.refl _ _).drewN _).drew)).mono ?_; rintro e w2 ⟨v, rfl, hown, hk2⟩; obtain ⟨A2, cc2, rfl⟩ := owns_form hown; have hk3 := (((Keep.refl nob w).drewN _).drew).trans hk2; have q1 := hk3.cell0 c1; have q2 := hk3.cell0 c2; have f2' := (hk3.frozen (p := ⟨b, 2, none⟩) (fun hf => hf) hbl).trans f2; have f1' := (hk3.frozen (p := ⟨b, 1, none⟩) (fun hf => hf) hbl).trans f1))
      all_goals (go_wp2; refine bodyPost_end (results_none rfl _ _ _) rfl ⟨rfl, FIN.out _ _ hk3 (EvSl.of_own hown)⟩)
end Go.Proofs.Ytfhhjabclmkkmaa
