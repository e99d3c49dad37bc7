/- Contract of the shelf's Put. -/
import Derived.Test.YtfhhjabclmkkmaaShelf
import Derived.Laws.CopyOwn
namespace Go.Proofs.Ytfhhjabclmkkmaa
open Go.RowKit Go.Proofs

/-- The numbers do not go on at place k. -/
def gapAt (n : Int) (l : List Ev) (k : Nat) : Bool :=
  match l[k]? with
  | none => false
  | some e => if k = 0 then decide (n + 1 < e.N) else match l[k - 1]? with
    | none => false
    | some p => decide (e.N < p.N) || (e.N - 1 != p.N)
def gapB (n : Int) (l : List Ev) : Bool := (List.range l.length).any (gapAt n l)

/-- What Put answers, and what is kept behind it. -/
def putE (most base : Int) (kept l : List Ev) : Int :=
  if gapB (base + kept.length) l then 20 else if above (base + kept.length) l = [] then 0 else if most < kept.length + (above (base + kept.length) l).length then 21 else 0
def putL (most base : Int) (kept l : List Ev) : List Ev :=
  if putE most base kept l = 0 then kept ++ above (base + kept.length) l else kept

theorem gapB_hit {n : Int} {l : List Ev} {k : Nat} (hk : k < l.length) (h : gapAt n l k = true) : gapB n l = true := by
  unfold gapB
  rw [List.any_eq_true]
  exact ⟨k, List.mem_range.2 hk, h⟩
theorem gapB_miss {n : Int} {l : List Ev} (h : ∀ j, j < l.length → gapAt n l j = false) : gapB n l = false := by
  unfold gapB
  rw [List.any_eq_false]
  intro k hk
  rw [h k (List.mem_range.1 hk)]
  decide
theorem no_gap_succ {n : Int} {l : List Ev} {k : Nat} (h : Hid (∀ j, j < k → gapAt n l j = false)) (hk : gapAt n l k = false) : Hid (∀ j, j < k + 1 → gapAt n l j = false) := by
  refine Lib.hid (fun j hj => ?_)
  by_cases e : j = k
  · rw [e]; exact hk
  · exact h.out j (by omega)

set_option maxHeartbeats 2000000 in
theorem put_any (b : Nat) (most base : Int) (kept l : List Ev) (v : Value) (w : World) (h : ShelfAt w b most base kept) (hv : EvSl w v l) (h0 : 0 ≤ base) (h1 : base + kept.length ≤ 1099511627776)
    (hl : l.length ≤ 1048576) (hkl : kept.length ≤ 1048576) (hN : ∀ e ∈ l, 0 ≤ e.N ∧ e.N ≤ 1099511627776) :
    Calls Try.prog 11 #[.pointer (some ⟨b, 0, none⟩), v] w fun e w' => e = .returned (.int .i64 (putE most base kept l)) ∧
      ShelfAt w' b most base (putL most base kept l) ∧ Keep (oneb b) w w' := by
  have hlen := fun W (hW : Keep nob w W) => len_any b most base kept W (h.keep0 hW) h0 h1
  have HL := Lib.hid hlen
  clear hlen
  have hevs := hv
  obtain ⟨A, c, rfl, hlc, hcm, hA⟩ := hv.form
  have hrow : ∀ W : World, Keep nob w W → ∀ k e, l[k]? = some e → ∃ g o, A = some ⟨g, o, none⟩ ∧ EvAt W g (o + k * 12) e := fun W hW k e he => by
    rcases hA with ⟨_, _, rfl⟩ | ⟨g, o, cur, fr, rfl, hh, hx⟩
    · simp at he
    · exact ⟨g, o, rfl, ev_at (hW.heap (fun hf => hf) hh) hx he⟩
  have HR := Lib.hid hrow
  have H := Lib.hid h
  have HE := Lib.hid hevs
  have HN := Lib.hid hN
  clear hrow h hv hevs hA hN
  unfold maxLen at hcm
  have hbl : b < w.heap.size := by obtain ⟨_, hh, _⟩ := H.out; exact (Array.getElem?_eq_some_iff.1 hh).1
  go_enter Try.func11, Try.ntmps11
  go_wp2
  go_loopg [5, 6, 13] l.length (fun gg s5 s6 s13 wr => ∃ kk : Nat, kk ≤ l.length ∧ l.length - kk ≤ gg ∧ s13 = .int .i64 kk ∧ Hid (Keep nob w wr) ∧ Hid (∀ j, j < kk → gapAt (base + kept.length) l j = false))
  case atStart => exact ⟨0, Nat.zero_le _, by omega, rfl, Keep.refl _ w, fun j hj => absurd hj (Nat.not_lt_zero _)⟩
  case round =>
    obtain ⟨kk, hkk, hg, rfl, BW, GA⟩ := hrel
    by_cases hlt : kk < l.length
    · have hltz : (kk : Int) < (l.length : Int) := by omega
      obtain ⟨y, hy⟩ : ∃ y, l[kk]? = some y := ⟨_, List.getElem?_eq_getElem hlt⟩
      obtain ⟨g, o, rfl, l0, l1, l2, l3, l4, l5, l6, l7, l8, l9, l10, l11⟩ := HR.out wr BW.out kk y hy
      have hyN := HN.out y (List.mem_of_getElem? hy)
      by_cases hk0 : kk = 0
      · have hz : ((kk : Int) == 0) = true := by rw [beq_iff_eq]; omega
        have hp : decide (0 < kk) = false := by rw [decide_eq_false_iff_not]; omega
        have hw1 : IntKind.i64.wrap (base + (kept.length : Int) + 1) = base + kept.length + 1 := by rw [IntKind.wrap_i64]; omega
        by_cases hgap : base + (kept.length : Int) + 1 < y.N
        · have hga : gapAt (base + kept.length) l kk = true := by unfold gapAt; rw [hy]; simp [hk0, hgap]
          have HY := Lib.hid hy
          have HG := Lib.hid hga
          have HK := Lib.hid hk0
          clear hy hga hk0
          go_wp2_with fail
          go_quiet ((go_at_call 16; exact Calls.quiet_of (HL.out _ ((Keep.alloc BW.out _).drewN _))))
          go_wp2
          go_ret
          have hb : gapB (base + kept.length) l = true := gapB_hit hlt HG.out
          have he : putE most base kept l = 20 := by unfold putE; rw [if_pos hb]
          have hll : putL most base kept l = kept := by unfold putL; rw [he]; rfl
          rw [he, hll]
          exact ⟨rfl, H.out.keep0 ((Keep.alloc BW.out _).drewN _), ((Keep.alloc BW.out _).drewN _).all⟩
        · have hga : gapAt (base + kept.length) l kk = false := by unfold gapAt; rw [hy]; simp [hk0]; omega
          have hgd : decide (base + (kept.length : Int) + 1 < y.N) = false := by rw [decide_eq_false_iff_not]; exact hgap
          have HG := Lib.hid hga
          have HK := Lib.hid hk0
          clear hy hga hk0
          go_wp2_with fail
          go_quiet ((go_at_call 16; exact Calls.quiet_of (HL.out _ ((Keep.alloc BW.out _).drewN _))))
          go_wp2
          go_roundg (l.length - (kk + 1))
          case measure => omega
          case rel => exact ⟨kk + 1, by omega, by omega, by go_num, (Keep.alloc BW.out _).drewN _, no_gap_succ GA HG.out⟩
      · obtain ⟨z, hzz⟩ : ∃ z, l[kk - 1]? = some z := ⟨_, List.getElem?_eq_getElem (by omega)⟩
        obtain ⟨g', o', hA', m0, m1, _⟩ := HR.out wr BW.out (kk - 1) z hzz
        injection hA' with hA'
        injection hA' with hg' ho' _
        subst hg' ho'
        clear m0
        have hzN := HN.out z (List.mem_of_getElem? hzz)
        have hz : ((kk : Int) == 0) = false := by rw [beq_eq_false_iff_ne]; omega
        have hp : decide (0 < kk) = true := by rw [decide_eq_true_iff]; omega
        have w1 : IntKind.i64.wrap ((kk : Int) - 1) = (kk : Int) - 1 := by rw [IntKind.wrap_i64]; omega
        have w2 : IntKind.i64.wrap (y.N - 1) = y.N - 1 := by rw [IntKind.wrap_i64]; omega
        have i0 : (0 : Int) ≤ (kk : Int) - 1 := by omega
        have i1 : (kk : Int) - 1 < (l.length : Int) := by omega
        have i2 : ((kk : Int) - 1).toNat = kk - 1 := by omega
        have hgb : g < wr.heap.size := World.block_lt_of_cell? wr _ l0
        have hA : gapAt (base + kept.length) l kk = (decide (y.N < z.N) || (y.N - 1 != z.N)) := by unfold gapAt; rw [hy]; simp [hk0, hzz]
        have HY := Lib.hid hA
        have HK := Lib.hid hk0
        clear hy hzz hA hk0
        by_cases c1 : y.N < z.N
        · have c1' : decide (y.N < z.N) = true := by rw [decide_eq_true_iff]; exact c1
          go_wp2_with fail
          go_quiet (fail)
          go_wp2
          go_ret
          have hb : gapB (base + kept.length) l = true := gapB_hit hlt (by rw [HY.out, c1']; rfl)
          have he : putE most base kept l = 20 := by unfold putE; rw [if_pos hb]
          have hll : putL most base kept l = kept := by unfold putL; rw [he]; rfl
          rw [he, hll]
          exact ⟨rfl, H.out.keep0 ((Keep.alloc BW.out _).drewN _), ((Keep.alloc BW.out _).drewN _).all⟩
        · have c1' : decide (y.N < z.N) = false := by rw [decide_eq_false_iff_not]; exact c1
          by_cases c2 : y.N - 1 = z.N
          · have c2' : (y.N - 1 != z.N) = false := by rw [bne_eq_false_iff_eq]; exact c2
            have C2 := Lib.hid c2
            clear c2
            go_wp2_with fail
            go_quiet (fail)
            go_wp2
            go_roundg (l.length - (kk + 1))
            case measure => omega
            case rel => exact ⟨kk + 1, by omega, by omega, by go_num, (Keep.alloc BW.out _).drewN _, no_gap_succ GA (by rw [HY.out, c1', c2']; rfl)⟩
          · have c2' : (y.N - 1 != z.N) = true := by rw [bne_iff_ne]; exact c2
            have C2 := Lib.hid c2
            clear c2
            go_wp2_with fail
            go_quiet (fail)
            go_wp2
            go_ret
            have hb : gapB (base + kept.length) l = true := gapB_hit hlt (by rw [HY.out, c1', c2']; rfl)
            have he : putE most base kept l = 20 := by unfold putE; rw [if_pos hb]
            have hll : putL most base kept l = kept := by unfold putL; rw [he]; rfl
            rw [he, hll]
            exact ⟨rfl, H.out.keep0 ((Keep.alloc BW.out _).drewN _), ((Keep.alloc BW.out _).drewN _).all⟩
    · have hltz : ¬ (kk : Int) < (l.length : Int) := by omega
      obtain rfl : kk = l.length := by omega
      have hgb : gapB (base + kept.length) l = false := gapB_miss GA.out
      have hmf : ∀ (fn : Fn) (first cap : Array Value) (w : World), (Instr.makeFunc fn first cap).run Try.prog w = .ok (.func fn first cap) w := fun _ _ _ _ => rfl
      have hi := fun (W : World) (hW : Keep nob w W) (B : Nat) (hB : B < W.heap.size) (hc : W.cell? ⟨B, 0, none⟩ = some (.int .i64 (base + kept.length))) =>
        indexFunc_any 28 #[.pointer (some ⟨B, 0, none⟩)] (fun e => decide (base + (kept.length : Int) < e.N)) (enters_of Try.func28 (by kernel_rfl) rfl) _ l W (HE.out.keep0 hW) (put1_pred _ B W hc hB)
      have HI := Lib.hid hi
      clear hi
      by_cases hk : l.findIdx (fun e => decide (base + (kept.length : Int) < e.N)) < l.length
      · have hix : idxB (fun e => decide (base + (kept.length : Int) < e.N)) l = (l.findIdx (fun e => decide (base + (kept.length : Int) < e.N)) : Nat) := by rw [idxB, if_pos hk]
        have hab : above (base + kept.length) l = l.drop (l.findIdx fun e => decide (base + (kept.length : Int) < e.N)) := rfl
        generalize l.findIdx (fun e => decide (base + (kept.length : Int) < e.N)) = k at hk hix hab
        obtain ⟨vs, hsl, hcut⟩ := HE.out.from_ k (by omega)
        have hlen : (l.drop k).length = l.length - k := List.length_drop
        have hfl : 0 < (l.drop k).length := by omega
        have hfl2 : (l.drop k).length ≤ 1048576 := by omega
        have hpe : putE most base kept l = if most < kept.length + (l.drop k).length then 21 else 0 := by
          unfold putE; rw [hgb, hab, if_neg (by decide), if_neg (by intro h; rw [h] at hfl; simp at hfl)]
        have hpl : putL most base kept l = if most < kept.length + (l.drop k).length then kept else kept ++ l.drop k := by
          unfold putL; rw [hpe, hab]; split <;> rfl
        clear hlen hab
        generalize l.drop k = fr at *
        have hsv : ∃ A' c', vs = .slice A' fr.length c' := by obtain ⟨A', c', h, _⟩ := hcut.form; exact ⟨_, _, h⟩
        obtain ⟨A', c', rfl⟩ := hsv
        obtain ⟨v2, hh, hv2⟩ := H.out
        have hsv : ∃ A' c', v2 = .slice A' kept.length c' := by obtain ⟨A', c', h, _⟩ := hv2.form; exact ⟨_, _, h⟩
        obtain ⟨A2, c2, rfl⟩ := hsv
        have d0 := cell_of_row w b 0 _ _ _ hh
        have d2 := cell_of_row w b 2 _ _ _ hh
        simp at d0 d2
        have f2 : w.frozen? ⟨b, 2, none⟩ = false := frozen_of_row w b 2 _ _ hh
        have hsum : IntKind.i64.wrap ((kept.length : Int) + (fr.length : Int)) = kept.length + fr.length := by rw [IntKind.wrap_i64]; omega
        have HX := Lib.hid hix
        have HH := Lib.hid hh
        have HV2 := Lib.hid hv2
        have HC := Lib.hid hcut
        have HPE := Lib.hid hpe
        have HPL := Lib.hid hpl
        have D0 := Lib.hid d0
        have D2 := Lib.hid d2
        clear hix hgb hh hv2 hcut hpe hpl d0 d2
        by_cases hwin : most < kept.length + fr.length
        · have hwd : decide (most < (kept.length : Int) + fr.length) = true := by rw [decide_eq_true_iff]; exact hwin
          go_wp2_with fail
          refine (HL.out _ BW.out).mono ?_
          rintro e w' ⟨rfl, nd, hw'⟩
          have k1 : Keep nob w w' := by rw [hw']; exact Keep.drewN BW.out nd
          have K1 := Lib.hid k1
          clear k1 hw'
          go_wp2_with (go_at_call 27; refine (HI.out _ (Keep.alloc K1.out _) _ (by simp) (by simp)).mono ?_; rw [HX.out]; rintro e w2 ⟨rfl, hk2⟩; have k3 := Lib.hid ((Keep.alloc K1.out _).trans hk2); have d0 := k3.out.cell0 D0.out; have d2 := k3.out.cell0 D2.out)
          go_quiet (fail)
          go_wp2
          go_ret
          rw [HPE.out, HPL.out, if_pos hwin, if_pos hwin]
          exact ⟨rfl, H.out.keep0 (k3.out.drewN _), (k3.out.drewN _).all⟩
        · have hwd : decide (most < (kept.length : Int) + fr.length) = false := by rw [decide_eq_false_iff_not]; exact hwin
          go_wp2_with fail
          refine (HL.out _ BW.out).mono ?_
          rintro e w' ⟨rfl, nd, hw'⟩
          have k1 : Keep nob w w' := by rw [hw']; exact Keep.drewN BW.out nd
          have K1 := Lib.hid k1
          clear k1 hw'
          have hmk := fun W => make_evs (kept.length + fr.length) (by omega) W
          simp only [Int.natCast_add] at hmk
          go_wp2_with (go_at_call 27; refine (HI.out _ (Keep.alloc K1.out _) _ (by simp) (by simp)).mono ?_; rw [HX.out]; rintro e w2 ⟨rfl, hk2⟩; have k3 := Lib.hid ((Keep.alloc K1.out _).trans hk2); have d0 := k3.out.cell0 D0.out; have d2 := k3.out.cell0 D2.out)
          go_quiet (fail)
          obtain ⟨w3, hw3⟩ : ∃ w3, w3 = w2.drewN nq := ⟨_, rfl⟩
          rw [← hw3]
          have k4 : Keep nob w w3 := by rw [hw3]; exact k3.out.drewN nq
          clear hw3 d0 d2 hk2
          have hb3 : b < w3.heap.size := Nat.lt_of_lt_of_le hbl k4.size
          have hbne : b ≠ w3.heap.size := by omega
          have d2 := k4.cell0 D2.out
          have hv3 := HV2.out.keep0 k4
          have hc3 := HC.out.keep0 k4
          have hsl2 : ∀ W, (Instr.slice 27 (.slice (some ⟨w3.heap.size, 0, none⟩) (kept.length + fr.length) (kept.length + fr.length)) (some (.int .i64 (kept.length : Int))) none none).run Try.prog W = .ok (.slice (some ⟨w3.heap.size, kept.length * 12, none⟩) fr.length fr.length) W := by
            intro W
            rw [slice_from _ _ _ kept.length (by omega) W, if_neg (by omega)]
            simp [add_lit]
          have k5 : Keep nob w3 (w3.alloc (.cells (newEvs (kept.length + fr.length)).toArray 62)) := (Keep.refl _ _).alloc _
          have hnb : ¬ oneb w3.heap.size b := fun h => hbne h
          have K4 := Lib.hid k4
          have V3 := Lib.hid hv3
          have C3 := Lib.hid hc3
          have K5 := Lib.hid k5
          clear k4 hv3 hc3 k5
          go_wp2_with (first
            | (refine wpList_copy_evs rfl (.tmp 88) (.tmp 92) _ rfl rfl w3.heap.size 0 (kept.length + fr.length) (kept.length + fr.length) _ kept rfl rfl (V3.out.keep0 K5.out) (newEvs (kept.length + fr.length)) 62 (heap_alloc_new _ _) (by omega) (by rw [newEvs_length]; omega) ?_; intro w4 hg4 hk4; have K6 := Lib.hid (Keep.then K5.out hk4 (S := nob) (fun i hi e => by unfold oneb at e; omega)); have d2x := K6.out.cell0 d2)
            | (refine wpList_copy_evs rfl (.tmp 100) (.tmp 101) _ rfl rfl w3.heap.size (kept.length * 12) fr.length fr.length _ fr rfl rfl ?_ (splice (newEvs (kept.length + fr.length)) 0 (evs kept)) 62 hg4.out (by omega) ?_ ?_))
          · exact C3.out.keep0 K6.out
          · rw [length_splice _ _ _ (by rw [newEvs_length, evs_length]; omega), newEvs_length]; omega
          intro w5 hg5 hk5
          have k7 : Keep nob w w5 := K4.out.trans (Keep.then K6.out hk5 (S := nob) (fun i hi e => by unfold oneb at e; omega))
          have f5 := (k7.frozen (p := ⟨b, 2, none⟩) (fun hf => hf) hbl).trans f2
          have e5 := k7.cell0 D2.out
          have fin : ShelfAt (w5.setCell ⟨b, 2, none⟩ (.slice (some ⟨w3.heap.size, 0, none⟩) (kept.length + fr.length) (kept.length + fr.length))) b most base (kept ++ fr) ∧ Keep (oneb b) w (w5.setCell ⟨b, 2, none⟩ (.slice (some ⟨w3.heap.size, 0, none⟩) (kept.length + fr.length) (kept.length + fr.length))) := by
            have hh5 := k7.heap (fun hf => hf) HH.out
            have k8 : Keep (oneb b) w5 (w5.setCell ⟨b, 2, none⟩ (.slice (some ⟨w3.heap.size, 0, none⟩) (kept.length + fr.length) (kept.length + fr.length))) := (Keep.refl (oneb b) w5).setCell (p := ⟨b, 2, none⟩) (.inr (show oneb b b from rfl)) _
            refine ⟨⟨.slice (some ⟨w3.heap.size, 0, none⟩) (kept.length + fr.length) (kept.length + fr.length), (heap_set hh5 2 _).trans (by simp), ?_⟩, k7.all.trans k8⟩
            have hg6 := k8.heap (k := w3.heap.size) (fun h => hbne (show b = w3.heap.size from h.symm)) hg5.out
            have hsp : splice (splice (newEvs (kept.length + fr.length)) 0 (evs kept)) (kept.length * 12) (evs fr) = evs (kept ++ fr) := by
              rw [← evs_length kept, splice_two _ _ _ (by rw [newEvs_length, evs_length, evs_length]; omega), evs_append]
            rw [hsp] at hg6
            refine .inr ⟨w3.heap.size, 0, kept.length + fr.length, _, (0, 0), by rw [List.length_append], by rw [List.length_append]; exact Nat.le_refl _, by unfold maxLen; omega, hg6, fun j u hu => by simpa using hu⟩
          have FIN := Lib.hid fin
          clear fin hg5 hk5 hk4 hg4 d2x d2
          go_wp2
          go_ret
          rw [HPE.out, HPL.out, if_neg (by omega), if_neg (by omega)]
          exact ⟨rfl, FIN.out⟩
      · have hix : idxB (fun e => decide (base + (kept.length : Int) < e.N)) l = -1 := by rw [idxB, if_neg hk]
        have hab : above (base + kept.length) l = [] := by unfold above; exact List.drop_of_length_le (by omega)
        have he : putE most base kept l = 0 := by unfold putE; rw [hgb, if_neg (by decide), if_pos hab]
        have hll : putL most base kept l = kept := by unfold putL; rw [he, hab]; simp
        have HX := Lib.hid hix
        have HE1 := Lib.hid he
        have HE2 := Lib.hid hll
        clear hix hab he hll hk hgb
        go_wp2_with fail
        refine (HL.out _ BW.out).mono ?_
        rintro e w' ⟨rfl, nd, hw'⟩
        have k1 : Keep nob w w' := by rw [hw']; exact Keep.drewN BW.out nd
        have K1 := Lib.hid k1
        clear k1 hw'
        go_wp2_with (go_at_call 27; refine (HI.out _ (Keep.alloc K1.out _) _ (by simp) (by simp)).mono ?_; rw [HX.out]; rintro e w2 ⟨rfl, hk2⟩)
        go_ret
        rw [HE1.out, HE2.out]
        exact ⟨rfl, H.out.keep0 ((Keep.alloc K1.out _).trans hk2), ((Keep.alloc K1.out _).trans hk2).all⟩
end Go.Proofs.Ytfhhjabclmkkmaa
