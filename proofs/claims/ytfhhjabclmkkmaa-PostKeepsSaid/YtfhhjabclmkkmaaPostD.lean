/- Contract of the post's Push. -/
import Derived.Test.YtfhhjabclmkkmaaPostC
import Derived.StillTailTactics
namespace Go.Proofs.Ytfhhjabclmkkmaa
open Go.RowKit Go.Proofs

theorem ShelfAt.lt {w : World} {b : Nat} {most base : Int} {l : List Ev} (h : ShelfAt w b most base l) : b < w.heap.size := by
  obtain ⟨v, hv, _⟩ := h
  exact (Array.getElem?_eq_some_iff.1 hv).1

theorem push1_pred (n : Int) (B : Nat) (w : World) (hc : w.cell? ⟨B, 0, none⟩ = some (.int .i64 n)) (hB : B < w.heap.size) :
    PredEv 33 #[.pointer (some ⟨B, 0, none⟩)] (fun e => e.R != n) w := fun W e hk => by
  have hc' : W.cell? ⟨B, 0, none⟩ = some (.int .i64 n) := (World.cell?_of_block (w := w) (hk.block B hB (fun hf => hf))).trans hc
  have hBW : B < W.heap.size := Nat.lt_of_lt_of_le hB hk.size
  have hne : B ≠ W.heap.size := by omega
  simp only [Ev.agg, Ev.cells]
  go_enter Try.func33, Try.ntmps33
  go_wp2
  all_goals (go_ret; exact ⟨by simp_all, hk.alloc _⟩)

theorem PSt.push_no {p : PSt} {r : Int} {l : List Ev} (h : p.pushE r l ≠ 0) : p.push r l = p ∧ p.pushN r l = 0 := by
  unfold PSt.push PSt.pushN
  rw [if_neg h, if_neg h]
  exact ⟨rfl, rfl⟩
theorem PSt.push_yes {p : PSt} {r : Int} {l : List Ev} (h : p.pushE r l = 0) : p.push r l = (p.put r.toNat l).cut r.toNat ∧ p.pushN r l = (p.push r l).base r.toNat + ((p.push r l).kept r.toNat).length := by
  unfold PSt.push PSt.pushN
  rw [if_pos h, if_pos h]
  unfold PSt.push
  rw [if_pos h]
  exact ⟨rfl, rfl⟩
theorem PSt.put_no {p : PSt} {r : Nat} {l : List Ev} (h : putE p.most (p.base r) (p.kept r) l ≠ 0) : p.put r l = p := by
  unfold PSt.put putL
  rw [if_neg h]
  have : upd p.kept r (p.kept r) = p.kept := by
    funext j
    unfold upd
    split
    · next h => rw [h]
    · rfl
  rw [this]

theorem PostAt.put {w w' : World} {L : PLay} {p : PSt} {r : Nat} {l : List Ev} (h : PostAt w L p) (hr : r < p.n) (hk : Keep (oneb (L.bs r)) w w') (hs : ShelfAt w' (L.bs r) p.most (p.base r) (putL p.most (p.base r) (p.kept r) l)) : PostAt w' L (p.put r l) := by
  have := h.setShelf hr hk hs
  have e : upd p.base r (p.base r) = p.base := by
    funext j
    unfold upd
    split
    · next h => rw [h]
    · rfl
  rw [e] at this
  exact this

set_option maxHeartbeats 2000000 in
theorem push_any (r : Int) (l : List Ev) (v : Value) (w : World) (L : PLay) (p : PSt) (h : PostAt w L p) (hok : p.ok) (hv : EvSl w v l)
    (hl : l.length ≤ 1048576) (hN : ∀ e ∈ l, 0 ≤ e.N ∧ e.N ≤ 1099511627776) (hok' : (p.put r.toNat l).ok) :
    Calls Try.prog 21 #[.pointer (some ⟨L.b, 0, none⟩), .int .i64 r, v] w fun e w' => e = .returned (.tuple #[.int .i64 (p.pushN r l), .int .i64 (p.pushE r l)]) ∧ PostAt w' L (p.push r l) ∧ Keep (L.foot p.n) w w' := by
  have his := fun W (hW : Keep nob w W) => is_any r W L p (h.keep0 hW)
  by_cases hr : 0 ≤ r ∧ r < p.n
  · have hb := isB_yes hr
    rw [hb] at his
    obtain ⟨k, rfl⟩ : ∃ k : Nat, r = k := ⟨r.toNat, by omega⟩
    have hkn : k < p.n := by omega
    rw [Int.toNat_natCast] at hok'
    have hct := fun W (hW : Keep nob (w.alloc (.cells #[.int .i64 k] 3)) W) => containsFunc_any 33 #[.pointer (some ⟨w.heap.size, 0, none⟩)] (fun e => e.R != (k : Int)) (fun _ _ => rfl) v l W (hv.keep0 ((Keep.alloc (Keep.refl _ _) _).trans hW)) (push1_pred k w.heap.size W (hW.cell0 (by simp)) (Nat.lt_of_lt_of_le (by simp) hW.size))
    obtain ⟨A, c, rfl, -⟩ := hv.form
    have hE : p.pushE k l = if l.any (fun e => e.R != (k : Int)) then 23 else putE p.most (p.base k) (p.kept k) l := by
      unfold PSt.pushE; rw [if_pos hr, Int.toNat_natCast]
    have HI := Lib.hid his
    have HC := Lib.hid hct
    clear his hct
    cases ha : l.any (fun e => e.R != (k : Int)) with
    | true =>
      rw [ha] at hE
      have hE' : p.pushE k l = 23 := hE
      obtain ⟨hp1, hp2⟩ := PSt.push_no (p := p) (r := k) (l := l) (by rw [hE']; decide)
      rw [hp1, hp2, hE']
      have H := Lib.hid h
      have HA := Lib.hid ha
      clear h hok hv hok' hE hE' hp1 hp2 ha hN
      go_enter Try.func21, Try.ntmps21
      go_wp2_with fail
      refine (HI.out _ (Keep.alloc (Keep.refl _ _) _)).mono ?_
      rintro e w' ⟨rfl, rfl⟩
      go_wp2_with fail
      refine (HC.out _ (Keep.refl _ _)).mono ?_
      rw [HA.out]
      rintro e w2 ⟨rfl, k2⟩
      go_wp2
      go_ret2
      exact ⟨rfl, H.out.keep0 ((Keep.alloc (Keep.refl _ _) _).trans k2), ((Keep.alloc (Keep.refl _ _) _).trans k2).all⟩
    | false =>
      rw [ha] at hE
      have hE' : p.pushE k l = putE p.most (p.base k) (p.kept k) l := hE
      obtain ⟨cs, ca, d0, -, hc1, hc2, -⟩ := h.cells
      have pk := h.ptr k hkn
      have hok0 := hok k hkn
      have hput := fun W (hW : Keep nob w W) => put_any (L.bs k) p.most (p.base k) (p.kept k) l _ W ((h.keep0 hW).shelf k hkn) (hv.keep0 hW) hok0.1 (by omega) hl (by omega) hN
      have H := Lib.hid h
      have HA := Lib.hid ha
      have HP := Lib.hid hput
      have HO := Lib.hid hok'
      have i1 : (0 : Int) ≤ (k : Int) := by omega
      have i3 : (k : Int) < (p.n : Int) := by omega
      clear h hok hv hok' hE ha hN hput hok0
      go_enter Try.func21, Try.ntmps21
      go_wp2_with fail
      refine (HI.out _ (Keep.alloc (Keep.refl _ _) _)).mono ?_
      rintro e w' ⟨rfl, rfl⟩
      go_wp2_with fail
      refine (HC.out _ (Keep.refl _ _)).mono ?_
      rw [HA.out]
      rintro e w2 ⟨rfl, k2⟩
      have b2 : w2.cell? ⟨w.heap.size, 0, none⟩ = some (.int .i64 (k : Int)) := k2.cell0 (by simp)
      have k3 := (Keep.alloc (Keep.refl nob w) _).trans k2
      have d2 := k3.cell0 d0
      have p2 := k3.cell0 pk
      have K3 := Lib.hid k3
      clear k2 k3 HI HC d0 pk
      go_wp2_with fail
      go_still_tail 8, (by kernel_rfl)
      change wpList _ _ _ _ _ w2.drew
      have k4 : Keep nob w w2.drew := K3.out.drew
      have b3 : w2.drew.cell? ⟨w.heap.size, 0, none⟩ = some (.int .i64 (k : Int)) := b2
      have d3 : w2.drew.cell? ⟨L.b, 0, none⟩ = some (.slice (some ⟨L.gs, 0, none⟩) p.n cs) := d2
      have p3 : w2.drew.cell? ⟨L.gs, k, none⟩ = some (.pointer (some ⟨L.bs k, 0, none⟩)) := p2
      clear b2 d2 p2 K3
      generalize w2.drew = w3 at *
      have hcall := HP.out w3 k4
      have P3 := H.out.keep0 k4
      have hbx : w.heap.size ≠ L.bs k := by
        have := (H.out.shelf k hkn).lt
        omega
      have hbb : L.b ≠ L.bs k := by
        obtain ⟨_, _, h1, _⟩ := P3.head
        obtain ⟨v, hv, _⟩ := P3.shelf k hkn
        exact heap_ty_ne h1 hv (by decide)
      have hbg : L.gs ≠ L.bs k := by
        obtain ⟨_, _, h1, _⟩ := P3.ptrs
        obtain ⟨v, hv, _⟩ := P3.shelf k hkn
        exact heap_ty_ne h1 hv (by decide)
      have HK := Lib.hid k4
      have HQ := Lib.hid P3
      clear k4 P3 HP
      obtain ⟨z, hz⟩ : ∃ z, z = putE p.most (p.base k) (p.kept k) l := ⟨_, rfl⟩
      rw [← hz] at hcall hE'
      by_cases hz0 : z = 0
      · subst hz0
        obtain ⟨hp1, hp2⟩ := PSt.push_yes hE'
        rw [hp1, Int.toNat_natCast] at hp2
        rw [Int.toNat_natCast] at hp1
        have hokc := PSt.cut_ok HO.out k k hkn
        have H1 := Lib.hid hp1
        have H2 := Lib.hid hp2
        have H3 := Lib.hid hE'
        clear hz hp1 hp2 hE'
        go_wp2_with fail
        refine hcall.mono ?_
        rintro e w4 ⟨rfl, s4, k4⟩
        have b4 := k4.cell (p := ⟨w.heap.size, 0, none⟩) hbx b3
        have P4 := PostAt.put HQ.out hkn k4 s4
        have HK4 := Lib.hid (HK.out.all.trans (k4.mono (T := L.foot p.n) (fun j hj => .inr ⟨k, hkn, hj⟩)))
        have pc := pcut_any k w4 L (p.put k l) P4 HO.out hkn
        have HPC := Lib.hid pc
        clear s4 k4 P4 pc b3 d3 p3 HK HQ hcall
        go_wp2_with fail
        refine (unhide HPC).mono ?_
        rintro e w5 ⟨rfl, P5, k5⟩
        have b5 := k5.cell (p := ⟨w.heap.size, 0, none⟩) hbx b4
        obtain ⟨cs5, ca5, d5, -, hc51, hc52, -⟩ := P5.cells
        have p5 := P5.ptr k hkn
        have hlen := fun W (hW : Keep nob w5 W) => len_any (L.bs k) _ _ _ W ((P5.keep0 hW).shelf k hkn) hokc.1 (by omega)
        have HL := Lib.hid hlen
        have HP5 := Lib.hid P5
        have HK5 := Lib.hid (HK4.out.trans (k5.mono (T := L.foot p.n) (fun j hj => .inr ⟨k, hkn, hj⟩)))
        clear hlen P5 k5 HK4 b4 HPC hokc
        change PSt.n _ ≤ cs5 at hc51
        have hn5 : ((p.put k l).cut k).n = p.n := rfl
        rw [hn5] at d5 hc51
        go_wp2_with fail
        go_quiet ((go_at_call 16; exact Calls.quiet_of (HL.out _ ((Keep.refl _ _).drewN _))))
        go_wp2
        go_ret2
        rw [H2.out, H3.out, H1.out]
        exact ⟨rfl, HP5.out.keep0 ((Keep.refl _ _).drewN _), HK5.out.drewN _⟩
      · have hzb : (z != 0) = true := by simpa using hz0
        obtain ⟨hp1, hp2⟩ := PSt.push_no (p := p) (r := k) (l := l) (by rw [hE']; exact hz0)
        have hput : putL p.most (p.base k) (p.kept k) l = p.kept k := by unfold putL; rw [← hz, if_neg hz0]
        have hpp : p.put k l = p := PSt.put_no (by rw [← hz]; exact hz0)
        have H1 := Lib.hid hpp
        have H2 := Lib.hid hp1
        have H3 := Lib.hid hp2
        have H4 := Lib.hid hE'
        clear hz hp1 hp2 hE' hput hpp
        go_wp2_with fail
        refine hcall.mono ?_
        rintro e w4 ⟨rfl, s4, k4⟩
        have P4 := PostAt.put HQ.out hkn k4 s4
        rw [H1.out] at P4
        have HK4 := Lib.hid (HK.out.all.trans (k4.mono (T := L.foot p.n) (fun j hj => .inr ⟨k, hkn, hj⟩)))
        have HP4 := Lib.hid P4
        clear s4 k4 P4 b3 d3 p3 HK HQ hcall
        go_wp2
        go_ret2
        rw [H2.out, H3.out, H4.out]
        exact ⟨rfl, HP4.out, HK4.out⟩
  · have hb := isB_no hr
    rw [hb] at his
    have hE : p.pushE r l = 23 := by unfold PSt.pushE; rw [if_neg hr]
    obtain ⟨hp1, hp2⟩ := PSt.push_no (p := p) (r := r) (l := l) (by rw [hE]; decide)
    rw [hp1, hp2, hE]
    have HI := Lib.hid his
    have H := Lib.hid h
    clear his h hok hv hok' hE hp1 hp2
    go_enter Try.func21, Try.ntmps21
    go_wp2_with fail
    refine (HI.out _ (Keep.alloc (Keep.refl _ _) _)).mono ?_
    rintro e w' ⟨rfl, rfl⟩
    go_wp2
    go_ret2
    exact ⟨rfl, H.out.keep0 (Keep.alloc (Keep.refl _ _) _), (Keep.alloc (Keep.refl _ _) _).all⟩
end Go.Proofs.Ytfhhjabclmkkmaa
