/- Layer 16: the document's example. -/
import Derived.Test.YtfhhjabclmkkmaaLaw16c
import Derived.Test.YtfhhjabclmkkmaaSiteF
namespace Go.Proofs.Ytfhhjabclmkkmaa
open Go.RowKit Go.Proofs

/-- The document's event. -/
def evCy : Ev := { R := 0, N := 1, H := 1, K := 1, key := ⟨#[99, 121]⟩ }
def one1 : Clk := ⟨1, 0, 0, 0, 0⟩
def q0 : PSt := PSt.new 2 1
def q1 : PSt := q0.push 0 [evCy]
def q2 : PSt := q1.told 1 one1
def q3 : PSt := q2.told 0 one1
theorem q1_told : q0.pushE 0 [evCy] = 0 ∧ q0.pushN 0 [evCy] = 1 ∧ fetchK q1.base q1.kept 1 Clk.zero 2 = [evCy] ∧ q2.site.b.c0 = 0 ∧ q3.site.b.c0 = 1 := ⟨by decide, by decide, rfl, by decide, by decide⟩
theorem ok2 {p : PSt} (hn : p.n = 2) (h0 : 0 ≤ p.base 0 ∧ p.base 0 + (p.kept 0).length ≤ 1073741824 ∧ (p.kept 0).length ≤ 65536) (h1 : 0 ≤ p.base 1 ∧ p.base 1 + (p.kept 1).length ≤ 1073741824 ∧ (p.kept 1).length ≤ 65536) : p.ok := by
  intro i hi
  rw [hn] at hi
  match i, hi with
  | 0, _ => exact h0
  | 1, _ => exact h1
theorem q0_ok : q0.ok := ok2 rfl (by decide) (by decide)
theorem q0p_ok : (q0.put 0 [evCy]).ok := ok2 rfl (by decide) (by decide)
theorem q1_ok : q1.ok := ok2 rfl (by decide) (by decide)
theorem q2_ok : q2.ok := ok2 rfl (by decide) (by decide)
theorem q3_ok : q3.ok := ok2 rfl (by decide) (by decide)

theorem Site.cell_b (s : Site) (k : Nat) (hk : k < 5) : s.cells[1 + k]? = some (.int .i64 (s.b.get k)) := by
  unfold Site.cells
  rw [Nat.add_comm, List.getElem?_cons_succ, List.append_assoc, List.getElem?_append_left (by simp [Clk.cells]; omega)]
  exact Clk.cells_at _ _ hk

set_option maxHeartbeats 4000000 in
theorem shown16 (w : World) : Calls Try.prog 18 #[] w fun e w' => e = .returned (.bool true) ∧ Keep nob w w' := by
  go_enter Try.func18, Try.ntmps18
  go_wp2_with fail
  refine (newPost_any 2 1 1 2 1 1 (by omega) w).mono ?_
  rintro e w1 ⟨L, rfl, hat, hnew, hk⟩
  have fin : ∀ W, Keep (L.foot 2) w1 W → Keep nob w W := fun W hW => hk.then hW (fun i hi hf => by have := PLay.new_foot hnew hf; omega)
  have FIN := Lib.hid fin
  have P1 : Hid (PostAt w1 L q0) := hat
  have K1 : Hid (Keep (L.foot 2) w1 w1) := Keep.refl _ _
  clear fin hat hk hnew
  go_wp2_with fail
  have k3 : Keep nob w1 ((w1.alloc (.cells evCy.cells.toArray 62)).alloc (.cells evCy.cells.toArray 62)) := ((Keep.refl _ _).alloc _).alloc _
  have bx : Blk ((w1.alloc (.cells evCy.cells.toArray 62)).alloc (.cells evCy.cells.toArray 62)) w1.heap.size 62 evCy.cells := (Blk.new w1 _ _).alloc _
  have bl : Blk ((w1.alloc (.cells evCy.cells.toArray 62)).alloc (.cells evCy.cells.toArray 62)) (w1.heap.size + 1) 62 evCy.cells := by
    have := Blk.new (w1.alloc (.cells evCy.cells.toArray 62)) 62 evCy.cells
    rw [World.size_alloc] at this
    exact this
  change Calls _ _ _ ((w1.alloc (.cells evCy.cells.toArray 62)).alloc (.cells evCy.cells.toArray 62)) _
  generalize ((w1.alloc (.cells evCy.cells.toArray 62)).alloc (.cells evCy.cells.toArray 62)) = w3 at *
  have hev : EvSl w3 (.slice (some ⟨w1.heap.size + 1, 0, none⟩) 1 1) [evCy] := .inr ⟨w1.heap.size + 1, 0, 1, _, (0, 0), rfl, Nat.le_refl _, by decide, bl, fun j u hu => by rw [evs_one] at hu; simpa using hu⟩
  refine (push_any 0 [evCy] _ w3 L q0 (P1.out.keep0 k3) q0_ok hev (by decide) (fun e he => by rw [List.mem_singleton.1 he]; decide) q0p_ok).mono ?_
  rintro e w4 ⟨rfl, p4, k4⟩
  have K4 : Hid (Keep (L.foot 2) w1 w4) := k3.all.trans k4
  have P4 : Hid (PostAt w4 L q1) := p4
  have hbx : ¬ L.foot 2 w1.heap.size := by
    intro hf
    rcases hf with h | ⟨i, hi, h⟩
    · have h2 := P1.out.acks.lt; omega
    · have h2 := (P1.out.shelf i hi).lt; omega
  have HBX := Lib.hid hbx
  have BX : Hid (Blk w4 w1.heap.size 62 evCy.cells) := bx.keep k4 hbx
  rw [q1_told.1, q1_told.2.1]
  clear k3 bx bl hev p4 k4 hbx
  go_wp2_with fail
  refine (fetch_any 1 Clk.zero w4 L q1 P4.out q1_ok (by decide)).mono ?_
  rintro e w5 ⟨⟨v5, rfl, hv5⟩, k5⟩
  rw [show fetchK q1.base q1.kept 1 Clk.zero q1.n = [evCy] from rfl] at hv5
  have K5 := Lib.hid (K4.out.trans k5.all)
  have P5 := Lib.hid (P4.out.keep0 k5)
  have BX5 := Lib.hid (BX.out.keep0 k5)
  have HV5 := Lib.hid hv5
  clear hv5 k5 P4 K4 BX
  go_wp2_with fail
  refine (ack_any 1 one1 w5 L q1 P5.out q1_ok (by decide)).mono ?_
  rintro e w6 ⟨rfl, p6, k6⟩
  have K6 := Lib.hid (K5.out.trans k6)
  have P6 : Hid (PostAt w6 L q2) := p6
  have BX6 := Lib.hid (BX5.out.keep k6 HBX.out)
  have HV6 := Lib.hid (HV5.out.keep k6 P5.out.ev_apart)
  clear p6 k6 P5 K5 BX5 HV5
  go_wp2_with fail
  refine (site_any w6 L q2 P6.out q2_ok).mono ?_
  rintro e w7 ⟨rfl, k7⟩
  have K7 := Lib.hid (K6.out.trans k7.all)
  have P7 := Lib.hid (P6.out.keep0 k7)
  have BX7 := Lib.hid (BX6.out.keep0 k7)
  have HV7 := Lib.hid (HV6.out.keep0 k7)
  clear k7 P6 K6 BX6 HV6
  have P7' := P7
  rename_i K hK
  refine hK _ _ (wpList_newvar rfl rfl 51 8 rfl rfl (.tmp 32) rfl rfl q2.site.cells 36 rfl rfl (by kernel_rfl) (by kernel_rfl) (Site.cells_length _) (Site.one _) ?_)
  intro w8 B8 k8 s8
  have K8 := Lib.hid (K7.out.trans k8.all)
  have P8 := Lib.hid (P7.out.keep0 k8)
  have BX8 := Lib.hid (BX7.out.keep0 k8)
  have HV8 := Lib.hid (HV7.out.keep0 k8)
  have HB8 := Lib.hid B8
  clear k8 P7 K7 BX7 HV7 B8 s8 hK K
  go_wp2_with fail
  refine (ack_any 0 one1 w8 L q2 P8.out q2_ok (by decide)).mono ?_
  rintro e w9 ⟨rfl, p9, k9⟩
  have K9 := Lib.hid (K8.out.trans k9)
  have P9 : Hid (PostAt w9 L q3) := p9
  have BX9 := Lib.hid (BX8.out.keep k9 HBX.out)
  have HV9 := Lib.hid (HV8.out.keep k9 P8.out.ev_apart)
  have hb7 : ¬ L.foot 2 w7.heap.size := by
    intro hf
    rcases hf with h | ⟨i, hi, h⟩
    · have h2 := P7'.out.acks.lt; omega
    · have h2 := (P7'.out.shelf i hi).lt; omega
  have HB9 := Lib.hid (HB8.out.keep k9 hb7)
  clear p9 k9 P8 K8 BX8 HV8 HB8
  rcases HV9.out with ⟨_, h⟩ | ⟨g, o, c, cur, fr, rfl, hl, hc, hh, hx⟩
  · exact absurd (congrArg List.length h) (by decide)
  obtain ⟨l0, l1, l2, l3, l4, l5, l6, l7, l8, l9, l10, l11⟩ := ev_at (k := 0) (e := evCy) hh hx rfl
  rw [Nat.zero_mul, Nat.add_zero] at l0 l1 l2 l3 l4 l5 l6 l7 l8 l9 l10 l11
  obtain ⟨m0, m1, m2, m3, m4, m5, m6, m7, m8, m9, m10, m11⟩ := ev_at (k := 0) (o := 0) (e := evCy) (l := [evCy]) BX9.out (fun j u hu => by rw [evs_one] at hu; simpa using hu) rfl
  rw [Nat.zero_mul, Nat.add_zero] at m0 m1 m2 m3 m4 m5 m6 m7 m8 m9 m10 m11
  have hq := eql_ev evCy evCy
  rw [(Ev.eqb_iff evCy evCy).2 rfl] at hq
  have hgu := guard_ev
  have hb0 := HB9.out.cell 1 (Site.cell_b _ 0 (by decide))
  rw [show q2.site.b.get 0 = 0 from q1_told.2.2.2.1] at hb0
  have hc1 : (1 : Int) ≤ c := by
    have h1 : [evCy].length ≤ c := hl
    simp at h1
    omega
  clear hh hx hl
  simp only [Ev.agg, Ev.cells] at hq
  have hsite := fun W (hW : Keep nob w9 W) => site_any W L q3 (P9.out.keep0 hW) q3_ok
  have hfb := field_b q3.site
  have hfi := index_clk q3.site.b 0 0 rfl (by decide)
  have hg3 : q3.site.b.get 0 = 1 := q1_told.2.2.2.2
  simp only [hg3, q1_told.2.2.2.2] at hfi hfb
  clear hg3
  have HS := Lib.hid hsite
  clear hsite
  go_wp2_with fail
  go_region_held3 (fun w' => w'.cell? ⟨g, o, none⟩ = some (.int .i64 evCy.R) ∧ w'.cell? ⟨g, o + 1, none⟩ = some (.int .i64 evCy.N) ∧ w'.cell? ⟨g, o + 2, none⟩ = some (.int .i64 evCy.C.c0) ∧ w'.cell? ⟨g, o + 3, none⟩ = some (.int .i64 evCy.C.c1) ∧ w'.cell? ⟨g, o + 4, none⟩ = some (.int .i64 evCy.C.c2) ∧ w'.cell? ⟨g, o + 5, none⟩ = some (.int .i64 evCy.C.c3) ∧ w'.cell? ⟨g, o + 6, none⟩ = some (.int .i64 evCy.C.c4) ∧ w'.cell? ⟨g, o + 7, none⟩ = some (.int .i64 evCy.H) ∧ w'.cell? ⟨g, o + 8, none⟩ = some (.int .i64 evCy.K) ∧ w'.cell? ⟨g, o + 9, none⟩ = some (.string evCy.key) ∧ w'.cell? ⟨g, o + 10, none⟩ = some (.int .i64 evCy.lab) ∧ w'.cell? ⟨g, o + 11, none⟩ = some (.string evCy.val) ∧ w'.cell? ⟨w1.heap.size, 0, none⟩ = some (.int .i64 evCy.R) ∧ w'.cell? ⟨w1.heap.size, 1, none⟩ = some (.int .i64 evCy.N) ∧ w'.cell? ⟨w1.heap.size, 2, none⟩ = some (.int .i64 evCy.C.c0) ∧ w'.cell? ⟨w1.heap.size, 3, none⟩ = some (.int .i64 evCy.C.c1) ∧ w'.cell? ⟨w1.heap.size, 4, none⟩ = some (.int .i64 evCy.C.c2) ∧ w'.cell? ⟨w1.heap.size, 5, none⟩ = some (.int .i64 evCy.C.c3) ∧ w'.cell? ⟨w1.heap.size, 6, none⟩ = some (.int .i64 evCy.C.c4) ∧ w'.cell? ⟨w1.heap.size, 7, none⟩ = some (.int .i64 evCy.H) ∧ w'.cell? ⟨w1.heap.size, 8, none⟩ = some (.int .i64 evCy.K) ∧ w'.cell? ⟨w1.heap.size, 9, none⟩ = some (.string evCy.key) ∧ w'.cell? ⟨w1.heap.size, 10, none⟩ = some (.int .i64 evCy.lab) ∧ w'.cell? ⟨w1.heap.size, 11, none⟩ = some (.string evCy.val) ∧ w'.cell? ⟨w7.heap.size, 1, none⟩ = some (.int .i64 0)) (first | exact ⟨K10.out.cell0 l0, K10.out.cell0 l1, K10.out.cell0 l2, K10.out.cell0 l3, K10.out.cell0 l4, K10.out.cell0 l5, K10.out.cell0 l6, K10.out.cell0 l7, K10.out.cell0 l8, K10.out.cell0 l9, K10.out.cell0 l10, K10.out.cell0 l11, K10.out.cell0 m0, K10.out.cell0 m1, K10.out.cell0 m2, K10.out.cell0 m3, K10.out.cell0 m4, K10.out.cell0 m5, K10.out.cell0 m6, K10.out.cell0 m7, K10.out.cell0 m8, K10.out.cell0 m9, K10.out.cell0 m10, K10.out.cell0 m11, K10.out.cell0 hb0⟩ | go_keep)
    (first | ((go_at_call 23; refine (HS.out _ (Keep.refl _ _).drew).mono ?_; rintro e w10 ⟨rfl, k10⟩; have K10 : Hid (Keep nob w9 w10) := ((Keep.refl nob w9).drew).trans k10; clear k10)))
  all_goals (go_wp2; go_ret; exact ⟨rfl, FIN.out _ (K9.out.trans K10.out.all)⟩)
end Go.Proofs.Ytfhhjabclmkkmaa
