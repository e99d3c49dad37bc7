/- The post in plain numbers: contracts. Fit and row. -/
import Derived.Test.YtfhhjabclmkkmaaLaw16b
import Derived.Test.YtfhhjabclmkkmaaPostF
import Derived.Test.YtfhhjabclmkkmaaEq
namespace Go.Proofs.Ytfhhjabclmkkmaa
open Go.RowKit Go.Proofs

/-- A post that holds rows, in blocks that were not there in w0. -/
structure PRow (w0 : World) (L : PLay) (s : NSt) (M : Nat) (w : World) : Prop where
  keep : Keep nob w0 w
  new : L.new s.n w0.heap.size
  at_ : PostAt w L s.p
  good : s.good M
  bound : M ≤ 1000

theorem PLay.new_foot {L : PLay} {n B k : Nat} (h : L.new n B) (hk : L.foot n k) : B ≤ k := by
  rcases hk with rfl | ⟨i, hi, rfl⟩
  · exact h.2.1
  · exact h.2.2 i hi
theorem PostAt.fresh {w : World} {L : PLay} {p : PSt} (h : PostAt w L p) {g : Nat} (hg : w.heap.size ≤ g) : ¬ L.foot p.n g := by
  intro hf
  rcases hf with rfl | ⟨i, hi, rfl⟩
  · have h2 := h.acks.lt; omega
  · have h2 := (h.shelf i hi).lt; omega

section
variable {w0 w w' : World} {L : PLay} {s : NSt} {M : Nat}
theorem PRow.more (h : PRow w0 L s M w) (hk : Keep nob w w') : PRow w0 L s M w' := ⟨h.keep.trans hk, h.new, h.at_.keep0 hk, h.good, h.bound⟩
theorem PRow.fresh (h : PRow w0 L s M w) {g : Nat} (hg : w.heap.size ≤ g) : ¬ L.foot s.n g := h.at_.fresh hg
theorem PRow.le (h : PRow w0 L s M w) : ∀ r, r < s.n → s.base r ≤ s.len r := fun r hr => (h.good r hr).1
theorem PRow.ok (h : PRow w0 L s M w) : s.p.ok := NSt.p_ok h.good (by have := h.bound; omega)
theorem PRow.n5 (h : PRow w0 L s M w) : 1 ≤ s.n ∧ s.n ≤ 5 := h.at_.pos
theorem PRow.foot (h : PRow w0 L s M w) (hk : Keep (L.foot s.n) w w') : Keep nob w0 w' := h.keep.then hk (fun i hi hf => by have := PLay.new_foot h.new hf; omega)

theorem push_row_any (r a k M' : Nat) (v : Value) (h : PRow w0 L s M w) (hr : r < s.n) (hv : EvSl w v (row16 r a k)) (ha : a ≤ s.len r + 1) (hM : M ≤ M') (hM' : a + k ≤ M' + 1) (hb : M' ≤ 1000) :
    Calls Try.prog 21 #[.pointer (some ⟨L.b, 0, none⟩), .int .i64 (r : Int), v] w fun e w' => e = .returned (.tuple #[.int .i64 (s.pushN r a k), .int .i64 (s.pushE r a k)]) ∧ PRow w0 L (s.push r a k) M' w' ∧ Keep (L.foot s.n) w w' := by
  have hle := h.le r hr
  have hE := s.pushE_p r a k hr hle ha
  have hP := s.push_p r a k hr hle ha
  have hgood := NSt.push_good h.good r a k M' hM hM'
  have hput : (s.p.put (r : Int).toNat (row16 r a k)).ok := by
    rw [Int.toNat_natCast]
    by_cases hz : s.pushE r a k = 0
    · rw [NSt.put_p s r a k hle ha hz]
      exact NSt.p_ok (NSt.grow_good h.good r a k M' hz hM hM') (by omega)
    · have hz' : putE s.p.most (s.p.base r) (s.p.kept r) (row16 r a k) ≠ 0 := by
        have := (put_row16 (r := r) s.most (s.base r) (s.len r - s.base r) a k (by omega)).1
        intro h0
        have h2 : putE s.most (s.base r) (row16 r ((s.base r : Int) + 1) (s.len r - s.base r)) (row16 r a k) = 0 := h0
        rw [this] at h2
        apply hz
        unfold NSt.pushE
        by_cases h3 : a + k ≤ s.len r + 1
        · rw [if_pos h3]
        · rw [if_neg (by omega)] at h2
          rw [if_neg h3]
          by_cases h4 : s.most < a + k - 1 - s.base r
          · rw [if_pos (by omega)] at h2; exact absurd h2 (by decide)
          · rw [if_neg h4]
      rw [PSt.put_no hz']
      exact h.ok
  refine (push_any r (row16 r a k) v w L s.p h.at_ h.ok hv (by rw [row16_length]; omega) (fun e he => by have := row16_N _ _ e he; omega) hput).mono ?_
  rintro e w' ⟨rfl, hat, hk⟩
  rw [hP.1] at hat
  rw [hP.2, hE]
  have hn : (s.push r a k).n = s.n := by unfold NSt.push; split <;> rfl
  refine ⟨rfl, ⟨h.foot hk, ?_, hat, hgood, hb⟩, hk⟩
  rw [hn]; exact h.new

theorem push_no_row_any (r : Int) (h : PRow w0 L s M w) (hr : ¬ (0 ≤ r ∧ r < s.n)) :
    Calls Try.prog 21 #[.pointer (some ⟨L.b, 0, none⟩), .int .i64 r, .slice none 0 0] w fun e w' => e = .returned (.tuple #[.int .i64 0, .int .i64 23]) ∧ PRow w0 L s M w' ∧ Keep (L.foot s.n) w w' := by
  have hE : s.p.pushE r [] = 23 := by unfold PSt.pushE; exact if_neg hr
  obtain ⟨h1, h2⟩ := PSt.push_no (p := s.p) (r := r) (l := []) (by rw [hE]; decide)
  have hput : (s.p.put r.toNat []).ok := by
    have : s.p.put r.toNat [] = s.p := by
      by_cases hz : putE s.p.most (s.p.base r.toNat) (s.p.kept r.toNat) [] = 0
      · refine PSt.ext' rfl rfl (fun i => rfl) (fun i => ?_) rfl
        show upd s.p.kept r.toNat (putL s.p.most (s.p.base r.toNat) (s.p.kept r.toNat) []) i = s.p.kept i
        by_cases e : i = r.toNat
        · subst e
          rw [upd_same]
          unfold putL
          rw [if_pos hz]
          exact List.append_nil _
        · rw [upd_other _ _ _ _ e]
      · exact PSt.put_no hz
    rw [this]; exact h.ok
  refine (push_any r [] (.slice none 0 0) w L s.p h.at_ h.ok (EvSl.nil w) (by decide) (fun e he => by cases he) hput).mono ?_
  rintro e w' ⟨rfl, hat, hk⟩
  rw [h1] at hat
  rw [h2, hE]
  exact ⟨rfl, ⟨h.foot hk, h.new, hat, h.good, h.bound⟩, hk⟩

theorem ack_row_any (r : Nat) (c : Clk) (h : PRow w0 L s M w) (hr : r < s.n) :
    Calls Try.prog 24 #[.pointer (some ⟨L.b, 0, none⟩), .int .i64 (r : Int), Clk.agg c] w fun e w' => e = .returned (.int .i64 0) ∧ PRow w0 L (s.told r c) M w' ∧ Keep (L.foot s.n) w w' := by
  refine (ack_any r c w L s.p h.at_ h.ok hr).mono ?_
  rintro e w' ⟨rfl, hat, hk⟩
  rw [NSt.told_p s h.le r c] at hat
  have hn : (s.told r c).n = s.n := (NSt.cuts_n _ _).1
  refine ⟨rfl, ⟨h.foot hk, ?_, hat, NSt.told_good h.good h.n5.2 r c, h.bound⟩, hk⟩
  rw [hn]; exact h.new

theorem ack_no_row_any (r : Int) (c : Clk) (h : PRow w0 L s M w) (hr : ¬ (0 ≤ r ∧ r < s.n)) :
    Calls Try.prog 24 #[.pointer (some ⟨L.b, 0, none⟩), .int .i64 r, Clk.agg c] w fun e w' => e = .returned (.int .i64 23) ∧ PRow w0 L s M w' ∧ Keep nob w w' := by
  refine (ack_no_any r c w L s.p h.at_ hr).mono ?_
  rintro e w' ⟨rfl, hk⟩
  exact ⟨rfl, h.more hk, hk⟩

theorem site_row_any (h : PRow w0 L s M w) :
    Calls Try.prog 23 #[.pointer (some ⟨L.b, 0, none⟩)] w fun e w' => e = .returned (.agg s.site.cells.toArray) ∧ PRow w0 L s M w' ∧ Keep nob w w' := by
  refine (site_any w L s.p h.at_ h.ok).mono ?_
  rintro e w' ⟨rfl, hk⟩
  rw [NSt.site_p s h.le]
  exact ⟨rfl, h.more hk, hk⟩

theorem fetch_row_any (r : Nat) (c : Clk) (h : PRow w0 L s M w) (hr : r < s.n) :
    Calls Try.prog 26 #[.pointer (some ⟨L.b, 0, none⟩), .int .i64 (r : Int), Clk.agg c] w fun e w' => (∃ v, e = .returned (.tuple #[v, .int .i64 0]) ∧ EvSl w' v (fetchK s.p.base s.p.kept r c s.n)) ∧ PRow w0 L s M w' ∧ Keep nob w w' := by
  refine (fetch_any r c w L s.p h.at_ h.ok hr).mono ?_
  rintro e w' ⟨hv, hk⟩
  exact ⟨hv, h.more hk, hk⟩
theorem fetch_no_row_any (r : Int) (c : Clk) (h : PRow w0 L s M w) (hr : ¬ (0 ≤ r ∧ r < s.n)) :
    Calls Try.prog 26 #[.pointer (some ⟨L.b, 0, none⟩), .int .i64 r, Clk.agg c] w fun e w' => e = .returned (.tuple #[.slice none 0 0, .int .i64 23]) ∧ PRow w0 L s M w' ∧ Keep nob w w' := by
  refine (fetch_no_any r c w L s.p h.at_ hr).mono ?_
  rintro e w' ⟨rfl, hk⟩
  exact ⟨rfl, h.more hk, hk⟩
end

theorem new_row_any (n wd : Nat) (q h l p : Int) (hn : 1 ≤ n ∧ n ≤ 5) (w : World) :
    Calls Try.prog 20 #[cfg n wd q h l p] w fun e w' => ∃ L, e = .returned (.pointer (some ⟨L.b, 0, none⟩)) ∧ PRow w L (NSt.new n wd) 0 w' := by
  refine (newPost_any n wd q h l p hn w).mono ?_
  rintro e w' ⟨L, rfl, hat, hnew, hk⟩
  exact ⟨L, rfl, hk, hnew, hat, NSt.new_good n wd, by decide⟩

set_option maxHeartbeats 1000000 in
theorem row16_any (r a k : Int) (w : World) (ha : 0 ≤ a ∧ a ≤ 100000) (hk : k ≤ 100000) :
    Calls Try.prog 22 #[.int .i64 r, .int .i64 a, .int .i64 k] w (OwnsEvs (row16 r a k.toNat) w) := by
  obtain ⟨i0, hi, hz0, hz1, hz2⟩ := info_parts infoEv
  go_enter Try.func22, Try.ntmps22
  go_wp2
  go_loopw [7, 8] (fun v i wr => ∃ j : Nat, j ≤ k.toNat ∧ i = .int .i64 j ∧ wr.ownsRow w.heap.size 62 12 v j (evs (row16 r a j)) ∧ Hid (Keep nob w wr))
    (fun _ i _ => (k - intOf i).toNat)
  case atStart => exact ⟨0, Nat.zero_le _, by simp, World.ownsRow_made w #[] 0 (Nat.le_refl _) (by simp [maxLen]) rfl, (Keep.refl _ _).alloc _⟩
  case round =>
    obtain ⟨j, hj, rfl, hown, hk1⟩ := hrel
    have hsz := hk1.out.size
    go_wp2_with (at_builtin; refine wpList_append_own _ rfl _ _ 27 rfl w.heap.size 62 i0 _ 12 112 Try.underlying27 hi hz0 hz1 hz2 rfl (by decide) _ _ _ rfl (hown.alloc _) ⟨wr.heap.size, 0, none⟩ 1 1 (Ev.cells { R := r, N := a + j, H := 1 }) rfl rfl ?c1 ?c2 ?c3 ?c4 ?c5 ?_)
    case c1 => exact news_of_block _ _ 0 62 _ (0, 0) _ (heap_alloc_new wr _) (fun j u hu => by rw [Nat.zero_add, List.getElem?_toArray]; exact hu)
    case c2 => exact Ev.cells_oneCell _
    case c3 => unfold maxLen; omega
    case c4 => omega
    case c5 => simp; omega
    · intro v' w1 hown' hgrow _
      have hlt : (j : Int) < k := by assumption
      have R : w1.ownsRow w.heap.size 62 12 v' (j + 1) (evs (row16 r a (j + 1))) := by rw [row16_succ, evs_append, evs_one]; exact hown'
      have k2 : Hid (Keep nob w w1) := (Keep.alloc hk1.out _).grown hgrow (fun j hj => .inl ((hown.lt j hj).1))
      clear hown' hgrow hown hk1
      go_wp2
      go_roundw
      case rel => exact ⟨j + 1, by omega, by go_num, R, k2⟩
      case measure => simp [intOf]; omega
    · have hge : ¬ (j : Int) < k := by omega
      have e : j = k.toNat := by omega
      go_ret
      refine ⟨_, rfl, ?_, hk1.out⟩
      rw [row16_length, ← e]
      exact hown
theorem row16_sl (r a k : Nat) (w : World) (ha : a ≤ 100000) (hk : k ≤ 100000) :
    Calls Try.prog 22 #[.int .i64 (r : Int), .int .i64 (a : Int), .int .i64 (k : Int)] w fun e w' => ∃ v, e = .returned v ∧ EvSl w' v (row16 r a k) ∧ Keep nob w w' := by
  refine (row16_any r a k w (by omega) (by omega)).mono ?_
  rintro e w' ⟨v, rfl, hown, hk'⟩
  rw [Int.toNat_natCast] at hown
  exact ⟨v, rfl, EvSl.of_own hown, hk'⟩

/-- What Fit makes of a number. -/
theorem fit1 (x m : Int) (hm : 0 < m ∧ m ≤ 20) : ∃ a b : Int, x.tmod m = a ∧ -20 ≤ a ∧ a ≤ 20 ∧ (a + m).tmod m = b ∧ 0 ≤ b ∧ b < m := by
  have h1 : -m < x.tmod m := by
    by_cases hx : 0 ≤ x
    · have := Int.tmod_nonneg m hx
      omega
    · have e : x.tmod m = -((-x).tmod m) := by rw [Int.neg_tmod, Int.neg_neg]
      have := Int.tmod_lt_of_pos (-x) hm.1
      omega
  have h2 := Int.tmod_lt_of_pos x hm.1
  refine ⟨_, _, rfl, by omega, by omega, rfl, Int.tmod_nonneg _ (by omega), Int.tmod_lt_of_pos _ hm.1⟩

set_option maxHeartbeats 1000000 in
theorem fit_any (n wd q h l p : Int) (w : World) :
    Calls Try.prog 19 #[cfg n wd q h l p] w fun e w' => ∃ (n' wd' : Nat) (q' h' l' p' : Int), e = .returned (cfg n' wd' q' h' l' p') ∧ (1 ≤ n' ∧ n' ≤ 5) ∧ (1 ≤ wd' ∧ wd' ≤ 4) ∧ Keep nob w w' := by
  obtain ⟨a1, b1, e1, l1, u1, f1, m1, n1⟩ := fit1 n 5 (by omega)
  obtain ⟨a2, b2, e2, l2, u2, f2, m2, n2⟩ := fit1 wd 4 (by omega)
  obtain ⟨a3, b3, e3, l3, u3, f3, m3, n3⟩ := fit1 q 8 (by omega)
  obtain ⟨a4, b4, e4, l4, u4, f4, m4, n4⟩ := fit1 h 20 (by omega)
  obtain ⟨a5, b5, e5, l5, u5, f5, m5, n5⟩ := fit1 l 4 (by omega)
  obtain ⟨a6, b6, e6, l6, u6, f6, m6, n6⟩ := fit1 p 3 (by omega)
  unfold cfg
  go_enter Try.func19, Try.ntmps19
  go_wp2
  have hb := Blk.new (w.alloc (.cells #[.int .i64 n, .int .i64 wd, .int .i64 q, .int .i64 h, .int .i64 l, .int .i64 p] 37)) 37 [.int .i64 (1 + b1), .int .i64 (1 + b2), .int .i64 (1 + b3), .int .i64 (1 + b4), .int .i64 (1 + b5), .int .i64 (1 + b6)]
  refine ret_blk (g := w.heap.size + 1) (t := 37) (cs := [.int .i64 (1 + b1), .int .i64 (1 + b2), .int .i64 (1 + b3), .int .i64 (1 + b4), .int .i64 (1 + b5), .int .i64 (1 + b6)]) Try.results19 rfl ?_ Try.underlying37 rfl (by kernel_rfl) rfl ⟨(1 + b1).toNat, (1 + b2).toNat, 1 + b3, 1 + b4, 1 + b5, 1 + b6, ?_, by omega, by omega, ((Keep.refl _ _).alloc _).alloc _⟩
  · rw [World.size_alloc] at hb
    exact hb
  · have e1' : (((1 + b1).toNat : Nat) : Int) = 1 + b1 := by omega
    have e2' : (((1 + b2).toNat : Nat) : Int) = 1 + b2 := by omega
    rw [e1', e2']

end Go.Proofs.Ytfhhjabclmkkmaa
