/- What steps do to a post that holds rows. -/
import Derived.Test.YtfhhjabclmkkmaaLaw16
import Derived.Test.YtfhhjabclmkkmaaPostN
import Derived.Test.YtfhhjabclmkkmaaPostD
namespace Go.Proofs.Ytfhhjabclmkkmaa
open Go.RowKit Go.Proofs

theorem leastK_le (ack : Nat → Clk) (s n j : Nat) (h : j < n) : leastK ack s n ≤ (ack j).get s := by
  induction n with
  | zero => omega
  | succ n ih =>
    show min _ _ ≤ _
    by_cases e : j = n
    · subst e; omega
    · have := ih (by omega); omega
theorem leastK_ge (ack : Nat → Clk) (s n : Nat) (hn : 0 < n) (x : Int) (h : ∀ j, j < n → x ≤ (ack j).get s) : x ≤ leastK ack s n := by
  induction n with
  | zero => omega
  | succ n ih =>
    show _ ≤ min _ _
    have h0 := h n (by omega)
    by_cases e : n = 0
    · subst e
      show _ ≤ min ((ack 0).get s) _
      omega
    · have := ih (by omega) (fun j hj => h j (by omega))
      omega

theorem NSt.pushE_p (s : NSt) (r a k : Nat) (hr : r < s.n) (hb : s.base r ≤ s.len r) (ha : a ≤ s.len r + 1) : s.p.pushE r (row16 r a k) = s.pushE r a k := by
  unfold PSt.pushE
  rw [if_pos ⟨by omega, by show ((r : Nat) : Int) < ((s.n : Nat) : Int); omega⟩]
  have hany : (row16 (r : Int) a k).any (fun e => e.R != (r : Int)) = false := by
    rw [List.any_eq_false]
    intro e he
    rw [row16_R _ _ e he]
    simp
  rw [hany, Int.toNat_natCast]
  have := (put_row16 (r := r) s.most (s.base r) (s.len r - s.base r) a k (by omega)).1
  refine Eq.trans (if_neg (by decide)) (Eq.trans this ?_)
  unfold NSt.pushE
  by_cases h : a + k ≤ s.len r + 1
  · rw [if_pos h, if_pos (by omega)]
  · rw [if_neg h, if_neg (by omega)]
    by_cases h2 : s.most < a + k - 1 - s.base r
    · rw [if_pos h2, if_pos (by omega)]
    · rw [if_neg h2, if_neg (by omega)]

theorem NSt.put_p (s : NSt) (r a k : Nat) (hb : s.base r ≤ s.len r) (ha : a ≤ s.len r + 1) (h : s.pushE r a k = 0) : s.p.put r (row16 r a k) = (s.grow r a k).p := by
  have hp := (put_row16 (r := r) s.most (s.base r) (s.len r - s.base r) a k (by omega)).2
  refine PSt.ext' rfl rfl (fun i => rfl) (fun i => ?_) rfl
  show upd (fun r => row16 r ((s.base r : Int) + 1) (s.len r - s.base r)) r (putL s.most (s.base r) (row16 r ((s.base r : Int) + 1) (s.len r - s.base r)) (row16 r a k)) i = row16 i ((s.base i : Int) + 1) (upd s.len r (max (s.len r) (a + k - 1)) i - s.base i)
  by_cases e : i = r
  · subst e
    rw [upd_same, upd_same, hp]
    unfold NSt.pushE at h
    by_cases h1 : a + k ≤ s.len i + 1
    · rw [if_pos (by omega)]
      congr 1
      omega
    · rw [if_neg h1] at h
      by_cases h2 : s.most < a + k - 1 - s.base i
      · rw [if_pos h2] at h; exact absurd h (by decide)
      · rw [if_neg (by omega), if_neg (by omega)]
        congr 1
        omega
  · rw [upd_other _ _ _ _ e, upd_other _ _ _ _ e]

theorem NSt.grow_le (s : NSt) (r a k i : Nat) : s.len i ≤ (s.grow r a k).len i := by
  show s.len i ≤ upd s.len r (max (s.len r) (a + k - 1)) i
  by_cases e : i = r
  · subst e; rw [upd_same]; omega
  · rw [upd_other _ _ _ _ e]; exact Nat.le_refl _

theorem NSt.push_p (s : NSt) (r a k : Nat) (hr : r < s.n) (hb : s.base r ≤ s.len r) (ha : a ≤ s.len r + 1) :
    s.p.push r (row16 r a k) = (s.push r a k).p ∧ s.p.pushN r (row16 r a k) = s.pushN r a k := by
  have hE := s.pushE_p r a k hr hb ha
  by_cases h : s.pushE r a k = 0
  · have h1 := PSt.push_yes (p := s.p) (r := r) (l := row16 r a k) (by rw [hE, h])
    rw [Int.toNat_natCast] at h1
    have hpu : s.p.push r (row16 r a k) = (s.push r a k).p := by
      rw [h1.1, NSt.put_p s r a k hb ha h, NSt.cut_p (s.grow r a k) r (Nat.le_trans hb (s.grow_le r a k r))]
      unfold NSt.push
      rw [if_pos h]
    refine ⟨hpu, ?_⟩
    rw [h1.2, hpu]
    unfold NSt.push NSt.pushN
    rw [if_pos h, if_pos h]
    show (((((s.grow r a k).cut r).base r : Nat) : Int)) + (((row16 r ((((s.grow r a k).cut r).base r : Int) + 1) (((s.grow r a k).cut r).len r - ((s.grow r a k).cut r).base r)).length : Nat) : Int) = ((s.grow r a k).len r : Int)
    rw [row16_length]
    have e1 : ((s.grow r a k).cut r).base r = (s.grow r a k).cutB r := upd_same _ _ _
    have e2 : ((s.grow r a k).cut r).len r = (s.grow r a k).len r := rfl
    rw [e1, e2]
    have e3 : (s.grow r a k).base r = s.base r := rfl
    have e4 := s.grow_le r a k r
    have : (s.grow r a k).cutB r ≤ (s.grow r a k).len r := by unfold NSt.cutB; omega
    omega
  · have h1 := PSt.push_no (p := s.p) (r := r) (l := row16 r a k) (by rw [hE]; exact h)
    unfold NSt.push NSt.pushN
    rw [if_neg h, if_neg h]
    exact h1

theorem NSt.cutB_good {s : NSt} {M : Nat} (r : Nat) (h : s.base r ≤ s.len r ∧ s.len r ≤ M ∧ s.len r - s.base r ≤ s.most ∧ ∀ j, j < s.n → (s.base r : Int) ≤ max ((s.ack j).get r) 0) :
    s.cutB r ≤ s.len r ∧ s.len r ≤ M ∧ s.len r - s.cutB r ≤ s.most ∧ ∀ j, j < s.n → (s.cutB r : Int) ≤ max ((s.ack j).get r) 0 := by
  obtain ⟨h1, h2, h3, h4⟩ := h
  unfold NSt.cutB
  refine ⟨by omega, h2, by omega, fun j hj => ?_⟩
  have := h4 j hj
  have := leastK_le s.ack r s.n j hj
  omega

theorem NSt.cut_good {s : NSt} {M : Nat} (h : s.good M) (r : Nat) : (s.cut r).good M := by
  intro i hi
  show upd s.base r (s.cutB r) i ≤ s.len i ∧ s.len i ≤ M ∧ s.len i - upd s.base r (s.cutB r) i ≤ s.most ∧ ∀ j, j < s.n → ((upd s.base r (s.cutB r) i : Nat) : Int) ≤ max ((s.ack j).get i) 0
  by_cases e : i = r
  · subst e
    rw [upd_same]
    exact NSt.cutB_good i (h i hi)
  · rw [upd_other _ _ _ _ e]
    exact h i hi
theorem NSt.cuts_good {s : NSt} {M : Nat} (h : s.good M) (k : Nat) : (s.cuts k).good M := by
  induction k with
  | zero => exact h
  | succ k ih => exact NSt.cut_good ih k

theorem NSt.grow_good {s : NSt} {M : Nat} (h : s.good M) (r a k M' : Nat) (hE : s.pushE r a k = 0) (hM : M ≤ M') (hM' : a + k ≤ M' + 1) : (s.grow r a k).good M' := by
  intro i hi
  obtain ⟨h1, h2, h3, h4⟩ := h i hi
  show s.base i ≤ upd s.len r (max (s.len r) (a + k - 1)) i ∧ upd s.len r (max (s.len r) (a + k - 1)) i ≤ M' ∧ upd s.len r (max (s.len r) (a + k - 1)) i - s.base i ≤ s.most ∧ ∀ j, j < s.n → ((s.base i : Nat) : Int) ≤ max ((s.ack j).get i) 0
  by_cases e : i = r
  · subst e
    rw [upd_same]
    refine ⟨by omega, by omega, ?_, h4⟩
    unfold NSt.pushE at hE
    by_cases h1 : a + k ≤ s.len i + 1
    · omega
    · rw [if_neg h1] at hE
      by_cases h2 : s.most < a + k - 1 - s.base i
      · rw [if_pos h2] at hE; exact absurd hE (by decide)
      · omega
  · rw [upd_other _ _ _ _ e]
    exact ⟨h1, by omega, h3, h4⟩
theorem NSt.push_good {s : NSt} {M : Nat} (h : s.good M) (r a k M' : Nat) (hM : M ≤ M') (hM' : a + k ≤ M' + 1) : (s.push r a k).good M' := by
  unfold NSt.push
  by_cases hE : s.pushE r a k = 0
  · rw [if_pos hE]
    exact NSt.cut_good (NSt.grow_good h r a k M' hE hM hM') r
  · rw [if_neg hE]
    intro i hi
    obtain ⟨h1, h2, h3, h4⟩ := h i hi
    exact ⟨h1, by omega, h3, h4⟩

theorem join_get (a b : Clk) (k : Nat) (hk : k < 5) : (join a b).get k = max (a.get k) (b.get k) := by
  match k, hk with
  | 0, _ => rfl
  | 1, _ => rfl
  | 2, _ => rfl
  | 3, _ => rfl
  | 4, _ => rfl
theorem NSt.told_good {s : NSt} {M : Nat} (h : s.good M) (hn : s.n ≤ 5) (r : Nat) (c : Clk) : (s.told r c).good M := by
  unfold NSt.told
  refine NSt.cuts_good (s := { s with ack := upd s.ack r (join (s.ack r) c) }) (fun i hi => ?_) s.n
  obtain ⟨h1, h2, h3, h4⟩ := h i hi
  refine ⟨h1, h2, h3, fun j hj => ?_⟩
  have hi' : i < s.n := hi
  have := h4 j hj
  show ((s.base i : Nat) : Int) ≤ max ((upd s.ack r (join (s.ack r) c) j).get i) 0
  by_cases e : j = r
  · subst e
    rw [upd_same, join_get _ _ _ (by omega)]
    omega
  · rw [upd_other _ _ _ _ e]
    exact this

/-- A new post holds rows. -/
def NSt.new (n most : Nat) : NSt := ⟨n, most, fun _ => 0, fun _ => 0, fun _ => Clk.zero⟩
theorem NSt.new_p (n most : Nat) : (NSt.new n most).p = PSt.new n most := rfl
theorem NSt.new_good (n most : Nat) : (NSt.new n most).good 0 := fun r _ => ⟨Nat.le_refl _, Nat.le_refl _, Nat.zero_le _, fun j _ => by show ((0 : Nat) : Int) ≤ max _ 0; omega⟩

/-- What Site tells of it. -/
def NSt.site (s : NSt) : Site := ⟨clkOf fun j => if j < s.n then s.base j else 0, clkOf fun j => if j < s.n then s.len j else 0, fun j => if j < s.n then s.ack j else Clk.zero⟩
theorem NSt.site_p (s : NSt) (h : ∀ r, r < s.n → s.base r ≤ s.len r) : s.p.site = s.site := by
  unfold PSt.site PSt.siteK NSt.site
  congr 1
  congr 1
  funext j
  show (if j < s.n then ((s.base j : Nat) : Int) + (((row16 j ((s.base j : Int) + 1) (s.len j - s.base j)).length : Nat) : Int) else 0) = (if j < s.n then ((s.len j : Nat) : Int) else 0)
  by_cases hj : j < s.n
  · rw [if_pos hj, if_pos hj, row16_length]
    have := h j hj
    omega
  · rw [if_neg hj, if_neg hj]
end Go.Proofs.Ytfhhjabclmkkmaa
