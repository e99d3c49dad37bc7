/- Layer 16's statements: rows of events on a post, in plain numbers. -/
import Derived.Test.YtfhhjabclmkkmaaPostW
namespace Go.Proofs.Ytfhhjabclmkkmaa
open Go.RowKit Go.Proofs

/-- Events of numbers from a on. -/
def row16 (r : Int) (a : Int) (k : Nat) : List Ev := (List.range k).map fun (i : Nat) => { R := r, N := a + i, H := 1 }
section
variable {r : Int}
theorem row16_length (a : Int) (k : Nat) : (row16 r a k).length = k := by simp [row16]
theorem row16_succ (a : Int) (k : Nat) : row16 r a (k + 1) = row16 r a k ++ [{ R := r, N := a + k, H := 1 }] := by simp [row16, List.range_succ]
theorem row16_congr {a a' : Int} {k k' : Nat} (hk : k = k') (ha : 0 < k → a = a') : row16 r a k = row16 r a' k' := by
  subst hk
  rcases Nat.eq_zero_or_pos k with rfl | h
  · rfl
  · rw [ha h]
theorem row16_zero (a : Int) : row16 r a 0 = [] := rfl
theorem row16_at (a : Int) (k i : Nat) (h : i < k) : (row16 r a k)[i]? = some { R := r, N := a + i, H := 1 } := by simp [row16, h]
theorem row16_append (a : Int) (k m : Nat) : row16 r a k ++ row16 r (a + k) m = row16 r a (k + m) := by
  induction m with
  | zero => simp [row16]
  | succ m ih =>
    rw [row16_succ, ← List.append_assoc, ih, ← Nat.add_assoc, row16_succ]
    simp [Int.add_assoc]
theorem row16_drop (a : Int) (k j : Nat) : (row16 r a k).drop j = row16 r (a + j) (k - j) := by
  apply List.ext_getElem?
  intro i
  rw [List.getElem?_drop]
  by_cases h : j + i < k
  · rw [row16_at _ _ _ h, row16_at _ _ _ (by omega)]
    simp [Int.add_assoc]
  · rw [List.getElem?_eq_none (by rw [row16_length]; omega), List.getElem?_eq_none (by rw [row16_length]; omega)]
theorem row16_N (a : Int) (k : Nat) (e : Ev) (h : e ∈ row16 r a k) : a ≤ e.N ∧ e.N < a + k := by
  simp only [row16, List.mem_map, List.mem_range] at h
  obtain ⟨i, hi, rfl⟩ := h
  constructor <;> dsimp only <;> omega

theorem gapB_row16 (n a : Int) (k : Nat) (h : a ≤ n + 1) : gapB n (row16 r a k) = false := by
  refine gapB_miss (fun j hj => ?_)
  rw [row16_length] at hj
  unfold gapAt
  rw [row16_at _ _ _ hj]
  by_cases h0 : j = 0
  · simp [h0]; omega
  · simp only [h0, if_false]
    rw [row16_at _ _ _ (by omega)]
    have e : ((j - 1 : Nat) : Int) = (j : Int) - 1 := by omega
    simp only [e]
    rw [Bool.or_eq_false_iff, decide_eq_false_iff_not, bne_eq_false_iff_eq]
    constructor <;> omega
theorem above_row16 (n a : Int) (k : Nat) : above n (row16 r a k) = row16 r (a + (n + 1 - a).toNat) (k - (n + 1 - a).toNat) := by
  have hf : ∀ j : Nat, (row16 r a k).findIdx (fun e => decide (n < e.N)) = min k (n + 1 - a).toNat := by
    intro _
    by_cases h : (n + 1 - a).toNat < k
    · rw [Nat.min_eq_right (by omega), List.findIdx_eq (by rw [row16_length]; exact h)]
      have hat : ∀ i (hi : i < (row16 r a k).length), (row16 r a k)[i] = { R := r, N := a + i, H := 1 } := fun i hi => by
        have := row16_at (r := r) a k i (by rw [row16_length] at hi; exact hi)
        rw [List.getElem?_eq_getElem hi] at this
        injection this
      refine ⟨by rw [hat]; simp; omega, fun j hj => by rw [hat]; simp; omega⟩
    · rw [Nat.min_eq_left (by omega)]
      have := List.findIdx_eq_length_of_false (p := fun e => decide (n < e.N)) (xs := row16 r a k) (fun e he => by
        have := row16_N a k e he
        simp
        omega)
      rw [this, row16_length]
  unfold above
  rw [hf 0, row16_drop]
  by_cases h : (n + 1 - a).toNat ≤ k
  · rw [Nat.min_eq_right h]
  · rw [Nat.min_eq_left (by omega), Nat.sub_self, Nat.sub_eq_zero_of_le (by omega), row16_zero, row16_zero]

/-- A row put on a shelf that holds a row. -/
theorem put_row16 (most : Int) (base n a k : Nat) (ha : a ≤ base + n + 1) :
    putE most base (row16 r (base + 1) n) (row16 r a k) = (if a + k ≤ base + n + 1 then 0 else if most < n + (a + k - (base + n + 1) : Int) then 21 else 0) ∧
    putL most base (row16 r (base + 1) n) (row16 r a k) = (if a + k ≤ base + n + 1 then row16 r (base + 1) n else if most < n + (a + k - (base + n + 1) : Int) then row16 r (base + 1) n else row16 r (base + 1) (a + k - 1 - base)) := by
  have hg : gapB ((base : Int) + ((row16 r (base + 1) n).length : Nat)) (row16 r a k) = false := gapB_row16 _ _ _ (by rw [row16_length]; omega)
  have hab : above ((base : Int) + ((row16 r (base + 1) n).length : Nat)) (row16 r a k) = row16 r (base + n + 1) (a + k - (base + n + 1)) := by
    rw [above_row16, row16_length]
    congr 1 <;> omega
  have hE : putE most base (row16 r (base + 1) n) (row16 r a k) = (if a + k ≤ base + n + 1 then 0 else if most < n + (a + k - (base + n + 1) : Int) then 21 else 0) := by
    unfold putE
    rw [hg, if_neg (by decide), hab]
    by_cases h : a + k ≤ base + n + 1
    · rw [if_pos h, if_pos (by rw [Nat.sub_eq_zero_of_le h]; rfl)]
    · rw [if_neg h, if_neg (by intro h'; have := congrArg List.length h'; rw [row16_length] at this; simp at this; omega), row16_length, row16_length]
      have : ((a + k - (base + n + 1) : Nat) : Int) = (a : Int) + k - (base + n + 1) := by omega
      rw [this]
  refine ⟨hE, ?_⟩
  unfold putL
  rw [hE, hab]
  by_cases h : a + k ≤ base + n + 1
  · rw [if_pos h, if_pos h, if_pos rfl, Nat.sub_eq_zero_of_le h, row16_zero, List.append_nil]
  · rw [if_neg h, if_neg h]
    by_cases h2 : most < n + (a + k - (base + n + 1) : Int)
    · rw [if_pos h2, if_pos h2, if_neg (by decide)]
    · rw [if_neg h2, if_neg h2, if_pos rfl, show ((base : Int) + n + 1) = (base + 1) + n from by omega, row16_append]
      congr 1
      omega

theorem row16_R (a : Int) (k : Nat) (e : Ev) (h : e ∈ row16 r a k) : e.R = r := by
  simp only [row16, List.mem_map, List.mem_range] at h
  obtain ⟨i, hi, rfl⟩ := h
  rfl
end

/-- A post that holds rows, in plain numbers. -/
structure NSt where
  n : Nat
  most : Nat
  base : Nat → Nat
  len : Nat → Nat
  ack : Nat → Clk
def NSt.p (s : NSt) : PSt := ⟨s.n, s.most, fun r => s.base r, fun r => row16 r ((s.base r : Int) + 1) (s.len r - s.base r), s.ack⟩
/-- What stays true; M bounds the lengths. -/
def NSt.good (s : NSt) (M : Nat) : Prop := ∀ r, r < s.n → s.base r ≤ s.len r ∧ s.len r ≤ M ∧ s.len r - s.base r ≤ s.most ∧ ∀ j, j < s.n → (s.base r : Int) ≤ max ((s.ack j).get r) 0
def NSt.cutB (s : NSt) (r : Nat) : Nat := max (s.base r) (min (leastK s.ack r s.n).toNat (s.len r))
def NSt.cut (s : NSt) (r : Nat) : NSt := { s with base := upd s.base r (s.cutB r) }
def NSt.cuts (s : NSt) : Nat → NSt
  | 0 => s
  | k + 1 => (NSt.cuts s k).cut k
def NSt.told (s : NSt) (r : Nat) (c : Clk) : NSt := ({ s with ack := upd s.ack r (join (s.ack r) c) } : NSt).cuts s.n
/-- Push of k events from a on. -/
def NSt.pushE (s : NSt) (r a k : Nat) : Int := if a + k ≤ s.len r + 1 then 0 else if s.most < a + k - 1 - s.base r then 21 else 0
def NSt.grow (s : NSt) (r a k : Nat) : NSt := { s with len := upd s.len r (max (s.len r) (a + k - 1)) }
def NSt.push (s : NSt) (r a k : Nat) : NSt := if s.pushE r a k = 0 then (s.grow r a k).cut r else s
def NSt.pushN (s : NSt) (r a k : Nat) : Int := if s.pushE r a k = 0 then ((s.grow r a k).len r : Nat) else 0

theorem PSt.ext' {p q : PSt} (h1 : p.n = q.n) (h2 : p.most = q.most) (h3 : ∀ i, p.base i = q.base i) (h4 : ∀ i, p.kept i = q.kept i) (h5 : p.ack = q.ack) : p = q := by
  cases p; cases q
  simp only at h1 h2 h3 h4 h5
  subst h1 h2 h5
  congr 1
  · funext i; exact h3 i
  · funext i; exact h4 i

theorem NSt.p_ok {s : NSt} {M : Nat} (h : s.good M) (hM : M ≤ 65536) : s.p.ok := by
  intro r hr
  obtain ⟨h1, h2, h3, _⟩ := h r hr
  show 0 ≤ ((s.base r : Nat) : Int) ∧ ((s.base r : Nat) : Int) + (((row16 r ((s.base r : Int) + 1) (s.len r - s.base r)).length : Nat) : Int) ≤ 1073741824 ∧ (row16 r ((s.base r : Int) + 1) (s.len r - s.base r)).length ≤ 65536
  rw [row16_length]
  omega

theorem NSt.cut_p (s : NSt) (r : Nat) (h : s.base r ≤ s.len r) : s.p.cut r = (s.cut r).p := by
  have e1 : cutTo (s.base r) (leastK s.ack r s.n) (row16 r ((s.base r : Int) + 1) (s.len r - s.base r)).length = (s.cutB r : Nat) := by
    unfold cutTo NSt.cutB
    rw [row16_length]
    omega
  refine PSt.ext' rfl rfl (fun i => ?_) (fun i => ?_) rfl
  · show upd (fun r => ((s.base r : Nat) : Int)) r (cutTo (s.base r) (leastK s.ack r s.n) (row16 r ((s.base r : Int) + 1) (s.len r - s.base r)).length) i = ((upd s.base r (s.cutB r) i : Nat) : Int)
    rw [e1]
    by_cases e : i = r
    · subst e; rw [upd_same, upd_same]
    · rw [upd_other _ _ _ _ e, upd_other _ _ _ _ e]
  · show upd (fun r => row16 r ((s.base r : Int) + 1) (s.len r - s.base r)) r ((row16 r ((s.base r : Int) + 1) (s.len r - s.base r)).drop (cutTo (s.base r) (leastK s.ack r s.n) (row16 r ((s.base r : Int) + 1) (s.len r - s.base r)).length - s.base r).toNat) i = row16 i ((upd s.base r (s.cutB r) i : Nat) + 1) (s.len i - upd s.base r (s.cutB r) i)
    rw [e1]
    by_cases e : i = r
    · subst e
      rw [upd_same, upd_same, row16_drop]
      have : s.base i ≤ s.cutB i := by unfold NSt.cutB; omega
      congr 1 <;> omega
    · rw [upd_other _ _ _ _ e, upd_other _ _ _ _ e]

theorem NSt.cuts_n (s : NSt) (k : Nat) : (s.cuts k).n = s.n ∧ (s.cuts k).len = s.len ∧ (s.cuts k).ack = s.ack ∧ (s.cuts k).most = s.most := by
  induction k with
  | zero => exact ⟨rfl, rfl, rfl, rfl⟩
  | succ k ih => exact ih
theorem NSt.cuts_base (s : NSt) (k i : Nat) : (s.cuts k).base i = if i < k then s.cutB i else s.base i := by
  induction k with
  | zero => simp [NSt.cuts]
  | succ k ih =>
    show upd (s.cuts k).base k ((s.cuts k).cutB k) i = _
    by_cases e : i = k
    · subst e
      rw [upd_same, if_pos (by omega)]
      obtain ⟨h1, h2, h3, _⟩ := s.cuts_n i
      unfold NSt.cutB
      rw [h1, h2, h3, ih, if_neg (by omega)]
    · rw [upd_other _ _ _ _ e, ih]
      by_cases h : i < k
      · rw [if_pos h, if_pos (by omega)]
      · rw [if_neg h, if_neg (by omega)]
theorem NSt.cuts_p (s : NSt) (h : ∀ r, r < s.n → s.base r ≤ s.len r) (k : Nat) (hk : k ≤ s.n) : s.p.cuts k = (s.cuts k).p := by
  induction k with
  | zero => rfl
  | succ k ih =>
    show (s.p.cuts k).cut k = ((s.cuts k).cut k).p
    rw [ih (by omega), NSt.cut_p]
    rw [NSt.cuts_base, if_neg (by omega), (s.cuts_n k).2.1]
    exact h k (by omega)
theorem NSt.told_p (s : NSt) (h : ∀ r, r < s.n → s.base r ≤ s.len r) (r : Nat) (c : Clk) : s.p.told r c = (s.told r c).p :=
  NSt.cuts_p { s with ack := upd s.ack r (join (s.ack r) c) } h s.n (Nat.le_refl _)
end Go.Proofs.Ytfhhjabclmkkmaa
