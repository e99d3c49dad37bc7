/- Layer 15's statements: rows of events, the document's example. -/
import Derived.Test.YtieaibfojogaiaaPut
import Derived.Test.YtieaibfojogaiaaEq
namespace Go.Proofs.Ytieaibfojogaiaa
open Go.RowKit Go.Proofs

/-- Events of numbers from a on. -/
def row15 (a : Int) (k : Nat) : List Ev := (List.range k).map fun (i : Nat) => { N := a + i, H := a + i }
theorem row15_length (a : Int) (k : Nat) : (row15 a k).length = k := by simp [row15]
theorem row15_succ (a : Int) (k : Nat) : row15 a (k + 1) = row15 a k ++ [{ N := a + k, H := a + k }] := by simp [row15, List.range_succ]
theorem row15_congr {a a' : Int} {k k' : Nat} (hk : k = k') (ha : 0 < k → a = a') : row15 a k = row15 a' k' := by
  subst hk
  rcases Nat.eq_zero_or_pos k with rfl | h
  · rfl
  · rw [ha h]
theorem row15_zero (a : Int) : row15 a 0 = [] := rfl
theorem row15_at (a : Int) (k i : Nat) (h : i < k) : (row15 a k)[i]? = some { N := a + i, H := a + i } := by simp [row15, h]
theorem row15_append (a : Int) (k m : Nat) : row15 a k ++ row15 (a + k) m = row15 a (k + m) := by
  induction m with
  | zero => simp [row15]
  | succ m ih =>
    rw [row15_succ, ← List.append_assoc, ih, ← Nat.add_assoc, row15_succ]
    simp [Int.add_assoc]
theorem row15_drop (a : Int) (k j : Nat) : (row15 a k).drop j = row15 (a + j) (k - j) := by
  apply List.ext_getElem?
  intro i
  rw [List.getElem?_drop]
  by_cases h : j + i < k
  · rw [row15_at _ _ _ h, row15_at _ _ _ (by omega)]
    simp [Int.add_assoc]
  · rw [List.getElem?_eq_none (by rw [row15_length]; omega), List.getElem?_eq_none (by rw [row15_length]; omega)]
theorem row15_N (a : Int) (k : Nat) (e : Ev) (h : e ∈ row15 a k) : a ≤ e.N ∧ e.N < a + k := by
  simp only [row15, List.mem_map, List.mem_range] at h
  obtain ⟨i, hi, rfl⟩ := h
  constructor <;> dsimp only <;> omega

theorem gapB_row15 (n a : Int) (k : Nat) (h : a ≤ n + 1) : gapB n (row15 a k) = false := by
  refine gapB_miss (fun j hj => ?_)
  rw [row15_length] at hj
  unfold gapAt
  rw [row15_at _ _ _ hj]
  by_cases h0 : j = 0
  · simp [h0]; omega
  · simp only [h0, if_false]
    rw [row15_at _ _ _ (by omega)]
    have e : ((j - 1 : Nat) : Int) = (j : Int) - 1 := by omega
    simp only [e]
    rw [Bool.or_eq_false_iff, decide_eq_false_iff_not, bne_eq_false_iff_eq]
    constructor <;> omega
theorem above_row15 (n a : Int) (k : Nat) : above n (row15 a k) = row15 (a + (n + 1 - a).toNat) (k - (n + 1 - a).toNat) := by
  have hf : ∀ j : Nat, (row15 a k).findIdx (fun e => decide (n < e.N)) = min k (n + 1 - a).toNat := by
    intro _
    by_cases h : (n + 1 - a).toNat < k
    · rw [Nat.min_eq_right (by omega), List.findIdx_eq (by rw [row15_length]; exact h)]
      have hat : ∀ i (hi : i < (row15 a k).length), (row15 a k)[i] = { N := a + i, H := a + i } := fun i hi => by
        have := row15_at a k i (by rw [row15_length] at hi; exact hi)
        rw [List.getElem?_eq_getElem hi] at this
        injection this
      refine ⟨by rw [hat]; simp; omega, fun j hj => by rw [hat]; simp; omega⟩
    · rw [Nat.min_eq_left (by omega)]
      have := List.findIdx_eq_length_of_false (p := fun e => decide (n < e.N)) (xs := row15 a k) (fun e he => by
        have := row15_N a k e he
        simp
        omega)
      rw [this, row15_length]
  unfold above
  rw [hf 0, row15_drop]
  by_cases h : (n + 1 - a).toNat ≤ k
  · rw [Nat.min_eq_right h]
  · rw [Nat.min_eq_left (by omega), Nat.sub_self, Nat.sub_eq_zero_of_le (by omega), row15_zero, row15_zero]

/-- A row put on a shelf that holds a row. -/
theorem put_row15 (most : Int) (base n a k : Nat) (ha : a ≤ base + n + 1) :
    putE most base (row15 (base + 1) n) (row15 a k) = (if a + k ≤ base + n + 1 then 0 else if most < n + (a + k - (base + n + 1) : Int) then 21 else 0) ∧
    putL most base (row15 (base + 1) n) (row15 a k) = (if a + k ≤ base + n + 1 then row15 (base + 1) n else if most < n + (a + k - (base + n + 1) : Int) then row15 (base + 1) n else row15 (base + 1) (a + k - 1 - base)) := by
  have hg : gapB ((base : Int) + ((row15 (base + 1) n).length : Nat)) (row15 a k) = false := gapB_row15 _ _ _ (by rw [row15_length]; omega)
  have hab : above ((base : Int) + ((row15 (base + 1) n).length : Nat)) (row15 a k) = row15 (base + n + 1) (a + k - (base + n + 1)) := by
    rw [above_row15, row15_length]
    congr 1 <;> omega
  have hE : putE most base (row15 (base + 1) n) (row15 a k) = (if a + k ≤ base + n + 1 then 0 else if most < n + (a + k - (base + n + 1) : Int) then 21 else 0) := by
    unfold putE
    rw [hg, if_neg (by decide), hab]
    by_cases h : a + k ≤ base + n + 1
    · rw [if_pos h, if_pos (by rw [Nat.sub_eq_zero_of_le h]; rfl)]
    · rw [if_neg h, if_neg (by intro h'; have := congrArg List.length h'; rw [row15_length] at this; simp at this; omega), row15_length, row15_length]
      have : ((a + k - (base + n + 1) : Nat) : Int) = (a : Int) + k - (base + n + 1) := by omega
      rw [this]
  refine ⟨hE, ?_⟩
  unfold putL
  rw [hE, hab]
  by_cases h : a + k ≤ base + n + 1
  · rw [if_pos h, if_pos h, if_pos rfl, Nat.sub_eq_zero_of_le h, row15_zero, List.append_nil]
  · rw [if_neg h, if_neg h]
    by_cases h2 : most < n + (a + k - (base + n + 1) : Int)
    · rw [if_pos h2, if_pos h2, if_neg (by decide)]
    · rw [if_neg h2, if_neg h2, if_pos rfl, show ((base : Int) + n + 1) = (base + 1) + n from by omega, row15_append]
      congr 1
      omega

set_option maxHeartbeats 1000000 in
theorem row15_any (a b : Int) (w : World) (ha : 0 ≤ a) (hb : b ≤ 100000) (hab : a ≤ 100001) :
    Calls Try.prog 12 #[.int .i64 a, .int .i64 b] w (OwnsEvs (row15 a (b + 1 - a).toNat) w) := by
  obtain ⟨i0, hi, hz0, hz1, hz2⟩ := info_parts infoEv
  go_enter Try.func12, Try.ntmps12
  go_wp2
  go_loopw [5, 6] (fun v i wr => ∃ k : Nat, k ≤ (b + 1 - a).toNat ∧ i = .int .i64 (a + k) ∧ wr.ownsRow w.heap.size 62 12 v k (evs (row15 a k)) ∧ Hid (Keep nob w wr))
    (fun _ i _ => (b + 1 - intOf i).toNat)
  case atStart => exact ⟨0, Nat.zero_le _, by simp, World.ownsRow_made w #[] 0 (Nat.le_refl _) (by simp [maxLen]) rfl, (Keep.refl _ _).alloc _⟩
  case round =>
    obtain ⟨k, hk, rfl, hown, hk1⟩ := hrel
    have hsz := hk1.out.size
    go_wp2_with (at_builtin; refine wpList_append_own _ rfl _ _ 27 rfl w.heap.size 62 i0 _ 12 112 Try.underlying27 hi hz0 hz1 hz2 rfl (by decide) _ _ _ rfl (hown.alloc _) ⟨wr.heap.size, 0, none⟩ 1 1 (Ev.cells { N := a + k, H := a + k }) rfl rfl ?c1 ?c2 ?c3 ?c4 ?c5 ?_)
    case c1 => exact news_of_block _ _ 0 62 _ (0, 0) _ (heap_alloc_new wr _) (fun j u hu => by rw [Nat.zero_add, List.getElem?_toArray]; exact hu)
    case c2 => exact Ev.cells_oneCell _
    case c3 => unfold maxLen; omega
    case c4 => omega
    case c5 => simp; omega
    · intro v' w1 hown' hgrow _
      have hlt : a + (k : Int) ≤ b := by assumption
      have R : w1.ownsRow w.heap.size 62 12 v' (k + 1) (evs (row15 a (k + 1))) := by rw [row15_succ, evs_append, evs_one]; exact hown'
      have k2 : Hid (Keep nob w w1) := (Keep.alloc hk1.out _).grown hgrow (fun j hj => .inl ((hown.lt j hj).1))
      clear hown' hgrow hown hk1
      go_wp2
      go_roundw
      case rel => exact ⟨k + 1, by omega, by go_num, R, k2⟩
      case measure => simp [intOf]; omega
    · have hge : ¬ a + (k : Int) ≤ b := by omega
      have e : k = (b + 1 - a).toNat := by omega
      go_ret
      refine ⟨_, rfl, ?_, hk1.out⟩
      rw [row15_length, ← e]
      exact hown

/-- A shelf with a row, in a world behind w, in a block of the call's own. -/
structure ShRow (w : World) (b : Nat) (most : Int) (base n : Nat) (w' : World) : Prop where
  keep : Keep nob w w'
  new : w.heap.size ≤ b
  at_ : ShelfAt w' b most base (row15 (base + 1) n)

theorem ShRow.step {w w1 w2 : World} {b base base' n n' : Nat} {most : Int} (h : ShRow w b most base n w1) (hk : Keep (oneb b) w1 w2) (ha : ShelfAt w2 b most base' (row15 (base' + 1) n')) : ShRow w b most base' n' w2 :=
  ⟨h.keep.then hk (fun i hi e => by have := h.new; unfold oneb at e; omega), h.new, ha⟩
theorem ShRow.more {w w1 w2 : World} {b base n : Nat} {most : Int} (h : ShRow w b most base n w1) (hk : Keep nob w1 w2) : ShRow w b most base n w2 :=
  ⟨h.keep.trans hk, h.new, h.at_.keep0 hk⟩

/-- What Put of a row tells, and how many are there then. -/
def putRE (most : Int) (base n a k : Nat) : Int := if a + k ≤ base + n + 1 then 0 else if most < n + (a + k - (base + n + 1) : Int) then 21 else 0
def putRN (most : Int) (base n a k : Nat) : Nat := if a + k ≤ base + n + 1 then n else if most < n + (a + k - (base + n + 1) : Int) then n else a + k - 1 - base

theorem put_row_any {w w1 : World} {b base n a k : Nat} {most : Int} {v : Value} (h : ShRow w b most base n w1) (hv : EvSl w1 v (row15 a k)) (ha : a ≤ base + n + 1) (hb : base + n ≤ 100000) (hak : a + k ≤ 100000) :
    Calls Try.prog 11 #[.pointer (some ⟨b, 0, none⟩), v] w1 fun e w' => e = .returned (.int .i64 (putRE most base n a k)) ∧ ShRow w b most base (putRN most base n a k) w' := by
  refine (put_any b most base _ _ v w1 h.at_ hv (by omega) (by rw [row15_length]; omega) (by rw [row15_length]; omega) (by rw [row15_length]; omega) (fun e he => by have := row15_N _ _ e he; omega)).mono ?_
  rintro e w' ⟨rfl, hs, hk⟩
  obtain ⟨h1, h2⟩ := put_row15 most base n a k ha
  rw [h2] at hs
  refine ⟨by rw [h1]; rfl, h.step hk ?_⟩
  unfold putRN
  by_cases c1 : a + k ≤ base + n + 1
  · rw [if_pos c1] at hs ⊢; exact hs
  · rw [if_neg c1] at hs ⊢
    by_cases c2 : most < n + (a + k - (base + n + 1) : Int)
    · rw [if_pos c2] at hs ⊢; exact hs
    · rw [if_neg c2] at hs ⊢; exact hs

theorem cut_row_any {w w1 : World} {b base n : Nat} {most c : Int} (h : ShRow w b most base n w1) (hb : base + n ≤ 100000) :
    Calls Try.prog 13 #[.pointer (some ⟨b, 0, none⟩), .int .i64 c] w1 fun e w' => e = .returned (.tuple #[]) ∧
      ShRow w b most (max base (min c.toNat (base + n))) (base + n - max base (min c.toNat (base + n))) w' := by
  refine (cut_any b most base c _ w1 h.at_ (by omega) (by rw [row15_length]; omega)).mono ?_
  rintro e w' ⟨rfl, hs, hk⟩
  have e1 : cutTo base c (row15 ((base : Int) + 1) n).length = (max base (min c.toNat (base + n)) : Nat) := by unfold cutTo; rw [row15_length]; omega
  rw [e1, row15_drop] at hs
  refine ⟨rfl, h.step hk ?_⟩
  have e2 : ((base : Int) + 1 + (((max base (min c.toNat (base + n)) : Nat) : Int) - base).toNat) = (max base (min c.toNat (base + n)) : Nat) + 1 := by omega
  have e3 : n - (((max base (min c.toNat (base + n)) : Nat) : Int) - base).toNat = base + n - max base (min c.toNat (base + n)) := by omega
  rw [e2, e3] at hs
  exact hs

theorem from_row_any {w w1 : World} {b base n : Nat} {most c : Int} (h : ShRow w b most base n w1) (hb : base + n ≤ 100000) :
    Calls Try.prog 14 #[.pointer (some ⟨b, 0, none⟩), .int .i64 c] w1 fun e w' => ∃ v, e = .returned v ∧
      EvSl w' v (row15 ((max base (min c.toNat (base + n)) : Nat) + 1) (base + n - max base (min c.toNat (base + n)))) ∧ ShRow w b most base n w' := by
  refine (from_any b most base c _ w1 h.at_ (by rw [row15_length]; omega)).mono ?_
  rintro e w' ⟨v, rfl, hown, hk⟩
  refine ⟨v, rfl, ?_, h.more hk⟩
  have := EvSl.of_own hown
  rw [above_row15] at this
  by_cases hc : c.toNat ≤ base + n
  · have e2 : ((base : Int) + 1 + (c + 1 - ((base : Int) + 1)).toNat) = (max base (min c.toNat (base + n)) : Nat) + 1 := by omega
    have e3 : n - (c + 1 - ((base : Int) + 1)).toNat = base + n - max base (min c.toNat (base + n)) := by omega
    rw [e2, e3] at this
    exact this
  · have e3 : n - (c + 1 - ((base : Int) + 1)).toNat = 0 := by omega
    have e4 : base + n - max base (min c.toNat (base + n)) = 0 := by omega
    rw [e3, row15_zero] at this
    rw [e4, row15_zero]
    exact this

theorem base_row_any {w w1 : World} {b base n : Nat} {most : Int} (x : Int) (h : ShRow w b most base n w1) (hx : x = base) :
    Calls Try.prog 15 #[.pointer (some ⟨b, 0, none⟩)] w1 fun e w' => e = .returned (.int .i64 x) ∧ ShRow w b most base n w' ∧ Keep nob w1 w' := by
  refine (base_any b _ _ _ _ h.at_).mono ?_
  rintro e w' ⟨rfl, rfl⟩
  exact ⟨by rw [hx], h, Keep.refl _ _⟩
theorem len_row_any {w w1 : World} {b base n : Nat} {most : Int} (x : Int) (h : ShRow w b most base n w1) (hb : base + n ≤ 100000) (hx : x = (base + n : Nat)) :
    Calls Try.prog 16 #[.pointer (some ⟨b, 0, none⟩)] w1 fun e w' => e = .returned (.int .i64 x) ∧ ShRow w b most base n w' ∧ Keep nob w1 w' := by
  refine (len_any b _ _ _ _ h.at_ (by omega) (by rw [row15_length]; omega)).mono ?_
  rintro e w' ⟨rfl, m, rfl⟩
  exact ⟨by rw [row15_length, hx, Int.natCast_add], h.more ((Keep.refl _ _).drewN m), (Keep.refl _ _).drewN m⟩

theorem row15_sl (a b : Int) (k : Nat) (hk : (b + 1 - a).toNat = k) (w : World) (ha : 0 ≤ a) (hb : b ≤ 100000) (hab : a ≤ 100001) :
    Calls Try.prog 12 #[.int .i64 a, .int .i64 b] w fun e w' => ∃ v, e = .returned v ∧ EvSl w' v (row15 a k) ∧ Keep nob w w' := by
  refine (row15_any a b w ha hb hab).mono ?_
  rintro e w' ⟨v, rfl, hown, hk'⟩
  rw [hk] at hown
  exact ⟨v, rfl, EvSl.of_own hown, hk'⟩

set_option maxHeartbeats 1000000 in
theorem shown15 (w : World) : Calls Try.prog 9 #[] w fun e w' => e = .returned (.bool true) ∧ Keep nob w w' := by
  go_enter Try.func9, Try.ntmps9
  go_wp2_with fail
  refine (new_any 2 w).mono ?_
  rintro e w1 ⟨rfl, hs1, hk1⟩
  have S1 : ShRow w w.heap.size 2 0 0 w1 := ⟨hk1, Nat.le_refl _, hs1⟩
  clear hs1 hk1
  obtain ⟨b, hb⟩ : ∃ b, b = w.heap.size := ⟨_, rfl⟩
  rw [← hb] at S1 ⊢
  clear hb
  go_wp2_with fail
  refine (row15_sl 1 2 2 rfl _ (by omega) (by omega) (by omega)).mono ?_
  rintro e w2 ⟨v, rfl, hv, hk⟩
  have S2 := S1.more hk
  clear S1 hk
  go_wp2_with fail
  refine (put_row_any (a := 1) (k := 2) S2 hv (by omega) (by omega) (by omega)).mono ?_
  rintro e w3 ⟨he, S3⟩
  rw [show putRE 2 0 0 1 2 = 0 from by decide] at he
  rw [show putRN 2 0 0 1 2 = 2 from by decide] at S3
  subst he
  clear S2 hv
  go_wp2_with fail
  refine (row15_sl 2 3 2 rfl _ (by omega) (by omega) (by omega)).mono ?_
  rintro e w4 ⟨v2, rfl, hv, hk⟩
  have S4 := S3.more hk
  clear S3 hk
  go_wp2_with fail
  refine (put_row_any (a := 2) (k := 2) S4 hv (by omega) (by omega) (by omega)).mono ?_
  rintro e w5 ⟨he, S5⟩
  rw [show putRE 2 0 2 2 2 = 21 from by decide] at he
  rw [show putRN 2 0 2 2 2 = 2 from by decide] at S5
  subst he
  clear S4 hv
  go_wp2_with fail
  refine (cut_row_any S5 (by omega)).mono ?_
  rintro e w6 ⟨rfl, S6⟩
  simp only [show (1 : Int).toNat = 1 from rfl, show max 0 (min 1 (0 + 2)) = 1 from rfl, show 0 + 2 - 1 = 1 from rfl] at S6
  clear S5
  go_wp2_with fail
  refine (row15_sl 2 3 2 rfl _ (by omega) (by omega) (by omega)).mono ?_
  rintro e w7 ⟨v3, rfl, hv, hk⟩
  have S7 := S6.more hk
  clear S6 hk
  go_wp2_with fail
  refine (put_row_any (a := 2) (k := 2) S7 hv (by omega) (by omega) (by omega)).mono ?_
  rintro e w8 ⟨he, S8⟩
  rw [show putRE 2 1 1 2 2 = 0 from by decide] at he
  rw [show putRN 2 1 1 2 2 = 2 from by decide] at S8
  subst he
  clear S7 hv
  go_wp2_with fail
  refine (from_row_any (c := 2) S8 (by omega)).mono ?_
  rintro e w9 ⟨v4, rfl, hv, S9⟩
  have hv' : EvSl w9 v4 (row15 3 1) := hv
  clear S8 hv
  rcases hv' with ⟨_, h⟩ | ⟨g, o, c, cur, fr, rfl, hl, hc, hh, hx⟩
  · exact absurd (congrArg List.length h) (by rw [row15_length]; decide)
  rw [row15_length] at hl ⊢
  obtain ⟨-, l1, -⟩ := ev_at (k := 0) hh hx (row15_at 3 1 0 (by omega))
  simp at l1
  have hc1 : (1 : Int) ≤ c := by omega
  clear hh hx
  go_wp2_with fail
  refine (base_row_any 1 S9 rfl).mono ?_
  rintro e w10 ⟨rfl, S10, -⟩
  go_wp2_with fail
  refine (len_row_any 3 S10 (by omega) rfl).mono ?_
  rintro e w11 ⟨rfl, S11, -⟩
  go_wp2
  go_ret
  exact ⟨rfl, S11.keep⟩

theorem same_true {v u : Value} {l m : List Ev} {w : World} (hv : EvSl w v l) (hu : EvSl w u m) (h : l = m) :
    Calls Try.prog 17 #[v, u] w fun e w' => e = .returned (.bool true) ∧ Keep nob w w' := by
  refine (same_any v u l m w hv hu).mono ?_
  rintro e w' ⟨rfl, n, rfl⟩
  exact ⟨by rw [(sameEvs_iff l m).2 h], (Keep.refl _ _).drewN n⟩

set_option maxHeartbeats 4000000 in
theorem shelfFrom_any (n cut : Int) (from_ : Int) (w : World) (hn : 0 ≤ n ∧ n < 256) (hc : 0 ≤ cut ∧ cut < 256) :
    Calls Try.prog 3 #[.int .u8 n, .int .u8 cut, .int .i64 from_] w fun e w' => e = .returned (.bool true) ∧ Keep nob w w' := by
  obtain ⟨m, hm, hm30⟩ : ∃ m : Nat, n.tmod 31 = m ∧ m ≤ 30 := ⟨(n.tmod 31).toNat, by rw [Int.tmod_eq_emod_of_nonneg hn.1]; omega, by rw [Int.tmod_eq_emod_of_nonneg hn.1]; omega⟩
  go_enter Try.func3, Try.ntmps3
  go_wp2_with fail
  refine (shown15 w).mono ?_
  rintro e w0 ⟨rfl, k0⟩
  go_wp2_with fail
  refine (new_any 30 w0).mono ?_
  rintro e w1 ⟨rfl, hs1, hk1⟩
  have S1 : ShRow w w0.heap.size 30 0 0 w1 := ⟨k0.trans hk1, k0.size, hs1⟩
  clear hs1 hk1
  obtain ⟨b, hb⟩ : ∃ b, b = w0.heap.size := ⟨_, rfl⟩
  rw [← hb] at S1 ⊢
  clear hb k0
  obtain ⟨q, hq, hq40⟩ : ∃ q : Nat, cut.tmod 40 = q ∧ q < 40 := ⟨(cut.tmod 40).toNat, by rw [Int.tmod_eq_emod_of_nonneg hc.1]; omega, by rw [Int.tmod_eq_emod_of_nonneg hc.1]; omega⟩
  go_wp2_with fail
  refine (row15_sl 1 m m (by omega) _ (by omega) (by omega) (by omega)).mono ?_
  rintro e w2 ⟨v, rfl, hv, hk⟩
  have S2 := S1.more hk
  clear S1 hk
  go_wp2_with fail
  refine (put_row_any (a := 1) (k := m) S2 hv (by omega) (by omega) (by omega)).mono ?_
  rintro e w3 ⟨he, S3⟩
  have hE : putRE 30 0 0 1 m = 0 := by unfold putRE; split; rfl; rw [if_neg (by omega)]
  have hN : putRN 30 0 0 1 m = m := by unfold putRN; split; omega; rw [if_neg (by omega)]; omega
  rw [hE] at he
  rw [hN] at S3
  subst he
  clear S2 hv hE hN
  go_wp2_with fail
  refine (cut_row_any S3 (by omega)).mono ?_
  rintro e w4 ⟨rfl, S4⟩
  clear S3
  have e1 : max 0 (min (q : Int).toNat (0 + m)) = min q m := by omega
  have e2 : 0 + m - max 0 (min (q : Int).toNat (0 + m)) = m - min q m := by omega
  rw [e2, e1] at S4
  clear e1 e2
  have HS := Lib.hid S4
  clear S4
  by_cases h1 : (m : Int) < q
  all_goals by_cases h2 : (m : Int) < from_
  all_goals
    go_wp2_with fail
    refine (from_row_any (c := from_) HS.out (by omega)).mono ?_
    rintro e w5 ⟨v5, rfl, hv5, S5⟩
    have HV := Lib.hid hv5
    have HT := Lib.hid S5
    clear hv5 S5
    go_wp2_with fail
  all_goals
    refine (row15_sl _ _ _ rfl _ (by omega) (by omega) (by omega)).mono ?_
    rintro e w6 ⟨v6, rfl, hv6, hk⟩
    have S6 := HT.out.more hk
    have hv5 := HV.out.keep0 hk
    clear hk
    go_wp2_with fail
    first
      | (have hx : (m : Int) = ((min q m : Nat) : Int) := by omega
         have HX := Lib.hid hx
         clear hx
         refine (base_row_any (m : Int) S6 HX.out).mono ?_
         rintro e w7 ⟨rfl, S7, k7⟩)
      | (have hx : (q : Int) = ((min q m : Nat) : Int) := by omega
         have HX := Lib.hid hx
         clear hx
         refine (base_row_any (q : Int) S6 HX.out).mono ?_
         rintro e w7 ⟨rfl, S7, k7⟩)
    go_wp2_with fail
    refine (len_row_any (m : Int) S7 (by omega) (by omega)).mono ?_
    rintro e w8 ⟨rfl, S8, k8⟩
    clear S7
    go_wp2_with fail
    refine (same_true (hv5.keep0 (k7.trans k8)) (hv6.keep0 (k7.trans k8)) (row15_congr (by omega) (by omega))).mono ?_
    rintro e w9 ⟨rfl, k9⟩
    go_wp2
    go_ret
    exact ⟨rfl, S8.keep.trans k9⟩
end Go.Proofs.Ytieaibfojogaiaa
