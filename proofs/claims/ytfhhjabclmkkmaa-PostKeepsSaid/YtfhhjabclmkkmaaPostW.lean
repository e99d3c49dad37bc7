/- The post: its state, where it lies in memory, and what steps do to that. -/
import Derived.Test.YtfhhjabclmkkmaaPut
import Derived.Test.YtfhhjabclmkkmaaJoin
namespace Go.Proofs.Ytfhhjabclmkkmaa
open Go.RowKit Go.Proofs

def upd {α : Type} (f : Nat → α) (i : Nat) (v : α) : Nat → α := fun j => if j = i then v else f j
theorem upd_same {α : Type} (f : Nat → α) (i : Nat) (v : α) : upd f i v i = v := by simp [upd]
theorem upd_other {α : Type} (f : Nat → α) (i j : Nat) (v : α) (h : j ≠ i) : upd f i v j = f j := by simp [upd, h]

/-- The state of a post. -/
structure PSt where
  n : Nat
  most : Int
  base : Nat → Int
  kept : Nat → List Ev
  ack : Nat → Clk

/-- Where it lies. -/
structure PLay where
  b : Nat
  gs : Nat
  ga : Nat
  bs : Nat → Nat

def PLay.foot (L : PLay) (n : Nat) (k : Nat) : Prop := k = L.ga ∨ ∃ i, i < n ∧ k = L.bs i
def PLay.new (L : PLay) (n : Nat) (B : Nat) : Prop := B ≤ L.b ∧ B ≤ L.ga ∧ ∀ i, i < n → B ≤ L.bs i

def ackCells (n : Nat) (ack : Nat → Clk) : List Value := (List.range n).flatMap fun i => (ack i).cells
theorem ackCells_succ (n : Nat) (ack : Nat → Clk) : ackCells (n + 1) ack = ackCells n ack ++ (ack n).cells := by simp [ackCells, List.range_succ]
theorem ackCells_length (n : Nat) (ack : Nat → Clk) : (ackCells n ack).length = n * 5 := by
  induction n with
  | zero => rfl
  | succ n ih => rw [ackCells_succ, List.length_append, ih]; simp [Clk.cells]; omega
theorem ackCells_at (n : Nat) (ack : Nat → Clk) (i s : Nat) (hi : i < n) (hs : s < 5) : (ackCells n ack)[i * 5 + s]? = some (.int .i64 ((ack i).get s)) := by
  induction n with
  | zero => omega
  | succ n ih =>
    rw [ackCells_succ]
    by_cases h : i < n
    · rw [List.getElem?_append_left (by rw [ackCells_length]; omega)]
      exact ih h
    · obtain rfl : i = n := by omega
      rw [List.getElem?_append_right (by rw [ackCells_length]; omega), ackCells_length, show i * 5 + s - i * 5 = s from by omega]
      exact Clk.cells_at _ _ hs
theorem ackCells_set (n : Nat) (ack : Nat → Clk) (i : Nat) (c : Clk) (hi : i < n) :
    (((((ackCells n ack).set (i * 5) (.int .i64 c.c0)).set (i * 5 + 1) (.int .i64 c.c1)).set (i * 5 + 2) (.int .i64 c.c2)).set (i * 5 + 3) (.int .i64 c.c3)).set (i * 5 + 4) (.int .i64 c.c4) = ackCells n (upd ack i c) := by
  apply List.ext_getElem?
  intro j
  by_cases hj : j < n * 5
  · obtain ⟨a, s, rfl, hs⟩ : ∃ a s, j = a * 5 + s ∧ s < 5 := ⟨j / 5, j % 5, by omega, by omega⟩
    have ha : a < n := by omega
    rw [ackCells_at n _ a s ha hs]
    simp only [List.getElem?_set, List.length_set, ackCells_length]
    by_cases e : a = i
    · subst e
      rw [upd_same]
      match s, hs with
      | 0, _ => simp [Clk.get]; omega
      | 1, _ => simp [Clk.get]; omega
      | 2, _ => simp [Clk.get]; omega
      | 3, _ => simp [Clk.get]; omega
      | 4, _ => simp [Clk.get]; omega
    · rw [upd_other _ _ _ _ e, if_neg (by omega), if_neg (by omega), if_neg (by omega), if_neg (by omega), if_neg (by omega), ackCells_at n _ a s ha hs]
  · rw [List.getElem?_eq_none (by simp [ackCells_length]; omega), List.getElem?_eq_none (by rw [ackCells_length]; omega)]

structure PostAt (w : World) (L : PLay) (p : PSt) : Prop where
  pos : 1 ≤ p.n ∧ p.n ≤ 5
  head : ∃ cs ca, Blk w L.b 73 [.slice (some ⟨L.gs, 0, none⟩) p.n cs, .slice (some ⟨L.ga, 0, none⟩) p.n ca] ∧ p.n ≤ cs ∧ cs ≤ maxLen ∧ p.n ≤ ca ∧ ca ≤ maxLen
  ptrs : ∃ cur fr, w.heap[L.gs]? = some (.cells cur 23 fr) ∧ ∀ i, i < p.n → cur[i]? = some (.pointer (some ⟨L.bs i, 0, none⟩))
  acks : Blk w L.ga 40 (ackCells p.n p.ack)
  shelf : ∀ i, i < p.n → ShelfAt w (L.bs i) p.most (p.base i) (p.kept i)
  inj : ∀ i j, i < p.n → j < p.n → L.bs i = L.bs j → i = j

/-- The numbers stay within bounds. -/
def PSt.ok (p : PSt) : Prop := ∀ i, i < p.n → 0 ≤ p.base i ∧ p.base i + (p.kept i).length ≤ 1073741824 ∧ (p.kept i).length ≤ 65536

theorem heap_ty_ne {w : World} {g g' : Nat} {cur cur' : Array Value} {t t' : TypeId} {fr fr' : Nat × Nat} (h : w.heap[g]? = some (.cells cur t fr)) (h' : w.heap[g']? = some (.cells cur' t' fr')) (hne : t ≠ t') : g ≠ g' := by
  rintro rfl
  rw [h] at h'
  injection h' with h'
  injection h' with _ ht
  exact hne ht

section
variable {w w' : World} {L : PLay} {p : PSt}
theorem PostAt.keep {S : Nat → Prop} (h : PostAt w L p) (hk : Keep S w w') (hb : ¬ S L.b) (hgs : ¬ S L.gs) (hga : ¬ S L.ga) (hbs : ∀ i, i < p.n → ¬ S (L.bs i)) (hev : ∀ g cur fr, w.heap[g]? = some (.cells cur 62 fr) → ¬ S g) : PostAt w' L p := by
  obtain ⟨cs, ca, h1, h2⟩ := h.head
  obtain ⟨cur, fr, h3, h4⟩ := h.ptrs
  exact ⟨h.pos, ⟨cs, ca, h1.keep hk hb, h2⟩, ⟨cur, fr, hk.heap hgs h3, h4⟩, h.acks.keep hk hga, fun i hi => (h.shelf i hi).keep hk (hbs i hi) hev, h.inj⟩
theorem PostAt.keep0 (h : PostAt w L p) (hk : Keep nob w w') : PostAt w' L p := h.keep hk (fun hf => hf) (fun hf => hf) (fun hf => hf) (fun _ _ hf => hf) (fun _ _ _ _ hf => hf)

theorem PostAt.setShelf {r : Nat} {base : Int} {kept : List Ev} (h : PostAt w L p) (hr : r < p.n) (hk : Keep (oneb (L.bs r)) w w') (hs : ShelfAt w' (L.bs r) p.most base kept) :
    PostAt w' L { p with base := upd p.base r base, kept := upd p.kept r kept } := by
  obtain ⟨cs, ca, h1, h2⟩ := h.head
  obtain ⟨cur, fr, h3, h4⟩ := h.ptrs
  obtain ⟨v, hv, _⟩ := h.shelf r hr
  refine ⟨h.pos, ⟨cs, ca, h1.keep hk (heap_ty_ne h1 hv (by decide)), h2⟩, ⟨cur, fr, hk.heap (heap_ty_ne h3 hv (by decide)) h3, h4⟩, h.acks.keep hk (heap_ty_ne h.acks hv (by decide)), fun i hi => ?_, h.inj⟩
  dsimp only
  by_cases e : i = r
  · subst e; rw [upd_same, upd_same]; exact hs
  · rw [upd_other _ _ _ _ e, upd_other _ _ _ _ e]
    exact (h.shelf i hi).keep hk (fun hb => e (h.inj i r hi hr hb)) (fun g cur fr hg => heap_ty_ne hg hv (by decide))

theorem PostAt.setAck {r : Nat} {c : Clk} (h : PostAt w L p) (hk : Keep (oneb L.ga) w w') (hs : Blk w' L.ga 40 (ackCells p.n (upd p.ack r c))) :
    PostAt w' L { p with ack := upd p.ack r c } := by
  obtain ⟨cs, ca, h1, h2⟩ := h.head
  obtain ⟨cur, fr, h3, h4⟩ := h.ptrs
  refine ⟨h.pos, ⟨cs, ca, h1.keep hk (heap_ty_ne h1 h.acks (by decide)), h2⟩, ⟨cur, fr, hk.heap (heap_ty_ne h3 h.acks (by decide)) h3, h4⟩, hs, fun i hi => ?_, h.inj⟩
  obtain ⟨v, hv, _⟩ := h.shelf i hi
  exact (h.shelf i hi).keep hk (heap_ty_ne hv h.acks (by decide)) (fun g cur fr hg => heap_ty_ne hg h.acks (by decide))

/-- A slice of events is none of a post's own blocks. -/
theorem PostAt.ev_apart (h : PostAt w L p) : ∀ g cur fr, w.heap[g]? = some (.cells cur 62 fr) → ¬ L.foot p.n g := by
  intro g cur fr hg hf
  rcases hf with rfl | ⟨i, hi, rfl⟩
  · exact heap_ty_ne hg h.acks (by decide) rfl
  · obtain ⟨v, hv, _⟩ := h.shelf i hi
    exact heap_ty_ne hg hv (by decide) rfl
end

/-- The least number of s that one of the first k told. -/
def leastK (ack : Nat → Clk) (s : Nat) : Nat → Int
  | 0 => (ack 0).get s
  | k + 1 => min (leastK ack s k) ((ack k).get s)

/-- The shelf of s cut. -/
def PSt.cut (p : PSt) (s : Nat) : PSt :=
  let c := cutTo (p.base s) (leastK p.ack s p.n) (p.kept s).length
  { p with base := upd p.base s c, kept := upd p.kept s ((p.kept s).drop (c - p.base s).toNat) }
def PSt.cuts (p : PSt) : Nat → PSt
  | 0 => p
  | k + 1 => (PSt.cuts p k).cut k
theorem PSt.cuts_n (p : PSt) (k : Nat) : (p.cuts k).n = p.n := by
  induction k with
  | zero => rfl
  | succ k ih => exact ih
theorem PSt.cut_ok {p : PSt} (h : p.ok) (s : Nat) : (p.cut s).ok := by
  intro i hi
  have := h i hi
  unfold PSt.cut
  dsimp only
  by_cases e : i = s
  · subst e
    rw [upd_same, upd_same, List.length_drop]
    unfold cutTo
    omega
  · rw [upd_other _ _ _ _ e, upd_other _ _ _ _ e]; exact this
theorem PSt.cuts_ok {p : PSt} (h : p.ok) (k : Nat) : (p.cuts k).ok := by
  induction k with
  | zero => exact h
  | succ k ih => exact PSt.cut_ok ih k

/-- Push of r's events l: what is told, and the state behind it. -/
def PSt.pushE (p : PSt) (r : Int) (l : List Ev) : Int :=
  if 0 ≤ r ∧ r < p.n then (if l.any (fun e => e.R != r) then 23 else putE p.most (p.base r.toNat) (p.kept r.toNat) l) else 23
def PSt.put (p : PSt) (r : Nat) (l : List Ev) : PSt := { p with kept := upd p.kept r (putL p.most (p.base r) (p.kept r) l) }
def PSt.push (p : PSt) (r : Int) (l : List Ev) : PSt := if p.pushE r l = 0 then (p.put r.toNat l).cut r.toNat else p
def PSt.pushN (p : PSt) (r : Int) (l : List Ev) : Int := if p.pushE r l = 0 then (p.push r l).base r.toNat + ((p.push r l).kept r.toNat).length else 0

/-- Fetch of r. -/
def fetchK (base : Nat → Int) (kept : Nat → List Ev) (r : Nat) (c : Clk) : Nat → List Ev
  | 0 => []
  | k + 1 => fetchK base kept r c k ++ (if k = r then [] else above (c.get k) (kept k))

/-- Ack of r. -/
def PSt.told (p : PSt) (r : Nat) (c : Clk) : PSt := ({ p with ack := upd p.ack r (join (p.ack r) c) } : PSt).cuts p.n
end Go.Proofs.Ytfhhjabclmkkmaa
