/- Words for memory and data of the address book: clocks, events, slices of events, what a call leaves alone. Plain definitions and lemmas; no program is walked. -/
import Derived.Handy
import Derived.Deep.AppendLies
import Derived.Maps.AppendAt
import Derived.Laws.OwnMore
import Derived.Laws.Rows
import Derived.Deep.Draws
import Derived.Lib.Hide
namespace Go.Proofs.Ytfhhjabclmkkmaa
open Go.RowKit

/-- A clock: five numbers. -/
structure Clk where
  c0 : Int
  c1 : Int
  c2 : Int
  c3 : Int
  c4 : Int

instance : DecidableEq Clk := fun a b =>
  decidable_of_iff (a.c0 = b.c0 ∧ a.c1 = b.c1 ∧ a.c2 = b.c2 ∧ a.c3 = b.c3 ∧ a.c4 = b.c4) (by cases a; cases b; simp)

def Clk.zero : Clk := ⟨0, 0, 0, 0, 0⟩
def Clk.get (c : Clk) : Nat → Int
  | 0 => c.c0
  | 1 => c.c1
  | 2 => c.c2
  | 3 => c.c3
  | 4 => c.c4
  | _ => 0
def Clk.set (c : Clk) : Nat → Int → Clk
  | 0, x => { c with c0 := x }
  | 1, x => { c with c1 := x }
  | 2, x => { c with c2 := x }
  | 3, x => { c with c3 := x }
  | 4, x => { c with c4 := x }
  | _, _ => c
def Clk.cells (c : Clk) : List Value := [.int .i64 c.c0, .int .i64 c.c1, .int .i64 c.c2, .int .i64 c.c3, .int .i64 c.c4]

theorem Clk.cells_at (c : Clk) (k : Nat) (hk : k < 5) : c.cells[k]? = some (.int .i64 (c.get k)) := by
  match k, hk with
  | 0, _ => rfl
  | 1, _ => rfl
  | 2, _ => rfl
  | 3, _ => rfl
  | 4, _ => rfl
theorem Clk.cells_set (c : Clk) (k : Nat) (hk : k < 5) (v : Int) : c.cells.set k (.int .i64 v) = (c.set k v).cells := by
  match k, hk with
  | 0, _ => rfl
  | 1, _ => rfl
  | 2, _ => rfl
  | 3, _ => rfl
  | 4, _ => rfl
theorem Clk.ext_get {c d : Clk} (h : ∀ k, k < 5 → c.get k = d.get k) : c = d := by
  have h0 := h 0 (by omega)
  have h1 := h 1 (by omega)
  have h2 := h 2 (by omega)
  have h3 := h 3 (by omega)
  have h4 := h 4 (by omega)
  cases c; cases d
  simp_all [Clk.get]

/-- An event. -/
structure Ev where
  R : Int := 0
  N : Int := 0
  C : Clk := Clk.zero
  H : Int := 0
  K : Int := 0
  key : ByteArray := ByteArray.empty
  lab : Int := 0
  val : ByteArray := ByteArray.empty

def Ev.cells (e : Ev) : List Value :=
  [.int .i64 e.R, .int .i64 e.N, .int .i64 e.C.c0, .int .i64 e.C.c1, .int .i64 e.C.c2, .int .i64 e.C.c3, .int .i64 e.C.c4, .int .i64 e.H, .int .i64 e.K, .string e.key, .int .i64 e.lab, .string e.val]
def Ev.agg (e : Ev) : Value := .agg e.cells.toArray

theorem Ev.cells_length (e : Ev) : e.cells.length = 12 := rfl
def evs (l : List Ev) : List Value := l.flatMap Ev.cells
theorem evs_cons (e : Ev) (l : List Ev) : evs (e :: l) = e.cells ++ evs l := rfl
theorem evs_nil : evs [] = [] := rfl
theorem evs_length (l : List Ev) : (evs l).length = l.length * 12 := by
  induction l with
  | nil => rfl
  | cons a l ih => rw [evs_cons, List.length_append, ih, Ev.cells_length, List.length_cons]; omega
theorem evs_append (l m : List Ev) : evs (l ++ m) = evs l ++ evs m := by unfold evs; rw [List.flatMap_append]
theorem evs_one (e : Ev) : evs [e] = e.cells := by simp [evs]
theorem evs_drop (l : List Ev) (k : Nat) : evs (l.drop k) = (evs l).drop (k * 12) := by
  induction l generalizing k with
  | nil => simp [evs]
  | cons a l ih =>
    cases k with
    | zero => simp
    | succ k =>
      rw [List.drop_succ_cons, ih, evs_cons, show (k + 1) * 12 = a.cells.length + k * 12 from by rw [Ev.cells_length]; omega, List.drop_length_add_append]
theorem evs_at (l : List Ev) (k j : Nat) (e : Ev) (he : l[k]? = some e) (hj : j < 12) : (evs l)[k * 12 + j]? = e.cells[j]? := by
  have hlt : k < l.length := (List.getElem?_eq_some_iff.1 he).1
  have h1 : (evs l)[k * 12 + j]? = (evs (l.drop k))[j]? := by rw [evs_drop, List.getElem?_drop]
  have h2 : l.drop k = e :: l.drop (k + 1) := by
    rw [List.drop_eq_getElem_cons hlt]
    congr 1
    exact (List.getElem?_eq_some_iff.1 he).2
  rw [h1, h2, evs_cons, List.getElem?_append_left (by rw [Ev.cells_length]; exact hj)]
theorem Ev.cells_oneCell (e : Ev) : ∀ u ∈ e.cells, u.oneCell' = true := by
  intro u h
  simp only [Ev.cells, List.mem_cons, List.not_mem_nil, or_false] at h
  rcases h with h | h | h | h | h | h | h | h | h | h | h | h <;> subst h <;> rfl
theorem evs_oneCell (l : List Ev) : ∀ u ∈ evs l, u.oneCell' = true := by
  intro u hu
  unfold evs at hu
  rw [List.mem_flatMap] at hu
  obtain ⟨e, _, h⟩ := hu
  exact e.cells_oneCell u h

theorem add_lit (g o j : Nat) : (⟨g, o, none⟩ : Addr).add j = ⟨g, o + j, none⟩ := by unfold Addr.add; split <;> simp_all

theorem news_of_block (w : World) (g o : Nat) (t : TypeId) (cur : Array Value) (fr : Nat × Nat) (cs : List Value) (h : w.heap[g]? = some (.cells cur t fr)) (hc : ∀ j u, cs[j]? = some u → cur[o + j]? = some u) :
    ∀ j u, cs[j]? = some u → w.cell? ((⟨g, o, none⟩ : Addr).add j) = some u := by
  intro j u hu
  rw [add_lit, cell_of_row w g (o + j) _ t fr h]
  exact hc j u hu

/-- What a call leaves alone: all blocks that were there, but those of S. -/
structure Keep (S : Nat → Prop) (w w' : World) : Prop where
  os : w'.os = w.os
  tape : w'.tape = w.tape
  output : w'.output = w.output
  size : w.heap.size ≤ w'.heap.size
  block : ∀ k, k < w.heap.size → ¬ S k → w'.heap[k]? = w.heap[k]?

/-- No block. -/
def nob (_ : Nat) : Prop := False
/-- Just this one. -/
def oneb (b : Nat) (k : Nat) : Prop := k = b

section
variable {S T : Nat → Prop} {a w w' : World}
theorem Keep.refl (S : Nat → Prop) (w : World) : Keep S w w := ⟨rfl, rfl, rfl, Nat.le_refl _, fun _ _ _ => rfl⟩
theorem Keep.trans {c : World} (h : Keep S a w) (k : Keep S w c) : Keep S a c :=
  ⟨k.os.trans h.os, k.tape.trans h.tape, k.output.trans h.output, Nat.le_trans h.size k.size, fun i hi hs => (k.block i (Nat.lt_of_lt_of_le hi h.size) hs).trans (h.block i hi hs)⟩
/-- What the second call may turn need only be said of blocks that were there at first. -/
theorem Keep.then {c : World} (h : Keep S a w) (k : Keep T w c) (hT : ∀ i, i < a.heap.size → T i → S i) : Keep S a c :=
  ⟨k.os.trans h.os, k.tape.trans h.tape, k.output.trans h.output, Nat.le_trans h.size k.size, fun i hi hs => (k.block i (Nat.lt_of_lt_of_le hi h.size) (fun ht => hs (hT i hi ht))).trans (h.block i hi hs)⟩
theorem Keep.mono (h : Keep S w w') (hS : ∀ k, S k → T k) : Keep T w w' := ⟨h.os, h.tape, h.output, h.size, fun k hk hn => h.block k hk (fun hs => hn (hS k hs))⟩
theorem Keep.all (h : Keep nob w w') : Keep S w w' := h.mono (fun _ hf => hf.elim)
theorem Keep.of_below (h : Below w.heap.size w w') : Keep S w w' := ⟨h.os, h.tape, h.output, h.size, fun k hk _ => h.block k hk⟩
theorem Keep.below (h : Keep nob w w') : Below w.heap.size w w' := ⟨h.os, h.tape, h.output, h.size, fun k hk => h.block k hk (fun hf => hf)⟩
theorem Keep.drew (h : Keep S a w) : Keep S a w.drew := ⟨h.os, h.tape, h.output, h.size, h.block⟩
theorem Keep.drewN (h : Keep S a w) (n : Nat) : Keep S a (w.drewN n) := ⟨h.os, h.tape, h.output, h.size, h.block⟩
theorem Keep.alloc (h : Keep S a w) (o : Obj) : Keep S a (w.alloc o) :=
  ⟨h.os, h.tape, h.output, Nat.le_trans h.size (by simp), fun k hk hn => (Below.heap_alloc w o k (Nat.lt_of_lt_of_le hk h.size)).trans (h.block k hk hn)⟩
theorem Keep.setCell (h : Keep S a w) {p : Addr} (hp : a.heap.size ≤ p.block ∨ S p.block) (u : Value) : Keep S a (w.setCell p u) :=
  ⟨h.os, h.tape, h.output, by simpa [World.setCell] using h.size, fun k hk hn => (Below.heap_setCell w p u k (by
    rintro rfl
    rcases hp with hp | hp
    · omega
    · exact hn hp)).trans (h.block k hk hn)⟩
theorem Keep.grown {row : Option Nat} (h : Keep S a w) (hg : w.grownBy w' row) (hr : ∀ k, row = some k → a.heap.size ≤ k ∨ S k) : Keep S a w' :=
  ⟨hg.os.trans h.os, hg.tape.trans h.tape, hg.output.trans h.output, Nat.le_trans h.size hg.size, fun k hk hn => (hg.block k (Nat.lt_of_lt_of_le hk h.size) (by
    intro e
    rcases hr k e.symm with hp | hp
    · omega
    · exact hn hp)).trans (h.block k hk hn)⟩
theorem Keep.cell (h : Keep S w w') {p : Addr} (hp : ¬ S p.block) {v : Value} (hc : w.cell? p = some v) : w'.cell? p = some v := (World.cell?_of_block (w := w) (h.block _ (World.block_lt_of_cell? w p hc) hp)).trans hc
theorem Keep.cell0 (h : Keep nob w w') {p : Addr} {v : Value} (hc : w.cell? p = some v) : w'.cell? p = some v := h.cell (fun hf => hf) hc
theorem Keep.frozen (h : Keep S w w') {p : Addr} (hp : ¬ S p.block) (hl : p.block < w.heap.size) : w'.frozen? p = w.frozen? p := World.frozen?_of_block (w := w) (h.block _ hl hp)
/-- A block of S's that S no more names: it has come back as it was. -/
theorem Keep.heap (h : Keep S w w') {k : Nat} (hk : ¬ S k) {o : Obj} (ho : w.heap[k]? = some o) : w'.heap[k]? = some o := by
  rw [h.block k (Array.getElem?_eq_some_iff.1 ho).1 hk]; exact ho
end

/-- A slice of events. -/
def EvSl (w : World) (v : Value) (l : List Ev) : Prop :=
  (v = .slice none 0 0 ∧ l = []) ∨
  ∃ g o c cur fr, v = .slice (some ⟨g, o, none⟩) l.length c ∧ l.length ≤ c ∧ c ≤ maxLen ∧ w.heap[g]? = some (.cells cur 62 fr) ∧ ∀ j u, (evs l)[j]? = some u → cur[o + j]? = some u

section
variable {S : Nat → Prop} {w w' : World} {v : Value} {l : List Ev}
theorem EvSl.nil (w : World) : EvSl w (.slice none 0 0) [] := .inl ⟨rfl, rfl⟩
theorem EvSl.keep (h : EvSl w v l) (hk : Keep S w w') (hS : ∀ g cur fr, w.heap[g]? = some (.cells cur 62 fr) → ¬ S g) : EvSl w' v l := by
  rcases h with h | ⟨g, o, c, cur, fr, hv, hl, hc, hh, hx⟩
  · exact .inl h
  · exact .inr ⟨g, o, c, cur, fr, hv, hl, hc, hk.heap (hS g cur fr hh) hh, hx⟩
theorem EvSl.keep0 (h : EvSl w v l) (hk : Keep nob w w') : EvSl w' v l := h.keep hk (fun _ _ _ _ hf => hf)
theorem EvSl.heap_eq (h : EvSl w v l) (hk : w'.heap = w.heap) : EvSl w' v l := by
  rcases h with h | ⟨g, o, c, cur, fr, hv, hl, hc, hh, hx⟩
  · exact .inl h
  · exact .inr ⟨g, o, c, cur, fr, hv, hl, hc, by rw [hk]; exact hh, hx⟩
theorem EvSl.of_own {base : Nat} (h : w.ownsRow base 62 12 v l.length (evs l)) : EvSl w v l := by
  obtain ⟨h1, h2⟩ := h
  rcases h2 with ⟨rfl, h0⟩ | ⟨g, cap, cur, rfl, _, hh, hle, hmax, hsz, htake⟩
  · exact .inl ⟨rfl, List.eq_nil_of_length_eq_zero h0⟩
  · refine .inr ⟨g, 0, cap, cur, (0, 0), rfl, hle, hmax, hh, fun j u hu => ?_⟩
    rw [← htake, List.getElem?_take] at hu
    split at hu
    · simpa using hu
    · cases hu
/-- The value's form, in one line for nil and others. -/
theorem EvSl.form (h : EvSl w v l) : ∃ A c, v = .slice A l.length c ∧ l.length ≤ c ∧ c ≤ maxLen ∧
    (A = none ∧ c = 0 ∧ l = [] ∨ ∃ g o cur fr, A = some ⟨g, o, none⟩ ∧ w.heap[g]? = some (.cells cur 62 fr) ∧ ∀ j u, (evs l)[j]? = some u → cur[o + j]? = some u) := by
  rcases h with ⟨rfl, rfl⟩ | ⟨g, o, c, cur, fr, hv, hl, hc, hh, hx⟩
  · exact ⟨none, 0, rfl, Nat.le_refl _, Nat.zero_le _, .inl ⟨rfl, rfl, rfl⟩⟩
  · exact ⟨_, c, hv, hl, hc, .inr ⟨g, o, cur, fr, rfl, hh, hx⟩⟩
end

/-- The cells of element k of a slice of events, laid for a load. -/
theorem ev_cells_at {w : World} {g o : Nat} {t : TypeId} {cur : Array Value} {fr : Nat × Nat} {l : List Ev} (hh : w.heap[g]? = some (.cells cur t fr)) (hx : ∀ j u, (evs l)[j]? = some u → cur[o + j]? = some u) {k : Nat} {e : Ev} (he : l[k]? = some e) :
    ∀ j v, e.cells[j]? = some v → w.cell? ((⟨g, o + k * 12, none⟩ : Addr).add j) = some v := by
  intro j v hv
  have hj : j < 12 := by have := (List.getElem?_eq_some_iff.1 hv).1; rw [Ev.cells_length] at this; exact this
  rw [add_lit, cell_of_row w g _ _ t fr hh, Nat.add_assoc]
  exact hx _ _ (by rw [evs_at l k j e he hj]; exact hv)

/-- The twelve cells of an event, as the walk asks for them. -/
def EvAt (w : World) (g o : Nat) (e : Ev) : Prop :=
  w.cell? ⟨g, o, none⟩ = some (.int .i64 e.R) ∧ w.cell? ⟨g, o + 1, none⟩ = some (.int .i64 e.N) ∧ w.cell? ⟨g, o + 2, none⟩ = some (.int .i64 e.C.c0) ∧ w.cell? ⟨g, o + 3, none⟩ = some (.int .i64 e.C.c1) ∧
  w.cell? ⟨g, o + 4, none⟩ = some (.int .i64 e.C.c2) ∧ w.cell? ⟨g, o + 5, none⟩ = some (.int .i64 e.C.c3) ∧ w.cell? ⟨g, o + 6, none⟩ = some (.int .i64 e.C.c4) ∧ w.cell? ⟨g, o + 7, none⟩ = some (.int .i64 e.H) ∧
  w.cell? ⟨g, o + 8, none⟩ = some (.int .i64 e.K) ∧ w.cell? ⟨g, o + 9, none⟩ = some (.string e.key) ∧ w.cell? ⟨g, o + 10, none⟩ = some (.int .i64 e.lab) ∧ w.cell? ⟨g, o + 11, none⟩ = some (.string e.val)
theorem ev_at {w : World} {g o : Nat} {t : TypeId} {cur : Array Value} {fr : Nat × Nat} {l : List Ev} (hh : w.heap[g]? = some (.cells cur t fr)) (hx : ∀ j u, (evs l)[j]? = some u → cur[o + j]? = some u) {k : Nat} {e : Ev} (he : l[k]? = some e) :
    EvAt w g (o + k * 12) e := by
  have h := ev_cells_at hh hx he
  have h' : ∀ j v, e.cells[j]? = some v → w.cell? ⟨g, o + k * 12 + j, none⟩ = some v := fun j v hv => by rw [← add_lit]; exact h j v hv
  exact ⟨h' 0 _ rfl, h' 1 _ rfl, h' 2 _ rfl, h' 3 _ rfl, h' 4 _ rfl, h' 5 _ rfl, h' 6 _ rfl, h' 7 _ rfl, h' 8 _ rfl, h' 9 _ rfl, h' 10 _ rfl, h' 11 _ rfl⟩

/-- What is owned from a block on is owned from an earlier one on. -/
theorem owns_base {w : World} {base base' : Nat} {e : TypeId} {size n : Nat} {v : Value} {xs : List Value} (h : w.ownsRow base e size v n xs) (hb : base' ≤ base) : w.ownsRow base' e size v n xs := by
  refine ⟨h.1, ?_⟩
  rcases h.2 with h | ⟨g, cap, cur, hv, hg, r⟩
  · exact .inl h
  · exact .inr ⟨g, cap, cur, hv, Nat.le_trans hb hg, r⟩

theorem owns_form {w : World} {base : Nat} {e : TypeId} {size n : Nat} {v : Value} {xs : List Value} (h : w.ownsRow base e size v n xs) : ∃ A c, v = .slice A n c := by
  rcases h.2 with ⟨rfl, rfl⟩ | ⟨g, cap, cur, rfl, _⟩
  · exact ⟨none, 0, rfl⟩
  · exact ⟨_, cap, rfl⟩

theorem heap_set {w : World} {b : Nat} {cs : Array Value} {t : TypeId} (h : w.heap[b]? = some (.cells cs t (0, 0))) (i : Nat) (v : Value) : (w.setCell ⟨b, i, none⟩ v).heap[b]? = some (.cells (cs.setIfInBounds i v) t (0, 0)) := by
  simp [World.setCell, Array.getElem?_modify, h]

/-- A block that is known whole. -/
def Blk (w : World) (g : Nat) (t : TypeId) (cs : List Value) : Prop := w.heap[g]? = some (.cells cs.toArray t (0, 0))
section
variable {w w' : World} {g : Nat} {t : TypeId} {cs : List Value}
theorem Blk.lt (h : Blk w g t cs) : g < w.heap.size := (Array.getElem?_eq_some_iff.1 h).1
theorem Blk.cell (h : Blk w g t cs) (i : Nat) {v : Value} (hv : cs[i]? = some v) : w.cell? ⟨g, i, none⟩ = some v := by
  rw [cell_of_row w g i _ t (0, 0) h]; simpa using hv
theorem Blk.frozen (h : Blk w g t cs) (i : Nat) : w.frozen? ⟨g, i, none⟩ = false := frozen_of_row w g i _ t h
theorem Blk.keep {S : Nat → Prop} (h : Blk w g t cs) (hk : Keep S w w') (hg : ¬ S g) : Blk w' g t cs := hk.heap hg h
theorem Blk.keep0 (h : Blk w g t cs) (hk : Keep nob w w') : Blk w' g t cs := h.keep hk (fun hf => hf)
theorem Blk.new (w : World) (t : TypeId) (cs : List Value) : Blk (w.alloc (.cells cs.toArray t)) w.heap.size t cs := heap_alloc_new w _
theorem Blk.alloc (h : Blk w g t cs) (o : Obj) : Blk (w.alloc o) g t cs := (Below.heap_alloc w o g h.lt).trans h
theorem Blk.drewN (h : Blk w g t cs) (n : Nat) : Blk (w.drewN n) g t cs := h
theorem Blk.drew (h : Blk w g t cs) : Blk w.drew g t cs := h
theorem Blk.set (h : Blk w g t cs) (i : Nat) (v : Value) : Blk (w.setCell ⟨g, i, none⟩ v) g t (cs.set i v) := by
  have := heap_set h i v
  unfold Blk
  rw [this]
  congr 2
  simp
theorem Blk.far (h : Blk w g t cs) {p : Addr} (hp : g ≠ p.block) (v : Value) : Blk (w.setCell p v) g t cs := (heap_setCell_other w p g v hp).trans h
theorem Blk.ne {g' : Nat} {t' : TypeId} {cs' : List Value} (h : Blk w g t cs) (h' : Blk w g' t' cs') (hne : t ≠ t') : g ≠ g' := by
  rintro rfl
  unfold Blk at h h'
  rw [h] at h'
  injection h' with h'
  injection h' with _ ht
  exact hne ht
end

/-- A return of what lies in a block that is known whole. -/
theorem ret_blk {P : Program} {fn : Func} {R : Ending → World → Prop} {a : Act} {W : World} {p : Tmp} {ty : TypeId} {g : Nat} {t : TypeId} {cs : List Value} {d : TypeDesc} (h : fn.results = #[.cell p ty])
    (hp : a.tmps.getD p undef = .pointer (some ⟨g, 0, none⟩)) (hb : Blk W g t cs) (hu : P.underlying ty = some d) (hd : (match d with | .struct _ | .array _ _ => true | _ => false) = true)
    (hi : (P.info? ty).map (·.size) = some cs.length) (hdef : a.defers = []) (hR : R (.returned (.agg cs.toArray)) W) : bodyPost P fn R .ret a W :=
  bodyPost_ret (results_cell_row h _ _ g t cs.toArray (0, 0) d hp hb hu hd (by rw [hi]; simp)) hdef hR

/-- A load of the k cells of cs, in the form at which the walk stands. -/
theorem loads_of (P : Program) (W : World) (a : Addr) (cs : List Value) (k : Nat) (hk : cs.length = k) (h : ∀ j v, cs[j]? = some v → W.cell? (a.add j) = some v) :
    Sem.run P (loadCellsFrom a 0 k #[]) W = .ok cs.toArray W := by
  have := run_loadCells_list (P := P) (w := W) a cs h
  rw [hk] at this
  simpa [loadCells] using this
end Go.Proofs.Ytfhhjabclmkkmaa
