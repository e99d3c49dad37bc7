/- A new variable of many cells, laid and filled in one step, the world behind it a letter. -/
import Derived.Test.YtfhhjabclmkkmaaWords
import Derived.Laws.Tables
import Derived.Laws.Rows
import Derived.BigQuiet
namespace Go.Proofs.Ytfhhjabclmkkmaa
open Go.RowKit Go.Proofs

section
variable {P : Program}
theorem Blk.setRow {w : World} {g : Nat} {t : TypeId} {cs : List Value} (h : Blk w g t cs) (ds : List Value) : Blk (w.setRow g ds.toArray) g t ds := setRow_heap w g _ _ t _ h
theorem Keep.setRow {S : Nat → Prop} {a w : World} (h : Keep S a w) {g : Nat} (hg : a.heap.size ≤ g ∨ S g) (ds : Array Value) : Keep S a (w.setRow g ds) :=
  ⟨h.os, h.tape, h.output, by simpa [World.setRow] using h.size, fun k hk hn => (setRow_other w g k ds (by
    rintro rfl
    rcases hg with hg | hg
    · omega
    · exact hn hg)).trans (h.block k hk hn)⟩

theorem wpList_allocZ {ops : Array Oper} {rest : List Oper} {o : Oper} {a : Act} {w : World} {Q : Exit → Act → World → Prop} (hg : o.guard = none) (t : TypeId) (ho : o.op = .alloc t) (cells : Array Value)
    (hz : ((P.info? t).bind (·.zero)).map (·.cells) = some cells)
    (h : wpList P ops Q rest (a.put o.dst (.pointer (some ⟨w.heap.size, 0, none⟩))) (w.alloc (.cells cells t))) : wpList P ops Q (o :: rest) a w := by
  refine wpList_plain hg fun K hK => ?_
  cases hi : P.info? t with
  | none => simp [hi] at hz
  | some i =>
    cases hzz : i.zero with
    | none => simp [hi, hzz] at hz
    | some z =>
      have hc : z.cells = cells := by simpa [hi, hzz] using hz
      unfold Oper.wp execOp
      simp only [ho, Sem.run_bind, Instr.alloc, zeroValue, typeInfo, newVar, newRow]
      simp [hi, hzz, hc]
      exact hK _ _ h

/-- 'x := v' of many cells. -/
theorem wpList_newvar {ops : Array Oper} {rest : List Oper} {o o' : Oper} {a : Act} {w : World} {Q : Exit → Act → World → Prop} (hg : o.guard = none) (hg' : o'.guard = none) (t : TypeId) (d : Tmp) (ho : o.op = .alloc t) (hd : o.dst = some d)
    (y : Operand) (ho' : o'.op = .store t (.tmp d) y) (hd' : o'.dst = none) (cells : List Value) (n : Nat)
    (hx : (a.put (some d) (.pointer (some ⟨w.heap.size, 0, none⟩))).eval (.tmp d) = .pointer (some ⟨w.heap.size, 0, none⟩)) (hy : (a.put (some d) (.pointer (some ⟨w.heap.size, 0, none⟩))).eval y = .agg cells.toArray)
    (hz : (((P.info? t).bind (·.zero)).map (·.cells.size)) = some n) (hi : (P.info? t).map (·.size) = some n) (hl : cells.length = n) (h1 : ∀ v ∈ cells, v.oneCell' = true)
    (h : ∀ w', Blk w' w.heap.size t cells → Keep nob w w' → w'.heap.size = w.heap.size + 1 → wpList P ops Q rest (a.put (some d) (.pointer (some ⟨w.heap.size, 0, none⟩))) w') : wpList P ops Q (o :: o' :: rest) a w := by
  cases hzz : (P.info? t).bind (·.zero) with
  | none => rw [hzz] at hz; cases hz
  | some z =>
    rw [hzz] at hz
    have hzn : z.cells.size = n := by simpa using hz
    refine wpList_allocZ hg t ho z.cells (by rw [hzz]; rfl) ?_
    rw [hd]
    have hb : Blk (w.alloc (.cells z.cells t)) w.heap.size t z.cells.toList := by
      have := Blk.new w t z.cells.toList
      rw [Array.toArray_toList] at this
      exact this
    refine wpList_store_row hg' t (.tmp d) y ho' w.heap.size cells.toArray hx hy t z.cells (heap_alloc_new w _) (by rw [hi]; simp [hl]) (by simp [hzn, hl]) (Array.all_eq_true_iff_forall_mem.2 (fun v hv => h1 v (by simpa using hv))) ?_
    rw [hd']
    exact h _ (hb.setRow cells) (((Keep.refl _ _).alloc _).setRow (.inl (Nat.le_refl _)) _) (by simp [World.setRow])

/-- 'var x T' of many cells. -/
theorem wpList_zvar {ops : Array Oper} {rest : List Oper} {o : Oper} {a : Act} {w : World} {Q : Exit → Act → World → Prop} (hg : o.guard = none) (t : TypeId) (ho : o.op = .alloc t) (n : Nat)
    (hz : (((P.info? t).bind (·.zero)).map (·.cells.size)) = some n)
    (h : ∀ w' old, Blk w' w.heap.size t old → old.length = n → Keep nob w w' → w'.heap.size = w.heap.size + 1 → wpList P ops Q rest (a.put o.dst (.pointer (some ⟨w.heap.size, 0, none⟩))) w') : wpList P ops Q (o :: rest) a w := by
  cases hzz : (P.info? t).bind (·.zero) with
  | none => rw [hzz] at hz; cases hz
  | some z =>
    rw [hzz] at hz
    have hzn : z.cells.size = n := by simpa using hz
    refine wpList_allocZ hg t ho z.cells (by rw [hzz]; rfl) ?_
    have hb : Blk (w.alloc (.cells z.cells t)) w.heap.size t z.cells.toList := by
      have := Blk.new w t z.cells.toList
      rw [Array.toArray_toList] at this
      exact this
    exact h _ _ hb (by simpa using hzn) ((Keep.refl _ _).alloc _) (by simp)

/-- A load of a variable of many cells, in a region that only reads. -/
theorem quiet_loadrow {C : World → Prop} {K : Act → Prop} {a : Act} {o : Oper} (t : TypeId) (x : Operand) (ho : o.op = .load t x) (g : Nat) (hx : a.eval x = .pointer (some ⟨g, 0, none⟩)) (cs : List Value) (hC : ∀ w, C w → Blk w g t cs)
    (ds : TypeDesc) (hu : P.underlying t = some ds) (hr : (match ds with | .struct _ | .array _ _ => true | _ => false) = true) (hi : (P.info? t).map (·.size) = some cs.length) (hk : K (a.put o.dst (.agg cs.toArray))) : o.quiet P a C K :=
  ⟨.agg cs.toArray, fun w hw => by
    unfold Oper.quietAt execOp
    simp only [ho, hx, Instr.loadAt, Instr.sureAddr, Sem.run_bind, Sem.run_pure, Result.andThen_ok, run_loadVar_row w g t t cs.toArray (0, 0) ds (hC w hw) hu hr (by rw [hi]; simp)]
    exact ⟨rfl, rfl⟩, hk⟩

/-- A world behind w, in which all that lay in w lies as it did. -/
structure Later (w : World) where
  val : World
  keep : Keep nob w val
instance (w : World) : Nonempty (Later w) := ⟨⟨w, Keep.refl _ _⟩⟩

/-- A region that only reads, or calls what lays new blocks alone: one walk, in the text's order. -/
theorem wp_region_keep {id : Nat} {Q : Exit → Act → World → Prop} {a : Act} {w : World} {l : List Oper} (hm : P.follows .mixedOrders = true) (hB : Region.lexB .any l.toArray = true)
    (h : wpQuiet P l.toArray (fun w' => ∃ n : Later w, w' = n.val) (fun a' => ∀ w', (∃ n : Later w, w' = n.val) → Q .normal a' w') l a) : (Code.region id l.toArray true).wp P Q a w :=
  wp_region_quiet (C := fun w' => ∃ n : Later w, w' = n.val) hm hB ⟨⟨_, (Keep.refl nob w).drew⟩, rfl⟩ (by simpa using h)

/-- A call that answers the same in each such world. -/
theorem quiet_callfn {C : World → Prop} {K : Act → Prop} {a : Act} {o : Oper} (f : FuncId) (x : Operand) (t : TypeId) (ho : o.op = .call { callee := .value (.func f), args := #[x], argTypes := #[t] }) (u : Value) (hx : a.eval x = u)
    (hf : ∀ args w, (callFunc f args).run P w = .ok (.enter f args) w) (v : Value) (hcall : ∀ w, C w → Calls P f #[u] w fun e w'' => e = .returned v ∧ C w'') (hk : K (a.put o.dst v)) : o.quiet P a C K :=
  ⟨v, fun w hw => by
    unfold Oper.quietAt
    have hr : (execOp a.eval o).run P w = .ok (.enter f #[u]) w := by
      have e1 : a.eval (.func f) = .func (.func f) #[] #[] := rfl
      simp [execOp, ho, resolve, invoke, hx, e1, Deferred.ofValue, hf]
    rw [hr]
    exact ⟨rfl, hcall w hw⟩, hk⟩

/-- A copy of a variable of many cells into another one. -/
theorem wpList_copyvar {ops : Array Oper} {rest : List Oper} {o o' : Oper} {a : Act} {w : World} {Q : Exit → Act → World → Prop} (hg : o.guard = none) (hg' : o'.guard = none) (t : TypeId) (d : Tmp) (x y : Operand) (ho : o.op = .load t x) (hd : o.dst = some d)
    (ho' : o'.op = .store t y (.tmp d)) (hd' : o'.dst = none) (g g' : Nat) (cells old : List Value) (hb : Blk w g t cells) (hb' : Blk w g' t old)
    (hx : a.eval x = .pointer (some ⟨g, 0, none⟩)) (hy : (a.put (some d) (.agg cells.toArray)).eval y = .pointer (some ⟨g', 0, none⟩)) (hz : (a.put (some d) (.agg cells.toArray)).eval (.tmp d) = .agg cells.toArray)
    (ds : TypeDesc) (hu : P.underlying t = some ds) (hr : (match ds with | .struct _ | .array _ _ => true | _ => false) = true) (hi : (P.info? t).map (·.size) = some cells.length) (hl : old.length = cells.length) (h1 : ∀ v ∈ cells, v.oneCell' = true)
    (h : ∀ w', Blk w' g' t cells → Keep (oneb g') w w' → wpList P ops Q rest (a.put (some d) (.agg cells.toArray)) w') : wpList P ops Q (o :: o' :: rest) a w := by
  refine wpList_load_row hg t x ho g hx t cells.toArray (0, 0) ds hb hu hr (by rw [hi]; simp) ?_
  rw [hd]
  refine wpList_store_row hg' t y (.tmp d) ho' g' cells.toArray hy hz t old.toArray hb' (by rw [hi]; simp) (by simp [hl]) (Array.all_eq_true_iff_forall_mem.2 (fun v hv => h1 v (by simpa using hv))) ?_
  rw [hd']
  exact h _ (hb'.setRow cells) ((Keep.refl (oneb g') _).setRow (.inr (show oneb g' g' from rfl)) _)
end
end Go.Proofs.Ytfhhjabclmkkmaa
