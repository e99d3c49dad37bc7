/- The fields of what Site tells. -/
import Derived.Test.YtfhhjabclmkkmaaPostS
import Derived.Test.YtfhhjabclmkkmaaEq
namespace Go.Proofs.Ytfhhjabclmkkmaa
open Go.RowKit Go.Proofs

theorem fieldsSite : (Try.prog.fieldsOf 51).map (fun f => (f.type, f.offset)) = #[(4, 0), (40, 1), (40, 6), (46, 11)] := by kernel_rfl
theorem undSite : Try.prog.underlying 51 = some (.struct (Try.prog.fieldsOf 51)) := by kernel_rfl

theorem run_field_at {P : Program} {t : TypeId} {fs : Array Field} (hu : P.underlying t = some (.struct fs)) (k : Nat) (ft : TypeId) (off : Nat) (hf : fs[k]?.map (fun f => (f.type, f.offset)) = some (ft, off)) (cs : Array Value) (W : World) :
    (Instr.field t (.agg cs) k).run P W = (part ft cs off).run P W := by
  cases hk : fs[k]? with
  | none => rw [hk] at hf; cases hf
  | some f =>
    rw [hk] at hf
    have h1 : f.type = ft ∧ f.offset = off := by simpa using hf
    simp [Instr.field, run_underlying hu, hk, asAgg, h1.1, h1.2]

theorem field_b (s : Site) (W : World) : (Instr.field 51 (.agg s.cells.toArray) 1).run Try.prog W = .ok (.agg #[.int .i64 s.b.c0, .int .i64 s.b.c1, .int .i64 s.b.c2, .int .i64 s.b.c3, .int .i64 s.b.c4]) W := by
  rw [run_field_at undSite 1 40 1 (by kernel_rfl)]
  have a := Try.isAgg40
  have z := Try.sizeOf40
  simp [part, a, z, Site.cells, Clk.cells]
theorem field_l (s : Site) (W : World) : (Instr.field 51 (.agg s.cells.toArray) 2).run Try.prog W = .ok (.agg #[.int .i64 s.l.c0, .int .i64 s.l.c1, .int .i64 s.l.c2, .int .i64 s.l.c3, .int .i64 s.l.c4]) W := by
  rw [run_field_at undSite 2 40 6 (by kernel_rfl)]
  have a := Try.isAgg40
  have z := Try.sizeOf40
  simp [part, a, z, Site.cells, Clk.cells]

/-- A site is the same as itself. -/
theorem eq_acks (d : Nat) (a b : Nat → Clk) (w : World) : (Op.equalIn (d + 3) 46 (.agg (ackCells 5 a).toArray) (.agg (ackCells 5 b).toArray)).run Try.prog w = .ok ((List.range 5).all fun i => a i == b i) w := by
  rw [run_equalIn_array (P := Try.prog) w (d + 2) 46 5 40 5 _ _ (fun i => a i == b i) Try.underlying46 Try.sizeOf40]
  have g := Try.isAgg40
  have z := Try.sizeOf40
  intro i hi w
  refine ⟨.agg (a i).cells.toArray, .agg (b i).cells.toArray, ?_, ?_, eq_clk d (a i) (b i) w⟩
  · match i, hi with
    | 0, _ => simp [part, g, z, ackCells, List.range_succ, Clk.cells]
    | 1, _ => simp [part, g, z, ackCells, List.range_succ, Clk.cells]
    | 2, _ => simp [part, g, z, ackCells, List.range_succ, Clk.cells]
    | 3, _ => simp [part, g, z, ackCells, List.range_succ, Clk.cells]
    | 4, _ => simp [part, g, z, ackCells, List.range_succ, Clk.cells]
  · match i, hi with
    | 0, _ => simp [part, g, z, ackCells, List.range_succ, Clk.cells]
    | 1, _ => simp [part, g, z, ackCells, List.range_succ, Clk.cells]
    | 2, _ => simp [part, g, z, ackCells, List.range_succ, Clk.cells]
    | 3, _ => simp [part, g, z, ackCells, List.range_succ, Clk.cells]
    | 4, _ => simp [part, g, z, ackCells, List.range_succ, Clk.cells]
theorem eq_site (d : Nat) (s : Site) (w : World) : (Op.equalIn (d + 4) 51 (.agg s.cells.toArray) (.agg s.cells.toArray)).run Try.prog w = .ok true w := by
  have hp : Try.prog.stoodInHeld 51 = false := by kernel_rfl
  have u4 := Try.underlying4
  have a4 := Try.isAgg4
  have z4 := Try.sizeOf4
  have ac := Try.isAgg40
  have zc := Try.sizeOf40
  have aa := Try.isAgg46
  have za := Try.sizeOf46
  rw [run_equalIn_agg w (d + 3) 51 _ _ undSite hp]
  simp only [Program.fieldsOf, Try.underlying51]
  have h1 := eq_clk (d + 1) s.b s.b w
  have h2 := eq_clk (d + 1) s.l s.l w
  have h3 := eq_acks d s.a s.a w
  have h4 : (List.range 5).all (fun i => s.a i == s.a i) = true := by simp
  rw [h4] at h3
  simp only [beq_self_eq_true] at h1 h2
  simp only [Clk.cells, ackCells, List.range_succ, List.range_zero, List.nil_append, List.flatMap_cons, List.flatMap_nil, List.append_nil, List.cons_append] at h1 h2 h3
  simp [Op.eqFields, part, go_sem, u4, a4, z4, ac, zc, aa, za, Site.cells, Clk.cells, ackCells, List.range_succ]
  simp only [h1, h2, h3, Result.andThen_ok]
  simp
theorem neq_site (s : Site) (w : World) : (binOp .neq 51 (.agg s.cells.toArray) (.agg s.cells.toArray)).run Try.prog w = .ok (.bool false) w := by
  have h := eq_site 9996 s w
  rw [run_neq_struct, h]
  rfl
theorem guard_site : Try.prog.eqGuardType Try.prog.depth 51 = false := by kernel_rfl

theorem index_clk (c : Clk) (k : Nat) (z : Int) (hz : z = k) (hk : k < 5) (W : World) : (Instr.index 40 (.agg #[.int .i64 c.c0, .int .i64 c.c1, .int .i64 c.c2, .int .i64 c.c3, .int .i64 c.c4]) (.int .i64 z)).run Try.prog W = .ok (.int .i64 (c.get k)) W := by
  subst hz
  have a := Try.isAgg3
  have zz := Try.sizeOf3
  match k, hk with
  | 0, _ => simp [Instr.index, part, a, zz, go_sem, run_underlying Try.underlying40, asIntOf, Clk.get]
  | 1, _ => simp [Instr.index, part, a, zz, go_sem, run_underlying Try.underlying40, asIntOf, Clk.get]
  | 2, _ => simp [Instr.index, part, a, zz, go_sem, run_underlying Try.underlying40, asIntOf, Clk.get]
  | 3, _ => simp [Instr.index, part, a, zz, go_sem, run_underlying Try.underlying40, asIntOf, Clk.get]
  | 4, _ => simp [Instr.index, part, a, zz, go_sem, run_underlying Try.underlying40, asIntOf, Clk.get]
end Go.Proofs.Ytfhhjabclmkkmaa
