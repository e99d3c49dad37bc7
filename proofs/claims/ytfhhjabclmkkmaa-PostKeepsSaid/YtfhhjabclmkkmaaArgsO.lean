/- Arguments opened: a slice of operations. -/
import Derived.Test.YtfhhjabclmkkmaaAgain16
import Derived.Test.YtfhhjabclmkkmaaArgs
namespace Go.Proofs.Ytfhhjabclmkkmaa
open Go.ChangeShapes Go.WideShapes Go.ChangeAt Go.RowKit

theorem opUnd : Try.prog.underlying 42 = some (.struct (Try.prog.fieldsOf 42)) := by kernel_rfl
theorem opF (j : Nat) (t : TypeId) (off : Nat) (h : (Try.prog.fieldsOf 42)[j]?.map (fun f => (f.type, f.offset)) = some (t, off)) : ∃ f, (Try.prog.fieldsOf 42)[j]? = some f ∧ f.type = t ∧ f.offset = off := by
  cases hk : (Try.prog.fieldsOf 42)[j]? with
  | none => rw [hk] at h; cases h
  | some f =>
    rw [hk] at h
    have h1 : f.type = t ∧ f.offset = off := by simpa using h
    exact ⟨f, rfl, h1.1, h1.2⟩

theorem bounds_i64' {z : Int} (h : (Lit.int .i64 z).wf = true) : -9223372036854775808 ≤ z ∧ z ≤ 9223372036854775807 := by
  have := bounds_i64 h
  omega

section
variable {H : Type} {enc : TypeId × Value → H} {w : World} {base : Nat} {spare : Nat → Bool} {held : Bool}
/-- The cells of an operation. -/
theorem op_cells {fuel : Nat} {cs : List Value} {x : DataW H × List MemPlace} (h : DataW.trod enc Try.prog w base spare held fuel 42 cs = some x) :
    cs.length = 10 ∧ ∃ y : OpV, OpV.ok y ∧ cs[0]? = some (.int .u8 y.kind) ∧ cs[1]? = some (.int .u8 y.many) ∧ cs[3]? = some (.int .i64 y.R) ∧ ∀ k, k < 5 → cs[4 + k]? = some (.int .i64 (y.C.get k)) := by
  obtain ⟨xs, m, _, _, hl, hxl, hi⟩ := DataW.trod_struct opUnd h
  have hC : Try.prog.cellsOf 42 = 10 := by kernel_rfl
  rw [hC] at hl
  have one : ∀ (j : Nat) (t : TypeId) (k : IntKind) (off : Nat), (Try.prog.fieldsOf 42)[j]?.map (fun (f : Field) => (f.type, f.offset)) = some (t, off) → Try.prog.cellsOf t = 1 → Try.prog.underlying t = some (.int k) → off < 10 → ∃ z, cs[off]? = some (.int k z) ∧ (Lit.int k z).wf = true := by
    intro j t k off hf hc hu ho
    obtain ⟨f, hf1, rfl, rfl⟩ := opF j t off hf
    have h1 := hi j f hf1
    rw [hc] at h1
    have h2 : (cs.drop f.offset).take 1 = [cs[f.offset]'(by omega)] := by
      rw [List.drop_eq_getElem_cons (by omega)]
      rfl
    have hlt : j < (Try.prog.fieldsOf 42).size := (Array.getElem?_eq_some_iff.1 hf1).1
    rw [h2, List.getElem?_eq_getElem (by omega : j < xs.length)] at h1
    obtain ⟨z, e0, _, wz⟩ := DataW.trod_int hu h1
    have e1 : cs[f.offset]'(by omega) = .int k z := by simpa using e0
    exact ⟨z, by rw [List.getElem?_eq_getElem (by omega), e1], wz⟩
  obtain ⟨kd, hk0, wk⟩ := one 0 5 .u8 0 (by kernel_rfl) (by kernel_rfl) Try.underlying5 (by omega)
  obtain ⟨mn, hm0, wm⟩ := one 1 5 .u8 1 (by kernel_rfl) (by kernel_rfl) Try.underlying5 (by omega)
  obtain ⟨rr, hr0, wr⟩ := one 3 3 .i64 3 (by kernel_rfl) (by kernel_rfl) Try.underlying3 (by omega)
  obtain ⟨f, hf1, hft, hfo⟩ := opF 4 40 4 (by kernel_rfl)
  have h1 := hi 4 f hf1
  have hlt : 4 < (Try.prog.fieldsOf 42).size := (Array.getElem?_eq_some_iff.1 hf1).1
  have hCk : Try.prog.cellsOf 40 = 5 := by kernel_rfl
  rw [hft, hfo, hCk, List.getElem?_eq_getElem (by omega : 4 < xs.length)] at h1
  obtain ⟨zs, hzs, hzl, _⟩ := trod_int_array Try.underlying40 Try.underlying3 hCk (by kernel_rfl) h1
  obtain ⟨z0, z1, z2, z3, z4, rfl⟩ : ∃ z0 z1 z2 z3 z4, zs = [z0, z1, z2, z3, z4] := by
    match zs, hzl with
    | [z0, z1, z2, z3, z4], _ => exact ⟨z0, z1, z2, z3, z4, rfl⟩
  have bk := bounds_u8 wk
  have bm := bounds_u8 wm
  have br := bounds_i64' wr
  refine ⟨hl, ⟨kd, mn, 0, rr, ⟨z0, z1, z2, z3, z4⟩⟩, ⟨⟨by show 0 ≤ kd; omega, by show kd < 256; omega⟩, ⟨by show 0 ≤ mn; omega, by show mn < 256; omega⟩, br.1, br.2⟩, hk0, hm0, hr0, fun k hk => ?_⟩
  have h2 : ((cs.drop 4).take 5)[k]? = some (.int .i64 ((⟨z0, z1, z2, z3, z4⟩ : Clk).get k)) := by
    rw [hzs]
    exact Clk.cells_at ⟨z0, z1, z2, z3, z4⟩ k hk
  rw [List.getElem?_take, if_pos hk, List.getElem?_drop] at h2
  exact h2

theorem ops_of {r : Reach} {b0 : Nat} {v : Value} {d : DataW H} {p : List MemPlace} (hv : Value.okWide Try.prog w r b0 38 v) (h : DataW.Trod enc Try.prog w base spare held 38 v d p) : ∃ N, Ops w v N := by
  obtain ⟨a0, n0, c0, rfl⟩ := okWide_slice Try.underlying38 hv
  obtain ⟨fuel, hf⟩ := h
  have hf' : DataW.trod enc Try.prog w base spare held fuel 38 [.slice a0 n0 c0] = some (d, p) := hf
  rcases Go.Deep.open_slice Try.underlying38 hf' with ⟨hcs, _⟩ | ⟨a, len, cap, m, n, D, Pl, hcs, _, hle, hmx, hmm, _, hi⟩
  · have e : Value.slice a0 n0 c0 = .slice none 0 0 := by simpa using hcs
    injection e with e1 e2 e3
    subst e1 e2 e3
    exact ⟨0, none, 0, rfl, by omega, fun i hi => absurd hi (Nat.not_lt_zero _)⟩
  · have e : Value.slice a0 n0 c0 = .slice (some a) len cap := by simpa using hcs
    injection e with e1 e2 e3
    subst e1 e2 e3
    refine ⟨n0, some a, c0, rfl, by unfold maxLen at hmx; omega, fun i hin => ?_⟩
    have him : i < m := by
      rw [hmm]
      split <;> omega
    obtain ⟨cs', h1, h2⟩ := hi i him
    have hC : Try.prog.cellsOf 42 = 10 := by kernel_rfl
    rw [hC] at h1
    obtain ⟨_, hl, hat⟩ := World.cells?_some h1
    obtain ⟨_, y, hy, q0, q1, q3, q4⟩ := op_cells h2
    obtain ⟨g, o, sp⟩ := a
    have hsp : sp = none := by
      obtain ⟨cs0, g1, g2⟩ := hi 0 (by omega)
      rw [hC] at g1
      obtain ⟨_, _, gat⟩ := World.cells?_some g1
      obtain ⟨_, y0, _, r0, _⟩ := op_cells g2
      have h0 := gat 0 (by omega)
      rw [r0] at h0
      have := World.cell?_spot h0
      simpa [Addr.add] using this
    subst hsp
    have hcell : ∀ j u, j < 10 → cs'[j]? = some u → w.cell? ⟨g, o + i * 10 + j, none⟩ = some u := by
      intro j u hj hu
      have := hat j hj
      rw [add_lit, add_lit, hu] at this
      exact this
    refine ⟨g, o, y, rfl, hy, hcell 0 _ (by omega) q0, hcell 1 _ (by omega) q1, hcell 3 _ (by omega) q3, hcell 4 _ (by omega) (q4 0 (by omega)), ?_, ?_, ?_, ?_⟩
    · exact hcell 5 _ (by omega) (q4 1 (by omega))
    · exact hcell 6 _ (by omega) (q4 2 (by omega))
    · exact hcell 7 _ (by omega) (q4 3 (by omega))
    · exact hcell 8 _ (by omega) (q4 4 (by omega))
end
end Go.Proofs.Ytfhhjabclmkkmaa
