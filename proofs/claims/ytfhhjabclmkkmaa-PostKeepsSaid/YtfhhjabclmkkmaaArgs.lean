/- Arguments opened: a configuration, pairs of bytes. -/
import Derived.Test.YtfhhjabclmkkmaaApart16
import Derived.Test.YtfhhjabclmkkmaaPost
import Derived.WalkKit
import Derived.ProofKit
import Derived.OpenShut
import Derived.Deep.Slices
namespace Go.Proofs.Ytfhhjabclmkkmaa
open Go.ChangeShapes Go.WideShapes Go.ChangeAt Go.RowKit

theorem cfgFields : ∀ i, i < 6 → ∃ f, (Try.prog.fieldsOf 37)[i]? = some f ∧ f.offset = i ∧ Try.prog.cellsOf f.type = 1 ∧ Try.prog.underlying f.type = some (.int .i64) := by
  intro i hi
  match i, hi with
  | 0, _ => exact ⟨_, rfl, rfl, by kernel_rfl, by kernel_rfl⟩
  | 1, _ => exact ⟨_, rfl, rfl, by kernel_rfl, by kernel_rfl⟩
  | 2, _ => exact ⟨_, rfl, rfl, by kernel_rfl, by kernel_rfl⟩
  | 3, _ => exact ⟨_, rfl, rfl, by kernel_rfl, by kernel_rfl⟩
  | 4, _ => exact ⟨_, rfl, rfl, by kernel_rfl, by kernel_rfl⟩
  | 5, _ => exact ⟨_, rfl, rfl, by kernel_rfl, by kernel_rfl⟩
theorem cfgUnd : Try.prog.underlying 37 = some (.struct (Try.prog.fieldsOf 37)) := by kernel_rfl

section
variable {H : Type} {enc : TypeId × Value → H} {w : World} {base : Nat} {spare : Nat → Bool} {held : Bool}
theorem cfg_of {r : Reach} {b0 : Nat} {v : Value} {d : DataW H} {p : List MemPlace} (hv : Value.okWide Try.prog w r b0 37 v) (h : DataW.Trod enc Try.prog w base spare held 37 v d p) : ∃ c0 c1 c2 c3 c4 c5, v = cfg c0 c1 c2 c3 c4 c5 := by
  obtain ⟨cs, rfl, _⟩ := okWide_struct cfgUnd hv
  obtain ⟨fuel, hf⟩ := h
  obtain ⟨zs, hzs, hzl⟩ := trod_int_struct cfgUnd (by kernel_rfl) cfgFields hf
  obtain ⟨c0, c1, c2, c3, c4, c5, rfl⟩ : ∃ c0 c1 c2 c3 c4 c5, zs = [c0, c1, c2, c3, c4, c5] := by
    match zs, hzl with
    | [c0, c1, c2, c3, c4, c5], _ => exact ⟨c0, c1, c2, c3, c4, c5, rfl⟩
  obtain rfl : cs = #[.int .i64 c0, .int .i64 c1, .int .i64 c2, .int .i64 c3, .int .i64 c4, .int .i64 c5] := by
    cases cs
    simpa [Value.cells] using hzs
  exact ⟨c0, c1, c2, c3, c4, c5, rfl⟩

theorem pairs_of {r : Reach} {b0 : Nat} {v : Value} {d : DataW H} {p : List MemPlace} (hv : Value.okWide Try.prog w r b0 59 v) (h : DataW.Trod enc Try.prog w base spare held 59 v d p) : ∃ N, Pairs w v N := by
  obtain ⟨a0, n0, c0, rfl⟩ := okWide_slice Try.underlying59 hv
  obtain ⟨fuel, hf⟩ := h
  have hf' : DataW.trod enc Try.prog w base spare held fuel 59 [.slice a0 n0 c0] = some (d, p) := hf
  rcases Go.Deep.open_slice Try.underlying59 hf' with ⟨hcs, _⟩ | ⟨a, len, cap, m, n, D, Pl, hcs, _, hle, hmx, hmm, _, hi⟩
  · have e : Value.slice a0 n0 c0 = .slice none 0 0 := by simpa using hcs
    injection e with e1 e2 e3
    subst e1 e2 e3
    exact ⟨0, none, 0, rfl, by omega, fun i hi => absurd hi (Nat.not_lt_zero _)⟩
  · have e : Value.slice a0 n0 c0 = .slice (some a) len cap := by simpa using hcs
    injection e with e1 e2 e3
    subst e1 e2 e3
    refine ⟨n0, some a, c0, rfl, by unfold maxLen at hmx; omega, fun i hin r hr => ?_⟩
    have him : i < m := by
      rw [hmm]
      split <;> omega
    obtain ⟨cs', h1, h2⟩ := hi i him
    have hC : Try.prog.cellsOf 60 = 2 := by kernel_rfl
    rw [hC] at h1
    obtain ⟨_, hl, hat⟩ := World.cells?_some h1
    obtain ⟨zs, hzs, hzl, hwf⟩ := trod_int_array Try.underlying60 Try.underlying5 hC (by kernel_rfl) h2
    have h3 := hat r hr
    rw [hzs, List.getElem?_map, List.getElem?_eq_getElem (by omega)] at h3
    have hb := bounds_u8 (hwf _ (List.getElem_mem (l := zs) (n := r) (by omega)))
    exact ⟨a, zs[r]'(by omega), rfl, h3, by omega, by omega⟩
end
end Go.Proofs.Ytfhhjabclmkkmaa
