/- 'kithlaw16.PostKeeps' returns true, for every input: no condition. -/
import Derived.Test.YtfhhjabclmkkmaaRows
import Derived.Test.YtfhhjabclmkkmaaKeeps16
import Derived.Test.YtfhhjabclmkkmaaArgsO
import Derived.Test.YtfhhjabclmkkmaaPost
import Derived.WalkKit
import Derived.ProofKit
import Derived.OpenShut
namespace Go.Proofs.Ytfhhjabclmkkmaa.postKeeps
open Go.ChangeShapes Go.WideShapes Go.ChangeAt Go.RowKit Go.Proofs.Ytfhhjabclmkkmaa

theorem op_of {H : Type} {enc : TypeId × Value → H} {w : World} {base : Nat} {spare : Nat → Bool} {held : Bool} {r : Reach} {b0 : Nat} {v : Value} {d : DataW H} {p : List MemPlace} (hv : Value.okWide Try.prog w r b0 42 v) (h : DataW.Trod enc Try.prog w base spare held 42 v d p) :
    ∃ xk xm xb R C xl, v = opAgg xk xm xb R C xl := by
  obtain ⟨cs, rfl, _⟩ := okWide_struct opUnd hv
  obtain ⟨fuel, hf⟩ := h
  obtain ⟨hl, y, _, _, _, h3, h4⟩ := op_cells hf
  obtain ⟨cl⟩ := cs
  have hcl : (Value.cells (.agg ⟨cl⟩)).toList = cl := rfl
  rw [hcl] at hl h3 h4
  match cl, hl, h3, h4 with
  | [a0, a1, a2, a3, a4, a5, a6, a7, a8, a9], _, h3, h4 =>
    have e3 : a3 = .int .i64 y.R := by simpa using h3
    have e4 : a4 = .int .i64 y.C.c0 := by have := h4 0 (by omega); simpa [Clk.get] using this
    have e5 : a5 = .int .i64 y.C.c1 := by have := h4 1 (by omega); simpa [Clk.get] using this
    have e6 : a6 = .int .i64 y.C.c2 := by have := h4 2 (by omega); simpa [Clk.get] using this
    have e7 : a7 = .int .i64 y.C.c3 := by have := h4 3 (by omega); simpa [Clk.get] using this
    have e8 : a8 = .int .i64 y.C.c4 := by have := h4 4 (by omega); simpa [Clk.get] using this
    subst e3 e4 e5 e6 e7 e8
    exact ⟨a0, a1, a2, y.R, y.C, a9, rfl⟩

theorem own : ownKnob Try.prog.godebug = none := by kernel_rfl

set_option maxRecDepth 100000 in
theorem lifted (os : Os) (started : os.Started) (H : Type) (enc : TypeId × Value → H) :
    ReturnsInHanded {} Try.checked os 5 .any (Rows.postKeepsSpec.pre6 enc Try.prog Try.f5 Rows.postKeepsRow.domain false) (Rows.postKeepsSpec.post enc Try.prog Try.f5 false true false false) := by
  refine returnsInHanded_of_change (C := Try.checked) own started (by kernel_rfl) Try.func5
    (ChangeSpec.witness6 (enc := enc) (C := Try.checked) false ⟨#[], #[.agg #[.int .i64 0, .int .i64 0, .int .i64 0, .int .i64 0, .int .i64 0, .int .i64 0], .slice none 0 0, .agg #[.int .u8 0, .int .u8 0, .int .u8 0, .int .i64 0, .int .i64 0, .int .i64 0, .int .i64 0, .int .i64 0, .int .i64 0, .slice none 0 0]], []⟩ 8 (by kernel_rfl) (by kernel_rfl) (by kernel_rfl) (by kernel_rfl)) ?_
  intro W base args ds gs before hval0 hW hcnd _
  have hval : ∀ (j : Nat) t v, Try.f5.params[j]? = some t → args[j]? = some v → Value.okWide Try.prog W .any base t v := hval0
  have hW' := hW
  obtain ⟨p, q, hA0, hV, rfl, hfz, hnd⟩ := hW
  have hA : DataW.TrodAll enc Try.prog W 0 (fun _ => true) true Try.f5.params.toList args.toList ds p := hA0
  rw [Try.params5] at hA hval
  have hAA := hA
  obtain ⟨v0, vs0, d0, ds0, p0, q0, hargs, rfl, rfl, h0, r0⟩ := trodAll_cons hA
  obtain ⟨v1, vs1, d1, ds1, p1, q1, rfl, rfl, rfl, h1, r1⟩ := trodAll_cons r0
  obtain ⟨v2, vs2, d2, ds2, p2, q2, rfl, rfl, rfl, h2, r2⟩ := trodAll_cons r1
  obtain ⟨rfl, rfl, rfl⟩ := trodAll_nil r2
  obtain rfl : args = #[v0, v1, v2] := by cases args; simp_all
  obtain ⟨rfl, rfl⟩ := trodVars_none hV
  obtain ⟨c0, c1, c2, c3, c4, c5, rfl⟩ := cfg_of (hval 0 37 v0 rfl rfl) h0
  obtain ⟨N, hops⟩ := ops_of (hval 1 38 v1 rfl rfl) h1
  obtain ⟨xk, xm, xb, R, C, xl, rfl⟩ := op_of (hval 2 42 v2 rfl rfl) h2
  clear hA0 hval0
  simp only [List.append_nil] at hW'
  refine (postKeeps_any c0 c1 c2 c3 c4 c5 v1 N xk xm xb xl R C W hops).mono fun e W' ⟨he, hg⟩ => ?_
  subst he
  simp only [List.append_nil] at hAA
  have hlt : ∀ p ∈ p0 ++ (p1 ++ p2), p.block < W.heap.size := fun p hp => hW'.lt p hp
  have hback : ∀ sp : Nat → Bool, (∀ p ∈ p0 ++ (p1 ++ p2), sp p.block = true) → DataW.TrodAll enc Try.prog W' 0 sp true [37, 38, 42] [cfg c0 c1 c2 c3 c4 c5, v1, opAgg xk xm xb R C xl] [d0, d1, d2] (p0 ++ (p1 ++ p2)) :=
    fun sp hsp => trodAll_stays (by kernel_rfl) _ _ _ _ (by
      intro t ht
      simp at ht
      rcases ht with rfl | rfl | rfl
      · exact ⟨by kernel_rfl, of_decide_eq_true (by kernel_rfl)⟩
      · exact ⟨by kernel_rfl, of_decide_eq_true (by kernel_rfl)⟩
      · exact ⟨by kernel_rfl, of_decide_eq_true (by kernel_rfl)⟩) hAA (fun p hp => hg.below.same (hlt p hp)) hsp
  exact ⟨_, rfl, post_of_below (pa := p0 ++ (p1 ++ p2)) (pv := []) hW' (fun _ _ _ => (trodAll_cons_mk (shut_bool Try.underlying4 _) trodAll_mk0)) (fun sp hsp => hback sp (fun p hp => hsp p hp)) (fun _ _ => rfl) (by simp)
    hg.below (ok_one (by kernel_rfl) rfl (okWide_bool_mk Try.underlying4 _))⟩

theorem over : Rows.postKeepsRow.holds Try.pinned (OpenSpec.ofChange Rows.postKeepsSpec) :=
  OpenClaim.holds_of_wide 5 Try.f5 rfl rfl rfl rfl rfl rfl rfl ⟨rfl, rfl, rfl, rfl, rfl⟩ rfl rfl rfl rfl rfl (by kernel_rfl) Try.func5 (by kernel_rfl)
    (of_decide_eq_true (by kernel_rfl)) (by unfold Func.isWrapper; first | (rw [if_pos (by decide +kernel)]; kernel_rfl) | (rw [if_neg (by decide +kernel)]; exact ⟨rfl, rfl⟩))
    (fun os started H enc _ => lifted os started H enc)

/-- The statement. -/
theorem proved : Rows.PostKeepsSaid :=
  over
#print axioms proved
end Go.Proofs.Ytfhhjabclmkkmaa.postKeeps
