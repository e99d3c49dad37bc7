/- 'kithlaw15.ShelfCuts' returns true, for every input: no condition. -/
import Derived.Test.YtieaibfojogaiaaRows
import Derived.Test.YtieaibfojogaiaaCuts15
import Derived.Test.YtieaibfojogaiaaPost
import Derived.WalkKit
import Derived.ProofKit
import Derived.OpenShut
namespace Go.Proofs.Ytieaibfojogaiaa.shelfCuts
open Go.ChangeShapes Go.WideShapes Go.ChangeAt Go.RowKit Go.Proofs.Ytieaibfojogaiaa

theorem own : ownKnob Try.prog.godebug = none := by kernel_rfl

theorem walk (a0 : Int) (a1 : Int) (x0 x1 : Int) (w0 : (Lit.int .u8 a0).wf = true) (w1 : (Lit.int .u8 a1).wf = true) (w : World) :
    Calls Try.prog 4 #[.int .u8 a0, .int .u8 a1, .agg #[.int .i64 x0, .int .i64 x1]] w fun e w' => e = .returned (.bool true) ∧ Keep nob w w' := by
  have b0 := bounds_u8 w0
  have b1 := bounds_u8 w1
  exact shelfCuts_any a0 a1 x0 x1 w (by omega) (by omega)

set_option maxRecDepth 100000 in
theorem lifted (os : Os) (started : os.Started) (H : Type) (enc : TypeId × Value → H) :
    ReturnsInHanded {} Try.checked os 4 .any (Rows.shelfCutsSpec.pre6 enc Try.prog Try.f4 Rows.shelfCutsRow.domain false) (Rows.shelfCutsSpec.post enc Try.prog Try.f4 false true false false) := by
  refine returnsInHanded_of_change (C := Try.checked) own started (by kernel_rfl) Try.func4
    (ChangeSpec.witness6 (enc := enc) (C := Try.checked) false ⟨#[], #[.int .u8 0, .int .u8 0, .agg #[.int .i64 0, .int .i64 0]], []⟩ 8 (by kernel_rfl) (by kernel_rfl) (by kernel_rfl) (by kernel_rfl)) ?_
  intro W base args ds gs before hval0 hW hcnd _
  have hval : ∀ (j : Nat) t v, Try.f4.params[j]? = some t → args[j]? = some v → Value.okWide Try.prog W .any base t v := hval0
  have hW' := hW
  obtain ⟨p, q, hA0, hV, rfl, hfz, hnd⟩ := hW
  have hA : DataW.TrodAll enc Try.prog W 0 (fun _ => true) true Try.f4.params.toList args.toList ds p := hA0
  rw [Try.params4] at hA hval
  have hAA := hA
  obtain ⟨v0, vs0, d0, ds0, p0, q0, hargs, rfl, rfl, h0, r0⟩ := trodAll_cons hA
  obtain ⟨v1, vs1, d1, ds1, p1, q1, rfl, rfl, rfl, h1, r1⟩ := trodAll_cons r0
  obtain ⟨v2, vs2, d2, ds2, p2, q2, rfl, rfl, rfl, h2, r2⟩ := trodAll_cons r1
  obtain ⟨rfl, rfl, rfl⟩ := trodAll_nil r2
  obtain rfl : args = #[v0, v1, v2] := by cases args; simp_all
  obtain ⟨rfl, rfl⟩ := trodVars_none hV
  obtain ⟨a0, rfl, rfl, rfl, w0⟩ := open_int Try.underlying5 (hval 0 5 v0 rfl rfl) h0
  obtain ⟨a1, rfl, rfl, rfl, w1⟩ := open_int Try.underlying5 (hval 1 5 v1 rfl rfl) h1
  obtain ⟨cs, rfl, _⟩ := okWide_array Try.underlying34 (hval 2 34 v2 rfl rfl)
  obtain ⟨fuel, hf⟩ := h2
  obtain ⟨zs, hzs, hzl, _⟩ := trod_int_array Try.underlying34 Try.underlying3 (by kernel_rfl) (by kernel_rfl) hf
  obtain ⟨x0, x1, rfl⟩ : ∃ x0 x1, zs = [x0, x1] := by
    match zs, hzl with
    | [x0, x1], _ => exact ⟨x0, x1, rfl⟩
  obtain rfl : cs = #[.int .i64 x0, .int .i64 x1] := by
    cases cs
    simpa [Value.cells] using hzs
  clear hA0 hval0
  simp only [List.append_nil] at hW'
  refine (walk a0 a1 x0 x1 w0 w1 W).mono fun e W' ⟨he, hg⟩ => ?_
  subst he
  simp only [List.append_nil, List.nil_append] at hAA
  have hlt : ∀ p ∈ p2, p.block < W.heap.size := fun p hp => hW'.lt p (by simpa using hp)
  have hback : ∀ sp : Nat → Bool, (∀ p ∈ p2, sp p.block = true) → DataW.TrodAll enc Try.prog W' 0 sp true [5, 5, 34] [.int .u8 a0, .int .u8 a1, .agg #[.int .i64 x0, .int .i64 x1]] [DataW.lit (Lit.int .u8 a0), DataW.lit (Lit.int .u8 a1), d2] p2 :=
    fun sp hsp => trodAll_stays (by kernel_rfl) _ _ _ _ (by
      intro t ht
      simp at ht
      rcases ht with rfl | rfl
      · exact ⟨by kernel_rfl, of_decide_eq_true (by kernel_rfl)⟩
      · exact ⟨by kernel_rfl, of_decide_eq_true (by kernel_rfl)⟩) hAA (fun p hp => hg.below.same (hlt p hp)) hsp
  exact ⟨_, rfl, post_of_below (pa := p2) (pv := []) hW' (fun _ _ _ => (trodAll_cons_mk (shut_bool Try.underlying4 _) trodAll_mk0)) (fun sp hsp => hback sp (fun p hp => hsp p (by simpa using hp))) (fun _ _ => rfl) (by simp)
    hg.below (ok_one (by kernel_rfl) rfl (okWide_bool_mk Try.underlying4 _))⟩

theorem over : Rows.shelfCutsRow.holds Try.pinned (OpenSpec.ofChange Rows.shelfCutsSpec) :=
  OpenClaim.holds_of_wide 4 Try.f4 rfl rfl rfl rfl rfl rfl rfl ⟨rfl, rfl, rfl, rfl, rfl⟩ rfl rfl rfl rfl rfl (by kernel_rfl) Try.func4 (by kernel_rfl)
    (of_decide_eq_true (by kernel_rfl)) (by unfold Func.isWrapper; first | (rw [if_pos (by decide +kernel)]; kernel_rfl) | (rw [if_neg (by decide +kernel)]; exact ⟨rfl, rfl⟩))
    (fun os started H enc _ => lifted os started H enc)

/-- The statement. -/
theorem proved : Rows.ShelfCutsSaid :=
  over
#print axioms proved
end Go.Proofs.Ytieaibfojogaiaa.shelfCuts
