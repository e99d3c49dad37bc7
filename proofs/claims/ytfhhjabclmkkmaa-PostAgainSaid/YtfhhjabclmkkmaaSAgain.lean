/- 'kithlaw16.PostAgain' returns true, for every input: no condition. -/
import Derived.Test.YtfhhjabclmkkmaaRows
import Derived.Test.YtfhhjabclmkkmaaAgain16
import Derived.Test.YtfhhjabclmkkmaaArgsO
import Derived.Test.YtfhhjabclmkkmaaPost
import Derived.WalkKit
import Derived.ProofKit
import Derived.OpenShut
namespace Go.Proofs.Ytfhhjabclmkkmaa.postAgain
open Go.ChangeShapes Go.WideShapes Go.ChangeAt Go.RowKit Go.Proofs.Ytfhhjabclmkkmaa

theorem own : ownKnob Try.prog.godebug = none := by kernel_rfl

set_option maxRecDepth 100000 in
theorem lifted (os : Os) (started : os.Started) (H : Type) (enc : TypeId × Value → H) :
    ReturnsInHanded {} Try.checked os 6 .any (Rows.postAgainSpec.pre6 enc Try.prog Try.f6 Rows.postAgainRow.domain false) (Rows.postAgainSpec.post enc Try.prog Try.f6 false true false false) := by
  refine returnsInHanded_of_change (C := Try.checked) own started (by kernel_rfl) Try.func6
    (ChangeSpec.witness6 (enc := enc) (C := Try.checked) false ⟨#[], #[.agg #[.int .i64 0, .int .i64 0, .int .i64 0, .int .i64 0, .int .i64 0, .int .i64 0], .slice none 0 0], []⟩ 8 (by kernel_rfl) (by kernel_rfl) (by kernel_rfl) (by kernel_rfl)) ?_
  intro W base args ds gs before hval0 hW hcnd _
  have hval : ∀ (j : Nat) t v, Try.f6.params[j]? = some t → args[j]? = some v → Value.okWide Try.prog W .any base t v := hval0
  have hW' := hW
  obtain ⟨p, q, hA0, hV, rfl, hfz, hnd⟩ := hW
  have hA : DataW.TrodAll enc Try.prog W 0 (fun _ => true) true Try.f6.params.toList args.toList ds p := hA0
  rw [Try.params6] at hA hval
  have hAA := hA
  obtain ⟨v0, vs0, d0, ds0, p0, q0, hargs, rfl, rfl, h0, r0⟩ := trodAll_cons hA
  obtain ⟨v1, vs1, d1, ds1, p1, q1, rfl, rfl, rfl, h1, r1⟩ := trodAll_cons r0
  obtain ⟨rfl, rfl, rfl⟩ := trodAll_nil r1
  obtain rfl : args = #[v0, v1] := by cases args; simp_all
  obtain ⟨rfl, rfl⟩ := trodVars_none hV
  obtain ⟨c0, c1, c2, c3, c4, c5, rfl⟩ := cfg_of (hval 0 37 v0 rfl rfl) h0
  obtain ⟨N, hops⟩ := ops_of (hval 1 38 v1 rfl rfl) h1
  clear hA0 hval0
  simp only [List.append_nil] at hW'
  refine (postAgain_any c0 c1 c2 c3 c4 c5 v1 N W hops).mono fun e W' ⟨he, hg⟩ => ?_
  subst he
  simp only [List.append_nil] at hAA
  have hlt : ∀ p ∈ p0 ++ p1, p.block < W.heap.size := fun p hp => hW'.lt p hp
  have hback : ∀ sp : Nat → Bool, (∀ p ∈ p0 ++ p1, sp p.block = true) → DataW.TrodAll enc Try.prog W' 0 sp true [37, 38] [cfg c0 c1 c2 c3 c4 c5, v1] [d0, d1] (p0 ++ p1) :=
    fun sp hsp => trodAll_stays (by kernel_rfl) _ _ _ _ (by
      intro t ht
      simp at ht
      rcases ht with rfl | rfl
      · exact ⟨by kernel_rfl, of_decide_eq_true (by kernel_rfl)⟩
      · exact ⟨by kernel_rfl, of_decide_eq_true (by kernel_rfl)⟩) hAA (fun p hp => hg.below.same (hlt p hp)) hsp
  exact ⟨_, rfl, post_of_below (pa := p0 ++ p1) (pv := []) hW' (fun _ _ _ => (trodAll_cons_mk (shut_bool Try.underlying4 _) trodAll_mk0)) (fun sp hsp => hback sp (fun p hp => hsp p hp)) (fun _ _ => rfl) (by simp)
    hg.below (ok_one (by kernel_rfl) rfl (okWide_bool_mk Try.underlying4 _))⟩

theorem over : Rows.postAgainRow.holds Try.pinned (OpenSpec.ofChange Rows.postAgainSpec) :=
  OpenClaim.holds_of_wide 6 Try.f6 rfl rfl rfl rfl rfl rfl rfl ⟨rfl, rfl, rfl, rfl, rfl⟩ rfl rfl rfl rfl rfl (by kernel_rfl) Try.func6 (by kernel_rfl)
    (of_decide_eq_true (by kernel_rfl)) (by unfold Func.isWrapper; first | (rw [if_pos (by decide +kernel)]; kernel_rfl) | (rw [if_neg (by decide +kernel)]; exact ⟨rfl, rfl⟩))
    (fun os started H enc _ => lifted os started H enc)

/-- The statement. -/
theorem proved : Rows.PostAgainSaid :=
  over
#print axioms proved
end Go.Proofs.Ytfhhjabclmkkmaa.postAgain
