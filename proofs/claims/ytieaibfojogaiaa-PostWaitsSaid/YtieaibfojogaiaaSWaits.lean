/- 'kithlaw16.PostWaits' returns true, for every input: no condition. -/
import Derived.Test.YtieaibfojogaiaaRows
import Derived.Test.YtieaibfojogaiaaWaits16
import Derived.Test.YtieaibfojogaiaaPost
import Derived.WalkKit
import Derived.ProofKit
import Derived.OpenShut
namespace Go.Proofs.Ytieaibfojogaiaa.postWaits
open Go.ChangeShapes Go.WideShapes Go.ChangeAt Go.RowKit Go.Proofs.Ytieaibfojogaiaa

theorem own : ownKnob Try.prog.godebug = none := by kernel_rfl

theorem walk (c0 c1 c2 c3 c4 c5 : Int) (a1 a2 : Int) (w1 : (Lit.int .u8 a1).wf = true) (w2 : (Lit.int .u8 a2).wf = true) (w : World) :
    Calls Try.prog 8 #[cfg c0 c1 c2 c3 c4 c5, .int .u8 a1, .int .u8 a2] w fun e w' => e = .returned (.bool true) ∧ Keep nob w w' := by
  have b1 := bounds_u8 w1
  have b2 := bounds_u8 w2
  exact postWaits_any c0 c1 c2 c3 c4 c5 a1 a2 w (by omega) (by omega)

theorem cfgFields : ∀ i, i < 6 → ∃ f, (Try.prog.fieldsOf 37)[i]? = some f ∧ f.offset = i ∧ Try.prog.cellsOf f.type = 1 ∧ Try.prog.underlying f.type = some (.int .i64) := by
  intro i hi
  match i, hi with
  | 0, _ => exact ⟨_, rfl, rfl, by kernel_rfl, by kernel_rfl⟩
  | 1, _ => exact ⟨_, rfl, rfl, by kernel_rfl, by kernel_rfl⟩
  | 2, _ => exact ⟨_, rfl, rfl, by kernel_rfl, by kernel_rfl⟩
  | 3, _ => exact ⟨_, rfl, rfl, by kernel_rfl, by kernel_rfl⟩
  | 4, _ => exact ⟨_, rfl, rfl, by kernel_rfl, by kernel_rfl⟩
  | 5, _ => exact ⟨_, rfl, rfl, by kernel_rfl, by kernel_rfl⟩
theorem cfgUnd : Try.prog.underlying 37 = some (.struct (Try.prog.fieldsOf 37)) := by kernel_rfl

set_option maxRecDepth 100000 in
theorem lifted (os : Os) (started : os.Started) (H : Type) (enc : TypeId × Value → H) :
    ReturnsInHanded {} Try.checked os 8 .any (Rows.postWaitsSpec.pre6 enc Try.prog Try.f8 Rows.postWaitsRow.domain false) (Rows.postWaitsSpec.post enc Try.prog Try.f8 false true false false) := by
  refine returnsInHanded_of_change (C := Try.checked) own started (by kernel_rfl) Try.func8
    (ChangeSpec.witness6 (enc := enc) (C := Try.checked) false ⟨#[], #[.agg #[.int .i64 0, .int .i64 0, .int .i64 0, .int .i64 0, .int .i64 0, .int .i64 0], .int .u8 0, .int .u8 0], []⟩ 8 (by kernel_rfl) (by kernel_rfl) (by kernel_rfl) (by kernel_rfl)) ?_
  intro W base args ds gs before hval0 hW hcnd _
  have hval : ∀ (j : Nat) t v, Try.f8.params[j]? = some t → args[j]? = some v → Value.okWide Try.prog W .any base t v := hval0
  have hW' := hW
  obtain ⟨p, q, hA0, hV, rfl, hfz, hnd⟩ := hW
  have hA : DataW.TrodAll enc Try.prog W 0 (fun _ => true) true Try.f8.params.toList args.toList ds p := hA0
  rw [Try.params8] at hA hval
  have hAA := hA
  obtain ⟨v0, vs0, d0, ds0, p0, q0, hargs, rfl, rfl, h0, r0⟩ := trodAll_cons hA
  obtain ⟨v1, vs1, d1, ds1, p1, q1, rfl, rfl, rfl, h1, r1⟩ := trodAll_cons r0
  obtain ⟨v2, vs2, d2, ds2, p2, q2, rfl, rfl, rfl, h2, r2⟩ := trodAll_cons r1
  obtain ⟨rfl, rfl, rfl⟩ := trodAll_nil r2
  obtain rfl : args = #[v0, v1, v2] := by cases args; simp_all
  obtain ⟨rfl, rfl⟩ := trodVars_none hV
  obtain ⟨cs, rfl, _⟩ := okWide_struct cfgUnd (hval 0 37 v0 rfl rfl)
  obtain ⟨fuel, hf⟩ := h0
  obtain ⟨zs, hzs, hzl⟩ := trod_int_struct cfgUnd (by kernel_rfl) cfgFields hf
  obtain ⟨c0, c1, c2, c3, c4, c5, rfl⟩ : ∃ c0 c1 c2 c3 c4 c5, zs = [c0, c1, c2, c3, c4, c5] := by
    match zs, hzl with
    | [c0, c1, c2, c3, c4, c5], _ => exact ⟨c0, c1, c2, c3, c4, c5, rfl⟩
  obtain rfl : cs = #[.int .i64 c0, .int .i64 c1, .int .i64 c2, .int .i64 c3, .int .i64 c4, .int .i64 c5] := by
    cases cs
    simpa [Value.cells] using hzs
  obtain ⟨a1, rfl, rfl, rfl, w1⟩ := open_int Try.underlying5 (hval 1 5 v1 rfl rfl) h1
  obtain ⟨a2, rfl, rfl, rfl, w2⟩ := open_int Try.underlying5 (hval 2 5 v2 rfl rfl) h2
  clear hA0 hval0
  simp only [List.append_nil] at hW'
  refine (walk c0 c1 c2 c3 c4 c5 a1 a2 w1 w2 W).mono fun e W' ⟨he, hg⟩ => ?_
  subst he
  simp only [List.append_nil] at hAA
  have hlt : ∀ p ∈ p0, p.block < W.heap.size := fun p hp => hW'.lt p (by simpa using hp)
  have hback : ∀ sp : Nat → Bool, (∀ p ∈ p0, sp p.block = true) → DataW.TrodAll enc Try.prog W' 0 sp true [37, 5, 5] [cfg c0 c1 c2 c3 c4 c5, .int .u8 a1, .int .u8 a2] [d0, DataW.lit (Lit.int .u8 a1), DataW.lit (Lit.int .u8 a2)] p0 :=
    fun sp hsp => trodAll_stays (by kernel_rfl) _ _ _ _ (by
      intro t ht
      simp at ht
      rcases ht with rfl | rfl
      · exact ⟨by kernel_rfl, of_decide_eq_true (by kernel_rfl)⟩
      · exact ⟨by kernel_rfl, of_decide_eq_true (by kernel_rfl)⟩) hAA (fun p hp => hg.below.same (hlt p hp)) hsp
  exact ⟨_, rfl, post_of_below (pa := p0) (pv := []) hW' (fun _ _ _ => (trodAll_cons_mk (shut_bool Try.underlying4 _) trodAll_mk0)) (fun sp hsp => hback sp (fun p hp => hsp p (by simpa using hp))) (fun _ _ => rfl) (by simp)
    hg.below (ok_one (by kernel_rfl) rfl (okWide_bool_mk Try.underlying4 _))⟩

theorem over : Rows.postWaitsRow.holds Try.pinned (OpenSpec.ofChange Rows.postWaitsSpec) :=
  OpenClaim.holds_of_wide 8 Try.f8 rfl rfl rfl rfl rfl rfl rfl ⟨rfl, rfl, rfl, rfl, rfl⟩ rfl rfl rfl rfl rfl (by kernel_rfl) Try.func8 (by kernel_rfl)
    (of_decide_eq_true (by kernel_rfl)) (by unfold Func.isWrapper; first | (rw [if_pos (by decide +kernel)]; kernel_rfl) | (rw [if_neg (by decide +kernel)]; exact ⟨rfl, rfl⟩))
    (fun os started H enc _ => lifted os started H enc)

/-- The statement. -/
theorem proved : Rows.PostWaitsSaid :=
  over
#print axioms proved
end Go.Proofs.Ytieaibfojogaiaa.postWaits
