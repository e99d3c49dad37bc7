/- The last step of a row whose call leaves all old blocks as they were. -/
import Derived.Below
import Derived.ChangeSame
import Derived.WideKeyArgs
import Derived.OpenShut
import Derived.Deep.Fields
namespace Go.Proofs.Ytfhhjabclmkkmaa
open Go.RowKit Go.WideShapes Go.ChangeShapes
section
variable {H : Type} {enc : TypeId × Value → H} {P : Program}
theorem post_of_below {f : Func} {s : ChangeSpec} {apart fresh handsOn again : Bool} {W W' : World} {args : Array Value} {v : Value} {ds gs : List (DataW H)} {before pa pv : List MemPlace}
    (hW : DataW.Whole enc P f.params.toList s.vars apart W args.toList ds gs before)
    (hres : ∀ (b : Nat) (sp : Nat → Bool) (hd : Bool), DataW.TrodAll enc P W' b sp hd f.resultTypes.toList (v.resultList f.resultTypes.size) (s.fn H (ds ++ gs)).results [])
    (hargs : ∀ sp : Nat → Bool, (∀ p ∈ before, sp p.block = true) → DataW.TrodAll enc P W' 0 sp true f.params.toList args.toList (s.fn H (ds ++ gs)).args pa)
    (hvars : ∀ sp : Nat → Bool, (∀ p ∈ before, sp p.block = true) → DataW.TrodVars enc P W' sp s.vars (s.fn H (ds ++ gs)).vars pv)
    (hps : before = pa ++ pv) (hb : Below W.heap.size W W')
    (hok : ∀ (j : Nat) (t : TypeId) (r : Value), f.resultTypes[j]? = some t → (v.resultList f.resultTypes.size)[j]? = some r → Value.okWide P W' .any 0 t r) :
    s.post enc P f apart fresh handsOn again W args v W' := by
  have hlt : ∀ p ∈ before, p.block < W.heap.size := fun p hp => hW.lt p hp
  have hold : ∀ p ∈ before, (fun b => decide (b < W.heap.size)) p.block = true := fun p hp => by simpa using hlt p hp
  refine ⟨ds, gs, before, [], pa, pv, hW, hres _ _ _, hargs _ hold, hvars _ hold, World.keptBut_mono (fun p hp => ⟨hp, ?_⟩) (hb.frame (· ∈ before)), fun _ => ?_⟩
  · rw [hps, List.mem_append] at hp
    exact Or.inr hp
  · obtain ⟨_, _, _, _, _, hz, hn⟩ := hW
    refine ⟨hok, _, _, ([] ++ pa) ++ pv, ⟨[] ++ pa, pv, trodAll_append (hargs _ (fun _ _ => rfl)) (hres _ _ _), hvars _ (fun _ _ => rfl), rfl, ?_, ?_⟩, ?_⟩
    · intro b off hp
      have hin : MemPlace.cell b off ∈ before := by rw [hps]; simpa using hp
      rw [hb.frozen (hlt _ hin)]
      exact hz b off hin
    · intro ha
      have := hn ha
      rw [hps] at this
      simpa using this
    · intro p hp _
      rw [hps]
      simpa using hp

/-- All arguments read as they did: nothing below has turned. -/
theorem trodAll_stays (hl : laidOutB P = true) {W W' : World} {sp' : Nat → Bool} : ∀ (ts : List TypeId) (vs : List Value) (ds : List (DataW H)) (ps : List MemPlace),
    (∀ t ∈ ts, P.readableRec t = true ∧ t < P.types.size) → DataW.TrodAll enc P W 0 (fun _ => true) true ts vs ds ps → (∀ p ∈ ps, W.sameAt W' p) → (∀ p ∈ ps, sp' p.block = true) →
    DataW.TrodAll enc P W' 0 sp' true ts vs ds ps
  | [], [], [], _, _, h, _, _ => h
  | t :: ts, v :: vs, d :: ds, _, hr, ⟨p, q, h1, h2, e⟩, hs, hp => by
    subst e
    obtain ⟨r1, r2⟩ := hr t (by simp)
    exact ⟨p, q, WideElems.Trod_stays hl r1 r2 h1 (fun x hx => hs x (by simp [hx])) (fun x hx => hp x (by simp [hx])),
      trodAll_stays hl ts vs ds q (fun t ht => hr t (by simp [ht])) h2 (fun x hx => hs x (by simp [hx])) (fun x hx => hp x (by simp [hx])), rfl⟩

theorem okWide_array {w : World} {r : Reach} {base n : Nat} {t e : TypeId} {v : Value} (ht : P.underlying t = some (.array n e)) (h : Value.okWide P w r base t v) : ∃ cs, v = .agg cs ∧ cs.size = P.cellsOf t := by
  simp only [Value.okWide, ht] at h
  obtain ⟨cs, h1, h2, _⟩ := h
  exact ⟨cs, h1, h2⟩

/-- A struct of whole numbers, by its cells. -/
theorem trod_int_struct {w : World} {base fuel n : Nat} {spare : Nat → Bool} {held : Bool} {t : TypeId} {fs : Array Field} {k : IntKind} {cs : List Value} {x : DataW H × List MemPlace}
    (ht : P.underlying t = some (.struct fs)) (hC : P.cellsOf t = n) (hfs : ∀ i, i < n → ∃ f, fs[i]? = some f ∧ f.offset = i ∧ P.cellsOf f.type = 1 ∧ P.underlying f.type = some (.int k)) (h : DataW.trod enc P w base spare held fuel t cs = some x) :
    ∃ zs : List Int, cs = zs.map (Value.int k) ∧ zs.length = n := by
  obtain ⟨xs, m, _, _, hl, hxl, hi⟩ := DataW.trod_struct ht h
  rw [hC] at hl
  have hcell : ∀ i, i < n → ∃ z, cs[i]? = some (.int k z) := by
    intro i hin
    obtain ⟨f, hf, ho, hc, hu⟩ := hfs i hin
    have h1 := hi i f hf
    rw [ho, hc] at h1
    have h2 : (cs.drop i).take 1 = [cs[i]'(by omega)] := by
      rw [List.drop_eq_getElem_cons (by omega)]
      rfl
    have hlt : i < fs.size := (Array.getElem?_eq_some_iff.1 hf).1
    rw [h2, List.getElem?_eq_getElem (by omega : i < xs.length)] at h1
    obtain ⟨z, e0, _, _⟩ := DataW.trod_int hu h1
    have e1 : cs[i]'(by omega) = .int k z := by simpa using e0
    exact ⟨z, by rw [List.getElem?_eq_getElem (by omega), e1]⟩
  refine ⟨cs.map fun | .int _ z => z | _ => 0, ?_, by simp [hl]⟩
  apply List.ext_getElem?
  intro i
  by_cases hin : i < n
  · obtain ⟨z, hz⟩ := hcell i hin
    simp [hz]
  · rw [List.getElem?_eq_none (by omega), List.getElem?_eq_none (by simp; omega)]

/-- An array of whole numbers, by its cells. -/
theorem trod_int_array {w : World} {base fuel n : Nat} {spare : Nat → Bool} {held : Bool} {t e : TypeId} {k : IntKind} {cs : List Value} {x : DataW H × List MemPlace}
    (ht : P.underlying t = some (.array n e)) (he : P.underlying e = some (.int k)) (hC : P.cellsOf t = n) (hCe : P.cellsOf e = 1) (h : DataW.trod enc P w base spare held fuel t cs = some x) :
    ∃ zs : List Int, cs = zs.map (Value.int k) ∧ zs.length = n ∧ ∀ z ∈ zs, (Lit.int k z).wf = true := by
  obtain ⟨xs, m, _, _, hl, hxl, hi⟩ := DataW.trod_array ht h
  rw [hC] at hl
  have hcell : ∀ i, i < n → ∃ z, cs[i]? = some (.int k z) ∧ (Lit.int k z).wf = true := by
    intro i hin
    have h1 := hi i hin
    rw [hCe, Nat.mul_one, List.getElem?_eq_getElem (by omega : i < xs.length)] at h1
    have h2 : (cs.drop i).take 1 = [cs[i]'(by omega)] := by
      rw [List.drop_eq_getElem_cons (by omega)]
      rfl
    rw [h2] at h1
    obtain ⟨z, e0, _, wz⟩ := DataW.trod_int he h1
    have e1 : cs[i]'(by omega) = .int k z := by simpa using e0
    exact ⟨z, by rw [List.getElem?_eq_getElem (by omega), e1], wz⟩
  refine ⟨cs.map fun | .int _ z => z | _ => 0, ?_, by simp [hl], ?_⟩
  · apply List.ext_getElem?
    intro i
    by_cases hin : i < n
    · obtain ⟨z, hz, _⟩ := hcell i hin
      simp [hz]
    · rw [List.getElem?_eq_none (by omega), List.getElem?_eq_none (by simp; omega)]
  · intro z hz
    rw [List.mem_iff_getElem?] at hz
    obtain ⟨i, hi'⟩ := hz
    by_cases hin : i < n
    · obtain ⟨z', hz', wz⟩ := hcell i hin
      simp [hz'] at hi'
      rw [← hi']; exact wz
    · rw [List.getElem?_eq_none (by simp; omega)] at hi'
      cases hi'
end
end Go.Proofs.Ytfhhjabclmkkmaa
