/- '==' on clocks and events. -/
import Derived.Test.YtfhhjabclmkkmaaLib
import Derived.Laws.StructEq
import Derived.Deep.QuietTactic
import Derived.BigQuiet
namespace Go.Proofs.Ytfhhjabclmkkmaa
open Go.RowKit Go.Proofs

theorem run_equalIn_array {P : Program} (w : World) (d : Nat) (t : TypeId) (len : Nat) (elem : TypeId) (n : Nat) (xs ys : Array Value) (f : Nat → Bool) (ht : P.underlying t = some (.array len elem)) (hz : ∀ w, (sizeOf elem).run P w = .ok n w)
    (h : ∀ i, i < len → ∀ w, ∃ a b, (part elem xs (i * n)).run P w = .ok a w ∧ (part elem ys (i * n)).run P w = .ok b w ∧ (Op.equalIn d elem a b).run P w = .ok (f i) w) :
    (Op.equalIn (d + 1) t (.agg xs) (.agg ys)).run P w = .ok ((List.range len).all f) w := by
  simp only [Op.equalIn, Sem.run_bind, run_underlying ht, Result.andThen_ok, hz]
  simp only [Std.Legacy.Range.forIn_eq_forIn_range', Std.Legacy.Range.size, Nat.sub_zero, Nat.add_sub_cancel, Nat.div_one]
  have key : ∀ (l : List Nat), (∀ i ∈ l, i < len) → (Sem.run P (forIn l ((none : Option Bool), ()) fun i _ => do
            let a ← part elem xs (i * n)
            let b ← part elem ys (i * n)
            let r ← Op.equalIn d elem a b
            if (!r) = true then pure (ForInStep.done (some false, ())) else pure (ForInStep.yield (none, ()))) w) = .ok (if l.all f then (none, ()) else (some false, ())) w := by
    intro l
    induction l with
    | nil => intro _; simp
    | cons i l ih =>
      intro hl
      obtain ⟨a, b, h1, h2, h3⟩ := h i (hl i (by simp)) w
      have ih' := ih (fun j hj => hl j (by simp [hj]))
      simp only [List.forIn_cons, Sem.run_bind, h1, h2, h3, Result.andThen_ok, Sem.run_ite]
      cases hf : f i with
      | true => simpa [hf] using ih'
      | false => simp [hf]
  rw [← List.range_eq_range', key (List.range len) (fun i hi => List.mem_range.1 hi)]
  cases (List.range len).all f <;> simp

def Clk.list (c : Clk) : List Int := [c.c0, c.c1, c.c2, c.c3, c.c4]
theorem clk_eq (c d : Clk) : (c == d) = (List.range 5).all fun i => c.get i == d.get i := by
  rw [Bool.eq_iff_iff]
  simp [List.range_succ, Clk.get]
  cases c; cases d; simp

theorem eq_clk (d : Nat) (c e : Clk) (w : World) : (Op.equalIn (d + 2) 40 (.agg c.cells.toArray) (.agg e.cells.toArray)).run Try.prog w = .ok (c == e) w := by
  rw [run_equalIn_array (P := Try.prog) w (d + 1) 40 5 3 1 _ _ (fun i => c.get i == e.get i) Try.underlying40 Try.sizeOf3, clk_eq]
  intro i hi w
  refine ⟨.int .i64 (c.get i), .int .i64 (e.get i), ?_, ?_, run_equalIn_int w d _ .i64 .i64 _ _ Try.underlying3⟩
  · match i, hi with
    | 0, _ => simp [part, Clk.cells, Clk.get, go_sem, Try.isAgg3]
    | 1, _ => simp [part, Clk.cells, Clk.get, go_sem, Try.isAgg3]
    | 2, _ => simp [part, Clk.cells, Clk.get, go_sem, Try.isAgg3]
    | 3, _ => simp [part, Clk.cells, Clk.get, go_sem, Try.isAgg3]
    | 4, _ => simp [part, Clk.cells, Clk.get, go_sem, Try.isAgg3]
  · match i, hi with
    | 0, _ => simp [part, Clk.cells, Clk.get, go_sem, Try.isAgg3]
    | 1, _ => simp [part, Clk.cells, Clk.get, go_sem, Try.isAgg3]
    | 2, _ => simp [part, Clk.cells, Clk.get, go_sem, Try.isAgg3]
    | 3, _ => simp [part, Clk.cells, Clk.get, go_sem, Try.isAgg3]
    | 4, _ => simp [part, Clk.cells, Clk.get, go_sem, Try.isAgg3]

/-- Two events, as '==' sees them. -/
def Ev.eqb (e f : Ev) : Bool :=
  e.R == f.R && (e.N == f.N && (e.C == f.C && (e.H == f.H && (e.K == f.K && (e.key.toList == f.key.toList && (e.lab == f.lab && e.val.toList == f.val.toList))))))
theorem toList_inj {a b : ByteArray} (h : a.toList = b.toList) : a = b := by
  rw [ByteArray.toList_eq, ByteArray.toList_eq] at h
  cases a; cases b
  rw [ByteArray.mk.injEq]
  exact Array.toList_inj.1 h
theorem Ev.eqb_iff (e f : Ev) : e.eqb f = true ↔ e = f := by
  constructor
  · intro h
    simp only [Ev.eqb, Bool.and_eq_true, beq_iff_eq] at h
    obtain ⟨h1, h2, h3, h4, h5, h6, h7, h8⟩ := h
    have h6' := toList_inj h6
    have h8' := toList_inj h8
    cases e; cases f
    simp_all
  · rintro rfl
    simp [Ev.eqb]

theorem eq_ev (d : Nat) (e f : Ev) (w : World) : (Op.equalIn (d + 3) 62 e.agg f.agg).run Try.prog w = .ok (e.eqb f) w := by
  have hS : Try.prog.underlying 62 = some (.struct (Try.prog.fieldsOf 62)) := by kernel_rfl
  have hp : Try.prog.stoodInHeld 62 = false := by kernel_rfl
  have u3 := Try.underlying3
  have us := Try.underlying9
  have a3 := Try.isAgg3
  have z3 := Try.sizeOf3
  have as' := Try.isAgg9
  have zs := Try.sizeOf9
  have ac := Try.isAgg40
  have zc := Try.sizeOf40
  simp only [Ev.agg]
  rw [run_equalIn_agg w (d + 2) 62 _ _ hS hp]
  simp only [Program.fieldsOf, Try.underlying62]
  simp [Op.eqFields, part, go_sem, a3, z3, as', zs, ac, zc, u3, us, Ev.cells]
  have hc := eq_clk d e.C f.C w
  simp only [Clk.cells] at hc
  rw [hc]
  simp only [Result.andThen_ok, Ev.eqb]
  by_cases h1 : e.R = f.R
  case neg => simp [h1]
  by_cases h2 : e.N = f.N
  case neg => simp [h1, h2]
  by_cases h3 : e.C = f.C
  case neg => simp [h1, h2, h3]
  by_cases h4 : e.H = f.H
  case neg => simp [h1, h2, h3, h4]
  by_cases h5 : e.K = f.K
  case neg => simp [h1, h2, h3, h4, h5]
  by_cases h6 : e.key.toList = f.key.toList
  case neg => simp [h1, h2, h3, h4, h5, h6]
  by_cases h7 : e.lab = f.lab
  case neg => simp [h1, h2, h3, h4, h5, h6, h7]
  by_cases h8 : e.val.toList = f.val.toList <;> simp [h1, h2, h3, h4, h5, h6, h7, h8]

theorem neq_ev (e f : Ev) (w : World) : (binOp .neq 62 e.agg f.agg).run Try.prog w = .ok (.bool (!e.eqb f)) w := by
  have h := eq_ev 9997 e f w
  unfold Ev.agg at h ⊢
  rw [run_neq_struct, h]
  rfl
theorem eql_ev (e f : Ev) (w : World) : (binOp .eql 62 e.agg f.agg).run Try.prog w = .ok (.bool (e.eqb f)) w := by
  have h := eq_ev 9997 e f w
  unfold Ev.agg at h ⊢
  rw [run_eql_struct, h]
  rfl
theorem guard_ev : Try.prog.eqGuardType Try.prog.depth 62 = false := by kernel_rfl

/-- Two rows of events are the same. -/
def sameEvs : List Ev → List Ev → Bool
  | [], [] => true
  | e :: l, f :: m => e.eqb f && sameEvs l m
  | _, _ => false
theorem sameEvs_iff : ∀ l m : List Ev, sameEvs l m = true ↔ l = m
  | [], [] => by simp [sameEvs]
  | [], f :: m => by simp [sameEvs]
  | e :: l, [] => by simp [sameEvs]
  | e :: l, f :: m => by simp only [sameEvs, Bool.and_eq_true, Ev.eqb_iff, sameEvs_iff l m, List.cons.injEq]
theorem sameEvs_ne {l m : List Ev} (h : l ≠ m) : sameEvs l m = false := by
  cases hs : sameEvs l m with
  | false => rfl
  | true => exact absurd ((sameEvs_iff l m).1 hs) h

set_option maxHeartbeats 1000000 in
theorem same_any (v u : Value) (l m : List Ev) (w : World) (hv : EvSl w v l) (hu : EvSl w u m) :
    Calls Try.prog 17 #[v, u] w fun e w' => e = .returned (.bool (sameEvs l m)) ∧ ∃ n, w' = w.drewN n := by
  obtain ⟨A, c, rfl, hlc, hcm, hA⟩ := hv.form
  obtain ⟨B, d, rfl, hld, hdm, hB⟩ := hu.form
  unfold maxLen at hcm hdm
  by_cases hlen : l.length = m.length
  · have hrA : ∀ k e, l[k]? = some e → ∃ g o, A = some ⟨g, o, none⟩ ∧ EvAt w g (o + k * 12) e := fun k e he => by
      rcases hA with ⟨_, _, rfl⟩ | ⟨g, o, cur, fr, rfl, hh, hx⟩
      · simp at he
      · exact ⟨g, o, rfl, ev_at hh hx he⟩
    have hrB : ∀ k e, m[k]? = some e → ∃ g o, B = some ⟨g, o, none⟩ ∧ EvAt w g (o + k * 12) e := fun k e he => by
      rcases hB with ⟨_, _, rfl⟩ | ⟨g, o, cur, fr, rfl, hh, hx⟩
      · simp at he
      · exact ⟨g, o, rfl, ev_at hh hx he⟩
    have HA := Lib.hid hrA
    have HB := Lib.hid hrB
    have HL := Lib.hid hlen
    rw [← hlen] at hld ⊢
    clear hv hu hA hB hrA hrB hlen
    go_enter Try.func17, Try.ntmps17
    go_wp2
    go_loopg [5] l.length (fun gg s5 wr => ∃ kk n : Nat, kk ≤ l.length ∧ l.length - kk ≤ gg ∧ s5 = .int .i64 kk ∧ wr = w.drewN n ∧ Hid (∀ j, j < kk → l[j]? = m[j]?))
    case atStart => exact ⟨0, 0, Nat.zero_le _, by omega, rfl, rfl, fun j hj => absurd hj (Nat.not_lt_zero _)⟩
    case round =>
      obtain ⟨kk, n, hkk, hg, rfl, rfl, GA⟩ := hrel
      by_cases hlt : kk < l.length
      · have hltz : (kk : Int) < (l.length : Int) := by omega
        have hk0 : (0 : Int) ≤ (kk : Int) := by omega
        obtain ⟨y, hy⟩ : ∃ y, l[kk]? = some y := ⟨_, List.getElem?_eq_getElem hlt⟩
        obtain ⟨z, hz⟩ : ∃ z, m[kk]? = some z := ⟨_, List.getElem?_eq_getElem (by have := HL.out; omega)⟩
        obtain ⟨g, o, rfl, l0, l1, l2, l3, l4, l5, l6, l7, l8, l9, l10, l11⟩ := HA.out kk y hy
        obtain ⟨g', o', rfl, m0, m1, m2, m3, m4, m5, m6, m7, m8, m9, m10, m11⟩ := HB.out kk z hz
        have hq := neq_ev y z
        have hgu := guard_ev
        simp only [Ev.agg, Ev.cells] at hq
        have HY := Lib.hid hy
        have HZ := Lib.hid hz
        clear hy hz
        cases hqb : y.eqb z with
        | true =>
          rw [hqb] at hq
          simp only [Bool.not_true] at hq
          go_wp2_with fail
          go_quiet (fail)
          go_wp2
          go_roundg (l.length - (kk + 1))
          case measure => omega
          case rel =>
            refine ⟨kk + 1, _, by omega, by omega, by go_num, rfl, (show Hid _ from fun j hj => ?_)⟩
            by_cases e : j = kk
            · rw [e, HY.out, HZ.out, (Ev.eqb_iff _ _).1 hqb]
            · exact GA.out j (by omega)
        | false =>
          rw [hqb] at hq
          simp only [Bool.not_false] at hq
          go_wp2_with fail
          go_quiet (fail)
          go_wp2
          go_ret
          refine ⟨?_, n + nq, World.drewN_drewN _ _ _⟩
          rw [sameEvs_ne (fun h => ?_)]
          · rfl
          · have h1 := HY.out
            rw [h, HZ.out] at h1
            injection h1 with h1
            rw [h1, (Ev.eqb_iff y y).2 rfl] at hqb
            cases hqb
      · have hltz : ¬ (kk : Int) < (l.length : Int) := by omega
        obtain rfl : kk = l.length := by omega
        go_wp2
        go_ret
        refine ⟨?_, _, rfl⟩
        rw [(sameEvs_iff l m).2 (List.ext_getElem? (fun j => ?_))]
        · rfl
        · by_cases hj : j < l.length
          · exact GA.out j hj
          · rw [List.getElem?_eq_none (by omega), List.getElem?_eq_none (by have := HL.out; omega)]
  · have hbl : ((l.length : Int) != (m.length : Int)) = true := by rw [bne_iff_ne]; omega
    have hne : sameEvs l m = false := sameEvs_ne (fun h => hlen (by rw [h]))
    have HN := Lib.hid hne
    clear hv hu hA hB hlen hne
    go_enter Try.func17, Try.ntmps17
    go_wp2
    go_ret
    exact ⟨by rw [HN.out]; rfl, 0, rfl⟩
end Go.Proofs.Ytfhhjabclmkkmaa
