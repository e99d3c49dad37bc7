/- append of a slice of events to one that the call owns. -/
import Derived.Test.YtfhhjabclmkkmaaLib
import Derived.Laws.AppendOwnNone
namespace Go.Proofs.Ytfhhjabclmkkmaa
open Go.RowKit Go.Proofs

/-- Blocks from base on. -/
def fromb (base : Nat) (k : Nat) : Prop := base ≤ k

theorem wpList_append_evs {w : World} {ops : Array Oper} {rest : List Oper} {o : Oper} {a : Act} {Q : Exit → Act → World → Prop} (hgd : o.guard = none) (s x : Operand)
    (ho : o.op = .call { callee := .builtin .append, args := #[s, x], argTypes := #[27, 27] })
    (base : Nat) (v : Value) (l : List Ev) (hs : a.eval s = v) (hown : w.ownsRow base 62 12 v l.length (evs l)) (u : Value) (m : List Ev) (hx : a.eval x = u) (hu : EvSl w u m)
    (hb : l.length + m.length ≤ 1048576) (hbase : base ≤ w.heap.size)
    (h : ∀ v' w', w'.ownsRow base 62 12 v' (l ++ m).length (evs (l ++ m)) → Keep (fromb base) w w' → wpList Try.prog ops Q rest (a.put o.dst v') w') : wpList Try.prog ops Q (o :: rest) a w := by
  obtain ⟨i0, hi, hz0, hz1, hz2⟩ := info_parts infoEv
  rcases hu with ⟨rfl, rfl⟩ | ⟨g, o', c, cur, fr, rfl, hl, hc, hh, hx'⟩
  · refine wpList_append_own_none hgd s x 27 ho base 62 i0 12 Try.underlying27 hi v l.length (evs l) hs hown hx (h v w ?_ (Keep.refl _ _))
    rw [List.append_nil]; exact hown
  · refine wpList_append_own w hgd s x 27 ho base 62 i0 _ 12 112 Try.underlying27 hi hz0 hz1 hz2 rfl (by decide) v l.length (evs l) hs hown ⟨g, o', none⟩ m.length c (evs m) hx (evs_length m) (news_of_block w g o' 62 cur fr (evs m) hh hx') (evs_oneCell m) (by unfold maxLen; omega) (by omega) hbase ?_
    intro v' w' hown' hgrow _
    refine h v' w' ?_ ((Keep.refl _ _).grown hgrow (fun k hk => .inr (hown.lt k hk).1))
    rw [List.length_append, evs_append]
    exact hown'

theorem Keep.own {base : Nat} {w w' w0 : World} (h : Keep nob w0 w) (hb : w0.heap.size = base) (hk : Keep (fromb base) w w') : Keep nob w0 w' :=
  h.then hk (fun i hi e => by unfold fromb at e; omega)
end Go.Proofs.Ytfhhjabclmkkmaa
