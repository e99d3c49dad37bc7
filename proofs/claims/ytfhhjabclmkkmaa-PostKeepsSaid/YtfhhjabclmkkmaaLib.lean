/- Contracts of the library's functions on slices of events: IndexFunc, ContainsFunc, Clone. -/
import Derived.Test.YtfhhjabclmkkmaaProg
import Derived.Test.YtfhhjabclmkkmaaWords
import Derived.Deep.LoopGhost
import Derived.Shelf.Abstract
import Derived.WalkSpells
import Derived.Laws.CopyOwn
namespace Go.Proofs.Ytfhhjabclmkkmaa
open Go.RowKit Go.Proofs

theorem infoEv : (Try.prog.info? 62).map (fun i => (i.zero, i.size, i.bytes)) = some (some (.agg #[.int .i64 0, .int .i64 0, .int .i64 0, .int .i64 0, .int .i64 0, .int .i64 0, .int .i64 0, .int .i64 0, .int .i64 0, .string ByteArray.empty, .int .i64 0, .string ByteArray.empty]), 12, 112) := by kernel_rfl

theorem hide {p : Prop} (h : p) : Hid p := h
theorem unhide {p : Prop} (h : Hid p) : p := h

/-- What a predicate on events says, in every world in which all that lay in w lies unturned; it may lay blocks. -/
def PredEv (g : Nat) (lb : Array Value) (p : Ev → Bool) (w : World) : Prop :=
  ∀ (W : World) (e : Ev), Keep nob w W → Calls Try.prog g (#[e.agg] ++ lb) W fun r w' => r = .returned (.bool (p e)) ∧ Keep nob w w'

/-- The first place of which p holds; -1: none. -/
def idxB (p : Ev → Bool) (l : List Ev) : Int := if l.findIdx p < l.length then (l.findIdx p : Int) else -1

theorem idxB_hit (p : Ev → Bool) (l : List Ev) (k : Nat) (e : Ev) (he : l[k]? = some e) (hp : p e = true) (h : ∀ j e', j < k → l[j]? = some e' → p e' = false) : idxB p l = k := by
  obtain ⟨hlt, he'⟩ := List.getElem?_eq_some_iff.1 he
  have : l.findIdx p = k := by
    rw [List.findIdx_eq hlt]
    refine ⟨by rw [he']; exact hp, fun j hj => h j _ hj (List.getElem?_eq_getElem (by omega))⟩
  rw [idxB, this, if_pos hlt]
theorem idxB_miss (p : Ev → Bool) (l : List Ev) (h : ∀ j e', j < l.length → l[j]? = some e' → p e' = false) : idxB p l = -1 := by
  have : ¬ l.findIdx p < l.length := by
    intro hlt
    have h1 := List.findIdx_getElem (p := p) (w := hlt)
    have h2 := h _ _ hlt (List.getElem?_eq_getElem hlt)
    rw [h1] at h2
    cases h2
  rw [idxB, if_neg this]

set_option maxHeartbeats 1000000 in
theorem indexFunc_any (g : Nat) (lb : Array Value) (p : Ev → Bool) (eg : ∀ args w, (callFunc g args).run Try.prog w = .ok (.enter g args) w) (v : Value) (l : List Ev) (w : World)
    (hv : EvSl w v l) (hp : PredEv g lb p w) :
    Calls Try.prog 27 #[v, .func (.func g) #[] lb] w fun e w' => e = .returned (.int .i64 (idxB p l)) ∧ Keep nob w w' := by
  rcases hv with ⟨rfl, rfl⟩ | ⟨gb, o, c, cur, fr, rfl, hl, hc, hh, hx⟩
  · go_enter Try.func27, Try.ntmps27
    go_wp2
    refine wp_loop_rounds 1 ?_
    rw [rounds_succ]
    go_wp2
    go_ret
    exact ⟨rfl, Keep.refl _ _⟩
  · unfold maxLen at hc
    have hrow : ∀ W : World, Keep nob w W → ∀ k e, l[k]? = some e → EvAt W gb (o + k * 12) e := fun W hW k e he => ev_at (hW.heap (fun hf => hf) hh) hx he
    have HR := Lib.hid hrow
    have HX := Lib.hid hx
    have HH := Lib.hid hh
    clear hrow hx hh
    go_enter Try.func27, Try.ntmps27
    go_wp2
    go_loopg [5, 8] l.length (fun gg _ s8 wr => ∃ kk : Nat, kk ≤ l.length ∧ l.length - kk ≤ gg ∧ s8 = .int .i64 kk ∧ Hid (Keep nob w wr) ∧ Hid (∀ j e', j < kk → l[j]? = some e' → p e' = false))
    case atStart => exact ⟨0, Nat.zero_le _, by omega, rfl, Keep.refl _ w, fun j _ hj => absurd hj (Nat.not_lt_zero _)⟩
    case round =>
      obtain ⟨kk, hkk, hg, rfl, BW, A⟩ := hrel
      by_cases hlt : kk < l.length
      · have hltz : (kk : Int) < (l.length : Int) := by omega
        obtain ⟨y, hy⟩ : ∃ y, l[kk]? = some y := ⟨_, List.getElem?_eq_getElem hlt⟩
        obtain ⟨l0, l1, l2, l3, l4, l5, l6, l7, l8, l9, l10, l11⟩ := HR.out wr BW.out kk y hy
        have hcall := hp wr y BW.out
        simp only [Ev.agg, Ev.cells] at hcall
        have HY := Lib.hid hy
        clear hp hy
        cases hq : p y with
        | true =>
          rw [hq] at hcall
          go_wp2_with (go_at_fn g; refine hcall.mono ?_; rintro e w' ⟨rfl, hb'⟩)
          go_ret
          exact ⟨by rw [idxB_hit p l kk y HY.out hq A.out]; rfl, hb'⟩
        | false =>
          rw [hq] at hcall
          go_wp2_with (go_at_fn g; refine hcall.mono ?_; rintro e w' ⟨rfl, hb'⟩)
          go_roundg (l.length - (kk + 1))
          case measure => omega
          case rel =>
            refine ⟨kk + 1, by omega, by omega, by go_num, hb', (show Hid _ from fun j e' hj he' => ?_)⟩
            by_cases e : j = kk
            · subst e
              have := HY.out.symm.trans he'
              injection this with this
              rw [← this]; exact hq
            · exact A.out j e' (by omega) he'
      · have hltz : ¬ (kk : Int) < (l.length : Int) := by omega
        obtain rfl : kk = l.length := by omega
        go_wp2
        go_ret
        exact ⟨by rw [idxB_miss p l (fun j e' hj => A.out j e' (by omega))]; rfl, BW.out⟩

theorem containsFunc_any (g : Nat) (lb : Array Value) (p : Ev → Bool) (eg : ∀ args w, (callFunc g args).run Try.prog w = .ok (.enter g args) w) (v : Value) (l : List Ev) (w : World)
    (hv : EvSl w v l) (hp : PredEv g lb p w) :
    Calls Try.prog 32 #[v, .func (.func g) #[] lb] w fun e w' => e = .returned (.bool (l.any p)) ∧ Keep nob w w' := by
  have hany : decide (0 ≤ idxB p l) = l.any p := by
    cases h : l.any p with
    | true =>
      rw [List.any_eq_true] at h
      have := List.findIdx_lt_length.2 h
      rw [idxB, if_pos this, decide_eq_true_iff]; omega
    | false =>
      have : ¬ l.findIdx p < l.length := by
        intro hlt
        have := List.findIdx_lt_length.1 hlt
        rw [← List.any_eq_true, h] at this
        cases this
      rw [idxB, if_neg this]; rfl
  have hc := indexFunc_any g lb p eg v l w hv hp
  obtain ⟨A, c, rfl, _⟩ := hv.form
  have HA := Lib.hid hany
  clear hany
  generalize idxB p l = r at *
  have HC := hide hc
  clear hc
  go_enter Try.func32, Try.ntmps32
  go_wp2_with (go_at_call 27; refine (unhide HC).mono ?_; rintro e w' ⟨rfl, hk⟩)
  go_ret
  exact ⟨by rw [← HA.out]; rfl, hk⟩

/-- A new slice of the same events; nil of nil. -/
def OwnsEvs (l : List Ev) (w : World) (e : Ending) (w' : World) : Prop :=
  ∃ v, e = .returned v ∧ w'.ownsRow w.heap.size 62 12 v l.length (evs l) ∧ Keep nob w w'

set_option maxHeartbeats 400000 in
theorem clone_any (v : Value) (l : List Ev) (w : World) (hv : EvSl w v l) (hb : l.length * 112 ≤ 140737488355328) :
    Calls Try.prog 29 #[v] w (OwnsEvs l w) := by
  have q : ∀ (w : World) (a : Option Addr) (n c n' c' : Nat), (binOp .eql 27 (.slice a n c) (.slice none n' c')).run Try.prog w = .ok (.bool a.isNone) w := fun w a n c n' c' => Lib.run_eql_slice_nil w _ _ a n c n' c' Try.underlying27
  obtain ⟨i0, hi, hz0, hz1, hz2⟩ := info_parts infoEv
  rcases hv with ⟨rfl, rfl⟩ | ⟨gb, o, c, cur, fr, rfl, hl, hc, hh, hx⟩
  · go_enter Try.func29, Try.ntmps29
    go_wp2
    go_ret
    exact ⟨_, rfl, World.ownsRow_nil _ _ _ _, Keep.refl _ _⟩
  · have hnews := fun (W : World) (hW : W.heap[gb]? = some (.cells cur 62 fr)) => news_of_block W gb o 62 cur fr (evs l) hW hx
    have HN := Lib.hid hnews
    have HH := Lib.hid hh
    clear hnews hh hx
    have hm : l.length ≤ maxLen := by omega
    unfold maxLen at hc
    go_enter Try.func29, Try.ntmps29
    go_wp2_with (at_builtin; refine wpList_append_own _ rfl _ _ 27 rfl w.heap.size 62 i0 _ 12 112 Try.underlying27 hi hz0 hz1 hz2 rfl (by decide) _ _ _ rfl (World.ownsRow_made w #[] 0 (Nat.le_refl _) (Nat.zero_le _) (by simp)) ⟨gb, o, none⟩ l.length c (evs l) rfl ?qc1 ?qc2 ?qc3 ?qc4 ?qc5 ?qc6 ?_)
    case qc1 => exact evs_length l
    case qc2 => exact HN.out _ ((Keep.refl nob w).alloc _ |>.heap (fun hf => hf) HH.out)
    case qc3 => exact evs_oneCell l
    case qc4 => rw [Nat.zero_add]; exact hm
    case qc5 => rw [Nat.zero_add]; exact hb
    case qc6 => simp
    intro v' w1 hown hgrow _
    go_wp2
    go_ret
    refine ⟨v', rfl, by simpa using hown, ?_⟩
    exact ((Keep.refl nob w).alloc _).grown hgrow (fun k hk => .inl (by simp [Value.ownBlock] at hk; omega))

/-- s[k:] of a slice of events. -/
theorem EvSl.cut {w : World} {A : Option Addr} {c : Nat} {l : List Ev} (h : EvSl w (.slice A l.length c) l) (k : Nat) (hk : k < l.length) :
    ∃ g o, A = some ⟨g, o, none⟩ ∧ k < c ∧ EvSl w (.slice (some ⟨g, o + k * 12, none⟩) (l.length - k) (c - k)) (l.drop k) := by
  rcases h with ⟨h, rfl⟩ | ⟨g, o, c', cur, fr, hv, hl, hc, hh, hx⟩
  · simp at hk
  · injection hv with h1 _ h3
    subst h1 h3
    refine ⟨g, o, rfl, by omega, .inr ⟨g, o + k * 12, c - k, cur, fr, by rw [List.length_drop], by rw [List.length_drop]; omega, by omega, hh, fun j u hu => ?_⟩⟩
    rw [evs_drop, List.getElem?_drop] at hu
    rw [Nat.add_assoc]
    exact hx _ _ hu

/-- s[m:] of a slice of events, whatever it is. -/
theorem slice_from (A : Option Addr) (n c m : Nat) (hm : m ≤ n) (W : World) :
    (Instr.slice 27 (.slice A n c) (some (.int .i64 (m : Int))) none none).run Try.prog W = .ok (.slice (if c = m then A else A.map (·.add (m * 12))) (n - m) (c - m)) W := by
  have hz := Try.sizeOf62
  simp [Instr.slice, Instr.sliceBounds, Instr.sliceBound, asIntOf, run_underlying Try.underlying27, hz, hm]

theorem EvSl.from_ {w : World} {A : Option Addr} {c : Nat} {l : List Ev} (h : EvSl w (.slice A l.length c) l) (m : Nat) (hm : m ≤ l.length) :
    ∃ v, (∀ W, (Instr.slice 27 (.slice A l.length c) (some (.int .i64 (m : Int))) none none).run Try.prog W = .ok v W) ∧ EvSl w v (l.drop m) := by
  rcases h with ⟨h, rfl⟩ | ⟨g, o, c', cur, fr, hv, hl, hc, hh, hx⟩
  · injection h with h1 h2 h3
    subst h1 h3
    simp only [List.length_nil] at hm
    obtain rfl : m = 0 := by omega
    refine ⟨_, slice_from none 0 0 0 (Nat.le_refl _), ?_⟩
    exact .inl ⟨by simp, rfl⟩
  · injection hv with h1 _ h3
    subst h1 h3
    refine ⟨_, slice_from _ l.length c m hm, ?_⟩
    have hlen : l.length - m = (l.drop m).length := by rw [List.length_drop]
    by_cases e : c = m
    · rw [if_pos e, hlen]
      exact .inr ⟨g, o, c - m, cur, fr, rfl, by rw [List.length_drop]; omega, by omega, hh, fun j u hu => by
        rw [List.drop_of_length_le (by omega)] at hu
        simp [evs] at hu⟩
    · rw [if_neg e, hlen]
      refine .inr ⟨g, o + m * 12, c - m, cur, fr, by simp [add_lit], by rw [List.length_drop]; omega, by omega, hh, fun j u hu => ?_⟩
      rw [evs_drop, List.getElem?_drop] at hu
      rw [Nat.add_assoc]
      exact hx _ _ hu

theorem run_copy_cells (P : Program) (w : World) (dT sT ty elem : TypeId) (k g o dLen dCap : Nat) (a : Option Addr) (n sCap : Nat) (cur : Array Value) (t : TypeId) (cs : List Value)
    (hu : P.underlying dT = some (.slice elem)) (hs : (P.info? elem).map (·.size) = some k)
    (hg : w.heap[g]? = some (.cells cur t (0, 0))) (hn : n ≤ dLen) (hcs : cs.length = n * k)
    (hsrc : 0 < n → ∃ ad, a = some ad ∧ ∀ j v, cs[j]? = some v → w.cell? (ad.add j) = some v) (hfit : o + cs.length ≤ cur.size) (h1 : ∀ v ∈ cs, v.oneCell' = true) :
    (Builtin.copy_ #[dT, sT] ty #[.slice (some ⟨g, o, none⟩) dLen dCap, .slice a n sCap]).run P w =
      .ok (goInt n) (w.setRow g (cur.toList.take o ++ cs ++ cur.toList.drop (o + cs.length)).toArray) := by
  have hst := run_storeCells_at P g o t cs 0 cur w hg (by simpa using hfit) h1
  have hmin : Nat.min n dLen = n := Nat.min_eq_left hn
  cases hq : P.info? elem with
  | none => simp [hq] at hs
  | some i =>
    have hi : i.size = k := by simpa [hq] using hs
    rcases Nat.eq_zero_or_pos n with rfl | hpos
    · obtain rfl : cs = [] := List.eq_nil_of_length_eq_zero (by simpa using hcs)
      have hf : (Builtin.firstCells k 0 (.slice a 0 sCap)).run P w = .ok #[] w := by
        cases a <;> simp [Builtin.firstCells, loadCells, loadCellsFrom]
      simp [Builtin.copy_, run_underlying hu, Builtin.lenOf, sizeOf, typeInfo, hq, hi, hf, hst]
    · obtain ⟨ad, rfl, hsrc1⟩ := hsrc hpos
      have hl := run_loadCells_list (P := P) w ad cs hsrc1
      rw [hcs] at hl
      simp [Builtin.copy_, run_underlying hu, Builtin.lenOf, Builtin.firstCells, sizeOf, typeInfo, hq, hi, hmin, hl, hst]

/-- copy of a slice of events into a row that is known whole. -/
theorem wpList_copy_evs {w : World} {ops : Array Oper} {rest : List Oper} {o : Oper} {a : Act} {Q : Exit → Act → World → Prop} (hgd : o.guard = none) (d s : Operand) (ty : TypeId)
    (ho : o.op = .call { callee := .builtin .copy, args := #[d, s], argTypes := #[27, 27] }) (hty : o.type = ty)
    (g off dLen dCap : Nat) (v : Value) (l : List Ev) (hd : a.eval d = .slice (some ⟨g, off, none⟩) dLen dCap) (hs : a.eval s = v) (hv : EvSl w v l)
    (cur : List Value) (t : TypeId) (hg : w.heap[g]? = some (.cells cur.toArray t (0, 0))) (hn : l.length ≤ dLen) (hfit : off + l.length * 12 ≤ cur.length)
    (h : ∀ w', Hid (w'.heap[g]? = some (.cells (splice cur off (evs l)).toArray t (0, 0))) → Keep (oneb g) w w' → wpList Try.prog ops Q rest (a.put o.dst (goInt l.length)) w') :
    wpList Try.prog ops Q (o :: rest) a w := by
  refine wpList_plain hgd fun K hK => ?_
  obtain ⟨A, c, rfl, _, _, hA⟩ := hv.form
  have hrun := run_copy_cells Try.prog w 27 27 ty 62 12 g off dLen dCap A l.length c cur.toArray t (evs l) Try.underlying27 (by obtain ⟨i0, hi, _, hz1, _⟩ := info_parts infoEv; rw [hi]; simp [hz1]) hg hn (evs_length l)
    (fun hp => by
      rcases hA with ⟨_, _, rfl⟩ | ⟨g', o', cur', fr', rfl, hh, hx⟩
      · simp at hp
      · exact ⟨_, rfl, news_of_block w g' o' _ cur' fr' _ hh hx⟩) (by rw [evs_length]; simpa using hfit) (evs_oneCell l)
  unfold Oper.wp
  simp [execOp, ho, hty, resolve, invoke, builtin, hd, hs, hrun, Result.andThen]
  refine hK _ _ (h _ (show _ = _ by simpa [splice] using setRow_heap w g _ _ t _ hg) ?_)
  exact ⟨rfl, rfl, rfl, by simp [World.setRow], fun k _ hk => setRow_other w g k _ (fun e => hk (show oneb g k from e))⟩

theorem run_make_rowN {P : Program} (t e : TypeId) (i : TypeInfo) (z : Value) (ht : P.underlying t = some (.slice e)) (hi : P.info? e = some i) (hz : i.zero = some z)
    (kl kc : IntKind) (n c : Nat) (hnc : n ≤ c) (hbytes : i.bytes * c ≤ 281474976710656) (h63 : c ≤ 9223372036854775807) (w : World) :
    (Instr.makeSlice t (.int kl (n : Int)) (.int kc (c : Int))).run P w = .ok (.slice (some ⟨w.heap.size, 0, none⟩) n c) (w.alloc (.cells (madeCells z.cells (c * i.size)) e)) := by
  have hb : (i.bytes : Int) * (c : Int) ≤ 281474976710656 := by
    have h : ((i.bytes * c : Nat) : Int) ≤ 281474976710656 := by omega
    rwa [Int.natCast_mul] at h
  have hr := run_make (P := P) w t e i z ht hi hz kl kc n c (by omega) (by omega) hb (by omega)
  simp only [Int.toNat_natCast] at hr
  exact hr

/-- Two pieces laid into a row that they fill. -/
theorem splice_two (Z X Y : List Value) (hZ : Z.length = X.length + Y.length) : splice (splice Z 0 X) X.length Y = X ++ Y := by
  unfold splice
  simp only [List.take_zero, List.nil_append, Nat.zero_add]
  rw [List.take_left, List.drop_append, List.drop_of_length_le (by omega), List.nil_append, List.drop_drop, List.drop_of_length_le (by omega), List.append_nil]

/-- make([]Event, n). -/
def newEvs (n : Nat) : List Value := (madeCells (Value.cells (.agg #[.int .i64 0, .int .i64 0, .int .i64 0, .int .i64 0, .int .i64 0, .int .i64 0, .int .i64 0, .int .i64 0, .int .i64 0, .string ByteArray.empty, .int .i64 0, .string ByteArray.empty])) (n * 12)).toList
theorem newEvs_length (n : Nat) : (newEvs n).length = n * 12 := by simp [newEvs, size_madeCells]
theorem make_evs (n : Nat) (hn : n ≤ 1048576 * 4) (w : World) :
    (Instr.makeSlice 27 (.int .i64 (n : Int)) (.int .i64 (n : Int))).run Try.prog w = .ok (.slice (some ⟨w.heap.size, 0, none⟩) n n) (w.alloc (.cells (newEvs n).toArray 62)) := by
  obtain ⟨i0, hi, hz0, hz1, hz2⟩ := info_parts infoEv
  have h := run_make_rowN (P := Try.prog) 27 62 i0 _ Try.underlying27 hi hz0 .i64 .i64 n n (Nat.le_refl _) (by rw [hz2]; omega) (by omega) w
  rw [hz1] at h
  rw [h]
  simp [newEvs]
end Go.Proofs.Ytfhhjabclmkkmaa
