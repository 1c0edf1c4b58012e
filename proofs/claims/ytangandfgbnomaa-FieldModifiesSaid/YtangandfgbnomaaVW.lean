/- A region that draws its order, in which every operation comes up once, and leaves all that was there: what each operation yields is told by a relation that new blocks don't turn; each is walked once, from what its own forerunners yield: whatever order is drawn. -/
import Derived.Test.YtangandfgbnomaaVQ
namespace Go.Proofs.Ytangandfgbnomaa.V
open Go.RowKit
set_option linter.unusedVariables false
set_option linter.unusedSimpArgs false

abbrev RelV := World → Value → Prop

section
variable {P : Program} {ops : Array Oper} {w0 : World} {a0 : Act}

/-- What operation number j has yielded. -/
def dv (ops : Array Oper) (a : Act) (j : Nat) : Value :=
  match (ops[j]?).bind (·.dst) with
  | some d => a.tmps.getD d undef
  | none => undef
def knows (ops : Array Oper) (Rs : List RelV) (a : Act) (W : World) (j : Nat) : Prop := (Rs.getD j (fun _ _ => True)) W (dv ops a j)
def depsOn (o : Oper) : List Nat := (o.after.toList.filter (Region.binds .any)).map (·.on)
def allOf (p : Nat → Prop) : List Nat → Prop
  | [] => True
  | j :: r => p j ∧ allOf p r
theorem allOf_of {p : Nat → Prop} : ∀ (l : List Nat), (∀ j ∈ l, p j) → allOf p l
  | [], _ => trivial
  | j :: r, h => ⟨h j (by simp), allOf_of r (fun k hk => h k (by simp [hk]))⟩
def pv (o : Oper) (u : Value) : Value := match o.dst with | some _ => u | none => undef
def relUpon (P : Program) (o : Oper) (W : World) (R : RelV) : Result Next → Prop
  | .ok (.value u) W' => R W' (pv o u) ∧ Keep [] W W'
  | .ok .skip W' => R W' undef ∧ Keep [] W W'
  | .ok (.enter f args) W' => Calls P f args W' (fun e W'' => ∃ v, e = .returned v ∧ R W'' (pv o v) ∧ Keep [] W W'')
  | _ => False
/-- Whether the guard lets the operation be carried out. -/
def guardIs (ops : Array Oper) (o : Oper) (a : Act) (b : Bool) : Prop :=
  match o.guard with
  | none => b = true
  | some (j, want) => ∃ c, dv ops a j = .bool c ∧ (c == want) = b
def isDst (ops : Array Oper) (k : Nat) : Bool := ops.any (fun o => o.dst == some k)
/-- The words that are none of the region's own lie as they lay. -/
structure Fr (ops : Array Oper) (a0 a : Act) : Prop where
  defers : a.defers = a0.defers
  size : a.tmps.size = a0.tmps.size
  word : ∀ k, isDst ops k = false → a.tmps.getD k undef = a0.tmps.getD k undef
/-- What is owed at one operation. -/
def Obl (P : Program) (ops : Array Oper) (w0 : World) (a0 : Act) (Rs : List RelV) (o : Oper) (R : RelV) : Prop :=
  (∀ W W' v, Keep [] W W' → R W v → R W' v) ∧
  ∀ a W, Keep [] w0 W → Fr ops a0 a → allOf (knows ops Rs a W) (depsOn o) →
    (guardIs ops o a true ∧ relUpon P o W R ((execOp a.eval o).run P W)) ∨ (guardIs ops o a false ∧ R W undef)
def Obls (P : Program) (ops : Array Oper) (w0 : World) (a0 : Act) (Rs : List RelV) : List Oper → List RelV → Prop
  | [], [] => True
  | o :: l, R :: r => Obl P ops w0 a0 Rs o R ∧ Obls P ops w0 a0 Rs l r
  | _, _ => False
theorem Obls.get {Rs : List RelV} : ∀ {l : List Oper} {r : List RelV}, Obls P ops w0 a0 Rs l r → l.length = r.length ∧ ∀ (i : Nat) (o : Oper), l[i]? = some o → ∃ R, r[i]? = some R ∧ Obl P ops w0 a0 Rs o R
  | [], [], _ => ⟨rfl, fun i o h => by simp at h⟩
  | o :: l, R :: r, h => ⟨by simp [(Obls.get h.2).1], fun i o' hi => by
      cases i with
      | zero => simp only [List.getElem?_cons_zero, Option.some.injEq] at hi; subst hi; exact ⟨R, rfl, h.1⟩
      | succ i => simp only [List.getElem?_cons_succ] at hi ⊢; exact (Obls.get h.2).2 i o' hi⟩
  | [], _ :: _, h => h.elim
  | _ :: _, [], h => h.elim

/-- Forerunners stand ahead; no word is written twice; all words are there. -/
def relB (ops : List Oper) (T : Nat) : Bool :=
  (List.range ops.length).all (fun i => ((ops[i]?).map (fun o => (depsOn o).all (fun j => decide (j < i)))).getD true) &&
  (ops.filterMap (·.dst)).Nodup && (ops.filterMap (·.dst)).all (fun d => decide (d < T)) && Region.noSelect ops.toArray

theorem nodup_dst : ∀ {l : List Oper} {i j : Nat} {oi oj : Oper} {d : Nat}, (l.filterMap (·.dst)).Nodup → l[i]? = some oi → l[j]? = some oj → oi.dst = some d → oj.dst = some d → i = j
  | [], i, j, oi, oj, d, _, hi, _, _, _ => by simp at hi
  | o :: l, i, j, oi, oj, d, hn, hi, hj, di, dj => by
    have tl : (l.filterMap (·.dst)).Nodup := by
      rw [List.filterMap_cons] at hn
      split at hn
      · exact hn
      · exact (List.nodup_cons.1 hn).2
    have hm : ∀ {k : Nat} {x : Oper}, l[k]? = some x → x.dst = some d → d ∈ l.filterMap (·.dst) := fun hk hx => List.mem_filterMap.2 ⟨_, List.mem_of_getElem? hk, hx⟩
    cases i with
    | zero =>
      cases j with
      | zero => rfl
      | succ j =>
        simp only [List.getElem?_cons_zero, Option.some.injEq] at hi
        simp only [List.getElem?_cons_succ] at hj
        subst hi
        rw [List.filterMap_cons, di] at hn
        exact absurd (hm hj dj) (List.nodup_cons.1 hn).1
    | succ i =>
      simp only [List.getElem?_cons_succ] at hi
      cases j with
      | zero =>
        simp only [List.getElem?_cons_zero, Option.some.injEq] at hj
        subst hj
        rw [List.filterMap_cons, dj] at hn
        exact absurd (hm hi di) (List.nodup_cons.1 hn).1
      | succ j =>
        simp only [List.getElem?_cons_succ] at hj
        rw [nodup_dst tl hi hj di dj]

theorem dv_put_same {a : Act} {i : Nat} {o : Oper} (u : Value) (hi : ops[i]? = some o) (hd : ∀ d, o.dst = some d → d < a.tmps.size) : dv ops (a.put o.dst u) i = pv o u := by
  unfold dv pv
  rw [hi]
  show (match o.dst with | some d => (a.put o.dst u).tmps.getD d undef | none => undef) = _
  cases h : o.dst with
  | none => rfl
  | some d =>
    show (a.tmps.setIfInBounds d u).getD d undef = u
    have := hd d h
    simp [this]
theorem dv_put_other {a : Act} {i j : Nat} {o : Oper} (u : Value) (hi : ops[i]? = some o) (h : ∀ d oj, ops[j]? = some oj → oj.dst = some d → o.dst ≠ some d) : dv ops (a.put o.dst u) j = dv ops a j := by
  unfold dv
  cases hj : ops[j]? with
  | none => rfl
  | some oj =>
    show (match oj.dst with | some d => (a.put o.dst u).tmps.getD d undef | none => undef) = (match oj.dst with | some d => a.tmps.getD d undef | none => undef)
    cases hd : oj.dst with
    | none => rfl
    | some d =>
      have := h d oj hj hd
      cases ho : o.dst with
      | none => rfl
      | some d' =>
        show (a.tmps.setIfInBounds d' u).getD d undef = a.tmps.getD d undef
        have hne : d' ≠ d := fun e => this (by rw [ho, e])
        simp [Array.getElem?_setIfInBounds_ne hne]
theorem Fr.put {a : Act} {i : Nat} {o : Oper} (h : Fr ops a0 a) (hi : ops[i]? = some o) (u : Value) : Fr ops a0 (a.put o.dst u) := by
  refine ⟨?_, ?_, ?_⟩
  · rw [← h.defers]; unfold Act.put; split <;> rfl
  · rw [← h.size]; unfold Act.put; split <;> simp
  · intro k hk
    rw [← h.word k hk]
    cases ho : o.dst with
    | none => rfl
    | some d =>
      show (a.tmps.setIfInBounds d u).getD k undef = a.tmps.getD k undef
      have hne : d ≠ k := by
        rintro rfl
        have : isDst ops d = true := by
          unfold isDst
          rw [Array.any_eq_true']
          exact ⟨o, Array.mem_of_getElem? hi, by simp [ho]⟩
        rw [hk] at this; cases this
      simp [Array.getElem?_setIfInBounds_ne hne]

theorem wanted_of {o : Oper} {a : Act} {b : Bool} (h : guardIs ops o a b) : Region.wanted o (yielded ops a.tmps) = b := by
  unfold guardIs at h
  unfold Region.wanted
  split at h
  · rename_i hg; rw [hg, h]
  · rename_i j want hg
    rw [hg]
    obtain ⟨c, hc, hb⟩ := h
    have hy : yielded ops a.tmps j = some c := by
      unfold dv at hc
      unfold yielded
      cases hd : (ops[j]?).bind (·.dst) with
      | none => rw [hd] at hc; simp [undef] at hc
      | some d =>
        rw [hd] at hc
        simp only [Option.bind_some]
        have : a.tmps.getD d undef = .bool c := hc
        rw [Array.getD_eq_getD_getElem?] at this
        cases hx : a.tmps[d]? with
        | none => rw [hx] at this; simp [undef] at this
        | some v =>
          rw [hx] at this
          simp only [Option.getD_some] at this
          subst this; rfl
    show (yielded ops a.tmps j == some want) = b
    rw [hy, ← hb]
    cases c <;> cases want <;> rfl

theorem count_set : ∀ (L : List Bool) (i : Nat) (h : i < L.length), L[i] = false → ((L.set i true).filter (fun b => !b)).length + 1 = (L.filter (fun b => !b)).length
  | b :: L, 0, _, hb => by
    simp only [List.getElem_cons_zero] at hb
    subst hb
    simp
  | b :: L, i + 1, h, hb => by
    simp only [List.getElem_cons_succ] at hb
    have ih := count_set L i (by simpa using h) hb
    rw [List.set_cons_succ, List.filter_cons, List.filter_cons]
    split
    · simp only [List.length_cons]; omega
    · exact ih
theorem wp_region_rel {id : Nat} {Q : Exit → Act → World → Prop} {w : World} {l : List Oper} (T : Nat) (Rs : List RelV) (hm : P.follows .mixedOrders = true) (hB : relB l T = true) (hT : T ≤ a0.tmps.size)
    (hO : Obls P l.toArray w.drew a0 Rs l Rs)
    (hQ : ∀ a W, Keep [] w.drew W → Fr l.toArray a0 a → allOf (knows l.toArray Rs a W) (List.range l.length) → Q .normal a W) : (Code.region id l.toArray true).wp P Q a0 w := by
  simp only [relB, Bool.and_eq_true, decide_eq_true_eq] at hB
  obtain ⟨⟨⟨hdep, hnd⟩, hin⟩, hsel⟩ := hB
  have hdep' : ∀ (i : Nat) (o : Oper), l[i]? = some o → ∀ j ∈ depsOn o, j < i := by
    intro i o hi j hj
    have h1 := List.all_eq_true.1 hdep i (List.mem_range.2 (List.getElem?_eq_some_iff.1 hi).1)
    rw [hi] at h1
    simp only [Option.map_some, Option.getD_some] at h1
    exact of_decide_eq_true (List.all_eq_true.1 h1 j hj)
  have hin' : ∀ (i : Nat) (o : Oper) (d : Nat), l[i]? = some o → o.dst = some d → d < a0.tmps.size := by
    intro i o d hi hd
    exact Nat.lt_of_lt_of_le (of_decide_eq_true (List.all_eq_true.1 hin d (List.mem_filterMap.2 ⟨o, List.mem_of_getElem? hi, hd⟩))) hT
  obtain ⟨hlen, hobl⟩ := hO.get
  have hga : ∀ i : Nat, l.toArray[i]? = l[i]? := fun i => by first | rfl | (rw [List.getElem?_toArray]) | simp
  have mem_deps : ∀ {o : Oper} {e : Edge}, e ∈ o.after → Region.binds .any e = true → e.on ∈ depsOn o := fun {o e} he hb => by
    unfold depsOn
    exact List.mem_map.2 ⟨e, List.mem_filter.2 ⟨Array.mem_toList_iff.2 he, hb⟩, rfl⟩
  refine wp_region_any hm ?_
  have key : ∀ (f : Nat) (listed : Array Bool) (a : Act) (W : World), listed.size = l.length → (listed.toList.filter (fun b => !b)).length = f → Keep [] w.drew W → Fr l.toArray a0 a →
      (∀ j, listed.getD j false = true → knows l.toArray Rs a W j) → wpAny P .any l.toArray Q f listed a W := by
    intro f
    have all_of : ∀ (listed : Array Bool), listed.size = l.length → Region.ready .any l.toArray listed = [] → ∀ i, i < l.length → listed.getD i false = true := by
      intro listed hs hr i
      induction i using Nat.strongRecOn with
      | _ i ih =>
        intro hi
        cases hl : listed.getD i false with
        | true => rfl
        | false =>
          exfalso
          have : i ∈ Region.ready .any l.toArray listed := by
            refine mem_ready.2 ⟨getD_in (by omega) hl, l[i], by simp [hi], fun e he hb => ?_⟩
            have hlt := hdep' i l[i] (by simp [hi]) e.on (mem_deps he hb)
            exact ih e.on hlt (by omega)
          rw [hr] at this; cases this
    have fin : ∀ (listed : Array Bool) (a : Act) (W : World), listed.size = l.length → Keep [] w.drew W → Fr l.toArray a0 a →
      (∀ j, listed.getD j false = true → knows l.toArray Rs a W j) → Region.ready .any l.toArray listed = [] → Q .normal a W := fun listed a W hs hK hF hk hr =>
        hQ a W hK hF (allOf_of _ (fun j hj => hk j (all_of listed hs hr j (List.mem_range.1 hj))))
    induction f with
    | zero =>
      intro listed a W hs hf hK hF hk
      have hr : Region.ready .any l.toArray listed = [] := by
        rw [List.eq_nil_iff_forall_not_mem]
        intro j hj
        obtain ⟨h1, _⟩ := mem_ready.1 hj
        have h0 := List.length_eq_zero_iff.1 hf
        have h2 : j < listed.size := by
          rcases Nat.lt_or_ge j listed.size with h | h
          · exact h
          · simp [Array.getElem?_eq_none h] at h1
        have h3 : false ∈ listed.toList.filter (fun b => !b) := by
          refine List.mem_filter.2 ⟨?_, rfl⟩
          simp [h2] at h1
          rw [← h1]; simp
        rw [h0] at h3; cases h3
      exact ⟨hr, fin listed a W hs hK hF hk hr⟩
    | succ f ih =>
      intro listed a W hs hf hK hF hk
      refine ⟨fun hr => fin listed a W hs hK hF hk hr, fun i hi => ?_⟩
      obtain ⟨hun, o, ho, hdeps⟩ := mem_ready.1 hi
      have ho' : l[i]? = some o := by rw [← hga]; exact ho
      obtain ⟨R, hR, hst, hob⟩ := hobl i o ho'
      have hil : i < listed.size := by rw [hs]; exact (List.getElem?_eq_some_iff.1 ho').1
      have hcount : ((listed.setIfInBounds i true).toList.filter (fun b => !b)).length = f := by
        have hli : listed[i] = false := by simp [hil] at hun; exact hun
        have hset : (listed.setIfInBounds i true).toList = listed.toList.set i true := by simp
        rw [hset]
        have hge : listed.toList[i]'(by simpa using hil) = false := by simpa using hli
        have := count_set listed.toList i (by simpa using hil) hge
        omega
      have step : ∀ (u : Value) (W' : World), Keep [] W W' → R W' (pv o u) → wpAny P .any l.toArray Q f (listed.setIfInBounds i true) (a.put o.dst u) W' := by
        intro u W' hk' hr'
        refine ih _ _ _ (by simpa using hs) hcount (hK.trans hk' (by simp)) (hF.put ho u) ?_
        intro j hj
        by_cases e : j = i
        · subst e
          unfold knows
          rw [dv_put_same u ho (fun d hd => by rw [hF.size]; exact hin' _ _ _ ho' hd), List.getD_eq_getElem?_getD, hR]
          exact hr'
        · rw [getD_set_ne false (Ne.symm e)] at hj
          have hkj := hk j hj
          unfold knows at hkj ⊢
          rw [dv_put_other u ho (fun d oj hoj hdj hdo => e (nodup_dst hnd (by rw [← hga]; exact hoj) ho' hdj hdo))]
          have hjl : j < l.length := by
            rcases Nat.lt_or_ge j listed.size with h | h
            · omega
            · simp [Array.getElem?_eq_none h] at hj
          obtain ⟨Rj, hRj, hstj, _⟩ := hobl j l[j] (by simp [hjl])
          rw [List.getD_eq_getElem?_getD, hRj] at hkj ⊢
          exact hstj _ _ _ hk' hkj
      have hob2 := hob a W hK hF (allOf_of _ (fun j hj => by
        unfold depsOn at hj
        obtain ⟨e, he, rfl⟩ := List.mem_map.1 hj
        obtain ⟨he1, he2⟩ := List.mem_filter.1 he
        exact hk e.on (hdeps e (Array.mem_toList_iff.1 he1) he2)))
      unfold wpOp
      rw [ho]
      simp only
      rcases hob2 with ⟨hg, hu⟩ | ⟨hg, hr0⟩
      · rw [if_pos (wanted_of hg)]
        refine .inl ?_
        unfold Oper.wp
        generalize (execOp a.eval o).run P W = r at hu ⊢
        cases r with
        | ok n W' =>
          cases n <;> simp only [relUpon] at hu <;> simp only [Oper.upon]
          case value u => exact step u W' hu.2 hu.1
          case skip => exact step undef W' hu.2 (by unfold pv; split <;> exact hu.1)
          case enter g args =>
            refine hu.mono ?_
            rintro e W'' ⟨v, rfl, hr, hk2⟩
            exact step v W'' hk2 hr
        | halt h W' => simp only [relUpon] at hu
      · rw [if_neg (by rw [wanted_of hg]; simp)]
        exact step undef W (Keep.refl _ _) (by unfold pv; split <;> exact hr0)
  have := key l.length (Array.replicate l.toArray.size false) a0 w.drew (by simp) (by simp) (Keep.refl _ _) ⟨rfl, rfl, fun _ _ => rfl⟩ (fun j hj => by rw [getD_replicate_false] at hj; cases hj)
  simpa using this
end

theorem obl_val {P : Program} {ops : Array Oper} {w0 : World} {a0 : Act} {Rs : List RelV} {o : Oper} (v : Value) (hd : o.dst.isSome = true)
    (h : ∀ a W, Keep [] w0 W → Fr ops a0 a → allOf (knows ops Rs a W) (depsOn o) → guardIs ops o a true ∧ (execOp a.eval o).run P W = .ok (.value v) W) : Obl P ops w0 a0 Rs o (fun _ u => u = v) := by
  refine ⟨fun _ _ _ _ e => e, fun a W hK hF hD => .inl ?_⟩
  obtain ⟨hg, hr⟩ := h a W hK hF hD
  refine ⟨hg, ?_⟩
  rw [hr]
  refine ⟨?_, Keep.refl _ _⟩
  unfold pv
  obtain ⟨d, hd⟩ := Option.isSome_iff_exists.1 hd
  rw [hd]
theorem obl_call {P : Program} {ops : Array Oper} {w0 : World} {a0 : Act} {Rs : List RelV} {o : Oper} (R : RelV) (hst : ∀ W W' v, Keep [] W W' → R W v → R W' v) (hd : o.dst.isSome = true)
    (h : ∀ a W, Keep [] w0 W → Fr ops a0 a → allOf (knows ops Rs a W) (depsOn o) → guardIs ops o a true ∧ ∃ f args, (execOp a.eval o).run P W = .ok (.enter f args) W ∧ Calls P f args W (fun e W' => ∃ v, e = .returned v ∧ R W' v ∧ Keep [] W W')) : Obl P ops w0 a0 Rs o R := by
  refine ⟨hst, fun a W hK hF hD => .inl ?_⟩
  obtain ⟨hg, f, args, hr, hc⟩ := h a W hK hF hD
  refine ⟨hg, ?_⟩
  rw [hr]
  refine hc.mono ?_
  rintro e W' ⟨v, rfl, h1, h2⟩
  refine ⟨v, rfl, ?_, h2⟩
  unfold pv
  obtain ⟨d, hd⟩ := Option.isSome_iff_exists.1 hd
  rw [hd]; exact h1
theorem obl_quiet {P : Program} {ops : Array Oper} {w0 : World} {a0 : Act} {Rs : List RelV} {o : Oper} (v : Value) (hd : o.dst.isSome = true)
    (h : ∀ a W, Keep [] w0 W → Fr ops a0 a → allOf (knows ops Rs a W) (depsOn o) → guardIs ops o a true ∧ ∃ f args, (execOp a.eval o).run P W = .ok (.enter f args) W ∧ Calls P f args W (fun e W' => e = .returned v ∧ Below W.heap.size W W')) : Obl P ops w0 a0 Rs o (fun _ u => u = v) := by
  refine obl_call _ (fun _ _ _ _ e => e) hd (fun a W hK hF hD => ?_)
  obtain ⟨hg, f, args, hr, hc⟩ := h a W hK hF hD
  exact ⟨hg, f, args, hr, hc.mono (fun e W' h => ⟨v, h.1, rfl, Keep.of_below h.2 []⟩)⟩
theorem enter_of {P : Program} {o : Oper} {a : Act} {W : World} {R : Ending → World → Prop} {f : FuncId} {args : Array Value} (hr : (execOp a.eval o).run P W = .ok (.enter f args) W) (hc : Calls P f args W R) :
    ∃ f args, (execOp a.eval o).run P W = .ok (.enter f args) W ∧ Calls P f args W R := ⟨f, args, hr, hc⟩
/-- An operation that its guard passes over. -/
theorem obl_off {P : Program} {ops : Array Oper} {w0 : World} {a0 : Act} {Rs : List RelV} {o : Oper} (h : ∀ a W, Keep [] w0 W → Fr ops a0 a → allOf (knows ops Rs a W) (depsOn o) → guardIs ops o a false) : Obl P ops w0 a0 Rs o (fun _ u => u = undef) :=
  ⟨fun _ _ _ _ e => e, fun a W hK hF hD => .inr ⟨h a W hK hF hD, rfl⟩⟩
def eqs (a : Act) : Nat → List Value → Prop
  | _, [] => True
  | i, v :: r => a.tmps.getD i undef = v ∧ eqs a (i + 1) r
theorem eqs_get {a : Act} : ∀ {l : List Value} {i : Nat}, eqs a i l → ∀ j (h : j < l.length), a.tmps.getD (i + j) undef = l[j]
  | v :: r, i, h, 0, _ => h.1
  | v :: r, i, h, j + 1, hj => by
    have := eqs_get h.2 j (by simpa using hj)
    rw [show i + (j + 1) = i + 1 + j by omega]; simpa using this
theorem act_of {a : Act} {l : List Value} (hs : a.tmps.size = l.length) (hd : a.defers = []) (h : eqs a 0 l) : a = { tmps := l.toArray, defers := [] } := by
  obtain ⟨t, d⟩ := a
  simp only at hs hd
  subst hd
  congr 1
  apply Array.ext
  · simpa using hs
  · intro i h1 h2
    have := eqs_get h i (by omega)
    simp only [Nat.zero_add] at this
    simp [Array.getD, h1] at this
    simpa using this

end Go.Proofs.Ytangandfgbnomaa.V
