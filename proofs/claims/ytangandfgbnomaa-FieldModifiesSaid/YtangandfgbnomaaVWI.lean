/- The same within a fence: in a closure, in a round. -/
import Derived.Test.YtangandfgbnomaaVW1
import Derived.OrdersIn
import Derived.RangeFuncCalls
import Derived.OwnWalkIn
namespace Go.Proofs.Ytangandfgbnomaa.V
open Go.RowKit
set_option linter.unusedVariables false
set_option linter.unusedSimpArgs false

def noDefer (l : List Oper) : Bool := l.all (fun o => match o.op with | .defer _ => false | _ => true)
theorem noDefer_of {l : List Oper} {i : Nat} {o : Oper} (h : noDefer l = true) (ho : l[i]? = some o) : ∀ c, o.op ≠ .defer c := by
  intro c e
  have := List.all_eq_true.1 h o (List.mem_of_getElem? ho)
  rw [e] at this
  cases this
section
variable {P : Program} {ops : Array Oper} {w0 : World} {a0 : Act}
theorem wpAnyIn_of_seq {F : Fence} {m : Nat} {md : Region.Mode} {Q' : Exit → Act → World → Prop} : ∀ (l : List Oper) (k : Nat) (listed : Array Bool) (a : Act) (w : World), (∀ j, l[j]? = ops[k + j]?) →
    Region.seqB md ops l.length k listed = true → wpListIn F m P ops Q' l a w → wpAnyIn F m P md ops Q' l.length listed a w
  | [], _, _, _, _, _, hB, h => ⟨by simpa [Region.seqB] using hB, h⟩
  | o :: l, k, listed, a, w, hl, hB, h => by
    have h0 : ops[k]? = some o := by simpa using (hl 0).symm
    simp only [List.length_cons, Region.seqB, Bool.and_eq_true, decide_eq_true_eq] at hB
    refine ⟨fun e => (by rw [hB.1] at e; cases e), fun i hi => ?_⟩
    rw [hB.1] at hi
    have hik : i = k := by simpa using hi
    subst hik
    have hw : wpOpIn F m P ops Q' i (wpListIn F m P ops Q' l) a w := by unfold wpOpIn; simp only [h0]; exact h
    exact wpOpIn_mono (fun a' w' h' => wpAnyIn_of_seq l (i + 1) _ a' w' (fun j => by have := hl (j + 1); simpa [Nat.add_assoc, Nat.add_comm 1 j] using this) hB.2 h') hw

theorem wpIn_region_rel_tail {F : Fence} {m : Nat} {id : Nat} {Q : Exit → Act → World → Prop} {w : World} {l : List Oper} (n T : Nat) (Rs : List RelV) (hFn : ∀ f, F.fn f) (hFd : F.depth = none) (hFc : ∀ (f : FuncId) (args : Array Value) (W : World) (R : Ending → World → Prop), Calls P f args W R → CallsIn F (m - 1) P f args W R) (hnd9 : noDefer l = true) (hm : P.follows .mixedOrders = true) (hB : relB l T = true) (hT : T ≤ a0.tmps.size) (hn : n < l.length) (hsink : Region.sinkB .any l.toArray n = true) (hchain : Region.chainB .any l.toArray n = true)
    (hseq : Region.seqB .any l.toArray (l.length - n) n (Array.replicate n true ++ Array.replicate (l.length - n) false) = true)
    (hO : Obls P l.toArray w.drew a0 Rs (l.take n) Rs)
    (hQ : ∀ a W, Keep [] w.drew W → Fr l.toArray a0 a → allOf (knows l.toArray Rs a W) (List.range n) → wpListIn F m P l.toArray Q (l.drop n) a W) : (Code.region id l.toArray true).wpIn F m P Q a0 w := by
  simp only [relB, Bool.and_eq_true, decide_eq_true_eq] at hB
  obtain ⟨⟨⟨hdep, hnd⟩, hin⟩, hsel⟩ := hB
  have hdep' : ∀ (i : Nat) (o : Oper), l[i]? = some o → ∀ j ∈ depsOn o, j < i := by
    intro i o hi j hj
    have h1 := List.all_eq_true.1 hdep i (List.mem_range.2 (List.getElem?_eq_some_iff.1 hi).1)
    rw [hi] at h1
    simp only [Option.map_some, Option.getD_some] at h1
    exact of_decide_eq_true (List.all_eq_true.1 h1 j hj)
  have hin' : ∀ (i : Nat) (o : Oper) (d : Nat), l[i]? = some o → o.dst = some d → d < a0.tmps.size := by
    intro i o d hi hd
    exact Nat.lt_of_lt_of_le (of_decide_eq_true (List.all_eq_true.1 hin d (List.mem_filterMap.2 ⟨o, List.mem_of_getElem? hi, hd⟩))) hT
  obtain ⟨hlen, hobl'⟩ := hO.get
  have hobl : ∀ (i : Nat) (o : Oper), i < n → l[i]? = some o → ∃ R, Rs[i]? = some R ∧ Obl P l.toArray w.drew a0 Rs o R := fun i o hi ho => hobl' i o (by rw [List.getElem?_take_of_lt hi]; exact ho)
  have hnl : n < l.toArray.size := by simpa using hn
  have hga : ∀ i : Nat, l.toArray[i]? = l[i]? := fun i => by first | rfl | (rw [List.getElem?_toArray]) | simp
  have mem_deps : ∀ {o : Oper} {e : Edge}, e ∈ o.after → Region.binds .any e = true → e.on ∈ depsOn o := fun {o e} he hb => by
    unfold depsOn
    exact List.mem_map.2 ⟨e, List.mem_filter.2 ⟨Array.mem_toList_iff.2 he, hb⟩, rfl⟩
  refine wpIn_region_any hm ?_
  have key : ∀ (f : Nat) (listed : Array Bool) (a : Act) (W : World), HeadInv .any l.toArray n listed → ((listed.toList.take n).filter (fun b => !b)).length = f → Keep [] w.drew W → Fr l.toArray a0 a →
      (∀ j, listed.getD j false = true → knows l.toArray Rs a W j) → wpAnyIn F m P .any l.toArray Q (f + (l.length - n)) listed a W := by
    intro f
    induction f with
    | zero =>
      intro listed a W inv hf hK hF hk
      have hsz := inv.size
      have h0 := List.length_eq_zero_iff.1 hf
      have hall : ∀ j, j < n → listed.getD j false = true := by
        intro j hj
        cases hl : listed.getD j false with
        | true => rfl
        | false =>
          exfalso
          have h2 : j < listed.size := by rw [hsz]; omega
          have h3 : false ∈ (listed.toList.take n).filter (fun b => !b) := by
            refine List.mem_filter.2 ⟨?_, rfl⟩
            have e : (listed.toList.take n)[j]? = some false := by
              rw [List.getElem?_take_of_lt hj, Array.getElem?_toList, Array.getElem?_eq_getElem h2]
              simp [h2] at hl
              rw [hl]
            exact List.mem_of_getElem? e
          rw [h0] at h3; cases h3
      have hlit : listed = Array.replicate n true ++ Array.replicate (l.length - n) false := by
        apply Array.ext
        · rw [hsz]; simp; omega
        · intro i h1 h2
          by_cases hi : i < n
          · have := hall i hi
            simp [h1] at this
            rw [this, Array.getElem_append_left (by simpa using hi)]; simp
          · have := inv.tail i (by omega) (by rw [← hsz]; exact h1)
            simp [h1] at this
            rw [this, Array.getElem_append_right (by simp; omega)]; simp
      have hdl : (l.drop n).length = l.length - n := by simp
      have := wpAnyIn_of_seq (F := F) (m := m) (md := .any) (Q' := Q) (l.drop n) n listed a W (fun j => by simp [List.getElem?_drop]) (by rw [hdl, hlit]; exact hseq) (hQ a W hK hF (allOf_of _ (fun j hj => hk j (hall j (List.mem_range.1 hj)))))
      rw [hdl] at this
      rw [Nat.zero_add]; exact this
    | succ f ih =>
      intro listed a W inv hf hK hF hk
      have hsz := inv.size
      obtain ⟨u, hun, hul⟩ : ∃ u, u < n ∧ listed.getD u true = false := by
        have hne : ((listed.toList.take n).filter (fun b => !b)) ≠ [] := by intro e; rw [e] at hf; simp at hf
        obtain ⟨b, hb⟩ := List.exists_mem_of_ne_nil _ hne
        obtain ⟨hb1, hb2⟩ := List.mem_filter.1 hb
        have hb3 : b = false := by simpa using hb2
        subst hb3
        obtain ⟨u, hu⟩ := List.mem_iff_getElem?.1 hb1
        have hun : u < n := by
          have := (List.getElem?_eq_some_iff.1 hu).1
          rw [List.length_take] at this; omega
        rw [List.getElem?_take_of_lt hun, Array.getElem?_toList] at hu
        exact ⟨u, hun, by simp [hu]⟩
      have hready : Region.ready .any l.toArray listed ≠ [] := by
        -- the least one of the heads that is not listed
        have : ∀ (k u : Nat), u ≤ k → u < n → listed.getD u true = false → Region.ready .any l.toArray listed ≠ [] := by
          intro k
          induction k with
          | zero =>
            intro u hu hun hul e
            have hi : u < l.length := by omega
            have : u ∈ Region.ready .any l.toArray listed := mem_ready.2 ⟨hul, l[u], by simp [hi], fun x hx hb => absurd (hdep' u l[u] (by simp [hi]) x.on (mem_deps hx hb)) (by omega)⟩
            rw [e] at this; cases this
          | succ k ihk =>
            intro u hu hun hul
            by_cases h : ∃ v, v < u ∧ listed.getD v true = false
            · obtain ⟨v, hv, hvl⟩ := h
              exact ihk v (by omega) (by omega) hvl
            · intro e
              have hi : u < l.length := by omega
              have : u ∈ Region.ready .any l.toArray listed := mem_ready.2 ⟨hul, l[u], by simp [hi], fun x hx hb => by
                have hlt := hdep' u l[u] (by simp [hi]) x.on (mem_deps hx hb)
                cases hv : listed.getD x.on false with
                | true => rfl
                | false => exact absurd ⟨x.on, hlt, getD_in (by rw [hsz]; simp; omega) hv⟩ h⟩
              rw [e] at this; cases this
        exact this u u (Nat.le_refl _) hun hul
      rw [show f + 1 + (l.length - n) = (f + (l.length - n)) + 1 by omega]
      refine ⟨fun hr => absurd hr hready, fun i hi => ?_⟩
      have hin : i < n := by
        rcases Nat.lt_or_ge i n with h | h
        · exact h
        · exact absurd hi (tail_waits hsink hchain hnl inv _ u rfl hun hul i h)
      obtain ⟨hun, o, ho, hdeps⟩ := mem_ready.1 hi
      have ho' : l[i]? = some o := by rw [← hga]; exact ho
      obtain ⟨R, hR, hst, hob⟩ := hobl i o hin ho'
      have hil : i < listed.size := by rw [hsz]; simp; omega
      have hcount : (((listed.setIfInBounds i true).toList.take n).filter (fun b => !b)).length = f := by
        have hli : listed[i] = false := by simp [hil] at hun; exact hun
        have hset : (listed.setIfInBounds i true).toList.take n = (listed.toList.take n).set i true := by rw [Array.toList_setIfInBounds, List.take_set]
        rw [hset]
        have hlt : i < (listed.toList.take n).length := by rw [List.length_take]; simp; omega
        have hge : (listed.toList.take n)[i]'hlt = false := by rw [List.getElem_take]; simpa using hli
        have := count_set (listed.toList.take n) i hlt hge
        omega
      have step : ∀ (u : Value) (W' : World), Keep [] W W' → R W' (pv o u) → wpAnyIn F m P .any l.toArray Q (f + (l.length - n)) (listed.setIfInBounds i true) (a.put o.dst u) W' := by
        intro u W' hk' hr'
        refine ih _ _ _ (inv.set hi hin) hcount (hK.trans hk' (by simp)) (hF.put ho u) ?_
        intro j hj
        by_cases e : j = i
        · subst e
          unfold knows
          rw [dv_put_same u ho (fun d hd => by rw [hF.size]; exact hin' _ _ _ ho' hd), List.getD_eq_getElem?_getD, hR]
          exact hr'
        · rw [getD_set_ne false (Ne.symm e)] at hj
          have hkj := hk j hj
          unfold knows at hkj ⊢
          rw [dv_put_other u ho (fun d oj hoj hdj hdo => e (nodup_dst hnd (by rw [← hga]; exact hoj) ho' hdj hdo))]
          by_cases hjn : j < n
          · obtain ⟨Rj, hRj, hstj, _⟩ := hobl j l[j] hjn (by simp <;> omega)
            rw [List.getD_eq_getElem?_getD, hRj] at hkj ⊢
            exact hstj _ _ _ hk' hkj
          · have hjs : j < listed.size := by
              rcases Nat.lt_or_ge j listed.size with h | h
              · exact h
              · simp [Array.getElem?_eq_none h] at hj
            have := inv.tail j (by omega) (by rw [← hsz]; exact hjs)
            simp [hjs] at this hj
            rw [this] at hj; cases hj
      have hob2 := hob a W hK hF (allOf_of _ (fun j hj => by
        unfold depsOn at hj
        obtain ⟨e, he, rfl⟩ := List.mem_map.1 hj
        obtain ⟨he1, he2⟩ := List.mem_filter.1 he
        exact hk e.on (hdeps e (Array.mem_toList_iff.1 he1) he2)))
      unfold wpOpIn
      rw [ho]
      simp only
      rcases hob2 with ⟨hg, hu⟩ | ⟨hg, hr0⟩
      · rw [if_pos (wanted_of hg)]
        unfold Oper.wpIn
        refine ⟨fun f _ => hFn f, ?_⟩
        rw [Oper.semAt_plain F _ _ (noDefer_of hnd9 ho')]
        generalize (execOp a.eval o).run P W = r at hu ⊢
        cases r with
        | ok n W' =>
          cases n <;> simp only [relUpon] at hu <;> simp only [Oper.uponIn]
          case value u => exact step u W' hu.2 hu.1
          case skip => exact step undef W' hu.2 (by unfold pv; split <;> exact hu.1)
          case enter g args =>
            refine ⟨fun h => (by rw [hFd] at h; cases h), hFc _ _ _ _ (hu.mono ?_)⟩
            rintro e W'' ⟨v, rfl, hr, hk2⟩
            exact step v W'' hk2 hr
        | halt h W' => simp only [relUpon] at hu
      · rw [if_neg (by rw [wanted_of hg]; simp)]
        refine ⟨fun f _ => hFn f, ?_⟩
        exact step undef W (Keep.refl _ _) (by unfold pv; split <;> exact hr0)
  have inv0 : HeadInv .any l.toArray n (Array.replicate l.toArray.size false) :=
    ⟨by simp, fun j oj _ hl => (by rw [getD_replicate_false] at hl; cases hl), fun t _ ht => getD_in (by simpa using ht) (getD_replicate_false _ _)⟩
  have := key n (Array.replicate l.toArray.size false) a0 w.drew inv0 (by simp [List.take_replicate] <;> omega) (Keep.refl _ _) ⟨rfl, rfl, fun _ _ => rfl⟩ (fun j hj => by rw [getD_replicate_false] at hj; cases hj)
  rw [show n + (l.length - n) = l.toArray.size by simp; omega] at this
  exact this
end

/-- The wide fence's words, in a round. -/
theorem wide_fn (l : Nat) : ∀ f, (Fence.wide.inRound l).fn f := fun _ => trivial
theorem wide_calls {P : Program} (m l : Nat) : ∀ (f : FuncId) (args : Array Value) (W : World) (R : Ending → World → Prop), Calls P f args W R → CallsIn (Fence.wide.inRound l) m P f args W R := fun _ _ _ _ h => CallsIn.inRound l (callsIn_wide.2 h)

end Go.Proofs.Ytangandfgbnomaa.V
