/- cursor.Index; the first ones of what tabs come to. -/
import Derived.Test.YtangandfgbnomaaVP4
import Derived.Test.YtangandfgbnomaaVP3
namespace Go.Proofs.Ytangandfgbnomaa.V
open Go.RowKit Go.Shelf
set_option linter.unusedVariables false
set_option linter.unusedSimpArgs false

attribute [local go_sem] Oper.semAt_some

theorem ixof_none {l : List Int} {c : Int} (h : ∀ x ∈ l, x ≠ c) : ixof l c = -1 := by
  unfold ixof
  have hs : srch (fun i => c == l.getD i 0) l.length = l.length := by
    refine srch_eq (Nat.le_refl _) (fun j hj => ?_) (fun h => absurd h (Nat.lt_irrefl _))
    rw [List.getD_eq_getElem?_getD, List.getElem?_eq_getElem hj]
    have h1 := h _ (List.getElem_mem hj)
    exact beq_eq_false_iff_ne.2 (fun e => h1 e.symm)
  rw [hs, if_neg (Nat.lt_irrefl _)]
theorem ixof_at {pre l : List Int} {c : Int} (h : ∀ x ∈ pre, x ≠ c) (hp : pre ++ [c] <+: l) : ixof l c = pre.length := by
  obtain ⟨t, rfl⟩ := hp
  have hlt : pre.length < (pre ++ [c] ++ t).length := by simp
  have hs : srch (fun i => c == (pre ++ [c] ++ t).getD i 0) (pre ++ [c] ++ t).length = pre.length := by
    refine srch_eq (by omega) (fun j hj => ?_) (fun _ => ?_)
    · have e : (pre ++ [c] ++ t).getD j 0 = pre[j] := by
        rw [List.getD_eq_getElem?_getD, List.append_assoc, List.getElem?_append_left hj, List.getElem?_eq_getElem hj]; rfl
      rw [e]
      have := h _ (List.getElem_mem hj)
      simp only [beq_eq_false_iff_ne, ne_eq]
      exact fun e => this e.symm
    · have e : (pre ++ [c] ++ t).getD pre.length 0 = c := by
        rw [List.getD_eq_getElem?_getD, List.append_assoc, List.getElem?_append_right (Nat.le_refl _), Nat.sub_self]; rfl
      rw [e]; simp
  unfold ixof
  rw [hs, if_pos hlt]

/-- The round of cursor.Index. -/
def IxI (w : World) (p : Nat) (cur : Int) (pre : List Int) (V : World) : Prop :=
  (∀ x ∈ pre, x ≠ cur) ∧ Blk V (w.heap.size + 1 + 1) [.int .i64 (pre.length : Int)] 3 ∧ Blk V (w.heap.size + 1) [.int .i64 0] 3 ∧ Blk V w.heap.size [.pointer (some ⟨p, 0, none⟩)] 61 ∧ Keep [] w V
def IxX (w : World) (cur : Int) (c : Code) (pre : List Int) (V : World) : Prop :=
  (c = .ret ∧ ∃ pr, pre = pr ++ [cur] ∧ (∀ x ∈ pr, x ≠ cur) ∧ Blk V (w.heap.size + 1) [.int .i64 (pr.length : Int)] 3) ∧ Keep [] w V
theorem ownFrom_pure {β : Type} {B : Nat} {q : β → Prop} : OwnFrom B (fun (x : β) (_ : World) => q x) := fun _ _ _ _ h _ _ => h
theorem ixi_own {w : World} {p B : Nat} {cur : Int} (h : w.heap.size ≤ B) : OwnFrom B (IxI w p cur) :=
  OwnFrom.and ownFrom_pure (OwnFrom.and (ownFrom_blk (f := fun pre : List Int => [Value.int .i64 (pre.length : Int)])) (OwnFrom.and (ownFrom_blk (f := fun _ : List Int => [Value.int .i64 0])) (OwnFrom.and (ownFrom_blk (f := fun _ : List Int => [Value.pointer (some ⟨p, 0, none⟩)])) (ownFrom_keep h))))
theorem ixx_own {w : World} {B : Nat} {cur : Int} {c : Code} (h : w.heap.size ≤ B) : OwnFrom B (IxX w cur c) := by
  refine OwnFrom.and ?_ (ownFrom_keep h)
  rintro pre X Y row ⟨hc, pr, e, hne, hb⟩ hg hr
  exact ⟨hc, pr, e, hne, ownFrom_blk (β := Unit) (f := fun _ => [Value.int .i64 (pr.length : Int)]) () X Y row hb hg hr⟩

set_option maxRecDepth 100000 in
set_option maxHeartbeats 2000000 in
theorem cindex_calls {w : World} {p b : Nat} {s : S} (h : PSp w p b s) (ok : s.ok) :
    Calls Try.prog 94 #[.pointer (some ⟨p, 0, none⟩)] w fun e w' => e = .returned (.int .i64 (ixof (tbl s.l) s.cur)) ∧ Below w.heap.size w w' := by
  refine (callsIn_wide (n := 4)).1 ?_
  have hpb : p < w.heap.size ∧ b < w.heap.size := by obtain ⟨_, _, _, x1, x2⟩ := id h; exact ⟨x1.lt, x2.lt⟩
  have htc := tabs_calls (((w.alloc (.cells #[.pointer (some ⟨p, 0, none⟩)] 61)).alloc (.cells #[.int .i64 0] 3)).alloc (.cells #[.int .i64 0] 3)) p
  simp only [World.size_alloc] at htc
  have hN := (ok.ix 0).2.2.1
  have htl : (tbl s.l).length ≤ 3564 := by rw [tbl_length, tbs_length]; have := rk_le s.l s.l.length; omega
  have HTL := Aside0.mk htl
  refine callsIn_of_wp_marks Try.func94 rfl trivial ?_ rfl
  simp only [Try.ntmps94, List.size_toArray, List.length_cons, List.length_nil, Nat.reduceAdd, Nat.reduceSub, Array.replicate_succ, Array.replicate_zero, List.push_toArray, List.append_toArray, List.nil_append, List.cons_append]
  gi_wp2_with (first
    | (refine ⟨trivial, ?_⟩; gi_at_call 92; (with_reducible refine (callsIn_wide.2 htc).mono ?_); rintro e w1 ⟨rfl, rfl⟩))
  have k1 : Keep [] w (w.alloc (.cells #[.pointer (some ⟨p, 0, none⟩)] 61)) := (Keep.refl [] w).alloc _
  have a1 := Blk.new w [.pointer (some ⟨p, 0, none⟩)] 61
  have a2 := Blk.new (w.alloc (.cells #[.pointer (some ⟨p, 0, none⟩)] 61)) [.int .i64 0] 3
  have a3 := Blk.new ((w.alloc (.cells #[.pointer (some ⟨p, 0, none⟩)] 61)).alloc (.cells #[.int .i64 0] 3)) [.int .i64 0] 3
  have a4 := Blk.new (((w.alloc (.cells #[.pointer (some ⟨p, 0, none⟩)] 61)).alloc (.cells #[.int .i64 0] 3)).alloc (.cells #[.int .i64 0] 3)) [.pointer (some ⟨p, 0, none⟩)] 61
  simp only [World.size_alloc] at a2 a3 a4
  have B1 := ((a1.alloc (.cells #[.int .i64 0] 3)).alloc (.cells #[.int .i64 0] 3)).alloc (.cells #[.pointer (some ⟨p, 0, none⟩)] 61)
  have B2 := (a2.alloc (.cells #[.int .i64 0] 3)).alloc (.cells #[.pointer (some ⟨p, 0, none⟩)] 61)
  have B3 := a3.alloc (.cells #[.pointer (some ⟨p, 0, none⟩)] 61)
  have K1 := ((k1.alloc (.cells #[.int .i64 0] 3)).alloc (.cells #[.int .i64 0] 3)).alloc (.cells #[.pointer (some ⟨p, 0, none⟩)] 61)
  have hs1 := h.keep K1 (by simp) (by simp)
  have hsz : ((((w.alloc (.cells #[.pointer (some ⟨p, 0, none⟩)] 61)).alloc (.cells #[.int .i64 0] 3)).alloc (.cells #[.int .i64 0] 3)).alloc (.cells #[.pointer (some ⟨p, 0, none⟩)] 61)).heap.size = w.heap.size + 4 := by simp only [World.size_alloc]
  generalize hW : (((w.alloc (.cells #[.pointer (some ⟨p, 0, none⟩)] 61)).alloc (.cells #[.int .i64 0] 3)).alloc (.cells #[.int .i64 0] 3)).alloc (.cells #[.pointer (some ⟨p, 0, none⟩)] 61) = W at *
  have hst := tabs_stops (holds_kc (R := [w.heap.size + 1, w.heap.size + 1 + 1]) (w.heap.size + 3) (by simp)) hs1 ok a4 (by omega) ⟨by simp; omega, by simp; omega, by simp; omega⟩ 3 (by decide)
  have HPS := Aside0.mk h
  refine wpIn_rangeFunc_ownG (F := Fence.wide) (n := 4) rfl (by decide) (gf := 161) (lb := #[.pointer (some ⟨w.heap.size + 1 + 1 + 1, 0, none⟩)]) rfl trivial (enters_of Try.func161 (by kernel_rfl) rfl)
    hst KC.trans (fun W l o o' hl ho hc hw => KC.put ho hc) (Below.refl _ _) (fun _ => rfl)
    (IxI w p s.cur) (IxX w s.cur)
    (ixi_own (by omega)) (fun c => ixx_own (by omega)) ⟨(fun x hx => by cases hx), B3, B2, B1, K1⟩
    (fun x => { tmps := #[.pointer (some ⟨p, 0, none⟩), .pointer (some ⟨w.heap.size, 0, none⟩), .pointer (some ⟨w.heap.size + 1, 0, none⟩), .pointer (some ⟨w.heap.size + 1 + 1, 0, none⟩), .int .i64 x, .pointer (some ⟨p, 0, none⟩), .func (.func 161) #[] #[.pointer (some ⟨w.heap.size + 1 + 1 + 1, 0, none⟩)], .int .i64 x, undef, undef, undef, undef, undef, undef, undef], defers := [] }) ?assign ?body ?done ?stop
  case assign =>
    intro l x V K hK
    gi_wp2

    exact hK
  case body =>
    rintro l pre x V ⟨hne, hB3, hB2, hB1, hK⟩ hlen
    have c3 := hB3.cell 0
    have c2 := hB2.cell 0
    have c1 := hB1.cell 0
    have f3 := hB3.frozen
    have f2 := hB2.frozen
    have l3 := hB3.lt
    have l2 := hB2.lt
    simp only [List.getElem?_cons_zero] at c3 c2 c1
    have hcu : ∀ U, Keep [] V U → Calls Try.prog 64 #[.pointer (some ⟨p, 0, none⟩)] U fun e w' => e = .returned (.int .i64 s.cur) ∧ U = w' := fun U k => cursor_calls ((HPS.out.keep hK (by simp) (by simp)).keep k (by simp) (by simp))
    have hp : (pre.length : Int) ≤ 3564 := by have := HTL.out; omega
    have hp0 : (0 : Int) ≤ (pre.length : Int) := by omega
    have HH := Aside0.mk (And.intro hne (And.intro hB3 (And.intro hB2 (And.intro hB1 hK))))
    have k0 : Keep [] V V := Keep.refl _ _
    obtain ⟨q, hq⟩ : ∃ q, (x == s.cur) = q := ⟨_, rfl⟩
    have HQ := Aside0.mk hq
    clear hne hB3 hB2 hB1 hK hlen
    cases q
    · have hxb : ¬ x = s.cur := by simpa using hq
      gi_wp2_with (refine ⟨trivial, ?_⟩; gi_at_call 64; (with_reducible refine (CallsIn.inRound l (callsIn_wide.2 (hcu _ k0))).mono ?_); rintro e w2 ⟨rfl, rfl⟩)
      obtain ⟨hne, hB3, hB2, hB1, hK⟩ := HH.out
      have hk : Keep [w.heap.size + 1, w.heap.size + 1 + 1] V (V.setCell ⟨w.heap.size + 1 + 1, 0, none⟩ (.int .i64 ((pre.length : Int) + 1))) := (Keep.refl _ V).setCell (p := ⟨w.heap.size + 1 + 1, 0, none⟩) (.inl (by simp)) _
      refine ⟨hk.keepsFrom _ ?_, hk.kc, ?_, ?_, ?_, ?_, ?_⟩
      · intro r hr
        simp only [List.mem_cons, List.not_mem_nil, or_false] at hr
        rcases hr with rfl | rfl
        · exact ⟨_, hB2, rfl⟩
        · exact ⟨_, hB3, rfl⟩
      · intro y hy
        rcases List.mem_append.1 hy with hy | hy
        · exact hne y hy
        · rw [List.mem_singleton] at hy; subst hy; exact hxb
      · have := hB3.set 0 (.int .i64 ((pre.length : Int) + 1))
        rw [List.length_append]; exact this
      · exact hB2.other (p := ⟨w.heap.size + 1 + 1, 0, none⟩) (by show w.heap.size + 1 ≠ w.heap.size + 1 + 1; omega) _
      · exact hB1.other (p := ⟨w.heap.size + 1 + 1, 0, none⟩) (by show w.heap.size ≠ w.heap.size + 1 + 1; omega) _
      · exact hK.setCell (p := ⟨w.heap.size + 1 + 1, 0, none⟩) (.inr (by show w.heap.size ≤ w.heap.size + 1 + 1; omega)) _
    · have hxb : x = s.cur := by simpa using hq
      gi_wp2_with (refine ⟨trivial, ?_⟩; gi_at_call 64; (with_reducible refine (CallsIn.inRound l (callsIn_wide.2 (hcu _ k0))).mono ?_); rintro e w2 ⟨rfl, rfl⟩)
      obtain ⟨hne, hB3, hB2, hB1, hK⟩ := HH.out
      have hk : Keep [w.heap.size + 1] V (V.setCell ⟨w.heap.size + 1, 0, none⟩ (.int .i64 (pre.length : Int))) := (Keep.refl _ V).setCell (p := ⟨w.heap.size + 1, 0, none⟩) (.inl (by simp)) _
      refine ⟨hk.keepsFrom _ ?_, ⟨rfl, pre, by rw [hxb], hne, hB2.set 0 _⟩, hK.setCell (p := ⟨w.heap.size + 1, 0, none⟩) (.inr (by show w.heap.size ≤ w.heap.size + 1; omega)) _⟩
      intro r hr
      rw [List.mem_singleton] at hr
      subst hr
      exact ⟨_, hB2, rfl⟩
  case done =>
    rintro D ys V hD rfl ⟨hne, hB3, hB2, hB1, hK⟩ hKD
    have c2 := hB2.cell 0
    have f2 := hB2.frozen
    have l2 := hB2.lt
    simp only [List.getElem?_cons_zero] at c2
    gi_wp2
    have hB4 := hB2.set 0 (.int .i64 (-1))
    have hK4 := hK.setCell (p := ⟨w.heap.size + 1, 0, none⟩) (.inr (by show w.heap.size ≤ w.heap.size + 1; omega)) (.int .i64 (-1))
    have hKD4 := (KeepsOthers.setCell V ⟨w.heap.size + 1, 0, none⟩ (.int .i64 (-1))).same D _ hKD rfl
    refine ⟨by simp, .inl ⟨_, _, rfl, run_takeDeferred hKD4, ?_⟩⟩
    have hc5 := (hB4.putObj (o' := .deferred none) hKD4 rfl).cell 0
    simp only [List.set_cons_zero, List.getElem?_cons_zero] at hc5
    refine ⟨.int .i64 (-1), ?_, by rw [ixof_none hne], (hK4.putObj (by omega)).below⟩
    simp [results, Try.f94, go_sem, hc5]
  case stop =>
    rintro D c pre V hD hpre ⟨⟨hc, pr, hpr, hne, hB2⟩, hK⟩ hKD
    subst hc hpr
    gi_wp2
    refine ⟨by simp, .inl ⟨_, _, rfl, run_takeDeferred hKD, ?_⟩⟩
    have hc5 := (hB2.putObj (o' := .deferred none) hKD rfl).cell 0
    simp only [List.getElem?_cons_zero] at hc5
    refine ⟨.int .i64 (pr.length : Int), ?_, by rw [ixof_at hne hpre], (hK.putObj (by omega)).below⟩
    simp [results, Try.f94, go_sem, hc5]

end Go.Proofs.Ytangandfgbnomaa.V
