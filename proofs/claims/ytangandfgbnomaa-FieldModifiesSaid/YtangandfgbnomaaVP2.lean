/- Collecting what an iterator tells: where a row lies behind an append. -/
import Derived.Test.YtangandfgbnomaaVP0
import Derived.Test.YtangandfgbnomaaVZ1
namespace Go.Proofs.Ytangandfgbnomaa.V
open Go.RowKit Go.Shelf
set_option linter.unusedVariables false
set_option linter.unusedSimpArgs false

attribute [local go_sem] Oper.semAt_some

/-- An append of one number: the row stays in its block, or lies in a new one. -/
theorem append79 (w : World) (base : Nat) (v : Value) (n : Nat) (xs : List Value) (hown : w.ownsRow base 3 1 v n xs) (a : Addr) (x : Value) (hx1 : x.oneCell' = true) (hc : w.cell? a = some x) (cp : Nat) (hn : n ≤ 100000) (hb : base ≤ w.heap.size) :
    ∃ v' w', (Builtin.append_ #[79, 79] 79 #[v, .slice (some a) 1 cp]).run Try.prog w = .ok v' w' ∧ w'.ownsRow base 3 1 v' (n + 1) (xs ++ [x]) ∧ w.grownBy w' v.ownBlock ∧ (v'.ownBlock = v.ownBlock ∨ v'.ownBlock = some w.heap.size) := by
  obtain ⟨i0, hi, hz0, hz1, hz2⟩ := info_parts info3'
  have hnews : ∀ j u, [x][j]? = some u → w.cell? (a.add j) = some u := by
    intro j u hu
    have hj : j = 0 := by have := (List.getElem?_eq_some_iff.1 hu).1; simpa using this
    subst hj
    have e0 : a.add 0 = a := by unfold Addr.add; rw [if_pos rfl]
    rw [e0, hc]; exact hu
  have h1 : ∀ u ∈ [x], u.oneCell' = true := by intro u hu; rw [List.mem_singleton] at hu; subst hu; exact hx1
  obtain ⟨v', w', hr, ho, hg, _⟩ := run_append_own (P := Try.prog) w base 79 79 3 i0 _ 1 8 Try.underlying79 hi hz0 hz1 hz2 rfl (by decide) v n xs hown a 1 cp [x] rfl hnews h1 (by unfold maxLen; omega) (by omega) hb
  refine ⟨v', w', hr, ho, hg, ?_⟩
  have hl1 : [x].length = 1 * i0.size := by rw [hz1]; rfl
  rcases hown.2 with ⟨rfl, rfl⟩ | ⟨g, cap, cur, rfl, hbg, hgg, hnc, hcm, hcs, htake⟩
  · have h2 := run_append_nil (P := Try.prog) w 79 79 3 i0 _ Try.underlying79 hi hz0 a 1 cp [x] hl1 hnews (by omega) (by omega) (by rw [hz2]; omega)
    rw [hr] at h2
    injection h2 with h2 _
    subst h2
    exact .inr rfl
  · by_cases hroom : n + 1 ≤ cap
    · have h2 := run_append_room (P := Try.prog) w 79 79 3 i0 Try.underlying79 hi g n cap cur hgg a 1 cp [x] hl1 hnews h1 hroom (by rw [hz1, hcs]; simp; omega)
      rw [hr] at h2
      injection h2 with h2 _
      subst h2
      exact .inl rfl
    · have holds := hown.cells (g := g) rfl
      have h2 := run_append_grow (P := Try.prog) w 79 79 3 i0 _ Try.underlying79 hi hz0 ⟨g, 0, none⟩ n cap xs (by rw [hz1]; exact hown.1) holds a 1 cp [x] hl1 hnews (by omega) (by omega) (growslice_fits (by omega) (by rw [hz2]; omega))
      rw [hr] at h2
      injection h2 with h2 _
      subst h2
      exact .inr rfl

/-- A builtin whose run is known, within a fence. -/
theorem wpListIn_ran {P : Program} {F : Fence} {n : Nat} {w : World} {ops : Array Oper} {rest : List Oper} {o : Oper} {a : Act} {Q : Exit → Act → World → Prop} (hg : o.guard = none) (s x : Operand)
    (hop : o.op = Op.call { callee := Callee.builtin Builtin.append, args := #[s, x], argTypes := #[79, 79] }) (ht : o.type = 79) {v u v' : Value} {w' : World} (hs : a.eval s = v) (hx : a.eval x = u)
    (hrun : (Builtin.append_ #[79, 79] 79 #[v, u]).run P w = .ok v' w') (hK : wpListIn F n P ops Q rest (a.put o.dst v') w') : wpListIn F n P ops Q (o :: rest) a w := by
  refine wpListIn_plain hg fun K hK' => ?_
  refine ⟨?_, ?_⟩
  · simp [Oper.about, hop, resolve, Target.leads, Sem.run_pure]
  · rw [Oper.semAt_plain F _ _ (by rw [hop]; intro c hc'; cases hc')]
    simp only [execOp, hop, resolve, invoke, builtin, hs, hx, ht, List.map_toArray, List.map_cons, List.map_nil, Sem.run_bind, Sem.run_pure, Result.andThen]
    rw [hrun]
    exact hK' _ _ hK

/-- An iterator that tells l, whatever row is appended to behind each round. -/
def Tells (w : World) (gf : Nat) (lb : Array Value) (l : List Int) : Prop :=
  ∀ (B : Nat) (W : World), Keep [] w W → w.heap.size ≤ B → Blk W B [.slice none 0 0] 79 → SeqStopsK Fence.wide 6 Try.prog gf lb (fun x : Int => #[Value.int .i64 x]) (KO B) (fun ys => ys = l) (fun pre => pre <+: l) l.length W

/-- What a round of collecting has: the row so far, in B's box. -/
def Coll (w : World) (B base : Nat) (pre : List Int) (W : World) : Prop := (∃ v, Boxed W B 79 v ∧ W.ownsRow base 3 1 v pre.length (pre.map (Value.int .i64)) ∧ (pre = [] → v = .slice none 0 0)) ∧ Keep [] w W
theorem coll_own {w : World} {B base B0 : Nat} (h : w.heap.size ≤ B0) : OwnFrom B0 (Coll w B base) :=
  OwnFrom.and (Own.from (holdsRow_own base B 79 3 1 (fun pre : List Int => pre.length) (fun pre => pre.map (Value.int .i64)) (fun pre v => pre = [] → v = .slice none 0 0)) _) (ownFrom_keep h)

theorem own_shape {W : World} {base n : Nat} {v : Value} {xs : List Value} (h : W.ownsRow base 3 1 v (n + 1) xs) : ∃ g cap, v = .slice (some ⟨g, 0, none⟩) (n + 1) cap ∧ g < W.heap.size ∧ base ≤ g := by
  rcases h.2 with ⟨_, h0⟩ | ⟨g, cap, cur, rfl, hb, hg, _⟩
  · omega
  · exact ⟨g, cap, rfl, (Array.getElem?_eq_some_iff.1 hg).1, hb⟩
/-- One round of collecting. -/
theorem coll_round {w V w1 : World} {B base : Nat} {pre : List Int} {x : Int} {v v' : Value} {tmp : Obj} (hv : Boxed V B 79 v) (hrow : V.ownsRow base 3 1 v pre.length (pre.map (Value.int .i64))) (hK : Keep [] w V) (hB : w.heap.size ≤ B) (hb : w.heap.size ≤ base) (hbV : base ≤ V.heap.size)
    (hown : w1.ownsRow base 3 1 v' (pre.length + 1) (pre.map (Value.int .i64) ++ [.int .i64 x])) (hg : (V.alloc tmp).grownBy w1 v.ownBlock) (hw : v'.ownBlock = v.ownBlock ∨ v'.ownBlock = some (V.alloc tmp).heap.size) :
    (∀ B0, KeepsFrom B0 V (w1.setCell ⟨B, 0, none⟩ v')) ∧ KO B V (w1.setCell ⟨B, 0, none⟩ v') ∧ Coll w B base (pre ++ [x]) (w1.setCell ⟨B, 0, none⟩ v') := by
  have hv1 : Boxed w1 B 79 v := (hv.alloc tmp).kept hg (hv.not_row (by decide) hrow)
  have hv2 := hv1.set v'
  have hr2 : (w1.setCell ⟨B, 0, none⟩ v').ownsRow base 3 1 v' (pre.length + 1) (pre.map (Value.int .i64) ++ [.int .i64 x]) := hown.kept (grownBy_setCell' w1 B v') (.inr (hv1.not_row (by decide) hown).symm)
  obtain ⟨g', cap', rfl, hg1, hg2⟩ := own_shape hown
  have hsz : (w1.setCell ⟨B, 0, none⟩ (.slice (some ⟨g', 0, none⟩) (pre.length + 1) cap')).heap.size = w1.heap.size := by simp [World.setCell]
  have hs1 := hg.size
  rw [World.size_alloc] at hs1
  -- a block that is neither the box nor the row
  have hblk : ∀ k o, k ≠ B → some k ≠ v.ownBlock → V.heap[k]? = some o → (w1.setCell ⟨B, 0, none⟩ (.slice (some ⟨g', 0, none⟩) (pre.length + 1) cap')).heap[k]? = some o := by
    intro k o h1 h2 h3
    have hk := (Array.getElem?_eq_some_iff.1 h3).1
    rw [Below.heap_setCell w1 ⟨B, 0, none⟩ _ k h1, hg.block k (by rw [World.size_alloc]; omega) h2, Below.heap_alloc V tmp k hk]
    exact h3
  have howned : ∀ k, some k = v.ownBlock → owned B V k := by
    intro k hk
    unfold owned
    rcases hrow.2 with ⟨rfl, _⟩ | ⟨g, cap, cur, rfl, _⟩
    · simp [Value.ownBlock] at hk
    · simp only [Value.ownBlock, Option.some.injEq] at hk
      subst hk
      exact ⟨_, _, hv.cell⟩
  refine ⟨fun B0 => ⟨by rw [hsz]; omega, ?_⟩, ⟨by rw [hsz]; omega, ?_, ?_⟩, ⟨⟨_, hv2, ?_, ?_⟩, ?_⟩⟩
  · intro k o _ h3 ho
    refine hblk k o ?_ ?_ h3
    · rintro rfl
      rw [show V.heap[k]? = _ from hv] at h3; cases h3; cases ho
    · intro e
      rcases hrow.2 with ⟨rfl, _⟩ | ⟨g, cap, cur, rfl, _, hgg, _⟩
      · simp [Value.ownBlock] at e
      · simp only [Value.ownBlock, Option.some.injEq] at e
        subst e
        rw [hgg] at h3; cases h3; cases ho
  · intro k o h1 h2 h3 _
    exact hblk k o h1 (fun e => h2 (howned k e)) h3
  · rintro k ⟨n, c, hk⟩
    rw [hv2.cell] at hk
    injection hk with hk
    injection hk with hk1 _ _
    injection hk1 with hk1
    injection hk1 with hk1
    subst hk1
    rcases hw with h1 | h1
    · exact .inl (howned _ h1)
    · simp only [Value.ownBlock, Option.some.injEq] at h1
      rw [World.size_alloc] at h1
      rw [hsz]
      exact .inr ⟨by omega, hg1⟩
  · rw [List.length_append, List.map_append]; exact hr2
  · intro e; simp at e
  · refine ⟨hg.os.trans hK.os, hg.tape.trans hK.tape, hg.output.trans hK.output, by rw [hsz]; have := hK.size; omega, fun k hk hn => ?_⟩
    obtain ⟨o, ho⟩ : ∃ o, V.heap[k]? = some o := ⟨_, Array.getElem?_eq_getElem (Nat.lt_of_lt_of_le hk hK.size)⟩
    rw [hblk k o (by omega) (fun e => ?_) ho, ← ho, hK.block k hk hn]
    rcases hrow.2 with ⟨rfl, _⟩ | ⟨g, cap, cur, rfl, hbg, _⟩
    · simp [Value.ownBlock] at e
    · simp only [Value.ownBlock, Option.some.injEq] at e
      omega

set_option maxRecDepth 100000 in
set_option maxHeartbeats 2000000 in
theorem appendSeq_calls {w : World} {gf : Nat} {lb : Array Value} {l : List Int} (hE : Enters Try.prog gf) (hl : l.length ≤ 99999) (hT : Tells w gf lb l) :
    Calls Try.prog 156 #[.slice none 0 0, .func (.func gf) #[] lb] w fun e w' => ∃ v, e = .returned v ∧ IR w' w.heap.size v l ∧ Below w.heap.size w w' := by
  refine (callsIn_wide (n := 7)).1 ?_
  refine callsIn_of_wp_marks Try.func156 rfl trivial ?_ rfl
  simp only [Try.ntmps156, List.size_toArray, List.length_cons, List.length_nil, Nat.reduceAdd, Nat.reduceSub, Array.replicate_succ, Array.replicate_zero, List.push_toArray, List.append_toArray, List.nil_append, List.cons_append]
  gi_wp2
  have b0 := Blk.new w [.slice none 0 0] 79
  have k1 : Keep [] w (w.alloc (.cells #[.slice none 0 0] 79)) := (Keep.refl [] w).alloc _
  have hsz : (w.alloc (.cells #[.slice none 0 0] 79)).heap.size = w.heap.size + 1 := World.size_alloc _ _
  generalize (w.alloc (.cells #[.slice none 0 0] 79)) = W at *
  have hst := hT w.heap.size W k1 (Nat.le_refl _) b0
  refine wpIn_rangeFunc_ownG (F := Fence.wide) (n := 7) rfl (by decide) (gf := gf) (lb := lb) rfl trivial hE
    hst KO.trans (fun V l o o' hl ho hc hw => KO.put (by omega) ho hc) (Below.refl _ _) (fun _ => rfl)
    (Coll w w.heap.size (w.heap.size + 1)) (fun _ _ _ => False)
    (coll_own (by omega)) (fun _ _ _ _ _ hs _ _ => hs) ⟨⟨.slice none 0 0, b0, World.ownsRow_nil _ _ _ _, fun _ => rfl⟩, k1⟩
    (fun x => { tmps := #[.slice none 0 0, .func (.func gf) #[] lb, .pointer (some ⟨w.heap.size, 0, none⟩), undef, .slice none 0 0, .int .i64 x, .func (.func gf) #[] lb, .int .i64 x, undef, undef, undef, undef, undef], defers := [] }) ?assign ?body ?done ?stop
  case assign =>
    intro l x V K hK
    gi_wp2
    exact hK
  case body =>
    rintro lr pre x V ⟨⟨v, hv, hrow, hnil⟩, hK⟩ hlen
    have hc := hv.cell
    have hVs := hK.size
    obtain ⟨hb1, hb2⟩ : w.heap.size < V.heap.size ∧ w.heap.size + 1 ≤ V.heap.size := by have := hv.lt; omega
    obtain ⟨v', w1, hrun, hown, hgr, hwh⟩ := append79 (V.alloc (.cells #[.int .i64 x] 3)) (w.heap.size + 1) v pre.length _ (hrow.alloc _) ⟨V.heap.size, 0, none⟩ (.int .i64 x) rfl ((Blk.new V [.int .i64 x] 3).cell 0) 1 (by omega) (by rw [World.size_alloc]; omega)
    obtain ⟨q1, q2, q3⟩ := coll_round hv hrow hK (Nat.le_refl _) (by omega) (by omega) hown hgr hwh
    have hv1 : Boxed w1 w.heap.size 79 v := (hv.alloc _).kept hgr (hv.not_row (by decide) hrow)
    obtain ⟨g', cap', rfl, _, _⟩ := own_shape hown
    have hc1 := hv1.cell
    have hf1 := hv1.frozen
    have hl1 := hv1.lt
    have Q1 := Aside0.mk (And.intro q1 (And.intro q2 q3))
    clear q1 q2 q3 hown hgr hwh hrow hnil hK hlen hv hv1
    gi_wp2_with (gi_at_builtin; refine wpListIn_ran rfl _ _ rfl rfl rfl rfl hrun ?_)
    exact ⟨Q1.out.1 _, Q1.out.2.1, Q1.out.2.2⟩
  case done =>
    rintro D ys V hD rfl ⟨⟨v, hv, hrow, hnil⟩, hK⟩ hKD
    have c0 := hv.cell
    gi_wp2
    refine ⟨by simp, .inl ⟨_, _, rfl, run_takeDeferred hKD, ?_⟩⟩
    exact ⟨_, results_tmp rfl _ _ _, v, rfl, IR.lower ⟨ownsRow_putObj hrow _ hKD rfl, hnil⟩ (by omega), (hK.putObj (by omega)).below⟩
  case stop =>
    rintro D c pre V _ _ h _
    exact h.elim

theorem collect_calls {w : World} {gf : Nat} {lb : Array Value} {l : List Int} (hE : Enters Try.prog gf) (hl : l.length ≤ 99999) (hT : Tells w gf lb l) :
    Calls Try.prog 79 #[.func (.func gf) #[] lb] w fun e w' => ∃ v, e = .returned v ∧ IR w' w.heap.size v l ∧ Below w.heap.size w w' := by
  have hA := appendSeq_calls hE hl hT
  clear hT
  go_enter Try.func79, Try.ntmps79
  go_wp2_with (go_at_call 156; (with_reducible refine hA.mono ?_); rintro e w1 ⟨v, rfl, hv, hb⟩)
  go_ret
  exact ⟨v, rfl, hv, hb⟩

end Go.Proofs.Ytangandfgbnomaa.V
