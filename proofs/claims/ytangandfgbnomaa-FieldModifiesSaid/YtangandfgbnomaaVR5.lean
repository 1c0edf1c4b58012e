/- The first ones of all cells. -/
import Derived.Test.YtangandfgbnomaaVR4
import Derived.Test.YtangandfgbnomaaVX
namespace Go.Proofs.Ytangandfgbnomaa.V
open Go.RowKit Go.Shelf
set_option linter.unusedVariables false
set_option linter.unusedSimpArgs false


attribute [local go_sem] Oper.semAt_some

/-- An append of one cell. -/
theorem append96 (w : World) (base : Nat) (v : Value) (n : Nat) (xs : List Value) (hown : w.ownsRow base 60 6 v n xs) (g : Nat) (c : C) (hb6 : Blk w g c.vs 60) (cp : Nat) (hn : n ≤ 100000) (hb : base ≤ w.heap.size) :
    ∃ v' w', (Builtin.append_ #[96, 96] 96 #[v, .slice (some ⟨g, 0, none⟩) 1 cp]).run Try.prog w = .ok v' w' ∧ w'.ownsRow base 60 6 v' (n + 1) (xs ++ c.vs) ∧ w.grownBy w' v.ownBlock ∧ (v'.ownBlock = v.ownBlock ∨ v'.ownBlock = some w.heap.size) := by
  obtain ⟨i0, hi, hz0, hz1, hz2⟩ := info_parts info60
  have hnews : ∀ j u, c.vs[j]? = some u → w.cell? (Addr.add ⟨g, 0, none⟩ j) = some u := by
    intro j u hu
    have e : Addr.add ⟨g, 0, none⟩ j = ⟨g, j, none⟩ := by
      unfold Addr.add
      split
      · rename_i h0; rw [h0]
      · simp
    rw [e, hb6.cell j]; exact hu
  have h1 : ∀ u ∈ c.vs, u.oneCell' = true := by
    intro u hu
    simp only [C.vs, List.mem_cons, List.not_mem_nil, or_false] at hu
    rcases hu with rfl | rfl | rfl | rfl | rfl | rfl <;> rfl
  obtain ⟨v', w', hr, ho, hg, _, hw⟩ := run_append_own_at (P := Try.prog) (w := w) base 96 96 60 i0 _ 6 6 Try.underlying96 hi hz0 hz1 hz2 rfl (by decide) v n xs hown ⟨g, 0, none⟩ 1 cp c.vs rfl hnews h1 (by unfold maxLen; omega) (by omega) hb
  exact ⟨v', w', hr, ho, hg, hw⟩

/-- A builtin whose run is known, within a fence. -/
theorem wpListIn_ranT {P : Program} {F : Fence} {n : Nat} {w : World} {ops : Array Oper} {rest : List Oper} {o : Oper} {a : Act} {Q : Exit → Act → World → Prop} (hg : o.guard = none) (s x : Operand) (t : TypeId)
    (hop : o.op = Op.call { callee := Callee.builtin Builtin.append, args := #[s, x], argTypes := #[t, t] }) (ht : o.type = t) {v u v' : Value} {w' : World} (hs : a.eval s = v) (hx : a.eval x = u)
    (hrun : (Builtin.append_ #[t, t] t #[v, u]).run P w = .ok v' w') (hK : wpListIn F n P ops Q rest (a.put o.dst v') w') : wpListIn F n P ops Q (o :: rest) a w := by
  refine wpListIn_plain hg fun K hK' => ?_
  refine ⟨?_, ?_⟩
  · simp [Oper.about, hop, resolve, Target.leads, Sem.run_pure]
  · rw [Oper.semAt_plain F _ _ (by rw [hop]; intro c hc'; cases hc')]
    simp only [execOp, hop, resolve, invoke, builtin, hs, hx, ht, List.map_toArray, List.map_cons, List.map_nil, Sem.run_bind, Sem.run_pure, Result.andThen]
    rw [hrun]
    exact hK' _ _ hK

theorem own_shapeG {W : World} {base e size n : Nat} {v : Value} {xs : List Value} (h : W.ownsRow base e size v (n + 1) xs) : ∃ g cap, v = .slice (some ⟨g, 0, none⟩) (n + 1) cap ∧ g < W.heap.size ∧ base ≤ g := by
  rcases h.2 with ⟨_, h0⟩ | ⟨g, cap, cur, rfl, hb, hg, _⟩
  · omega
  · exact ⟨g, cap, rfl, (Array.getElem?_eq_some_iff.1 hg).1, hb⟩
/-- One round of collecting, of whatever type. -/
theorem coll_roundG {w V w1 : World} {B base t e size n m : Nat} {xs ys : List Value} {v v' : Value} {tmp : Obj} (hte : t ≠ e) (hv : Boxed V B t v) (hrow : V.ownsRow base e size v n xs) (hK : Keep [] w V) (hB : w.heap.size ≤ B) (hb : w.heap.size ≤ base) (hbV : base ≤ V.heap.size)
    (hown : w1.ownsRow base e size v' (m + 1) ys) (hg : (V.alloc tmp).grownBy w1 v.ownBlock) (hw : v'.ownBlock = v.ownBlock ∨ v'.ownBlock = some (V.alloc tmp).heap.size) :
    (∀ B0, KeepsFrom B0 V (w1.setCell ⟨B, 0, none⟩ v')) ∧ KO B V (w1.setCell ⟨B, 0, none⟩ v') ∧ Boxed (w1.setCell ⟨B, 0, none⟩ v') B t v' ∧ (w1.setCell ⟨B, 0, none⟩ v').ownsRow base e size v' (m + 1) ys ∧ Keep [] w (w1.setCell ⟨B, 0, none⟩ v') := by
  have hv1 : Boxed w1 B t v := (hv.alloc tmp).kept hg (hv.not_row hte hrow)
  have hv2 := hv1.set v'
  have hr2 : (w1.setCell ⟨B, 0, none⟩ v').ownsRow base e size v' (m + 1) ys := hown.kept (grownBy_setCell' w1 B v') (.inr (hv1.not_row hte hown).symm)
  obtain ⟨g', cap', rfl, hg1, hg2⟩ := own_shapeG hown
  have hsz : (w1.setCell ⟨B, 0, none⟩ (.slice (some ⟨g', 0, none⟩) (m + 1) cap')).heap.size = w1.heap.size := by simp [World.setCell]
  have hs1 := hg.size
  rw [World.size_alloc] at hs1
  have hblk : ∀ (k : Nat) (o : Obj), k ≠ B → some k ≠ v.ownBlock → V.heap[k]? = some o → (w1.setCell ⟨B, 0, none⟩ (.slice (some ⟨g', 0, none⟩) (m + 1) cap')).heap[k]? = some o := by
    intro k o h1 h2 h3
    have hk := (Array.getElem?_eq_some_iff.1 h3).1
    rw [Below.heap_setCell w1 ⟨B, 0, none⟩ _ k h1, hg.block k (by rw [World.size_alloc]; omega) h2, Below.heap_alloc V tmp k hk]
    exact h3
  have howned : ∀ k, some k = v.ownBlock → owned B V k := by
    intro k hk
    unfold owned
    rcases hrow.2 with ⟨rfl, _⟩ | ⟨g, cap, cur, rfl, _⟩
    · simp [Value.ownBlock] at hk
    · simp only [Value.ownBlock, Option.some.injEq] at hk
      subst hk
      exact ⟨_, _, hv.cell⟩
  refine ⟨fun B0 => ⟨by rw [hsz]; omega, ?_⟩, ⟨by rw [hsz]; omega, ?_, ?_⟩, hv2, hr2, ?_⟩
  · intro k o _ h3 ho
    refine hblk k o ?_ ?_ h3
    · rintro rfl
      rw [show V.heap[k]? = _ from hv] at h3; cases h3; cases ho
    · intro e
      rcases hrow.2 with ⟨rfl, _⟩ | ⟨g, cap, cur, rfl, _, hgg, _⟩
      · simp [Value.ownBlock] at e
      · simp only [Value.ownBlock, Option.some.injEq] at e
        subst e
        rw [hgg] at h3; cases h3; cases ho
  · intro k o h1 h2 h3 _
    exact hblk k o h1 (fun e => h2 (howned k e)) h3
  · rintro k ⟨n, c, hk⟩
    rw [hv2.cell] at hk
    injection hk with hk
    injection hk with hk1 _ _
    injection hk1 with hk1
    injection hk1 with hk1
    subst hk1
    rcases hw with h1 | h1
    · exact .inl (howned _ h1)
    · simp only [Value.ownBlock, Option.some.injEq] at h1
      rw [World.size_alloc] at h1
      rw [hsz]
      exact .inr ⟨by omega, hg1⟩
  · refine ⟨hg.os.trans hK.os, hg.tape.trans hK.tape, hg.output.trans hK.output, by rw [hsz]; have := hK.size; omega, fun k hk hn => ?_⟩
    obtain ⟨o, ho⟩ : ∃ o, V.heap[k]? = some o := ⟨_, Array.getElem?_eq_getElem (Nat.lt_of_lt_of_le hk hK.size)⟩
    rw [hblk k o (by omega) (fun e => ?_) ho, ← ho, hK.block k hk hn]
    rcases hrow.2 with ⟨rfl, _⟩ | ⟨g, cap, cur, rfl, hbg, _⟩
    · simp [Value.ownBlock] at e
    · simp only [Value.ownBlock, Option.some.injEq] at e
      omega

/-- A row of cells of the call's own. -/
def CR (w : World) (base : Nat) (v : Value) (l : List C) : Prop := w.ownsRow base 60 6 v l.length (flat l) ∧ (l = [] → v = .slice none 0 0)
theorem CR.lower {w : World} {base base' : Nat} {v : Value} {l : List C} (h : CR w base v l) (hb : base' ≤ base) : CR w base' v l := by
  refine ⟨⟨h.1.1, ?_⟩, h.2⟩
  rcases h.1.2 with h | ⟨g, cap, cur, h1, h2, h3⟩
  · exact .inl h
  · exact .inr ⟨g, cap, cur, h1, by omega, h3⟩
theorem CR.blk {w : World} {base : Nat} {v : Value} {l : List C} (h : CR w base v l) (h0 : l ≠ []) : ∃ g cap ex, v = .slice (some ⟨g, 0, none⟩) l.length cap ∧ base ≤ g ∧ Blk w g (flat l ++ ex) 60 := by
  rcases h.1.2 with ⟨_, e⟩ | ⟨g, cap, cur, rfl, hb, hg, _, _, hs, ht⟩
  · exact absurd (List.length_eq_zero_iff.1 e) h0
  · refine ⟨g, cap, cur.toList.drop (l.length * 6), rfl, hb, ?_⟩
    unfold Blk
    rw [← ht, List.take_append_drop]
    simpa using hg
theorem flat_snoc (l : List C) (c : C) : flat (l ++ [c]) = flat l ++ c.vs := by unfold flat; rw [List.flatMap_append]; simp

/-- What a round has: the row of the cells told, in B's box. -/
def CollC (w : World) (B base : Nat) (pre : List (Nat × C)) (V : World) : Prop := (∃ v, Boxed V B 96 v ∧ V.ownsRow base 60 6 v pre.length (flat (pre.map (·.2))) ∧ (pre = [] → v = .slice none 0 0)) ∧ Keep [] w V
theorem collC_own {w : World} {B base B0 : Nat} (h : w.heap.size ≤ B0) : OwnFrom B0 (CollC w B base) :=
  OwnFrom.and (Own.from (holdsRow_own base B 96 60 6 (fun pre : List (Nat × C) => pre.length) (fun pre => flat (pre.map (·.2))) (fun pre v => pre = [] → v = .slice none 0 0)) _) (ownFrom_keep h)
def CmI (w : World) (B Bm base k : Nat) (pre : List (Nat × C)) (V : World) : Prop := pre.length < k ∧ Blk V Bm [.int .i64 (k : Int)] 3 ∧ CollC w B base pre V
def CmX (w : World) (B base k : Nat) (c : Code) (pre : List (Nat × C)) (V : World) : Prop := (c = .exit 0 ∧ pre.length = k) ∧ CollC w B base pre V
theorem cmi_own {w : World} {B Bm base k B0 : Nat} (h : w.heap.size ≤ B0) : OwnFrom B0 (CmI w B Bm base k) :=
  OwnFrom.and (fun _ _ _ _ h _ _ => h) (OwnFrom.and (ownFrom_blk (f := fun _ : List (Nat × C) => [Value.int .i64 (k : Int)])) (collC_own h))
theorem cmx_own {w : World} {B base k B0 : Nat} {c : Code} (h : w.heap.size ≤ B0) : OwnFrom B0 (CmX w B base k c) :=
  OwnFrom.and (fun _ _ _ _ h _ _ => h) (collC_own h)
theorem cls_cells (l : List C) (k : Nat) (h : k ≤ l.length) : (cls l k).map (·.2) = l.take k := by
  unfold cls
  rw [List.map_map]
  apply List.ext_getElem?
  intro i
  rw [List.getElem?_map]
  by_cases e : i < k
  · rw [List.getElem?_range e, List.getElem?_take_of_lt e, List.getElem?_eq_getElem (by omega)]
    show some (l.getD i C.zero) = _
    rw [List.getD_eq_getElem?_getD, List.getElem?_eq_getElem (by omega)]; rfl
  · rw [List.getElem?_eq_none (by simp; omega), List.getElem?_eq_none (by rw [List.length_take]; omega)]; rfl

theorem len96 (a : Option Addr) (n c : Nat) (W : World) : Sem.run Try.prog (Builtin.len_ #[96] 3 #[.slice a n c]) W = .ok (.int .i64 n) W := by
  have hu := Try.underlying96
  simp only [Builtin.len_]
  go_simp

set_option maxRecDepth 100000 in
set_option maxHeartbeats 4000000 in
theorem cells_calls {w : World} {p b : Nat} {s : S} (h : PSp w p b s) (ok : s.ok) (k : Nat) (hk : 1 ≤ k) :
    Calls Try.prog 100 #[.pointer (some ⟨p, 0, none⟩), .int .i64 (k : Int)] w fun e w' => ∃ v, e = .returned v ∧ CR w' w.heap.size v (s.l.take k) ∧ Below w.heap.size w w' := by
  refine (callsIn_wide (n := 7)).1 ?_
  have hpb : p < w.heap.size ∧ b < w.heap.size := by obtain ⟨_, _, _, x1, x2⟩ := id h; exact ⟨x1.lt, x2.lt⟩
  have hit := all_calls ((w.alloc (.cells #[.int .i64 (k : Int)] 3)).alloc (.cells #[.slice none 0 0] 96)) (some ⟨p, 0, none⟩)
  simp only [World.size_alloc] at hit
  have hNl := (ok.ix 0).2.2
  refine callsIn_of_wp_marks Try.func100 rfl trivial ?_ rfl
  simp only [Try.ntmps100, List.size_toArray, List.length_cons, List.length_nil, Nat.reduceAdd, Nat.reduceSub, Array.replicate_succ, Array.replicate_zero, List.push_toArray, List.append_toArray, List.nil_append, List.cons_append]
  gi_wp2_with (first
    | (refine ⟨trivial, ?_⟩; gi_at_call 162; (with_reducible refine (callsIn_wide.2 hit).mono ?_); rintro e w1 ⟨rfl, rfl⟩))
  have k1 : Keep [] w (w.alloc (.cells #[.int .i64 (k : Int)] 3)) := (Keep.refl [] w).alloc _
  have a1 := Blk.new w [.int .i64 (k : Int)] 3
  have a2 := Blk.new (w.alloc (.cells #[.int .i64 (k : Int)] 3)) [.slice none 0 0] 96
  simp only [World.size_alloc] at a2
  have k2 := k1.alloc (.cells #[.slice none 0 0] 96)
  have a1' := a1.alloc (.cells #[.slice none 0 0] 96)
  have a3 := Blk.new ((w.alloc (.cells #[.int .i64 (k : Int)] 3)).alloc (.cells #[.slice none 0 0] 96)) [.pointer (some ⟨p, 0, none⟩)] 61
  simp only [World.size_alloc] at a3
  have B1 := a1'.alloc (.cells #[.pointer (some ⟨p, 0, none⟩)] 61)
  have B2 := a2.alloc (.cells #[.pointer (some ⟨p, 0, none⟩)] 61)
  have B3 := a3
  have K1 := k2.alloc (.cells #[.pointer (some ⟨p, 0, none⟩)] 61)
  have hs1 := h.keep K1 (by simp) (by simp)
  have hsz : (((w.alloc (.cells #[.int .i64 (k : Int)] 3)).alloc (.cells #[.slice none 0 0] 96)).alloc (.cells #[.pointer (some ⟨p, 0, none⟩)] 61)).heap.size = w.heap.size + 3 := by simp only [World.size_alloc]
  generalize ((w.alloc (.cells #[.int .i64 (k : Int)] 3)).alloc (.cells #[.slice none 0 0] 96)).alloc (.cells #[.pointer (some ⟨p, 0, none⟩)] 61) = W at *
  have hno : ∀ k, ¬ owned (w.heap.size + 1) W k := by
    rintro k ⟨n, c, hk⟩
    have := B2.cell 0
    simp only [List.getElem?_cons_zero] at this
    rw [this] at hk
    cases hk
  have hown0 : ∀ k, owned (w.heap.size + 1) W k → k < W.heap.size := fun k hk => absurd hk (hno k)
  have hst := all_stops (Inv := fun s' => s' = s) ((holds_ko (w.heap.size + 1)).servesI p b _) hs1 rfl (fun s' e => by subst e; exact ⟨ok, rfl, rfl, rfl⟩) B3 ⟨by omega, by omega⟩ ⟨by omega, hown0⟩ ⟨⟨by omega, hno _⟩, ⟨by omega, hno _⟩, ⟨by omega, hno _⟩⟩ 6 (by decide)
  refine wpIn_rangeFunc_ownH (F := Fence.wide) (n := 7) rfl (by decide) (gf := 184) (lb := #[.pointer (some ⟨w.heap.size + 1 + 1, 0, none⟩)]) rfl trivial (enters_of Try.func184 (by kernel_rfl) rfl)
    hst KO.trans (fun V l o o' hl ho hc hw => KO.put (by omega) ho hc) (Below.refl _ _) (fun _ => rfl)
    (CmI w (w.heap.size + 1) w.heap.size (w.heap.size + 2) k) (CmX w (w.heap.size + 1) (w.heap.size + 2) k)
    (cmi_own (by omega)) (fun _ => cmx_own (by omega)) ⟨(by show 0 < k; omega), B1, ⟨.slice none 0 0, B2, World.ownsRow_nil _ _ _ _, fun _ => rfl⟩, K1⟩
    (fun x a' V => ∃ Bc, Blk V Bc x.2.vs 60 ∧ a' = { tmps := #[.pointer (some ⟨p, 0, none⟩), .int .i64 (k : Int), undef, .pointer (some ⟨w.heap.size, 0, none⟩), .slice none 0 0, .pointer (some ⟨w.heap.size + 1, 0, none⟩), undef, .pointer (some ⟨Bc, 0, none⟩), .pointer (some ⟨p, 0, none⟩), .func (.func 184) #[] #[.pointer (some ⟨w.heap.size + 1 + 1, 0, none⟩)], .int .i64 (x.1 : Int), x.2.v, undef, undef, undef, undef, undef, undef, undef, undef, undef], defers := [] }) ?ax ?assign ?body ?done ?stop
  case ax =>
    rintro x a' u A B row ⟨Bc, h3, he⟩ hg hr
    exact ⟨Bc, ownFrom_blk (f := fun _ : Unit => x.2.vs) () A B row h3 hg hr, he⟩
  case assign =>
    rintro lr pre x V K ⟨hpk, hBm, ⟨v, hv, hrow, hnil⟩, hK⟩ hK2
    have kk : Keep [] V (V.alloc (.cells #[.int .u8 x.2.ch, .bool x.2.at_, .int .u8 x.2.fa, .int .u8 x.2.hi, .int .u8 x.2.co, .int .u8 x.2.se] 60)) := (Keep.refl [] V).alloc _
    have hl1 := hv.lt
    have ko : KO (w.heap.size + 1) V (V.alloc (.cells #[.int .u8 x.2.ch, .bool x.2.at_, .int .u8 x.2.fa, .int .u8 x.2.hi, .int .u8 x.2.co, .int .u8 x.2.se] 60)) :=
      ⟨kk.size, fun k o _ _ ho _ => kk.heap ho (by simp), fun k hk => .inl ((owned_keep kk hl1 k).1 hk)⟩
    have hK3 := hK2 _ _ (kk.keepsFrom _ (by simp)) ko ⟨hpk, hBm.alloc _, ⟨v, hv.alloc _, hrow.alloc _, hnil⟩, hK.alloc _⟩ ⟨_, Blk.new V x.2.vs 60, rfl⟩
    have HK := Aside0.mk hK3
    clear hK2 hK3 hpk hBm hv hrow hnil hK kk hl1 ko hst
    gi_wp2
    exact HK.out
  case body =>
    rintro lr pre x a' V hlr hrec ⟨hpk, hBm, ⟨v, hv, hrow, hnil⟩, hK⟩ ⟨Bc, hbc, rfl⟩ hlen
    obtain ⟨i, c⟩ := x
    have hc := hv.cell
    have hVs := hK.size
    have b0 := hbc.cell 0
    have b1 := hbc.cell 1
    have b2 := hbc.cell 2
    have b3 := hbc.cell 3
    have b4 := hbc.cell 4
    have b5 := hbc.cell 5
    simp only [List.getElem?_cons_zero, List.getElem?_cons_succ] at b0 b1 b2 b3 b4 b5
    obtain ⟨hb1, hb2⟩ : w.heap.size + 1 < V.heap.size ∧ w.heap.size + 2 ≤ V.heap.size := by have := hv.lt; omega
    obtain ⟨v', w1, hrun, hown, hgr, hwh⟩ := append96 (V.alloc (.cells #[.int .u8 c.ch, .bool c.at_, .int .u8 c.fa, .int .u8 c.hi, .int .u8 c.co, .int .u8 c.se] 60)) (w.heap.size + 2) v pre.length _ (hrow.alloc _) V.heap.size c (Blk.new V c.vs 60) 1 (by omega) (by rw [World.size_alloc]; omega)
    obtain ⟨q1, q2, q3, q4, q5⟩ := coll_roundG (by decide) hv hrow hK (by omega) (by omega) (by omega) hown hgr hwh
    have hv1 : Boxed w1 (w.heap.size + 1) 96 v := (hv.alloc _).kept hgr (hv.not_row (by decide) hrow)
    have hnb : ¬ owned (w.heap.size + 1) V w.heap.size := by
      rintro ⟨n1, c1, hx⟩
      rw [hv.cell] at hx
      injection hx with hx
      subst hx
      rcases hrow.2 with ⟨e, _⟩ | ⟨g, cap, cur, e, hg, _⟩
      · cases e
      · injection e with e _ _
        injection e with e
        injection e with e
        omega
    have hBm2 : Blk (w1.setCell ⟨w.heap.size + 1, 0, none⟩ v') w.heap.size [.int .i64 (k : Int)] 3 := q2.block _ _ (by omega) hnb hBm rfl
    obtain ⟨g', cap', rfl, _, _⟩ := own_shapeG hown
    have hc1 := hv1.cell
    have hf1 := hv1.frozen
    have hl1 := hv1.lt
    have hc2 := q3.cell
    have hcm := hBm2.cell 0
    simp only [List.getElem?_cons_zero] at hcm
    have hcm1 : w1.cell? ⟨w.heap.size, 0, none⟩ = some (.int .i64 (k : Int)) := by
      have e := Below.heap_setCell w1 ⟨w.heap.size + 1, 0, none⟩ (.slice (some ⟨g', 0, none⟩) (pre.length + 1) cap') w.heap.size (by show w.heap.size ≠ w.heap.size + 1; omega)
      rw [World.cell?_of_block (a := ⟨w.heap.size, 0, none⟩) e] at hcm
      exact hcm
    have hrow2 : (w1.setCell ⟨w.heap.size + 1, 0, none⟩ (.slice (some ⟨g', 0, none⟩) (pre.length + 1) cap')).ownsRow (w.heap.size + 2) 60 6 (.slice (some ⟨g', 0, none⟩) (pre.length + 1) cap') (pre ++ [(i, c)]).length (flat ((pre ++ [(i, c)]).map (·.2))) := by
      rw [List.length_append, List.map_append]
      show World.ownsRow _ _ _ _ _ (pre.length + 1) (flat (pre.map (·.2) ++ [c]))
      rw [flat_snoc]; exact q4
    have Q1 := Aside0.mk (And.intro q1 (And.intro q2 (And.intro q3 (And.intro hrow2 (And.intro q5 hBm2)))))
    have hp0 : (0 : Int) ≤ (pre.length : Int) := by omega
    have hp1 : (pre.length : Int) ≤ 100000 := by omega
    have HPK := Aside0.mk hpk
    clear q1 q2 q3 q4 q5 hrow2 hown hgr hwh hrow hnil hK hlen hv hv1 hnb hBm2 hBm hbc hst hlr hrec
    by_cases he : pre.length + 1 = k
    · have heb : (((pre.length : Int) + 1) == (k : Int)) = true := by simp only [beq_iff_eq]; omega
      have HE := Aside0.mk he
      clear he hpk
      gi_wp2_with (gi_at_builtin; refine wpListIn_ranT rfl _ _ 96 rfl rfl rfl rfl hrun ?_)
      refine ⟨Q1.out.1 _, ⟨rfl, ?_⟩, ⟨_, Q1.out.2.2.1, Q1.out.2.2.2.1, fun e => by simp at e⟩, Q1.out.2.2.2.2.1⟩
      rw [List.length_append]; exact HE.out
    · have heb : (((pre.length : Int) + 1) == (k : Int)) = false := by simp only [beq_eq_false_iff_ne, ne_eq]; omega
      have HE := Aside0.mk he
      clear he hpk
      gi_wp2_with (gi_at_builtin; refine wpListIn_ranT rfl _ _ 96 rfl rfl rfl rfl hrun ?_)
      refine ⟨Q1.out.1 _, Q1.out.2.1, ?_, Q1.out.2.2.2.2.2, ⟨_, Q1.out.2.2.1, Q1.out.2.2.2.1, fun e => by simp at e⟩, Q1.out.2.2.2.2.1⟩
      rw [List.length_append]
      have h1 := HPK.out
      have h2 := HE.out
      show pre.length + 1 < k
      omega
  case done =>
    rintro D ys V hD hys ⟨hpk, hBm, ⟨v, hv, hrow, hnil⟩, hK⟩ hKD
    have e := hys.exact
    have hyl := hys.1
    have e2 : ys.map (·.2) = s.l.take k := by rw [e, cls_cells _ _ (Nat.le_refl _), List.take_of_length_le (Nat.le_refl _), List.take_of_length_le (by omega)]
    rw [e2] at hrow
    have e3 : ys.length = (s.l.take k).length := by rw [← e2, List.length_map]
    rw [e3] at hrow
    have hnil2 : s.l.take k = [] → v = .slice none 0 0 := fun h => hnil (List.map_eq_nil_iff.1 (e2.trans h))
    have c0 := hv.cell
    clear hst
    gi_wp2
    refine ⟨by simp, .inl ⟨_, _, rfl, run_takeDeferred hKD, ?_⟩⟩
    refine ⟨_, results_tmp rfl _ _ _, v, rfl, ?_, (hK.putObj (by omega)).below⟩
    exact CR.lower ⟨ownsRow_putObj hrow _ hKD rfl, hnil2⟩ (by omega)
  case stop =>
    rintro D c pre V hD ⟨m, hm, hpre⟩ ⟨⟨hc, hpk⟩, ⟨v, hv, hrow, hnil⟩, hK⟩ hKD
    subst hc
    have e := hpre.exact
    have hyl := hpre.1
    have e2 : pre.map (·.2) = s.l.take k := by rw [e, cls_cells _ _ hm, show m = k by omega]
    rw [e2] at hrow
    have e3 : pre.length = (s.l.take k).length := by rw [← e2, List.length_map]
    rw [e3] at hrow
    have hnil2 : s.l.take k = [] → v = .slice none 0 0 := fun h => hnil (List.map_eq_nil_iff.1 (e2.trans h))
    have c0 := hv.cell
    clear hst
    gi_wp2
    refine ⟨by simp, .inl ⟨_, _, rfl, run_takeDeferred hKD, ?_⟩⟩
    refine ⟨_, results_tmp rfl _ _ _, v, rfl, ?_, (hK.putObj (by omega)).below⟩
    exact CR.lower ⟨ownsRow_putObj hrow _ hKD rfl, hnil2⟩ (by omega)

end Go.Proofs.Ytangandfgbnomaa.V
