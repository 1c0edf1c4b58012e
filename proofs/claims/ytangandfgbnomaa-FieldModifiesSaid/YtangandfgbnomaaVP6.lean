/- The first ones of what tabs come to. -/
import Derived.Test.YtangandfgbnomaaVP5
namespace Go.Proofs.Ytangandfgbnomaa.V
open Go.RowKit Go.Shelf
set_option linter.unusedVariables false
set_option linter.unusedSimpArgs false

attribute [local go_sem] Oper.semAt_some

/-- The round of collecting at most k. -/
def SmI (w : World) (B Bm base k : Nat) (pre : List Int) (V : World) : Prop := pre.length < k ∧ Blk V Bm [.int .i64 (k : Int)] 3 ∧ Coll w B base pre V
def SmX (w : World) (B base k : Nat) (c : Code) (pre : List Int) (V : World) : Prop := (c = .exit 0 ∧ pre.length = k) ∧ Coll w B base pre V
theorem smi_own {w : World} {B Bm base k B0 : Nat} (h : w.heap.size ≤ B0) : OwnFrom B0 (SmI w B Bm base k) :=
  OwnFrom.and (fun _ _ _ _ h _ _ => h) (OwnFrom.and (ownFrom_blk (f := fun _ : List Int => [Value.int .i64 (k : Int)])) (coll_own h))
theorem smx_own {w : World} {B base k B0 : Nat} {c : Code} (h : w.heap.size ≤ B0) : OwnFrom B0 (SmX w B base k c) :=
  OwnFrom.and (fun _ _ _ _ h _ _ => h) (coll_own h)
theorem prefix_take {pre l : List Int} {k : Nat} (h : pre <+: l) (hk : pre.length = k) : l.take k = pre := by
  obtain ⟨t, rfl⟩ := h
  rw [← hk, List.take_left']
  rfl

set_option maxRecDepth 100000 in
set_option maxHeartbeats 2000000 in
theorem tabs97_calls {w : World} {p b : Nat} {s : S} (h : PSp w p b s) (ok : s.ok) (k : Nat) (hk : 1 ≤ k) (hk2 : k ≤ 99999) :
    Calls Try.prog 97 #[.pointer (some ⟨p, 0, none⟩), .int .i64 (k : Int)] w fun e w' => ∃ v, e = .returned v ∧ IR w' w.heap.size v ((tbl s.l).take k) ∧ Below w.heap.size w w' := by
  refine (callsIn_wide (n := 7)).1 ?_
  have hpb : p < w.heap.size ∧ b < w.heap.size := by obtain ⟨_, _, _, x1, x2⟩ := id h; exact ⟨x1.lt, x2.lt⟩
  have hit := tabs_calls ((w.alloc (.cells #[.int .i64 (k : Int)] 3)).alloc (.cells #[.slice none 0 0] 79)) p
  simp only [World.size_alloc] at hit
  have htl : (tbl s.l).length ≤ 3564 := by rw [tbl_length, tbs_length]; have := rk_le s.l s.l.length; have := (ok.ix 0).2.2.1; omega
  refine callsIn_of_wp_marks Try.func97 rfl trivial ?_ rfl
  simp only [Try.ntmps97, List.size_toArray, List.length_cons, List.length_nil, Nat.reduceAdd, Nat.reduceSub, Array.replicate_succ, Array.replicate_zero, List.push_toArray, List.append_toArray, List.nil_append, List.cons_append]
  gi_wp2_with (first
    | (refine ⟨trivial, ?_⟩; gi_at_call 92; (with_reducible refine (callsIn_wide.2 hit).mono ?_); rintro e w1 ⟨rfl, rfl⟩))
  have k1 : Keep [] w (w.alloc (.cells #[.int .i64 (k : Int)] 3)) := (Keep.refl [] w).alloc _
  have a1 := Blk.new w [.int .i64 (k : Int)] 3
  have a2 := Blk.new (w.alloc (.cells #[.int .i64 (k : Int)] 3)) [.slice none 0 0] 79
  simp only [World.size_alloc] at a2
  have k2 := k1.alloc (.cells #[.slice none 0 0] 79)
  have a1' := a1.alloc (.cells #[.slice none 0 0] 79)
  have a3 := Blk.new ((w.alloc (.cells #[.int .i64 (k : Int)] 3)).alloc (.cells #[.slice none 0 0] 79)) [.pointer (some ⟨p, 0, none⟩)] 61
  simp only [World.size_alloc] at a3
  have B1 := a1'.alloc (.cells #[.pointer (some ⟨p, 0, none⟩)] 61)
  have B2 := a2.alloc (.cells #[.pointer (some ⟨p, 0, none⟩)] 61)
  have B3 := a3
  have K1 := k2.alloc (.cells #[.pointer (some ⟨p, 0, none⟩)] 61)
  have hs1 := h.keep K1 (by simp) (by simp)
  have hsz : (((w.alloc (.cells #[.int .i64 (k : Int)] 3)).alloc (.cells #[.slice none 0 0] 79)).alloc (.cells #[.pointer (some ⟨p, 0, none⟩)] 61)).heap.size = w.heap.size + 3 := by simp only [World.size_alloc]
  generalize ((w.alloc (.cells #[.int .i64 (k : Int)] 3)).alloc (.cells #[.slice none 0 0] 79)).alloc (.cells #[.pointer (some ⟨p, 0, none⟩)] 61) = W at *
  have hno : ∀ k, ¬ owned (w.heap.size + 1) W k := by
    rintro k ⟨n, c, hk⟩
    have := B2.cell 0
    simp only [List.getElem?_cons_zero] at this
    rw [this] at hk
    cases hk
  have hown0 : ∀ k, owned (w.heap.size + 1) W k → k < W.heap.size := fun k hk => absurd hk (hno k)
  have hst : SeqStopsK Fence.wide 6 Try.prog 161 #[.pointer (some ⟨w.heap.size + 1 + 1, 0, none⟩)] (fun x : Int => #[Value.int .i64 x]) (KO (w.heap.size + 1)) (fun ys => ys = (tbl s.l)) (fun pre => pre <+: (tbl s.l)) ((tbl s.l)).length W := tabs_stops (holds_ko (w.heap.size + 1)) hs1 ok B3 ⟨by omega, hown0⟩ ⟨⟨by omega, hno _⟩, ⟨by omega, hno _⟩, ⟨by omega, hno _⟩⟩ 6 (by decide)
  refine wpIn_rangeFunc_ownG (F := Fence.wide) (n := 7) rfl (by decide) (gf := 161) (lb := #[.pointer (some ⟨w.heap.size + 1 + 1, 0, none⟩)]) rfl trivial (enters_of Try.func161 (by kernel_rfl) rfl)
    hst KO.trans (fun V l o o' hl ho hc hw => KO.put (by omega) ho hc) (Below.refl _ _) (fun _ => rfl)
    (SmI w (w.heap.size + 1) w.heap.size (w.heap.size + 2) k) (SmX w (w.heap.size + 1) (w.heap.size + 2) k)
    (smi_own (by omega)) (fun _ => smx_own (by omega)) ⟨(by show 0 < k; omega), B1, ⟨.slice none 0 0, B2, World.ownsRow_nil _ _ _ _, fun _ => rfl⟩, K1⟩
    (fun x => { tmps := #[.pointer (some ⟨p, 0, none⟩), .int .i64 (k : Int), undef, .pointer (some ⟨w.heap.size, 0, none⟩), .slice none 0 0, .pointer (some ⟨w.heap.size + 1, 0, none⟩), .int .i64 x, .pointer (some ⟨p, 0, none⟩), .func (.func 161) #[] #[.pointer (some ⟨w.heap.size + 1 + 1, 0, none⟩)], .int .i64 x, undef, undef, undef, undef, undef, undef, undef, undef, undef], defers := [] }) ?assign ?body ?done ?stop
  case assign =>
    intro l x V K hK
    gi_wp2
    exact hK
  case body =>
    rintro lr pre x V ⟨hpk, hBm, ⟨v, hv, hrow, hnil⟩, hK⟩ hlen
    have hc := hv.cell
    have hVs := hK.size
    obtain ⟨hb1, hb2⟩ : w.heap.size + 1 < V.heap.size ∧ w.heap.size + 2 ≤ V.heap.size := by have := hv.lt; omega
    obtain ⟨v', w1, hrun, hown, hgr, hwh⟩ := append79 (V.alloc (.cells #[.int .i64 x] 3)) (w.heap.size + 2) v pre.length _ (hrow.alloc _) ⟨V.heap.size, 0, none⟩ (.int .i64 x) rfl ((Blk.new V [.int .i64 x] 3).cell 0) 1 (by omega) (by rw [World.size_alloc]; omega)
    obtain ⟨q1, q2, q3⟩ := coll_round hv hrow hK (by omega) (by omega) (by omega) hown hgr hwh
    have hv1 : Boxed w1 (w.heap.size + 1) 79 v := (hv.alloc _).kept hgr (hv.not_row (by decide) hrow)
    have hnb : ¬ owned (w.heap.size + 1) V w.heap.size := by
      rintro ⟨n1, c1, hx⟩
      rw [hv.cell] at hx
      injection hx with hx
      subst hx
      rcases hrow.2 with ⟨e, _⟩ | ⟨g, cap, cur, e, hg, _⟩
      · cases e
      · injection e with e _ _
        injection e with e
        injection e with e
        omega
    have hBm2 : Blk (w1.setCell ⟨w.heap.size + 1, 0, none⟩ v') w.heap.size [.int .i64 (k : Int)] 3 := q2.block _ _ (by omega) hnb hBm rfl
    obtain ⟨g', cap', rfl, _, _⟩ := own_shape hown
    have hv2 := hv1.set (.slice (some ⟨g', 0, none⟩) (pre.length + 1) cap')
    have hc1 := hv1.cell
    have hf1 := hv1.frozen
    have hl1 := hv1.lt
    have hc2 := hv2.cell
    have hcm := hBm2.cell 0
    simp only [List.getElem?_cons_zero] at hcm
    have hcm1 : w1.cell? ⟨w.heap.size, 0, none⟩ = some (.int .i64 (k : Int)) := by
      have e := Below.heap_setCell w1 ⟨w.heap.size + 1, 0, none⟩ (.slice (some ⟨g', 0, none⟩) (pre.length + 1) cap') w.heap.size (by show w.heap.size ≠ w.heap.size + 1; omega)
      rw [World.cell?_of_block (a := ⟨w.heap.size, 0, none⟩) e] at hcm
      exact hcm
    have Q1 := Aside0.mk (And.intro q1 (And.intro q2 (And.intro q3 hBm2)))
    have hp0 : (0 : Int) ≤ (pre.length : Int) := by omega
    have hp1 : (pre.length : Int) ≤ 100000 := by omega
    have HPK := Aside0.mk hpk
    clear q1 q2 q3 hown hgr hwh hrow hnil hK hlen hv hv1 hv2 hnb hBm2 hBm
    by_cases he : pre.length + 1 = k
    · have heb : (((pre.length : Int) + 1) == (k : Int)) = true := by simp only [beq_iff_eq]; omega
      have HE := Aside0.mk he
      clear he hpk
      gi_wp2_with (gi_at_builtin; refine wpListIn_ran rfl _ _ rfl rfl rfl rfl hrun ?_)
      refine ⟨Q1.out.1 _, ⟨rfl, ?_⟩, Q1.out.2.2.1⟩
      rw [List.length_append]; exact HE.out
    · have heb : (((pre.length : Int) + 1) == (k : Int)) = false := by simp only [beq_eq_false_iff_ne, ne_eq]; omega
      have HE := Aside0.mk he
      clear he hpk
      gi_wp2_with (gi_at_builtin; refine wpListIn_ran rfl _ _ rfl rfl rfl rfl hrun ?_)
      refine ⟨Q1.out.1 _, Q1.out.2.1, ?_, Q1.out.2.2.2, Q1.out.2.2.1⟩
      rw [List.length_append]
      have h1 := HPK.out
      have h2 := HE.out
      show pre.length + 1 < k
      omega
  case done =>
    rintro D ys V hD rfl ⟨hpk, hBm, ⟨v, hv, hrow, hnil⟩, hK⟩ hKD
    have c0 := hv.cell
    gi_wp2
    refine ⟨by simp, .inl ⟨_, _, rfl, run_takeDeferred hKD, ?_⟩⟩
    refine ⟨_, results_tmp rfl _ _ _, v, rfl, ?_, (hK.putObj (by omega)).below⟩
    rw [List.take_of_length_le (by omega)]
    exact IR.lower ⟨ownsRow_putObj hrow _ hKD rfl, hnil⟩ (by omega)
  case stop =>
    rintro D c pre V hD hpre ⟨⟨hc, hpk⟩, ⟨v, hv, hrow, hnil⟩, hK⟩ hKD
    subst hc
    have c0 := hv.cell
    gi_wp2
    refine ⟨by simp, .inl ⟨_, _, rfl, run_takeDeferred hKD, ?_⟩⟩
    refine ⟨_, results_tmp rfl _ _ _, v, rfl, ?_, (hK.putObj (by omega)).below⟩
    rw [prefix_take hpre hpk]
    exact IR.lower ⟨ownsRow_putObj hrow _ hKD rfl, hnil⟩ (by omega)

end Go.Proofs.Ytangandfgbnomaa.V
