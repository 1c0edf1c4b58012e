/- The first ones of the places of attributes. -/
import Derived.Test.YtangandfgbnomaaVR3
import Derived.Test.YtangandfgbnomaaVP6
namespace Go.Proofs.Ytangandfgbnomaa.V
open Go.RowKit Go.Shelf
set_option linter.unusedVariables false
set_option linter.unusedSimpArgs false


attribute [local go_sem] Oper.semAt_some

set_option maxRecDepth 100000 in
set_option maxHeartbeats 2000000 in
theorem attrs107_calls {w : World} {p b : Nat} {s : S} (h : PSp w p b s) (ok : s.ok) (k : Nat) (hk : 1 ≤ k) (hk2 : k ≤ 99999) :
    Calls Try.prog 107 #[.pointer (some ⟨p, 0, none⟩), .int .i64 (k : Int)] w fun e w' => ∃ v, e = .returned v ∧ IR w' w.heap.size v ((atts s.l).take k) ∧ Below w.heap.size w w' := by
  refine (callsIn_wide (n := 20)).1 ?_
  have hpb : p < w.heap.size ∧ b < w.heap.size := by obtain ⟨_, _, _, x1, x2⟩ := id h; exact ⟨x1.lt, x2.lt⟩
  have hit := attrs_calls ((w.alloc (.cells #[.int .i64 (k : Int)] 3)).alloc (.cells #[.slice none 0 0] 79)) (some ⟨p, 0, none⟩)
  simp only [World.size_alloc] at hit
  have htl : (atts s.l).length ≤ 3564 := by have := attsTo_length s.l s.l.length; have := (ok.ix 0).2.2.1; unfold atts; omega
  refine callsIn_of_wp_marks Try.func107 rfl trivial ?_ rfl
  simp only [Try.ntmps107, List.size_toArray, List.length_cons, List.length_nil, Nat.reduceAdd, Nat.reduceSub, Array.replicate_succ, Array.replicate_zero, List.push_toArray, List.append_toArray, List.nil_append, List.cons_append]
  gi_wp2_with (first
    | (refine ⟨trivial, ?_⟩; gi_at_call 158; (with_reducible refine (callsIn_wide.2 hit).mono ?_); rintro e w1 ⟨rfl, rfl⟩))
  have k1 : Keep [] w (w.alloc (.cells #[.int .i64 (k : Int)] 3)) := (Keep.refl [] w).alloc _
  have a1 := Blk.new w [.int .i64 (k : Int)] 3
  have a2 := Blk.new (w.alloc (.cells #[.int .i64 (k : Int)] 3)) [.slice none 0 0] 79
  simp only [World.size_alloc] at a2
  have k2 := k1.alloc (.cells #[.slice none 0 0] 79)
  have a1' := a1.alloc (.cells #[.slice none 0 0] 79)
  have a3 := Blk.new ((w.alloc (.cells #[.int .i64 (k : Int)] 3)).alloc (.cells #[.slice none 0 0] 79)) [.pointer (some ⟨p, 0, none⟩)] 61
  simp only [World.size_alloc] at a3
  have B1 := a1'.alloc (.cells #[.pointer (some ⟨p, 0, none⟩)] 61)
  have B2 := a2.alloc (.cells #[.pointer (some ⟨p, 0, none⟩)] 61)
  have B3 := a3
  have K1 := k2.alloc (.cells #[.pointer (some ⟨p, 0, none⟩)] 61)
  have hs1 := h.keep K1 (by simp) (by simp)
  have hsz : (((w.alloc (.cells #[.int .i64 (k : Int)] 3)).alloc (.cells #[.slice none 0 0] 79)).alloc (.cells #[.pointer (some ⟨p, 0, none⟩)] 61)).heap.size = w.heap.size + 3 := by simp only [World.size_alloc]
  generalize ((w.alloc (.cells #[.int .i64 (k : Int)] 3)).alloc (.cells #[.slice none 0 0] 79)).alloc (.cells #[.pointer (some ⟨p, 0, none⟩)] 61) = W at *
  have hno : ∀ k, ¬ owned (w.heap.size + 1) W k := by
    rintro k ⟨n, c, hk⟩
    have := B2.cell 0
    simp only [List.getElem?_cons_zero] at this
    rw [this] at hk
    cases hk
  have hown0 : ∀ k, owned (w.heap.size + 1) W k → k < W.heap.size := fun k hk => absurd hk (hno k)
  have hst := attrs_stops (Inv := fun s' => s' = s) ((holds_ko (w.heap.size + 1)).servesI p b _) (lets_ko (by omega)) hs1 rfl (fun s' e => by subst e; exact ⟨ok, rfl, rfl, rfl, fun _ => rfl⟩) B3 ⟨by omega, hown0⟩ ⟨⟨by omega, hno _⟩, ⟨by omega, hno _⟩⟩ 19 (by decide)
  refine wpIn_rangeF (F := Fence.wide) (n := 20) rfl (by decide) (gf := 183) (lb := #[.pointer (some ⟨w.heap.size + 1 + 1, 0, none⟩)]) rfl trivial (enters_of Try.func183 (by kernel_rfl) rfl)
    hst KO.trans (fun V l o o' hl ho hc hw => KO.put (by omega) ho hc) (Below.refl _ _) (fun _ => rfl)
    (SmI w (w.heap.size + 1) w.heap.size (w.heap.size + 2) k) (SmX w (w.heap.size + 1) (w.heap.size + 2) k)
    (smi_own (by omega)) (fun _ => smx_own (by omega)) ⟨(by show 0 < k; omega), B1, ⟨.slice none 0 0, B2, World.ownsRow_nil _ _ _ _, fun _ => rfl⟩, K1⟩
    (fun x a' _ => a' = { tmps := #[.pointer (some ⟨p, 0, none⟩), .int .i64 (k : Int), undef, .pointer (some ⟨w.heap.size, 0, none⟩), .slice none 0 0, .pointer (some ⟨w.heap.size + 1, 0, none⟩), .int .i64 x, .pointer (some ⟨p, 0, none⟩), .func (.func 183) #[] #[.pointer (some ⟨w.heap.size + 1 + 1, 0, none⟩)], .int .i64 x, undef, undef, undef, undef, undef, undef, undef, undef, undef], defers := [] }) (fun _ _ _ _ _ _ h _ _ => h) ?assign ?body ?done ?stop
  case assign =>
    intro l pre x V K hI _ hK
    have h1 := hK _ V (KeepsFrom.refl _ _) (KO.refl _ _) hI rfl
    clear hK hI hst
    gi_wp2
    exact h1
  case body =>
    rintro lr pre x a' V hlr hrec ⟨hpk, hBm, ⟨v, hv, hrow, hnil⟩, hK⟩ rfl hlen
    clear hlr hrec hst
    have hc := hv.cell
    have hVs := hK.size
    obtain ⟨hb1, hb2⟩ : w.heap.size + 1 < V.heap.size ∧ w.heap.size + 2 ≤ V.heap.size := by have := hv.lt; omega
    obtain ⟨v', w1, hrun, hown, hgr, hwh⟩ := append79 (V.alloc (.cells #[.int .i64 x] 3)) (w.heap.size + 2) v pre.length _ (hrow.alloc _) ⟨V.heap.size, 0, none⟩ (.int .i64 x) rfl ((Blk.new V [.int .i64 x] 3).cell 0) 1 (by omega) (by rw [World.size_alloc]; omega)
    obtain ⟨q1, q2, q3⟩ := coll_round hv hrow hK (by omega) (by omega) (by omega) hown hgr hwh
    have hv1 : Boxed w1 (w.heap.size + 1) 79 v := (hv.alloc _).kept hgr (hv.not_row (by decide) hrow)
    have hnb : ¬ owned (w.heap.size + 1) V w.heap.size := by
      rintro ⟨n1, c1, hx⟩
      rw [hv.cell] at hx
      injection hx with hx
      subst hx
      rcases hrow.2 with ⟨e, _⟩ | ⟨g, cap, cur, e, hg, _⟩
      · cases e
      · injection e with e _ _
        injection e with e
        injection e with e
        omega
    have hBm2 : Blk (w1.setCell ⟨w.heap.size + 1, 0, none⟩ v') w.heap.size [.int .i64 (k : Int)] 3 := q2.block _ _ (by omega) hnb hBm rfl
    obtain ⟨g', cap', rfl, _, _⟩ := own_shape hown
    have hv2 := hv1.set (.slice (some ⟨g', 0, none⟩) (pre.length + 1) cap')
    have hc1 := hv1.cell
    have hf1 := hv1.frozen
    have hl1 := hv1.lt
    have hc2 := hv2.cell
    have hcm := hBm2.cell 0
    simp only [List.getElem?_cons_zero] at hcm
    have hcm1 : w1.cell? ⟨w.heap.size, 0, none⟩ = some (.int .i64 (k : Int)) := by
      have e := Below.heap_setCell w1 ⟨w.heap.size + 1, 0, none⟩ (.slice (some ⟨g', 0, none⟩) (pre.length + 1) cap') w.heap.size (by show w.heap.size ≠ w.heap.size + 1; omega)
      rw [World.cell?_of_block (a := ⟨w.heap.size, 0, none⟩) e] at hcm
      exact hcm
    have Q1 := Aside0.mk (And.intro q1 (And.intro q2 (And.intro q3 hBm2)))
    have hp0 : (0 : Int) ≤ (pre.length : Int) := by omega
    have hp1 : (pre.length : Int) ≤ 100000 := by omega
    have HPK := Aside0.mk hpk
    clear q1 q2 q3 hown hgr hwh hrow hnil hK hlen hv hv1 hv2 hnb hBm2 hBm
    by_cases he : pre.length + 1 = k
    · have heb : (((pre.length : Int) + 1) == (k : Int)) = true := by simp only [beq_iff_eq]; omega
      have HE := Aside0.mk he
      clear he hpk
      gi_wp2_with (gi_at_builtin; refine wpListIn_ran rfl _ _ rfl rfl rfl rfl hrun ?_)
      refine ⟨Q1.out.1 _, ⟨rfl, ?_⟩, Q1.out.2.2.1⟩
      rw [List.length_append]; exact HE.out
    · have heb : (((pre.length : Int) + 1) == (k : Int)) = false := by simp only [beq_eq_false_iff_ne, ne_eq]; omega
      have HE := Aside0.mk he
      clear he hpk
      gi_wp2_with (gi_at_builtin; refine wpListIn_ran rfl _ _ rfl rfl rfl rfl hrun ?_)
      refine ⟨Q1.out.1 _, Q1.out.2.1, ?_, Q1.out.2.2.2, Q1.out.2.2.1⟩
      rw [List.length_append]
      have h1 := HPK.out
      have h2 := HE.out
      show pre.length + 1 < k
      omega
  case done =>
    rintro D ys V hD rfl ⟨hpk, hBm, ⟨v, hv, hrow, hnil⟩, hK⟩ hKD
    have c0 := hv.cell
    gi_wp2
    refine ⟨by simp, .inl ⟨_, _, rfl, run_takeDeferred hKD, ?_⟩⟩
    refine ⟨_, results_tmp rfl _ _ _, v, rfl, ?_, (hK.putObj (by omega)).below⟩
    rw [List.take_of_length_le (by omega)]
    exact IR.lower ⟨ownsRow_putObj hrow _ hKD rfl, hnil⟩ (by omega)
  case stop =>
    rintro D c pre V hD hpre ⟨⟨hc, hpk⟩, ⟨v, hv, hrow, hnil⟩, hK⟩ hKD
    subst hc
    have c0 := hv.cell
    gi_wp2
    refine ⟨by simp, .inl ⟨_, _, rfl, run_takeDeferred hKD, ?_⟩⟩
    refine ⟨_, results_tmp rfl _ _ _, v, rfl, ?_, (hK.putObj (by omega)).below⟩
    rw [prefix_take hpre hpk]
    exact IR.lower ⟨ownsRow_putObj hrow _ hKD rfl, hnil⟩ (by omega)

end Go.Proofs.Ytangandfgbnomaa.V
