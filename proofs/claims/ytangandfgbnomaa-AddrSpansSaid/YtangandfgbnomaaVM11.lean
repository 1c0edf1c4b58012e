/- The walk of the law AddrSpans. -/
import Derived.Test.YtangandfgbnomaaVP7
import Derived.Test.YtangandfgbnomaaVC4
import Derived.Test.YtangandfgbnomaaVW
namespace Go.Proofs.Ytangandfgbnomaa.V
open Go.RowKit
set_option linter.unusedVariables false
set_option linter.unusedSimpArgs false

theorem tells_span {w : World} {R C a b : Int} {B1 B2 B3 : Nat} (h1 : Blk w B1 [.int .i64 R, .int .i64 C] 24) (h2 : Blk w B2 [.int .i64 a] 3) (h3 : Blk w B3 [.int .i64 b] 3) :
    Tells w 157 #[.pointer (some ⟨B1, 0, none⟩), .pointer (some ⟨B2, 0, none⟩), .pointer (some ⟨B3, 0, none⟩)] (spn R C a b) := by
  intro B W k hB hb
  have hno : ∀ k, ¬ owned B W k := by
    rintro k ⟨n, c, hk⟩
    have := hb.cell 0
    simp only [List.getElem?_cons_zero] at this
    rw [this] at hk
    cases hk
  have l1 := h1.lt
  have l2 := h2.lt
  have l3 := h3.lt
  exact span_stops (holds_ko B) (h1.keep k (by simp)) (h2.keep k (by simp)) (h3.keep k (by simp)) ⟨hb.lt, fun k hk => absurd hk (hno k)⟩ ⟨⟨by omega, hno _⟩, ⟨by omega, hno _⟩, ⟨by omega, hno _⟩⟩ 6 (by decide)
theorem Tells.keep {w w' : World} {gf : Nat} {lb : Array Value} {l : List Int} (h : Tells w gf lb l) (k : Keep [] w w') : Tells w' gf lb l :=
  fun B W k' hB hb => h B W (k.trans k' (by simp)) (Nat.le_trans k.size hB) hb

set_option maxRecDepth 100000 in
set_option maxHeartbeats 4000000 in
theorem spans_walk (R C fa fb st : Int) (hst : 0 ≤ st ∧ st < 65536) (w : World) : Calls Try.prog 11 #[sz R C, .int .i64 fa, .int .i64 fb, .int .u16 st] w fun e w' => e = .returned (.bool true) ∧ Below w.heap.size w w' := by
  have kb : Keep [] w (w.alloc (.cells #[.int .i64 R, .int .i64 C] 28)) := (Keep.refl [] w).alloc _
  have bb := Blk.new w [.int .i64 R, .int .i64 C] 28
  have g0 : ∀ W, Keep [] (w.alloc (.cells #[.int .i64 R, .int .i64 C] 28)) W → W.cell? ⟨w.heap.size, 0, none⟩ = some (.int .i64 R) := fun W k => (bb.keep k (by simp)).cell 0
  have g1 : ∀ W, Keep [] (w.alloc (.cells #[.int .i64 R, .int .i64 C] 28)) W → W.cell? ⟨w.heap.size, 1, none⟩ = some (.int .i64 C) := fun W k => (bb.keep k (by simp)).cell 1
  clear bb
  have HB := Aside0.mk kb
  have HST := Aside0.mk hst
  clear kb
  go_enter Try.func11, Try.ntmps11
  go_wp2_with (first
    | (go_at_call 27; (with_reducible refine (awake04 _).mono ?_); rintro e w1 ⟨rfl, hb1⟩
       have k1 := (Keep.refl [] (w.alloc (.cells #[.int .i64 R, .int .i64 C] 28))).call hb1
       have e0 := g0 _ k1
       have e1 := g1 _ k1
       have k2 := k1.alloc (.cells #[.int .i64 R, .int .i64 C] 24)
       have e2 := g0 _ k2
       have e3 := g1 _ k2
       have bx := Blk.new w1 [.int .i64 R, .int .i64 C] 24)
    | (go_at_call 77; (with_reducible refine (rspan_calls R C fa fb _).mono ?_); rintro e w2 ⟨v, rfl, hv, hb2⟩))
  have HV := Aside0.mk hv
  have K2 := Aside0.mk (k2.call hb2)
  have bx2 := bx.call hb2
  have kd : ∀ W, Keep [] w2.drew W → Keep [] w2 W := fun W k => (Keep.refl [] w2).drew.trans k (by simp)
  have j0 : ∀ W, Keep [] w2 W → W.cell? ⟨w1.heap.size, 0, none⟩ = some (.int .i64 R) := fun W k => (bx2.keep k (by simp)).cell 0
  have j1 : ∀ W, Keep [] w2 W → W.cell? ⟨w1.heap.size, 1, none⟩ = some (.int .i64 C) := fun W k => (bx2.keep k (by simp)).cell 1
  obtain ⟨k, hk⟩ : ∃ k : Nat, (1 + st : Int) = k := ⟨(1 + st).toNat, by omega⟩
  rw [hk]
  have hk1 : 1 ≤ k ∧ k ≤ 65536 := by omega
  have hlb := len_bound R C fa fb
  obtain ⟨L, hL⟩ : ∃ L, (spn R C fa fb).length = L := ⟨_, rfl⟩
  have hLe : len R C fa fb = (L : Int) := by rw [← hL, spn_length]; omega
  have hLb : L ≤ 3564 := by omega
  obtain ⟨M, hM⟩ : ∃ M, ((spn R C fa fb).take k).length = M := ⟨_, rfl⟩
  have hM' : M = min k L := by rw [← hM, List.length_take, hL]
  have hi1 : (if (k : Int) < (L : Int) then (k : Int) else (L : Int)) = (M : Int) := by split <;> omega
  have hi2 : (if k < L then (k : Int) else (L : Int)) = (M : Int) := by split <;> omega
  have hml : M ≤ L := by omega
  have hm0 : (0 : Int) ≤ (M : Int) := by omega
  have q80 : ∀ W, Keep [] w2 W → Calls Try.prog 80 #[.agg #[.int .i64 R, .int .i64 C], .int .i64 fa, .int .i64 fb] W fun e w' => ∃ v, e = .returned v ∧ (∃ c1 c2 c3, v = .func (.func 157) #[] #[.pointer (some ⟨c1, 0, none⟩), .pointer (some ⟨c2, 0, none⟩), .pointer (some ⟨c3, 0, none⟩)] ∧ Tells w' 157 #[.pointer (some ⟨c1, 0, none⟩), .pointer (some ⟨c2, 0, none⟩), .pointer (some ⟨c3, 0, none⟩)] (spn R C fa fb)) ∧ Keep [] W w' := fun W kW =>
    (span_calls W R C fa fb).mono (fun e w' h => by
      obtain ⟨rfl, rfl⟩ := h
      have x1 := ((Blk.new W [.int .i64 R, .int .i64 C] 24).alloc (.cells #[.int .i64 fa] 3)).alloc (.cells #[.int .i64 fb] 3)
      have x2 := (Blk.new (W.alloc (.cells #[.int .i64 R, .int .i64 C] 24)) [.int .i64 fa] 3).alloc (.cells #[.int .i64 fb] 3)
      have x3 := Blk.new ((W.alloc (.cells #[.int .i64 R, .int .i64 C] 24)).alloc (.cells #[.int .i64 fa] 3)) [.int .i64 fb] 3
      simp only [World.size_alloc] at x2 x3
      exact ⟨_, rfl, ⟨_, _, _, rfl, tells_span x1 x2 x3⟩, (((Keep.refl [] W).alloc _).alloc _).alloc _⟩)
  have q79 : ∀ W c1 c2 c3, Keep [] w2 W → Tells W 157 #[.pointer (some ⟨c1, 0, none⟩), .pointer (some ⟨c2, 0, none⟩), .pointer (some ⟨c3, 0, none⟩)] (spn R C fa fb) → Calls Try.prog 79 #[.func (.func 157) #[] #[.pointer (some ⟨c1, 0, none⟩), .pointer (some ⟨c2, 0, none⟩), .pointer (some ⟨c3, 0, none⟩)]] W fun e w' => ∃ v, e = .returned v ∧ IR w' w2.heap.size v (spn R C fa fb) ∧ Keep [] W w' := fun W c1 c2 c3 kW ht =>
    (collect_calls (l := spn R C fa fb) (enters_of Try.func157 (by kernel_rfl) rfl) (by rw [hL]; omega) ht).mono (fun e w' h => by
      obtain ⟨v, rfl, hv, hb⟩ := h
      exact ⟨v, rfl, hv.lower kW.size, Keep.of_below hb []⟩)
  have q81 : ∀ W, Calls Try.prog 81 #[.agg #[.int .i64 R, .int .i64 C], .int .i64 fa, .int .i64 fb] W fun e w' => e = .returned (.int .i64 (L : Int)) ∧ Below W.heap.size W w' := fun W => (c_length R C fa fb W).mono (fun e w' h => ⟨by rw [h.1, hLe], h.2⟩)
  have q82 : ∀ W, Keep [] w2 W → Calls Try.prog 82 #[.agg #[.int .i64 R, .int .i64 C], .int .i64 fa, .int .i64 fb, .int .i64 (k : Int)] W fun e w' => ∃ v, e = .returned v ∧ IR w' w2.heap.size v ((spn R C fa fb).take k) ∧ Keep [] W w' := fun W kW =>
    (span82_calls R C fa fb k hk1.1 (by omega)).mono (fun e w' h => by
      obtain ⟨v, rfl, hv, hb⟩ := h
      exact ⟨v, rfl, hv.lower kW.size, Keep.of_below hb []⟩)
  obtain ⟨ta2, cp2, hve, hI2⟩ := HV.out.ints
  rw [hL] at hve
  subst hve
  have IM := Aside0.mk hI2
  have q78 : ∀ W v, Keep [] w2 W → IR W w2.heap.size v (spn R C fa fb) → Calls Try.prog 78 #[v, .slice ta2 L cp2] W fun e W' => e = .returned (.bool true) ∧ Below W.heap.size W W' := fun W v kW hv => by
    obtain ⟨ta, c, rfl, hI⟩ := hv.ints
    have := equal78_calls c cp2 hI (IM.out.keep kW) (by rw [hL]; omega)
    rw [hL] at this ⊢
    exact this
  have q78b : ∀ W v, Keep [] w2 W → IR W w2.heap.size v ((spn R C fa fb).take k) → Calls Try.prog 78 #[v, .slice ta2 M cp2] W fun e W' => e = .returned (.bool true) ∧ Below W.heap.size W W' := fun W v kW hv => by
    obtain ⟨ta, c, rfl, hI⟩ := hv.ints
    have := equal78_calls c cp2 hI ((IM.out.keep kW).take k) (by rw [hM]; omega)
    rw [hM] at this ⊢
    exact this
  have hcp : L ≤ cp2 ∧ (ta2 = none → L = 0 ∧ cp2 = 0) := by
    rcases HV.out.1.2 with ⟨e, h0⟩ | ⟨_, _, _, e, _, _, h5, _⟩
    · injection e with e1 e2 e3; exact ⟨by omega, fun _ => ⟨e2, e3⟩⟩
    · injection e with e1 e2 e3; exact ⟨by omega, fun h => by rw [h] at e1; cases e1⟩
  have hmc : M ≤ cp2 := by omega
  have hmc2 : (M : Int) ≤ (cp2 : Int) := by omega
  clear hM hM' hL hLe hlb hk hst hb2 hv bx bx2 hk1
  rcases ta2 with _ | ad
  · obtain ⟨rfl, rfl⟩ := hcp.2 rfl
    have hM0 : M = 0 := by omega
    subst hM0
    have hi3 : (if (k : Int) < 0 then (k : Int) else 0) = 0 := by split <;> omega
    apply wp_region_rel 52 [_, _, _, fun W v => ∃ c1 c2 c3, v = .func (.func 157) #[] #[.pointer (some ⟨c1, 0, none⟩), .pointer (some ⟨c2, 0, none⟩), .pointer (some ⟨c3, 0, none⟩)] ∧ Tells W 157 #[.pointer (some ⟨c1, 0, none⟩), .pointer (some ⟨c2, 0, none⟩), .pointer (some ⟨c3, 0, none⟩)] (spn R C fa fb), fun W v => IR W w2.heap.size v (spn R C fa fb), _, _, _, _, _, _, _, _, _, _, _, _, _, _, _, _, fun W v => IR W w2.heap.size v ((spn R C fa fb).take k), _, _, _, _, _, _, _, _, _] (by kernel_rfl) (by kernel_rfl) (Nat.le_refl _)
    case hO =>
      refine ⟨?o0, ?o1, ?o2, ?o3, ?o4, ?o5, ?o6, ?o7, ?o8, ?o9, ?o10, ?o11, ?o12, ?o13, ?o14, ?o15, ?o16, ?o17, ?o18, ?o19, ?o20, ?o21, ?o22, ?o23, ?o24, ?o25, ?o26, ?o27, ?o28, ?o29, ?o30, trivial⟩
      case o0 =>
        apply obl_val
        case hd => rfl
        intro a W hK hF hD
        have e9 : a.tmps.getD 9 undef = _ := hF.word 9 (by kernel_rfl)
        have hK := kd W hK
        refine ⟨rfl, ?_⟩
        (go_simp; with_reducible rfl)
      case o1 =>
        apply obl_val
        case hd => rfl
        intro a W hK hF hD
        have e1 : a.tmps.getD 1 undef = _ := hF.word 1 (by kernel_rfl)
        have hK := kd W hK
        refine ⟨rfl, ?_⟩
        (go_simp; with_reducible rfl)
      case o2 =>
        apply obl_val
        case hd => rfl
        intro a W hK hF hD
        have e2 : a.tmps.getD 2 undef = _ := hF.word 2 (by kernel_rfl)
        have hK := kd W hK
        refine ⟨rfl, ?_⟩
        (go_simp; with_reducible rfl)
      case o3 =>
        refine obl_call _ (fun W W' v k h => let ⟨c1, c2, c3, e, ht⟩ := h; ⟨c1, c2, c3, e, ht.keep k⟩) rfl (fun a W hK hF hD => ?_)
        have e22 : a.tmps.getD 22 undef = _ := hD.1
        have e23 : a.tmps.getD 23 undef = _ := hD.2.1
        have e24 : a.tmps.getD 24 undef = _ := hD.2.2.1
        have hK := kd W hK
        refine ⟨rfl, ?_⟩
        apply enter_of
        case hr => (go_simp; first | exact ⟨rfl, rfl⟩ | rfl)
        case hc => exact q80 W hK
      case o4 =>
        refine obl_call _ (fun W W' v k h => h.keep k (by simp)) rfl (fun a W hK hF hD => ?_)
        have k3 := hD.1
        have hK := kd W hK
        obtain ⟨c1, c2, c3, e25, ht⟩ : ∃ c1 c2 c3, a.tmps.getD 25 undef = .func (.func 157) #[] #[.pointer (some ⟨c1, 0, none⟩), .pointer (some ⟨c2, 0, none⟩), .pointer (some ⟨c3, 0, none⟩)] ∧ Tells W 157 #[.pointer (some ⟨c1, 0, none⟩), .pointer (some ⟨c2, 0, none⟩), .pointer (some ⟨c3, 0, none⟩)] (spn R C fa fb) := hD.1
        refine ⟨rfl, ?_⟩
        apply enter_of
        case hr => (go_simp; first | exact ⟨rfl, rfl⟩ | rfl)
        case hc => exact q79 W c1 c2 c3 hK ht
      case o5 =>
        apply obl_val
        case hd => rfl
        intro a W hK hF hD
        have e10 : a.tmps.getD 10 undef = _ := hF.word 10 (by kernel_rfl)
        have hK := kd W hK
        refine ⟨rfl, ?_⟩
        (go_simp; with_reducible rfl)
      case o6 =>
        apply obl_quiet
        case hd => rfl
        intro a W hK hF hD
        have k4 := hD.1
        have e27 : a.tmps.getD 27 undef = _ := hD.2.1
        have hK := kd W hK
        have k4 : IR W _ (a.tmps.getD 26 undef) _ := hD.1
        obtain ⟨v26, e26⟩ : ∃ v, a.tmps.getD 26 undef = v := ⟨_, rfl⟩
        rw [e26] at k4
        refine ⟨rfl, ?_⟩
        apply enter_of
        case hr => (go_simp; first | exact ⟨rfl, rfl⟩ | rfl)
        case hc => exact q78 W _ hK k4
      case o7 =>
        apply obl_val
        case hd => rfl
        intro a W hK hF hD
        have e28 : a.tmps.getD 28 undef = _ := hD.1
        have hK := kd W hK
        refine ⟨rfl, ?_⟩
        (go_simp; with_reducible rfl)
      case o8 =>
        apply obl_val
        case hd => rfl
        intro a W hK hF hD
        have e29 : a.tmps.getD 29 undef = _ := hD.1
        have e9 : a.tmps.getD 9 undef = _ := hF.word 9 (by kernel_rfl)
        have hK := kd W hK
        refine ⟨⟨_, e29, rfl⟩, ?_⟩
        (go_simp; with_reducible rfl)
      case o9 =>
        apply obl_val
        case hd => rfl
        intro a W hK hF hD
        have e29 : a.tmps.getD 29 undef = _ := hD.1
        have e1 : a.tmps.getD 1 undef = _ := hF.word 1 (by kernel_rfl)
        have hK := kd W hK
        refine ⟨⟨_, e29, rfl⟩, ?_⟩
        (go_simp; with_reducible rfl)
      case o10 =>
        apply obl_val
        case hd => rfl
        intro a W hK hF hD
        have e29 : a.tmps.getD 29 undef = _ := hD.1
        have e2 : a.tmps.getD 2 undef = _ := hF.word 2 (by kernel_rfl)
        have hK := kd W hK
        refine ⟨⟨_, e29, rfl⟩, ?_⟩
        (go_simp; with_reducible rfl)
      case o11 =>
        apply obl_quiet
        case hd => rfl
        intro a W hK hF hD
        have e30 : a.tmps.getD 30 undef = _ := hD.1
        have e31 : a.tmps.getD 31 undef = _ := hD.2.1
        have e32 : a.tmps.getD 32 undef = _ := hD.2.2.1
        have e29 : a.tmps.getD 29 undef = _ := hD.2.2.2.1
        refine ⟨⟨_, e29, rfl⟩, ?_⟩
        apply enter_of
        case hr => (go_simp; first | exact ⟨rfl, rfl⟩ | rfl)
        case hc =>
          first
            | exact q81 W
      case o12 =>
        apply obl_val
        case hd => rfl
        intro a W hK hF hD
        have e29 : a.tmps.getD 29 undef = _ := hD.1
        have e10 : a.tmps.getD 10 undef = _ := hF.word 10 (by kernel_rfl)
        have hK := kd W hK
        refine ⟨⟨_, e29, rfl⟩, ?_⟩
        (go_simp; with_reducible rfl)
      case o13 =>
        apply obl_val
        case hd => rfl
        intro a W hK hF hD
        have e34 : a.tmps.getD 34 undef = _ := hD.1
        have e29 : a.tmps.getD 29 undef = _ := hD.2.1
        have hK := kd W hK
        refine ⟨⟨_, e29, rfl⟩, ?_⟩
        (go_simp; with_reducible rfl)
      case o14 =>
        apply obl_val
        case hd => rfl
        intro a W hK hF hD
        have e33 : a.tmps.getD 33 undef = _ := hD.1
        have e35 : a.tmps.getD 35 undef = _ := hD.2.1
        have e29 : a.tmps.getD 29 undef = _ := hD.2.2.1
        have hK := kd W hK
        refine ⟨⟨_, e29, rfl⟩, ?_⟩
        (go_simp; with_reducible rfl)
      case o15 =>
        apply obl_val
        case hd => rfl
        intro a W hK hF hD
        have e29 : a.tmps.getD 29 undef = _ := hD.1
        have e36 : a.tmps.getD 36 undef = _ := hD.2.1
        have hK := kd W hK
        refine ⟨rfl, ?_⟩
        (go_simp; with_reducible rfl)
      case o16 =>
        apply obl_val
        case hd => rfl
        intro a W hK hF hD
        have e37 : a.tmps.getD 37 undef = _ := hD.1
        have e33 : a.tmps.getD 33 undef = _ := hD.2.1
        have hK := kd W hK
        refine ⟨rfl, ?_⟩
        (go_simp; with_reducible rfl)
      case o17 =>
        apply obl_val
        case hd => rfl
        intro a W hK hF hD
        have e38 : a.tmps.getD 38 undef = _ := hD.1
        have e9 : a.tmps.getD 9 undef = _ := hF.word 9 (by kernel_rfl)
        have hK := kd W hK
        refine ⟨⟨_, e38, rfl⟩, ?_⟩
        (go_simp; with_reducible rfl)
      case o18 =>
        apply obl_val
        case hd => rfl
        intro a W hK hF hD
        have e38 : a.tmps.getD 38 undef = _ := hD.1
        have e1 : a.tmps.getD 1 undef = _ := hF.word 1 (by kernel_rfl)
        have hK := kd W hK
        refine ⟨⟨_, e38, rfl⟩, ?_⟩
        (go_simp; with_reducible rfl)
      case o19 =>
        apply obl_val
        case hd => rfl
        intro a W hK hF hD
        have e38 : a.tmps.getD 38 undef = _ := hD.1
        have e2 : a.tmps.getD 2 undef = _ := hF.word 2 (by kernel_rfl)
        have hK := kd W hK
        refine ⟨⟨_, e38, rfl⟩, ?_⟩
        (go_simp; with_reducible rfl)
      case o20 =>
        apply obl_val
        case hd => rfl
        intro a W hK hF hD
        have e38 : a.tmps.getD 38 undef = _ := hD.1
        have e11 : a.tmps.getD 11 undef = _ := hF.word 11 (by kernel_rfl)
        have hK := kd W hK
        refine ⟨⟨_, e38, rfl⟩, ?_⟩
        (go_simp; with_reducible rfl)
      case o21 =>
        refine obl_call _ (fun W W' v k h => h.keep k (by simp)) rfl (fun a W hK hF hD => ?_)
        have e39 : a.tmps.getD 39 undef = _ := hD.1
        have e40 : a.tmps.getD 40 undef = _ := hD.2.1
        have e41 : a.tmps.getD 41 undef = _ := hD.2.2.1
        have e42 : a.tmps.getD 42 undef = _ := hD.2.2.2.1
        have e38 : a.tmps.getD 38 undef = _ := hD.2.2.2.2.1
        have hK := kd W hK
        refine ⟨⟨_, e38, rfl⟩, ?_⟩
        apply enter_of
        case hr => (go_simp; first | exact ⟨rfl, rfl⟩ | rfl)
        case hc => exact q82 W hK
      case o22 =>
        apply obl_val
        case hd => rfl
        intro a W hK hF hD
        have e38 : a.tmps.getD 38 undef = _ := hD.1
        have e10 : a.tmps.getD 10 undef = _ := hF.word 10 (by kernel_rfl)
        have hK := kd W hK
        refine ⟨⟨_, e38, rfl⟩, ?_⟩
        (go_simp; with_reducible rfl)
      case o23 =>
        apply obl_val
        case hd => rfl
        intro a W hK hF hD
        have e38 : a.tmps.getD 38 undef = _ := hD.1
        have e10 : a.tmps.getD 10 undef = _ := hF.word 10 (by kernel_rfl)
        have hK := kd W hK
        refine ⟨⟨_, e38, rfl⟩, ?_⟩
        (go_simp; with_reducible rfl)
      case o24 =>
        apply obl_val
        case hd => rfl
        intro a W hK hF hD
        have e45 : a.tmps.getD 45 undef = _ := hD.1
        have e38 : a.tmps.getD 38 undef = _ := hD.2.1
        have hK := kd W hK
        refine ⟨⟨_, e38, rfl⟩, ?_⟩
        (go_simp; with_reducible rfl)
      case o25 =>
        apply obl_val
        case hd => rfl
        intro a W hK hF hD
        have e38 : a.tmps.getD 38 undef = _ := hD.1
        have e11 : a.tmps.getD 11 undef = _ := hF.word 11 (by kernel_rfl)
        have hK := kd W hK
        refine ⟨⟨_, e38, rfl⟩, ?_⟩
        (go_simp; with_reducible rfl)
      case o26 =>
        apply obl_val
        case hd => rfl
        intro a W hK hF hD
        have e46 : a.tmps.getD 46 undef = _ := hD.1
        have e47 : a.tmps.getD 47 undef = _ := hD.2.1
        have e38 : a.tmps.getD 38 undef = _ := hD.2.2.1
        have hK := kd W hK
        refine ⟨⟨_, e38, rfl⟩, ?_⟩
        (go_simp; with_reducible rfl)
      case o27 =>
        apply obl_val
        case hd => rfl
        intro a W hK hF hD
        have e44 : a.tmps.getD 44 undef = _ := hD.1
        have e48 : a.tmps.getD 48 undef = _ := hD.2.1
        have e38 : a.tmps.getD 38 undef = _ := hD.2.2.1
        have hK := kd W hK
        refine ⟨⟨_, e38, rfl⟩, ?_⟩
        (go_simp; with_reducible rfl)
      case o28 =>
        apply obl_quiet
        case hd => rfl
        intro a W hK hF hD
        have k21 := hD.1
        have e49 : a.tmps.getD 49 undef = _ := hD.2.1
        have e38 : a.tmps.getD 38 undef = _ := hD.2.2.2.1
        have hK := kd W hK
        have k21 : IR W _ (a.tmps.getD 43 undef) _ := hD.1
        obtain ⟨v43, e43⟩ : ∃ v, a.tmps.getD 43 undef = v := ⟨_, rfl⟩
        rw [e43] at k21
        refine ⟨⟨_, e38, rfl⟩, ?_⟩
        apply enter_of
        case hr => (go_simp; first | exact ⟨rfl, rfl⟩ | rfl)
        case hc => exact q78b W _ hK k21
      case o29 =>
        apply obl_val
        case hd => rfl
        intro a W hK hF hD
        have e38 : a.tmps.getD 38 undef = _ := hD.1
        have e50 : a.tmps.getD 50 undef = _ := hD.2.1
        have hK := kd W hK
        refine ⟨rfl, ?_⟩
        (go_simp; with_reducible rfl)
      case o30 =>
        apply obl_val
        case hd => rfl
        intro a W hK hF hD
        have e51 : a.tmps.getD 51 undef = _ := hD.1
        have e50 : a.tmps.getD 50 undef = _ := hD.2.1
        have e22 : a.tmps.getD 22 undef = _ := hD.2.2.1
        have e23 : a.tmps.getD 23 undef = _ := hD.2.2.2.1
        have e24 : a.tmps.getD 24 undef = _ := hD.2.2.2.2.1
        have k3 := hD.2.2.2.2.2.1
        have k4 := hD.2.2.2.2.2.2.1
        have e27 : a.tmps.getD 27 undef = _ := hD.2.2.2.2.2.2.2.1
        have e28 : a.tmps.getD 28 undef = _ := hD.2.2.2.2.2.2.2.2.1
        have e29 : a.tmps.getD 29 undef = _ := hD.2.2.2.2.2.2.2.2.2.1
        have e30 : a.tmps.getD 30 undef = _ := hD.2.2.2.2.2.2.2.2.2.2.1
        have e31 : a.tmps.getD 31 undef = _ := hD.2.2.2.2.2.2.2.2.2.2.2.1
        have e32 : a.tmps.getD 32 undef = _ := hD.2.2.2.2.2.2.2.2.2.2.2.2.1
        have e33 : a.tmps.getD 33 undef = _ := hD.2.2.2.2.2.2.2.2.2.2.2.2.2.1
        have e34 : a.tmps.getD 34 undef = _ := hD.2.2.2.2.2.2.2.2.2.2.2.2.2.2.1
        have e35 : a.tmps.getD 35 undef = _ := hD.2.2.2.2.2.2.2.2.2.2.2.2.2.2.2.1
        have e36 : a.tmps.getD 36 undef = _ := hD.2.2.2.2.2.2.2.2.2.2.2.2.2.2.2.2.1
        have e37 : a.tmps.getD 37 undef = _ := hD.2.2.2.2.2.2.2.2.2.2.2.2.2.2.2.2.2.1
        have e38 : a.tmps.getD 38 undef = _ := hD.2.2.2.2.2.2.2.2.2.2.2.2.2.2.2.2.2.2.1
        have e39 : a.tmps.getD 39 undef = _ := hD.2.2.2.2.2.2.2.2.2.2.2.2.2.2.2.2.2.2.2.1
        have e40 : a.tmps.getD 40 undef = _ := hD.2.2.2.2.2.2.2.2.2.2.2.2.2.2.2.2.2.2.2.2.1
        have e41 : a.tmps.getD 41 undef = _ := hD.2.2.2.2.2.2.2.2.2.2.2.2.2.2.2.2.2.2.2.2.2.1
        have e42 : a.tmps.getD 42 undef = _ := hD.2.2.2.2.2.2.2.2.2.2.2.2.2.2.2.2.2.2.2.2.2.2.1
        have k21 := hD.2.2.2.2.2.2.2.2.2.2.2.2.2.2.2.2.2.2.2.2.2.2.2.1
        have e44 : a.tmps.getD 44 undef = _ := hD.2.2.2.2.2.2.2.2.2.2.2.2.2.2.2.2.2.2.2.2.2.2.2.2.1
        have e45 : a.tmps.getD 45 undef = _ := hD.2.2.2.2.2.2.2.2.2.2.2.2.2.2.2.2.2.2.2.2.2.2.2.2.2.1
        have e46 : a.tmps.getD 46 undef = _ := hD.2.2.2.2.2.2.2.2.2.2.2.2.2.2.2.2.2.2.2.2.2.2.2.2.2.2.1
        have e47 : a.tmps.getD 47 undef = _ := hD.2.2.2.2.2.2.2.2.2.2.2.2.2.2.2.2.2.2.2.2.2.2.2.2.2.2.2.1
        have e48 : a.tmps.getD 48 undef = _ := hD.2.2.2.2.2.2.2.2.2.2.2.2.2.2.2.2.2.2.2.2.2.2.2.2.2.2.2.2.1
        have e49 : a.tmps.getD 49 undef = _ := hD.2.2.2.2.2.2.2.2.2.2.2.2.2.2.2.2.2.2.2.2.2.2.2.2.2.2.2.2.2.1
        have hK := kd W hK
        refine ⟨rfl, ?_⟩
        (go_simp; with_reducible rfl)
    case hQ =>
      intro a W hK hF hD
      have e22 : a.tmps.getD 22 undef = _ := hD.1
      have e23 : a.tmps.getD 23 undef = _ := hD.2.1
      have e24 : a.tmps.getD 24 undef = _ := hD.2.2.1
      obtain ⟨v25, e25⟩ : ∃ v, a.tmps.getD 25 undef = v := ⟨_, rfl⟩
      obtain ⟨v26, e26⟩ : ∃ v, a.tmps.getD 26 undef = v := ⟨_, rfl⟩
      have e27 : a.tmps.getD 27 undef = _ := hD.2.2.2.2.2.1
      have e28 : a.tmps.getD 28 undef = _ := hD.2.2.2.2.2.2.1
      have e29 : a.tmps.getD 29 undef = _ := hD.2.2.2.2.2.2.2.1
      have e30 : a.tmps.getD 30 undef = _ := hD.2.2.2.2.2.2.2.2.1
      have e31 : a.tmps.getD 31 undef = _ := hD.2.2.2.2.2.2.2.2.2.1
      have e32 : a.tmps.getD 32 undef = _ := hD.2.2.2.2.2.2.2.2.2.2.1
      have e33 : a.tmps.getD 33 undef = _ := hD.2.2.2.2.2.2.2.2.2.2.2.1
      have e34 : a.tmps.getD 34 undef = _ := hD.2.2.2.2.2.2.2.2.2.2.2.2.1
      have e35 : a.tmps.getD 35 undef = _ := hD.2.2.2.2.2.2.2.2.2.2.2.2.2.1
      have e36 : a.tmps.getD 36 undef = _ := hD.2.2.2.2.2.2.2.2.2.2.2.2.2.2.1
      have e37 : a.tmps.getD 37 undef = _ := hD.2.2.2.2.2.2.2.2.2.2.2.2.2.2.2.1
      have e38 : a.tmps.getD 38 undef = _ := hD.2.2.2.2.2.2.2.2.2.2.2.2.2.2.2.2.1
      have e39 : a.tmps.getD 39 undef = _ := hD.2.2.2.2.2.2.2.2.2.2.2.2.2.2.2.2.2.1
      have e40 : a.tmps.getD 40 undef = _ := hD.2.2.2.2.2.2.2.2.2.2.2.2.2.2.2.2.2.2.1
      have e41 : a.tmps.getD 41 undef = _ := hD.2.2.2.2.2.2.2.2.2.2.2.2.2.2.2.2.2.2.2.1
      have e42 : a.tmps.getD 42 undef = _ := hD.2.2.2.2.2.2.2.2.2.2.2.2.2.2.2.2.2.2.2.2.1
      obtain ⟨v43, e43⟩ : ∃ v, a.tmps.getD 43 undef = v := ⟨_, rfl⟩
      have e44 : a.tmps.getD 44 undef = _ := hD.2.2.2.2.2.2.2.2.2.2.2.2.2.2.2.2.2.2.2.2.2.2.1
      have e45 : a.tmps.getD 45 undef = _ := hD.2.2.2.2.2.2.2.2.2.2.2.2.2.2.2.2.2.2.2.2.2.2.2.1
      have e46 : a.tmps.getD 46 undef = _ := hD.2.2.2.2.2.2.2.2.2.2.2.2.2.2.2.2.2.2.2.2.2.2.2.2.1
      have e47 : a.tmps.getD 47 undef = _ := hD.2.2.2.2.2.2.2.2.2.2.2.2.2.2.2.2.2.2.2.2.2.2.2.2.2.1
      have e48 : a.tmps.getD 48 undef = _ := hD.2.2.2.2.2.2.2.2.2.2.2.2.2.2.2.2.2.2.2.2.2.2.2.2.2.2.1
      have e49 : a.tmps.getD 49 undef = _ := hD.2.2.2.2.2.2.2.2.2.2.2.2.2.2.2.2.2.2.2.2.2.2.2.2.2.2.2.1
      have e50 : a.tmps.getD 50 undef = _ := hD.2.2.2.2.2.2.2.2.2.2.2.2.2.2.2.2.2.2.2.2.2.2.2.2.2.2.2.2.1
      have e51 : a.tmps.getD 51 undef = _ := hD.2.2.2.2.2.2.2.2.2.2.2.2.2.2.2.2.2.2.2.2.2.2.2.2.2.2.2.2.2.1
      have e8 : a.tmps.getD 8 undef = _ := hD.2.2.2.2.2.2.2.2.2.2.2.2.2.2.2.2.2.2.2.2.2.2.2.2.2.2.2.2.2.2.1
      have e0 : a.tmps.getD 0 undef = _ := hF.word 0 (by kernel_rfl)
      have e1 : a.tmps.getD 1 undef = _ := hF.word 1 (by kernel_rfl)
      have e2 : a.tmps.getD 2 undef = _ := hF.word 2 (by kernel_rfl)
      have e3 : a.tmps.getD 3 undef = _ := hF.word 3 (by kernel_rfl)
      have e4 : a.tmps.getD 4 undef = _ := hF.word 4 (by kernel_rfl)
      have e5 : a.tmps.getD 5 undef = _ := hF.word 5 (by kernel_rfl)
      have e6 : a.tmps.getD 6 undef = _ := hF.word 6 (by kernel_rfl)
      have e7 : a.tmps.getD 7 undef = _ := hF.word 7 (by kernel_rfl)
      have e9 : a.tmps.getD 9 undef = _ := hF.word 9 (by kernel_rfl)
      have e10 : a.tmps.getD 10 undef = _ := hF.word 10 (by kernel_rfl)
      have e11 : a.tmps.getD 11 undef = _ := hF.word 11 (by kernel_rfl)
      have e12 : a.tmps.getD 12 undef = _ := hF.word 12 (by kernel_rfl)
      have e13 : a.tmps.getD 13 undef = _ := hF.word 13 (by kernel_rfl)
      have e14 : a.tmps.getD 14 undef = _ := hF.word 14 (by kernel_rfl)
      have e15 : a.tmps.getD 15 undef = _ := hF.word 15 (by kernel_rfl)
      have e16 : a.tmps.getD 16 undef = _ := hF.word 16 (by kernel_rfl)
      have e17 : a.tmps.getD 17 undef = _ := hF.word 17 (by kernel_rfl)
      have e18 : a.tmps.getD 18 undef = _ := hF.word 18 (by kernel_rfl)
      have e19 : a.tmps.getD 19 undef = _ := hF.word 19 (by kernel_rfl)
      have e20 : a.tmps.getD 20 undef = _ := hF.word 20 (by kernel_rfl)
      have e21 : a.tmps.getD 21 undef = _ := hF.word 21 (by kernel_rfl)
      have ha := act_of (l := [_, _, _, _, _, _, _, _, _, _, _, _, _, _, _, _, _, _, _, _, _, _, _, _, _, _, _, _, _, _, _, _, _, _, _, _, _, _, _, _, _, _, _, _, _, _, _, _, _, _, _, _]) (by rw [hF.size]; rfl) hF.defers ⟨e0, e1, e2, e3, e4, e5, e6, e7, e8, e9, e10, e11, e12, e13, e14, e15, e16, e17, e18, e19, e20, e21, e22, e23, e24, e25, e26, e27, e28, e29, e30, e31, e32, e33, e34, e35, e36, e37, e38, e39, e40, e41, e42, e43, e44, e45, e46, e47, e48, e49, e50, e51, trivial⟩
      clear hF hD e0 e1 e2 e3 e4 e5 e6 e7 e8 e9 e10 e11 e12 e13 e14 e15 e16 e17 e18 e19 e20 e21 e22 e23 e24 e25 e26 e27 e28 e29 e30 e31 e32 e33 e34 e35 e36 e37 e38 e39 e40 e41 e42 e43 e44 e45 e46 e47 e48 e49 e50 e51
      subst ha
      have hKa := kd W hK
      clear hK kd
      go_wp2
      go_ret
      exact ⟨rfl, ((HB.out.trans K2.out (by simp)).trans hKa (by simp)).below⟩
  · clear hcp
    apply wp_region_rel 52 [_, _, _, fun W v => ∃ c1 c2 c3, v = .func (.func 157) #[] #[.pointer (some ⟨c1, 0, none⟩), .pointer (some ⟨c2, 0, none⟩), .pointer (some ⟨c3, 0, none⟩)] ∧ Tells W 157 #[.pointer (some ⟨c1, 0, none⟩), .pointer (some ⟨c2, 0, none⟩), .pointer (some ⟨c3, 0, none⟩)] (spn R C fa fb), fun W v => IR W w2.heap.size v (spn R C fa fb), _, _, _, _, _, _, _, _, _, _, _, _, _, _, _, _, fun W v => IR W w2.heap.size v ((spn R C fa fb).take k), _, _, _, _, _, _, _, _, _] (by kernel_rfl) (by kernel_rfl) (Nat.le_refl _)
    case hO =>
      refine ⟨?o0, ?o1, ?o2, ?o3, ?o4, ?o5, ?o6, ?o7, ?o8, ?o9, ?o10, ?o11, ?o12, ?o13, ?o14, ?o15, ?o16, ?o17, ?o18, ?o19, ?o20, ?o21, ?o22, ?o23, ?o24, ?o25, ?o26, ?o27, ?o28, ?o29, ?o30, trivial⟩
      case o0 =>
        apply obl_val
        case hd => rfl
        intro a W hK hF hD
        have e9 : a.tmps.getD 9 undef = _ := hF.word 9 (by kernel_rfl)
        have hK := kd W hK
        refine ⟨rfl, ?_⟩
        (go_simp; with_reducible rfl)
      case o1 =>
        apply obl_val
        case hd => rfl
        intro a W hK hF hD
        have e1 : a.tmps.getD 1 undef = _ := hF.word 1 (by kernel_rfl)
        have hK := kd W hK
        refine ⟨rfl, ?_⟩
        (go_simp; with_reducible rfl)
      case o2 =>
        apply obl_val
        case hd => rfl
        intro a W hK hF hD
        have e2 : a.tmps.getD 2 undef = _ := hF.word 2 (by kernel_rfl)
        have hK := kd W hK
        refine ⟨rfl, ?_⟩
        (go_simp; with_reducible rfl)
      case o3 =>
        refine obl_call _ (fun W W' v k h => let ⟨c1, c2, c3, e, ht⟩ := h; ⟨c1, c2, c3, e, ht.keep k⟩) rfl (fun a W hK hF hD => ?_)
        have e22 : a.tmps.getD 22 undef = _ := hD.1
        have e23 : a.tmps.getD 23 undef = _ := hD.2.1
        have e24 : a.tmps.getD 24 undef = _ := hD.2.2.1
        have hK := kd W hK
        refine ⟨rfl, ?_⟩
        apply enter_of
        case hr => (go_simp; first | exact ⟨rfl, rfl⟩ | rfl)
        case hc => exact q80 W hK
      case o4 =>
        refine obl_call _ (fun W W' v k h => h.keep k (by simp)) rfl (fun a W hK hF hD => ?_)
        have k3 := hD.1
        have hK := kd W hK
        obtain ⟨c1, c2, c3, e25, ht⟩ : ∃ c1 c2 c3, a.tmps.getD 25 undef = .func (.func 157) #[] #[.pointer (some ⟨c1, 0, none⟩), .pointer (some ⟨c2, 0, none⟩), .pointer (some ⟨c3, 0, none⟩)] ∧ Tells W 157 #[.pointer (some ⟨c1, 0, none⟩), .pointer (some ⟨c2, 0, none⟩), .pointer (some ⟨c3, 0, none⟩)] (spn R C fa fb) := hD.1
        refine ⟨rfl, ?_⟩
        apply enter_of
        case hr => (go_simp; first | exact ⟨rfl, rfl⟩ | rfl)
        case hc => exact q79 W c1 c2 c3 hK ht
      case o5 =>
        apply obl_val
        case hd => rfl
        intro a W hK hF hD
        have e10 : a.tmps.getD 10 undef = _ := hF.word 10 (by kernel_rfl)
        have hK := kd W hK
        refine ⟨rfl, ?_⟩
        (go_simp; with_reducible rfl)
      case o6 =>
        apply obl_quiet
        case hd => rfl
        intro a W hK hF hD
        have k4 := hD.1
        have e27 : a.tmps.getD 27 undef = _ := hD.2.1
        have hK := kd W hK
        have k4 : IR W _ (a.tmps.getD 26 undef) _ := hD.1
        obtain ⟨v26, e26⟩ : ∃ v, a.tmps.getD 26 undef = v := ⟨_, rfl⟩
        rw [e26] at k4
        refine ⟨rfl, ?_⟩
        apply enter_of
        case hr => (go_simp; first | exact ⟨rfl, rfl⟩ | rfl)
        case hc => exact q78 W _ hK k4
      case o7 =>
        apply obl_val
        case hd => rfl
        intro a W hK hF hD
        have e28 : a.tmps.getD 28 undef = _ := hD.1
        have hK := kd W hK
        refine ⟨rfl, ?_⟩
        (go_simp; with_reducible rfl)
      case o8 =>
        apply obl_val
        case hd => rfl
        intro a W hK hF hD
        have e29 : a.tmps.getD 29 undef = _ := hD.1
        have e9 : a.tmps.getD 9 undef = _ := hF.word 9 (by kernel_rfl)
        have hK := kd W hK
        refine ⟨⟨_, e29, rfl⟩, ?_⟩
        (go_simp; with_reducible rfl)
      case o9 =>
        apply obl_val
        case hd => rfl
        intro a W hK hF hD
        have e29 : a.tmps.getD 29 undef = _ := hD.1
        have e1 : a.tmps.getD 1 undef = _ := hF.word 1 (by kernel_rfl)
        have hK := kd W hK
        refine ⟨⟨_, e29, rfl⟩, ?_⟩
        (go_simp; with_reducible rfl)
      case o10 =>
        apply obl_val
        case hd => rfl
        intro a W hK hF hD
        have e29 : a.tmps.getD 29 undef = _ := hD.1
        have e2 : a.tmps.getD 2 undef = _ := hF.word 2 (by kernel_rfl)
        have hK := kd W hK
        refine ⟨⟨_, e29, rfl⟩, ?_⟩
        (go_simp; with_reducible rfl)
      case o11 =>
        apply obl_quiet
        case hd => rfl
        intro a W hK hF hD
        have e30 : a.tmps.getD 30 undef = _ := hD.1
        have e31 : a.tmps.getD 31 undef = _ := hD.2.1
        have e32 : a.tmps.getD 32 undef = _ := hD.2.2.1
        have e29 : a.tmps.getD 29 undef = _ := hD.2.2.2.1
        refine ⟨⟨_, e29, rfl⟩, ?_⟩
        apply enter_of
        case hr => (go_simp; first | exact ⟨rfl, rfl⟩ | rfl)
        case hc =>
          first
            | exact q81 W
      case o12 =>
        apply obl_val
        case hd => rfl
        intro a W hK hF hD
        have e29 : a.tmps.getD 29 undef = _ := hD.1
        have e10 : a.tmps.getD 10 undef = _ := hF.word 10 (by kernel_rfl)
        have hK := kd W hK
        refine ⟨⟨_, e29, rfl⟩, ?_⟩
        (go_simp; with_reducible rfl)
      case o13 =>
        apply obl_val
        case hd => rfl
        intro a W hK hF hD
        have e34 : a.tmps.getD 34 undef = _ := hD.1
        have e29 : a.tmps.getD 29 undef = _ := hD.2.1
        have hK := kd W hK
        refine ⟨⟨_, e29, rfl⟩, ?_⟩
        (go_simp; with_reducible rfl)
      case o14 =>
        apply obl_val
        case hd => rfl
        intro a W hK hF hD
        have e33 : a.tmps.getD 33 undef = _ := hD.1
        have e35 : a.tmps.getD 35 undef = _ := hD.2.1
        have e29 : a.tmps.getD 29 undef = _ := hD.2.2.1
        have hK := kd W hK
        refine ⟨⟨_, e29, rfl⟩, ?_⟩
        (go_simp; with_reducible rfl)
      case o15 =>
        apply obl_val
        case hd => rfl
        intro a W hK hF hD
        have e29 : a.tmps.getD 29 undef = _ := hD.1
        have e36 : a.tmps.getD 36 undef = _ := hD.2.1
        have hK := kd W hK
        refine ⟨rfl, ?_⟩
        (go_simp; with_reducible rfl)
      case o16 =>
        apply obl_val
        case hd => rfl
        intro a W hK hF hD
        have e37 : a.tmps.getD 37 undef = _ := hD.1
        have e33 : a.tmps.getD 33 undef = _ := hD.2.1
        have hK := kd W hK
        refine ⟨rfl, ?_⟩
        (go_simp; with_reducible rfl)
      case o17 =>
        apply obl_val
        case hd => rfl
        intro a W hK hF hD
        have e38 : a.tmps.getD 38 undef = _ := hD.1
        have e9 : a.tmps.getD 9 undef = _ := hF.word 9 (by kernel_rfl)
        have hK := kd W hK
        refine ⟨⟨_, e38, rfl⟩, ?_⟩
        (go_simp; with_reducible rfl)
      case o18 =>
        apply obl_val
        case hd => rfl
        intro a W hK hF hD
        have e38 : a.tmps.getD 38 undef = _ := hD.1
        have e1 : a.tmps.getD 1 undef = _ := hF.word 1 (by kernel_rfl)
        have hK := kd W hK
        refine ⟨⟨_, e38, rfl⟩, ?_⟩
        (go_simp; with_reducible rfl)
      case o19 =>
        apply obl_val
        case hd => rfl
        intro a W hK hF hD
        have e38 : a.tmps.getD 38 undef = _ := hD.1
        have e2 : a.tmps.getD 2 undef = _ := hF.word 2 (by kernel_rfl)
        have hK := kd W hK
        refine ⟨⟨_, e38, rfl⟩, ?_⟩
        (go_simp; with_reducible rfl)
      case o20 =>
        apply obl_val
        case hd => rfl
        intro a W hK hF hD
        have e38 : a.tmps.getD 38 undef = _ := hD.1
        have e11 : a.tmps.getD 11 undef = _ := hF.word 11 (by kernel_rfl)
        have hK := kd W hK
        refine ⟨⟨_, e38, rfl⟩, ?_⟩
        (go_simp; with_reducible rfl)
      case o21 =>
        refine obl_call _ (fun W W' v k h => h.keep k (by simp)) rfl (fun a W hK hF hD => ?_)
        have e39 : a.tmps.getD 39 undef = _ := hD.1
        have e40 : a.tmps.getD 40 undef = _ := hD.2.1
        have e41 : a.tmps.getD 41 undef = _ := hD.2.2.1
        have e42 : a.tmps.getD 42 undef = _ := hD.2.2.2.1
        have e38 : a.tmps.getD 38 undef = _ := hD.2.2.2.2.1
        have hK := kd W hK
        refine ⟨⟨_, e38, rfl⟩, ?_⟩
        apply enter_of
        case hr => (go_simp; first | exact ⟨rfl, rfl⟩ | rfl)
        case hc => exact q82 W hK
      case o22 =>
        apply obl_val
        case hd => rfl
        intro a W hK hF hD
        have e38 : a.tmps.getD 38 undef = _ := hD.1
        have e10 : a.tmps.getD 10 undef = _ := hF.word 10 (by kernel_rfl)
        have hK := kd W hK
        refine ⟨⟨_, e38, rfl⟩, ?_⟩
        (go_simp; with_reducible rfl)
      case o23 =>
        apply obl_val
        case hd => rfl
        intro a W hK hF hD
        have e38 : a.tmps.getD 38 undef = _ := hD.1
        have e10 : a.tmps.getD 10 undef = _ := hF.word 10 (by kernel_rfl)
        have hK := kd W hK
        refine ⟨⟨_, e38, rfl⟩, ?_⟩
        (go_simp; with_reducible rfl)
      case o24 =>
        apply obl_val
        case hd => rfl
        intro a W hK hF hD
        have e45 : a.tmps.getD 45 undef = _ := hD.1
        have e38 : a.tmps.getD 38 undef = _ := hD.2.1
        have hK := kd W hK
        refine ⟨⟨_, e38, rfl⟩, ?_⟩
        (go_simp; with_reducible rfl)
      case o25 =>
        apply obl_val
        case hd => rfl
        intro a W hK hF hD
        have e38 : a.tmps.getD 38 undef = _ := hD.1
        have e11 : a.tmps.getD 11 undef = _ := hF.word 11 (by kernel_rfl)
        have hK := kd W hK
        refine ⟨⟨_, e38, rfl⟩, ?_⟩
        (go_simp; with_reducible rfl)
      case o26 =>
        apply obl_val
        case hd => rfl
        intro a W hK hF hD
        have e46 : a.tmps.getD 46 undef = _ := hD.1
        have e47 : a.tmps.getD 47 undef = _ := hD.2.1
        have e38 : a.tmps.getD 38 undef = _ := hD.2.2.1
        have hK := kd W hK
        refine ⟨⟨_, e38, rfl⟩, ?_⟩
        (go_simp; with_reducible rfl)
      case o27 =>
        apply obl_val
        case hd => rfl
        intro a W hK hF hD
        have e44 : a.tmps.getD 44 undef = _ := hD.1
        have e48 : a.tmps.getD 48 undef = _ := hD.2.1
        have e38 : a.tmps.getD 38 undef = _ := hD.2.2.1
        have hK := kd W hK
        refine ⟨⟨_, e38, rfl⟩, ?_⟩
        (go_simp; with_reducible rfl)
      case o28 =>
        apply obl_quiet
        case hd => rfl
        intro a W hK hF hD
        have k21 := hD.1
        have e49 : a.tmps.getD 49 undef = _ := hD.2.1
        have e38 : a.tmps.getD 38 undef = _ := hD.2.2.2.1
        have hK := kd W hK
        have k21 : IR W _ (a.tmps.getD 43 undef) _ := hD.1
        obtain ⟨v43, e43⟩ : ∃ v, a.tmps.getD 43 undef = v := ⟨_, rfl⟩
        rw [e43] at k21
        refine ⟨⟨_, e38, rfl⟩, ?_⟩
        apply enter_of
        case hr => (go_simp; first | exact ⟨rfl, rfl⟩ | rfl)
        case hc => exact q78b W _ hK k21
      case o29 =>
        apply obl_val
        case hd => rfl
        intro a W hK hF hD
        have e38 : a.tmps.getD 38 undef = _ := hD.1
        have e50 : a.tmps.getD 50 undef = _ := hD.2.1
        have hK := kd W hK
        refine ⟨rfl, ?_⟩
        (go_simp; with_reducible rfl)
      case o30 =>
        apply obl_val
        case hd => rfl
        intro a W hK hF hD
        have e51 : a.tmps.getD 51 undef = _ := hD.1
        have e50 : a.tmps.getD 50 undef = _ := hD.2.1
        have e22 : a.tmps.getD 22 undef = _ := hD.2.2.1
        have e23 : a.tmps.getD 23 undef = _ := hD.2.2.2.1
        have e24 : a.tmps.getD 24 undef = _ := hD.2.2.2.2.1
        have k3 := hD.2.2.2.2.2.1
        have k4 := hD.2.2.2.2.2.2.1
        have e27 : a.tmps.getD 27 undef = _ := hD.2.2.2.2.2.2.2.1
        have e28 : a.tmps.getD 28 undef = _ := hD.2.2.2.2.2.2.2.2.1
        have e29 : a.tmps.getD 29 undef = _ := hD.2.2.2.2.2.2.2.2.2.1
        have e30 : a.tmps.getD 30 undef = _ := hD.2.2.2.2.2.2.2.2.2.2.1
        have e31 : a.tmps.getD 31 undef = _ := hD.2.2.2.2.2.2.2.2.2.2.2.1
        have e32 : a.tmps.getD 32 undef = _ := hD.2.2.2.2.2.2.2.2.2.2.2.2.1
        have e33 : a.tmps.getD 33 undef = _ := hD.2.2.2.2.2.2.2.2.2.2.2.2.2.1
        have e34 : a.tmps.getD 34 undef = _ := hD.2.2.2.2.2.2.2.2.2.2.2.2.2.2.1
        have e35 : a.tmps.getD 35 undef = _ := hD.2.2.2.2.2.2.2.2.2.2.2.2.2.2.2.1
        have e36 : a.tmps.getD 36 undef = _ := hD.2.2.2.2.2.2.2.2.2.2.2.2.2.2.2.2.1
        have e37 : a.tmps.getD 37 undef = _ := hD.2.2.2.2.2.2.2.2.2.2.2.2.2.2.2.2.2.1
        have e38 : a.tmps.getD 38 undef = _ := hD.2.2.2.2.2.2.2.2.2.2.2.2.2.2.2.2.2.2.1
        have e39 : a.tmps.getD 39 undef = _ := hD.2.2.2.2.2.2.2.2.2.2.2.2.2.2.2.2.2.2.2.1
        have e40 : a.tmps.getD 40 undef = _ := hD.2.2.2.2.2.2.2.2.2.2.2.2.2.2.2.2.2.2.2.2.1
        have e41 : a.tmps.getD 41 undef = _ := hD.2.2.2.2.2.2.2.2.2.2.2.2.2.2.2.2.2.2.2.2.2.1
        have e42 : a.tmps.getD 42 undef = _ := hD.2.2.2.2.2.2.2.2.2.2.2.2.2.2.2.2.2.2.2.2.2.2.1
        have k21 := hD.2.2.2.2.2.2.2.2.2.2.2.2.2.2.2.2.2.2.2.2.2.2.2.1
        have e44 : a.tmps.getD 44 undef = _ := hD.2.2.2.2.2.2.2.2.2.2.2.2.2.2.2.2.2.2.2.2.2.2.2.2.1
        have e45 : a.tmps.getD 45 undef = _ := hD.2.2.2.2.2.2.2.2.2.2.2.2.2.2.2.2.2.2.2.2.2.2.2.2.2.1
        have e46 : a.tmps.getD 46 undef = _ := hD.2.2.2.2.2.2.2.2.2.2.2.2.2.2.2.2.2.2.2.2.2.2.2.2.2.2.1
        have e47 : a.tmps.getD 47 undef = _ := hD.2.2.2.2.2.2.2.2.2.2.2.2.2.2.2.2.2.2.2.2.2.2.2.2.2.2.2.1
        have e48 : a.tmps.getD 48 undef = _ := hD.2.2.2.2.2.2.2.2.2.2.2.2.2.2.2.2.2.2.2.2.2.2.2.2.2.2.2.2.1
        have e49 : a.tmps.getD 49 undef = _ := hD.2.2.2.2.2.2.2.2.2.2.2.2.2.2.2.2.2.2.2.2.2.2.2.2.2.2.2.2.2.1
        have hK := kd W hK
        refine ⟨rfl, ?_⟩
        (go_simp; with_reducible rfl)
    case hQ =>
      intro a W hK hF hD
      have e22 : a.tmps.getD 22 undef = _ := hD.1
      have e23 : a.tmps.getD 23 undef = _ := hD.2.1
      have e24 : a.tmps.getD 24 undef = _ := hD.2.2.1
      obtain ⟨v25, e25⟩ : ∃ v, a.tmps.getD 25 undef = v := ⟨_, rfl⟩
      obtain ⟨v26, e26⟩ : ∃ v, a.tmps.getD 26 undef = v := ⟨_, rfl⟩
      have e27 : a.tmps.getD 27 undef = _ := hD.2.2.2.2.2.1
      have e28 : a.tmps.getD 28 undef = _ := hD.2.2.2.2.2.2.1
      have e29 : a.tmps.getD 29 undef = _ := hD.2.2.2.2.2.2.2.1
      have e30 : a.tmps.getD 30 undef = _ := hD.2.2.2.2.2.2.2.2.1
      have e31 : a.tmps.getD 31 undef = _ := hD.2.2.2.2.2.2.2.2.2.1
      have e32 : a.tmps.getD 32 undef = _ := hD.2.2.2.2.2.2.2.2.2.2.1
      have e33 : a.tmps.getD 33 undef = _ := hD.2.2.2.2.2.2.2.2.2.2.2.1
      have e34 : a.tmps.getD 34 undef = _ := hD.2.2.2.2.2.2.2.2.2.2.2.2.1
      have e35 : a.tmps.getD 35 undef = _ := hD.2.2.2.2.2.2.2.2.2.2.2.2.2.1
      have e36 : a.tmps.getD 36 undef = _ := hD.2.2.2.2.2.2.2.2.2.2.2.2.2.2.1
      have e37 : a.tmps.getD 37 undef = _ := hD.2.2.2.2.2.2.2.2.2.2.2.2.2.2.2.1
      have e38 : a.tmps.getD 38 undef = _ := hD.2.2.2.2.2.2.2.2.2.2.2.2.2.2.2.2.1
      have e39 : a.tmps.getD 39 undef = _ := hD.2.2.2.2.2.2.2.2.2.2.2.2.2.2.2.2.2.1
      have e40 : a.tmps.getD 40 undef = _ := hD.2.2.2.2.2.2.2.2.2.2.2.2.2.2.2.2.2.2.1
      have e41 : a.tmps.getD 41 undef = _ := hD.2.2.2.2.2.2.2.2.2.2.2.2.2.2.2.2.2.2.2.1
      have e42 : a.tmps.getD 42 undef = _ := hD.2.2.2.2.2.2.2.2.2.2.2.2.2.2.2.2.2.2.2.2.1
      obtain ⟨v43, e43⟩ : ∃ v, a.tmps.getD 43 undef = v := ⟨_, rfl⟩
      have e44 : a.tmps.getD 44 undef = _ := hD.2.2.2.2.2.2.2.2.2.2.2.2.2.2.2.2.2.2.2.2.2.2.1
      have e45 : a.tmps.getD 45 undef = _ := hD.2.2.2.2.2.2.2.2.2.2.2.2.2.2.2.2.2.2.2.2.2.2.2.1
      have e46 : a.tmps.getD 46 undef = _ := hD.2.2.2.2.2.2.2.2.2.2.2.2.2.2.2.2.2.2.2.2.2.2.2.2.1
      have e47 : a.tmps.getD 47 undef = _ := hD.2.2.2.2.2.2.2.2.2.2.2.2.2.2.2.2.2.2.2.2.2.2.2.2.2.1
      have e48 : a.tmps.getD 48 undef = _ := hD.2.2.2.2.2.2.2.2.2.2.2.2.2.2.2.2.2.2.2.2.2.2.2.2.2.2.1
      have e49 : a.tmps.getD 49 undef = _ := hD.2.2.2.2.2.2.2.2.2.2.2.2.2.2.2.2.2.2.2.2.2.2.2.2.2.2.2.1
      have e50 : a.tmps.getD 50 undef = _ := hD.2.2.2.2.2.2.2.2.2.2.2.2.2.2.2.2.2.2.2.2.2.2.2.2.2.2.2.2.1
      have e51 : a.tmps.getD 51 undef = _ := hD.2.2.2.2.2.2.2.2.2.2.2.2.2.2.2.2.2.2.2.2.2.2.2.2.2.2.2.2.2.1
      have e8 : a.tmps.getD 8 undef = _ := hD.2.2.2.2.2.2.2.2.2.2.2.2.2.2.2.2.2.2.2.2.2.2.2.2.2.2.2.2.2.2.1
      have e0 : a.tmps.getD 0 undef = _ := hF.word 0 (by kernel_rfl)
      have e1 : a.tmps.getD 1 undef = _ := hF.word 1 (by kernel_rfl)
      have e2 : a.tmps.getD 2 undef = _ := hF.word 2 (by kernel_rfl)
      have e3 : a.tmps.getD 3 undef = _ := hF.word 3 (by kernel_rfl)
      have e4 : a.tmps.getD 4 undef = _ := hF.word 4 (by kernel_rfl)
      have e5 : a.tmps.getD 5 undef = _ := hF.word 5 (by kernel_rfl)
      have e6 : a.tmps.getD 6 undef = _ := hF.word 6 (by kernel_rfl)
      have e7 : a.tmps.getD 7 undef = _ := hF.word 7 (by kernel_rfl)
      have e9 : a.tmps.getD 9 undef = _ := hF.word 9 (by kernel_rfl)
      have e10 : a.tmps.getD 10 undef = _ := hF.word 10 (by kernel_rfl)
      have e11 : a.tmps.getD 11 undef = _ := hF.word 11 (by kernel_rfl)
      have e12 : a.tmps.getD 12 undef = _ := hF.word 12 (by kernel_rfl)
      have e13 : a.tmps.getD 13 undef = _ := hF.word 13 (by kernel_rfl)
      have e14 : a.tmps.getD 14 undef = _ := hF.word 14 (by kernel_rfl)
      have e15 : a.tmps.getD 15 undef = _ := hF.word 15 (by kernel_rfl)
      have e16 : a.tmps.getD 16 undef = _ := hF.word 16 (by kernel_rfl)
      have e17 : a.tmps.getD 17 undef = _ := hF.word 17 (by kernel_rfl)
      have e18 : a.tmps.getD 18 undef = _ := hF.word 18 (by kernel_rfl)
      have e19 : a.tmps.getD 19 undef = _ := hF.word 19 (by kernel_rfl)
      have e20 : a.tmps.getD 20 undef = _ := hF.word 20 (by kernel_rfl)
      have e21 : a.tmps.getD 21 undef = _ := hF.word 21 (by kernel_rfl)
      have ha := act_of (l := [_, _, _, _, _, _, _, _, _, _, _, _, _, _, _, _, _, _, _, _, _, _, _, _, _, _, _, _, _, _, _, _, _, _, _, _, _, _, _, _, _, _, _, _, _, _, _, _, _, _, _, _]) (by rw [hF.size]; rfl) hF.defers ⟨e0, e1, e2, e3, e4, e5, e6, e7, e8, e9, e10, e11, e12, e13, e14, e15, e16, e17, e18, e19, e20, e21, e22, e23, e24, e25, e26, e27, e28, e29, e30, e31, e32, e33, e34, e35, e36, e37, e38, e39, e40, e41, e42, e43, e44, e45, e46, e47, e48, e49, e50, e51, trivial⟩
      clear hF hD e0 e1 e2 e3 e4 e5 e6 e7 e8 e9 e10 e11 e12 e13 e14 e15 e16 e17 e18 e19 e20 e21 e22 e23 e24 e25 e26 e27 e28 e29 e30 e31 e32 e33 e34 e35 e36 e37 e38 e39 e40 e41 e42 e43 e44 e45 e46 e47 e48 e49 e50 e51
      subst ha
      have hKa := kd W hK
      clear hK kd
      go_wp2
      go_ret
      exact ⟨rfl, ((HB.out.trans K2.out (by simp)).trans hKa (by simp)).below⟩

end Go.Proofs.Ytangandfgbnomaa.V
