/- The walk of the law CursorTabs. -/
import Derived.Test.YtangandfgbnomaaVP6
import Derived.Test.YtangandfgbnomaaVZ6
import Derived.Test.YtangandfgbnomaaVC1
namespace Go.Proofs.Ytangandfgbnomaa.V
open Go.RowKit
set_option linter.unusedVariables false
set_option linter.unusedSimpArgs false

theorem tabn_on {l : List C} {i : Nat} (h : i < (tbl l).length) : tabn l ((tbl l).getD i 0).toNat false = (tbl l).getD ((i + 1) % (tbl l).length) 0 := by
  rw [tbl_length] at h ⊢
  obtain ⟨n, _, e, hn, hf, hr⟩ := tbs_at l i h
  rw [e, Int.toNat_natCast]
  obtain ⟨m, hm, hml, hmf⟩ := nx_some hn false (show tbs l ≠ [] by intro e; rw [e] at h; simp at h)
  have hk := nx_rk hn hf hm
  rw [hr] at hk
  have := tbl_rk hml hmf
  rw [hk] at this
  rw [this]
  unfold tabn
  rw [hm, if_neg (by omega)]
theorem tabn_off {l : List C} {i : Nat} (h : i < (tbl l).length) : tabn l ((tbl l).getD i 0).toNat true = (tbl l).getD ((i + (tbl l).length - 1) % (tbl l).length) 0 := by
  rw [tbl_length] at h ⊢
  obtain ⟨n, _, e, hn, hf, hr⟩ := tbs_at l i h
  rw [e, Int.toNat_natCast]
  obtain ⟨m, hm, hml, hmf, hk⟩ := nx_rk_back hn hf
  rw [hr] at hk
  have hlt := rk_lt hml hmf
  have e2 : (i + (tbs l).length - 1) % (tbs l).length = rk l m := by
    rcases Nat.lt_or_ge (rk l m + 1) (tbs l).length with h1 | h1
    · rw [Nat.mod_eq_of_lt h1] at hk
      rw [show i + (tbs l).length - 1 = rk l m + (tbs l).length by omega, Nat.add_mod_right, Nat.mod_eq_of_lt hlt]
    · have h2 : rk l m + 1 = (tbs l).length := by omega
      rw [h2, Nat.mod_self] at hk
      rw [show i + (tbs l).length - 1 = rk l m by omega, Nat.mod_eq_of_lt hlt]
  rw [e2, tbl_rk hml hmf]
  unfold tabn
  rw [hm, if_neg (by omega)]
theorem ixof_self {l : List C} {i : Nat} (h : i < (tbl l).length) : ixof (tbl l) ((tbl l).getD i 0) = i := by
  have hs : srch (fun j => (tbl l).getD i 0 == (tbl l).getD j 0) (tbl l).length = i := by
    refine srch_eq (by omega) (fun j hj => ?_) (fun _ => by simp)
    rw [tbl_length] at h
    obtain ⟨n, _, e1, _, _, r1⟩ := tbs_at l i h
    obtain ⟨m, _, e2, _, _, r2⟩ := tbs_at l j (by omega)
    rw [e1, e2]
    refine beq_eq_false_iff_ne.2 (fun e => ?_)
    have : n = m := by omega
    subst this
    omega
  unfold ixof
  rw [hs, if_pos h]
theorem tbl_dom {s : S} (ok : s.ok) {i : Nat} (h : i < (tbl s.l).length) : 0 ≤ (tbl s.l).getD i 0 ∧ (tbl s.l).getD i 0 < s.r * s.c ∧ wrp s.r s.c ((tbl s.l).getD i 0) = (tbl s.l).getD i 0 := by
  rw [tbl_length] at h
  obtain ⟨n, _, e, hn, _, _⟩ := tbs_at s.l i h
  rw [e]
  have := ok.2.1
  refine ⟨by omega, by omega, ?_⟩
  rw [(ok.ix (n : Int)).1, ok.self hn]
theorem min_rule (a b : Int) (W : World) : Sem.run Try.prog (Builtin.min_ #[3, 3] 3 #[.int .i64 a, .int .i64 b]) W = .ok (.int .i64 (if b < a then b else a)) W := by
  simp only [Builtin.min_, List.foldlM_cons, List.foldlM_nil, Builtin.min2]
  rfl
theorem tells_tabs {w : World} {p b : Nat} {s : S} (h : PSp w p b s) (ok : s.ok) {B1 : Nat} (h1 : Blk w B1 [.pointer (some ⟨p, 0, none⟩)] 61) : Tells w 161 #[.pointer (some ⟨B1, 0, none⟩)] (tbl s.l) := by
  intro B W k hB hb
  have hno : ∀ k, ¬ owned B W k := by
    rintro k ⟨n, c, hk⟩
    have := hb.cell 0
    simp only [List.getElem?_cons_zero] at this
    rw [this] at hk
    cases hk
  have hpb : p < w.heap.size ∧ b < w.heap.size := by obtain ⟨_, _, _, x1, x2⟩ := id h; exact ⟨x1.lt, x2.lt⟩
  have hl1 := h1.lt
  exact tabs_stops (holds_ko B) (h.keep k (by simp) (by simp)) ok (h1.keep k (by simp)) ⟨hb.lt, fun k hk => absurd hk (hno k)⟩ ⟨⟨by omega, hno _⟩, ⟨by omega, hno _⟩, ⟨by omega, hno _⟩⟩ 6 (by decide)
theorem ints_row {w : World} {ta : Option Addr} {l : List Int} (h : Ints w ta l) (h0 : l ≠ []) : ∃ x, ta = some x := by
  obtain ⟨x, e, _⟩ := h 0 (by cases l with | nil => exact absurd rfl h0 | cons a l => simp)
  exact ⟨x, e⟩

theorem sum3 {i t L u : Nat} (hi : i < L) (ht : t < L) (hL : L ≤ 3564) (hu : (i + 1 + t) % L = u) : (∃ a1 a2, IntKind.i64.wrap ((i : Int) + 1) = a1 ∧ IntKind.i64.wrap (a1 + t) = a2 ∧ Int.tmod a2 (L : Int) = (u : Int)) ∧ wrap64 ((t : Int) + 1) = ((t + 1 : Nat) : Int) := by
  refine ⟨⟨(i : Int) + 1, ((i + 1 + t : Nat) : Int), by rw [IntKind.wrap_i64]; omega, by rw [IntKind.wrap_i64]; omega, ?_⟩, by unfold wrap64; omega⟩
  rw [← hu]; exact (Int.ofNat_tmod _ _).symm
theorem back3 {i t L : Nat} (ht : t < L) : ((i + (L - t)) % L + L - 1) % L = (i + (L - (t + 1))) % L := by
  rw [show (i + (L - t)) % L + L - 1 = (i + (L - t)) % L + (L - 1) by omega, Nat.mod_add_mod, show i + (L - t) + (L - 1) = i + (L - (t + 1)) + L by omega, Nat.add_mod_right]
theorem IR.at_some {w : World} {base n cp : Nat} {ta : Option Addr} {l : List Int} (h : IR w base (.slice ta n cp) l) (hl : l ≠ []) : ∃ g, ta = some ⟨g, 0, none⟩ ∧ base ≤ g ∧ g < w.heap.size ∧ n ≤ cp ∧ cp ≤ maxLen ∧ ∀ R W, Keep R w W → g ∉ R → ∀ i, i < l.length → W.cell? ⟨g, i, none⟩ = some (.int .i64 (l.getD i 0)) := by
  rcases h.shape with ⟨_, h0⟩ | ⟨_, g, cap, e, h1, h2, _, h4⟩
  · exact absurd h0 hl
  rcases h.1.2 with ⟨h0, h1⟩ | ⟨g', cap', cur, e', _, _, h5, h6, _⟩
  · exact absurd (List.length_eq_zero_iff.1 h1) hl
  rw [e'] at e
  injection e with ea en ec
  injection e' with fa fn fc
  subst ec
  have eg : g' = g := by injection ea with ea; injection ea
  subst eg
  refine ⟨g', fa, h1, h2, by omega, by omega, fun R W k hg i hi => ?_⟩
  rw [← h4 i hi]; unfold World.cell?; rw [k.block g' h2 hg]

set_option maxRecDepth 100000 in
set_option maxHeartbeats 8000000 in
theorem ctabs_walk {w : World} (mo : Int) (hmo : 0 ≤ mo ∧ mo < 256) (ta : Option Addr) (cap : Nat) (us : List Ac) (hA : Acts w ta us) (hul : us.length ≤ maxLen) (y : Int) (st : Int) (hst : 0 ≤ st ∧ st < 256) :
    Calls Try.prog 14 #[.int .u8 mo, .slice ta us.length cap, .int .i64 y, .int .u8 st] w fun e w' => e = .returned (.bool true) ∧ Below w.heap.size w w' := by
  have hok := acts_ok hA (show 2 ≤ 2 + mo % 4 ∧ 2 + mo % 4 ≤ 5 by omega) 30
  have hlay : ∀ W, Keep [] w W → Calls Try.prog 73 #[.int .u8 mo, .slice ta us.length cap] W fun e w' => ∃ p b q d, e = .returned (.tuple #[.pointer (some ⟨p, 0, none⟩), .pointer (some ⟨q, 0, none⟩)]) ∧ (W.heap.size ≤ p ∧ W.heap.size ≤ b ∧ W.heap.size ≤ q ∧ W.heap.size ≤ d) ∧
      Two w' p b q d ((S.clr (2 + mo % 4) false).acts (us.take 30)) ∧ Keep [] W w' := fun W k => lay73 mo hmo ta cap us (hA.keep k) hul
  generalize (S.clr (2 + mo % 4) false).acts (us.take 30) = X at *
  have HO := Aside0.mk hok
  have k0 : Keep [] w w := Keep.refl _ _
  have htl : (tbl X.l).length ≤ 3564 := by rw [tbl_length, tbs_length]; have := rk_le X.l X.l.length; have := (hok.ix 0).2.2.1; omega
  obtain ⟨L, hL⟩ : ∃ L, (tbl X.l).length = L := ⟨_, rfl⟩
  rw [hL] at htl
  have HL := Aside0.mk hL
  have HLL := Aside0.mk htl
  have HST := Aside0.mk hst
  clear hA hul hok hmo hL
  go_enter Try.func14, Try.ntmps14
  go_wp2_with (first
    | (go_at_call 72; (with_reducible refine (awake15 _).mono ?_); rintro e w1 ⟨rfl, hb1⟩; have k1 := k0.call hb1)
    | (go_at_call 73; (with_reducible refine (hlay _ k1).mono ?_); rintro e w2 ⟨p, b, q, d, rfl, hge, hT, hk⟩
       have HG := Aside0.mk hge
       have HT := Aside0.mk hT
       have K2 := Aside0.mk (k1.trans hk (by simp))
       have HW1 := Aside0.mk k1.size
       have htc := tabs_calls w2 p
       have hco := collect_calls (l := tbl X.l) (enters_of Try.func161 (by kernel_rfl) rfl) (by rw [HL.out]; have := HLL.out; omega) (tells_tabs (hT.1.alloc (.cells #[.pointer (some ⟨p, 0, none⟩)] 61)) HO.out (Blk.new w2 [.pointer (some ⟨p, 0, none⟩)] 61))
       clear hge hk hT)
    | (go_at_call 92; (with_reducible refine htc.mono ?_); rintro e w3 ⟨rfl, rfl⟩)
    | (go_at_call 79; (with_reducible refine hco.mono ?_); rintro e w4 ⟨v11, rfl, hv11, hb4⟩
       have K4 := Aside0.mk (((Keep.refl [] w2).alloc (.cells #[.pointer (some ⟨p, 0, none⟩)] 61)).call hb4)
       have V11 := Aside0.mk hv11
       have hrt := rtabs_calls (HT.out.2.1.keep K4.out (by simp) (by simp)) HO.out
       clear hv11 hb4 hco htc)
    | (go_at_call 93; (with_reducible refine hrt.mono ?_); rintro e w5 ⟨v12, rfl, hv12, hb5⟩
       have K5 := Aside0.mk (K4.out.call hb5)
       have V12 := Aside0.mk hv12
       have V115 := Aside0.mk (V11.out.below hb5)
       clear hv12 hb5 hrt))
  have q94 : ∀ W, Keep [] w5 W → Calls Try.prog 94 #[.pointer (some ⟨p, 0, none⟩)] W fun e w' => e = .returned (.int .i64 (ixof (tbl X.l) X.cur)) ∧ Below W.heap.size W w' := fun W k => cindex_calls ((HT.out.1.keep K5.out (by simp) (by simp)).keep k (by simp) (by simp)) HO.out
  obtain ⟨_, _, _, _, _, _, r5⟩ := (HT.out.2.1.keep K5.out (by simp) (by simp)).rules
  obtain ⟨ta1, cp1, hv1, hI1⟩ := V115.out.ints
  obtain ⟨ta2, cp2, hv2, hI2⟩ := V12.out.ints
  rw [HL.out] at hv1 hv2
  subst hv1 hv2
  have q78 : ∀ W, Keep [] w5 W → Calls Try.prog 78 #[.slice ta1 L cp1, .slice ta2 L cp2] W fun e w' => e = .returned (.bool true) ∧ Below W.heap.size W w' := fun W k => by
    have := equal78_calls cp1 cp2 (hI1.keep k) (hI2.keep k) (by rw [HL.out]; have := HLL.out; omega)
    rw [HL.out] at this; exact this
  have q95 : ∀ W, Keep [] w5 W → Calls Try.prog 95 #[.slice ta2 L cp2, .int .i64 X.cur] W fun e w' => e = .returned (.int .i64 (ixof (tbl X.l) X.cur)) ∧ Below W.heap.size W w' := fun W k => by
    have := index95_calls cp2 X.cur (hI2.keep k) (by rw [HL.out]; have := HLL.out; omega)
    rw [HL.out] at this; exact this
  generalize ixof (tbl X.l) X.cur = ix at *
  have I1 := Aside0.mk hI1
  have I2 := Aside0.mk hI2
  clear hI1 hI2
  refine wp_quiet_all (K := fun W => Keep [] w5 W) (by kernel_rfl) (by kernel_rfl) (Keep.refl [] w5).drew ?_
  repeat (first
    | go_big_quiet_skip
    | (go_big_quiet_want; first
        | (go_big_quiet_op; first
            | go_big_quiet_on
            | (go_big_quiet_call ((intro hW; first
                | exact Calls.mono (q78 _ hW) (fun e W' h => ⟨h.1, hW.call h.2⟩)
                | exact Calls.mono (q94 _ hW) (fun e W' h => ⟨h.1, hW.call h.2⟩)
                | exact Calls.mono (q95 _ hW) (fun e W' h => ⟨h.1, hW.call h.2⟩)))))
        | (apply quiet_of
           · (intro W hW
              go_simp
              with_reducible rfl)
           simp only [Act.put, List.setIfInBounds_toArray, List.set_cons_zero, List.set_cons_succ]
           go_big_quiet_on)))
  refine wpQuiet_nil ?_
  intro W6 k6
  have K6 := Aside0.mk k6
  have P6 := Aside0.mk ((HT.out.1.keep K5.out (by simp) (by simp)).keep k6 (by simp) (by simp))
  clear q78 q94 q95 r5 k6
  rcases Nat.eq_zero_or_pos L with h0 | hpos
  · subst h0
    have ht : tbs X.l = [] := by have := HL.out; rw [tbl_length] at this; exact List.length_eq_zero_iff.1 this
    have hcl : X.cur.toNat < X.l.length := by have := HO.out.2; omega
    have htab := tab_calls P6.out HO.out
    have hz : tabn X.l X.cur.toNat false = 0 := by
      unfold tabn
      rcases nx_dom hcl false with e | ⟨n, e, hn, hf⟩
      · rw [e]; rfl
      · have := tbs_get hn hf; rw [ht] at this; simp at this
    rw [hz] at htab
    have hok0 : S.ok { X with cur := 0 } := ⟨HO.out.1, HO.out.2.1, Int.le_refl _, by have := HO.out.2.2; show (0 : Int) < X.r * X.c; omega, HO.out.2.2.2.2⟩
    have hi0 : ixof (tbl X.l) 0 = -1 := by unfold tbl; rw [ht]; rfl
    have HK0 := Aside0.mk (And.intro hok0 hi0)
    clear ht hcl hz hok0 hi0
    go_wp2_with (first
      | (go_at_call 96; (with_reducible refine htab.mono ?_); rintro e w7 ⟨rfl, hs7, hk7⟩
         have hcu := cursor_calls hs7
         have hci := cindex_calls hs7 HK0.out.1
         rw [show ixof (tbl (S.l { X with cur := 0 })) (S.cur { X with cur := 0 }) = -1 from HK0.out.2] at hci
         have K7 := Aside0.mk hk7
         clear hk7 hs7)
      | (go_at_call 64; (with_reducible refine hcu.mono ?_); rintro e w8 ⟨rfl, rfl⟩)
      | (go_at_call 94; (with_reducible refine hci.mono ?_); rintro e w9 ⟨rfl, hb9⟩))
    go_ret
    exact ⟨rfl, ((((K2.out.trans K5.out (by simp)).trans K6.out (by simp)).trans K7.out (fun x hx => by right; simp at hx; have := HG.out; have := HW1.out; omega)).call hb9).below⟩
  · have hne : tbl X.l ≠ [] := by intro e; have := HL.out; rw [e] at this; simp at this; omega
    obtain ⟨g1, e1, hg1, hh1, hcp1, hcm1, hr1⟩ := V115.out.at_some hne
    obtain ⟨g2, e2, hg2, hh2, hcp2, hcm2, hr2⟩ := V12.out.at_some hne
    subst e1 e2
    rw [HL.out] at hr1
    have hp1 : g1 ≠ p := by
      obtain ⟨_, _, _, x1, _⟩ := id HT.out.1
      have := x1.lt
      simp only [World.size_alloc] at hg1
      omega
    have R1 := Aside0.mk hr1
    clear hr1 hr2 hne hh1 hh2 hg1 hg2
    have hsz : (L : Int) ≠ 0 := by omega
    go_wp2_with fail
    obtain ⟨k, hk⟩ : ∃ k : Nat, (1 + st % 5 : Int) = k := ⟨(1 + st % 5).toNat, by omega⟩
    rw [hk]
    have hk1 : 1 ≤ k ∧ k ≤ 5 := by omega
    clear hk hst
    obtain ⟨M, hM⟩ : ∃ M, ((tbl X.l).take k).length = M := ⟨_, rfl⟩
    have hM' : M = min k L := by rw [← hM, List.length_take, HL.out]
    have hi1 : (if (k : Int) < (L : Int) then (k : Int) else (L : Int)) = (M : Int) := by split <;> omega
    have hi2 : (if k < L then (k : Int) else (L : Int)) = (M : Int) := by split <;> omega
    have hmc : M ≤ cp2 := by omega
    have hmc2 : (M : Int) ≤ (cp2 : Int) := by omega
    have hml : M ≤ L := by omega
    have hm0 : (0 : Int) ≤ (M : Int) := by omega
    have HM := Aside0.mk hM
    have q97 : ∀ W, Keep [] W6 W → Calls Try.prog 97 #[.pointer (some ⟨p, 0, none⟩), .int .i64 (k : Int)] W fun e W' => ∃ ta c, e = .returned (.slice ta M c) ∧ Ints W' ta ((tbl X.l).take k) ∧ Keep [] W6 W' := fun W kW =>
      (tabs97_calls (P6.out.keep kW (by simp) (by simp)) HO.out k hk1.1 (by omega)).mono (fun e W' h => by
        obtain ⟨v, rfl, hv, hb⟩ := h
        obtain ⟨ta, c, rfl, hI⟩ := hv.ints
        rw [HM.out]
        exact ⟨ta, c, rfl, hI, kW.call hb⟩)
    have IM2 := Aside0.mk ((I2.out.keep K6.out).take k)
    have q78 : ∀ W ta c, Keep [] W6 W → Ints W ta ((tbl X.l).take k) → Calls Try.prog 78 #[.slice ta M c, .slice (some ⟨g2, 0, none⟩) M cp2] W fun e W' => e = .returned (.bool true) ∧ Keep [] W6 W' := fun W ta c kW hI => by
      have := equal78_calls c cp2 hI (IM2.out.keep kW) (by rw [HM.out]; omega)
      rw [HM.out] at this
      exact this.mono (fun e W' h => ⟨h.1, kW.call h.2⟩)
    clear hM hM'
    have k6 : Keep [] W6 W6 := Keep.refl _ _
    go_region_with (first
      | (go_at_call 97; go_loud (refine (q97 _ ?_).mono ?_; exact k6.drew); rintro e w7 ⟨ta7, c7, rfl, hi7, hk7⟩)
      | (go_at_call 78; go_loud (refine (q78 _ _ _ ?_ ?_).mono ?_; exact hk7; exact hi7); rintro e w8 ⟨rfl, hk8⟩))
    all_goals (
      have K8 := Aside0.mk hk8
      clear hk7 hk8 hi7 q97 q78 hi1 hi2 hmc hmc2 hml hm0 HM IM2 k6
      obtain ⟨i, hi, hin⟩ : ∃ i : Nat, ((y.tmod (L : Int)) + L).tmod L = (i : Int) ∧ i < L := by
        refine ⟨(y % (L : Int)).toNat, ?_, ?_⟩
        · rw [tmod_up y L (by omega)]; have := Int.emod_nonneg y hsz; omega
        · have := Int.emod_lt_of_pos y (show (0 : Int) < L by omega); have := Int.emod_nonneg y hsz; omega
      have hwr : wrap64 (y.tmod (L : Int) + L) = y.tmod (L : Int) + L := by
        have h1 := Int.lt_tmod_of_pos y (show (0 : Int) < L by omega)
        have h2 := Int.tmod_lt_of_pos y (show (0 : Int) < L by omega)
        have := HLL.out
        unfold wrap64; omega
      obtain ⟨s2, hs2⟩ : ∃ s2, wrap64 (y.tmod (L : Int) + L) = s2 := ⟨_, rfl⟩
      rw [← hwr, hs2] at hi
      clear hwr
      have hi0 : (0 : Int) ≤ (i : Int) := by omega
      have hp1 : g1 ∉ [p] := by simp; exact hp1
      have hdz := tbl_dom HO.out (i := i) (by rw [HL.out]; exact hin)
      have HP1 := Aside0.mk hp1
      have hcell := R1.out _ _ (K6.out.trans K8.out (by simp)) (by simp) i hin
      have hpl := place_calls (P6.out.keep K8.out (by simp) (by simp)) ((tbl X.l).getD i 0)
      have hpe : X.place ((tbl X.l).getD i 0) = { X with cur := (tbl X.l).getD i 0 } := by unfold S.place; rw [hdz.2.2]
      rw [hpe] at hpl
      clear hpe hdz hp1
      obtain ⟨z, hz⟩ : ∃ z, (tbl X.l).getD i 0 = z := ⟨_, rfl⟩
      rw [hz] at hpl hcell
      have HZ := Aside0.mk hz
      clear hz
      go_wp2_with (go_at_call 60; (with_reducible refine hpl.mono ?_); rintro e w9 ⟨rfl, hs9, hk9⟩; have S9 := Aside0.mk hs9; have K9 := Aside0.mk ((K8.out.mono (R' := [p]) (by simp)).trans hk9 (by simp)); clear hs9 hk9)
      have hok : ∀ j, j < L → S.ok { X with cur := (tbl X.l).getD j 0 } := fun j hj => by
        have hd := tbl_dom HO.out (i := j) (by rw [HL.out]; exact hj)
        exact ⟨HO.out.1, HO.out.2.1, hd.1, hd.2.1, HO.out.2.2.2.2⟩
      have HOK := Aside0.mk hok
      clear hok
      go_loopg [90] L (fun kq v90 w' => ∃ t : Nat, v90 = .int .i64 t ∧ Aside0 (kq = L - t ∧ t ≤ L) ∧ Aside0 (PSp w' p b { X with cur := (tbl X.l).getD ((i + t) % L) 0 } ∧ Keep [p] W6 w'))
      case atStart => exact ⟨0, rfl, ⟨rfl, Nat.zero_le _⟩, ⟨by rw [Nat.add_zero, Nat.mod_eq_of_lt hin, HZ.out]; exact S9.out, K9.out⟩⟩
      case round =>
        obtain ⟨t, rfl, HR, HK⟩ := hrel
        obtain ⟨ht1, ht2⟩ := HR.out
        by_cases hc : (t : Int) < (L : Int)
        · have hcb : decide ((t : Int) < (L : Int)) = true := decide_eq_true hc
          have htl : t < L := by omega
          have hlt : (i + t) % L < L := Nat.mod_lt _ hpos
          have htab := tab_calls HK.out.1 (HOK.out _ hlt)
          have hto := tabn_on (l := X.l) (i := (i + t) % L) (by rw [HL.out]; exact hlt)
          rw [HL.out] at hto
          rw [hto] at htab
          obtain ⟨u, hu⟩ : ∃ u, ((i + t) % L + 1) % L = u := ⟨_, rfl⟩
          rw [hu] at htab
          have hu1 : (i + 1 + t) % L = u := by rw [← hu, Nat.mod_add_mod]; congr 1; omega
          have hu2 : (i + (t + 1)) % L = u := by rw [← hu, Nat.mod_add_mod]; congr 1
          have hul : u < L := by rw [← hu]; exact Nat.mod_lt _ hpos
          have HU := Aside0.mk hu2
          have hrow := fun W (k : Keep [p] W6 W) => R1.out _ W ((K6.out.mono (R' := [p]) (by simp)).trans k (by simp)) HP1.out u hul
          obtain ⟨zu, hzu⟩ : ∃ zu, (tbl X.l).getD u 0 = zu := ⟨_, rfl⟩
          simp only [hzu] at hrow htab
          have HZU := Aside0.mk hzu
          have hl0 : ¬ L = 0 := by omega
          have hu0 : (0 : Int) ≤ (u : Int) := by omega
          have hu7 : (u : Int) < (L : Int) := by omega
          have hu8 : (u : Int).toNat = u := by omega
          obtain ⟨⟨a1, a2, hw1, hw2, hw3⟩, we1⟩ := sum3 hin htl HLL.out hu1
          have hu0 : (0 : Int) ≤ (u : Int) := by omega
          have WE1 := Aside0.mk we1
          clear hlt hto hu hu1 hu2 hzu we1
          go_wp2_with (go_at_call 96; (with_reducible refine htab.mono ?_); rintro e w10 ⟨rfl, hs10, hk10⟩)
          have hrow2 : ∀ W, Keep [] w10 W → W.cell? ⟨g1, u, none⟩ = some (.int .i64 zu) := fun W k => hrow W ((HK.out.2.trans hk10 (by simp)).trans k (by simp))
          have q64 : ∀ W, Keep [] w10 W → Calls Try.prog 64 #[.pointer (some ⟨p, 0, none⟩)] W fun e w' => e = .returned (.int .i64 zu) ∧ W = w' := fun W k => cursor_calls (hs10.keep k (by simp) (by simp))
          have HS10 := Aside0.mk (And.intro hs10 (HK.out.2.trans hk10 (by simp)))
          clear hs10 hk10 hrow htab
          refine wp_quiet_all (K := fun W => Keep [] w10 W) (by kernel_rfl) (by kernel_rfl) (Keep.refl [] w10).drew ?_
          repeat (first
            | go_big_quiet_skip
            | (go_big_quiet_want; first
                | (go_big_quiet_op; first
                    | go_big_quiet_on
                    | (go_big_quiet_call ((intro hW; exact Calls.mono (q64 _ hW) (fun e W' h => ⟨h.1, h.2 ▸ hW⟩)))))
                | (apply quiet_of
                   · (intro W hW
                      go_simp
                      with_reducible rfl)
                   simp only [Act.put, List.setIfInBounds_toArray, List.set_cons_zero, List.set_cons_succ]
                   go_big_quiet_on)))
          refine wpQuiet_nil ?_
          intro W11 k11
          clear hrow2 q64 hw1 hw2 hw3 hl0
          go_wp2
          go_roundg (L - (t + 1))
          case measure => omega
          case rel => exact ⟨t + 1, by first | rfl | (rw [WE1.out]), ⟨rfl, by omega⟩, ⟨by rw [HU.out, HZU.out]; exact HS10.out.1.keep k11 (by simp) (by simp), HS10.out.2.trans k11 (by simp)⟩⟩
        · have hcb : decide ((t : Int) < (L : Int)) = false := decide_eq_false hc
          have hte : t = L := by omega
          have hz2 : (i + t) % L = i := by rw [hte, Nat.add_mod_right, Nat.mod_eq_of_lt hin]
          have H1 := HK.out
          rw [hz2, HZ.out] at H1
          have HA := Aside0.mk H1
          clear H1 hz2 hte
          go_wp2
          clear hc hcb ht1 ht2
          go_loopg [111] L (fun kq v111 w' => ∃ t : Nat, v111 = .int .i64 t ∧ Aside0 (kq = L - t ∧ t ≤ L) ∧ Aside0 (PSp w' p b { X with cur := (tbl X.l).getD ((i + (L - t)) % L) 0 } ∧ Keep [p] W6 w'))
          case atStart => exact ⟨0, rfl, ⟨rfl, Nat.zero_le _⟩, ⟨by rw [Nat.sub_zero, Nat.add_mod_right, Nat.mod_eq_of_lt hin, HZ.out]; exact HA.out⟩⟩
          case round =>
            obtain ⟨v, rfl, HV, HB⟩ := hrel
            obtain ⟨hv1, hv2⟩ := HV.out
            by_cases hc : (v : Int) < (L : Int)
            · have hcb : decide ((v : Int) < (L : Int)) = true := decide_eq_true hc
              have hvl : v < L := by omega
              have hlt : (i + (L - v)) % L < L := Nat.mod_lt _ hpos
              have htab := backtab_calls HB.out.1 (HOK.out _ hlt)
              have hto := tabn_off (l := X.l) (i := (i + (L - v)) % L) (by rw [HL.out]; exact hlt)
              rw [HL.out, back3 hvl] at hto
              rw [hto] at htab
              have WE1 := Aside0.mk (show wrap64 ((v : Int) + 1) = ((v + 1 : Nat) : Int) by have := HLL.out; unfold wrap64; omega)
              clear hlt hto
              go_wp2_with (go_at_call 98; (with_reducible refine htab.mono ?_); rintro e w10 ⟨rfl, hs10, hk10⟩)
              go_roundg (L - (v + 1))
              case measure => omega
              case rel => exact ⟨v + 1, by first | rfl | (rw [WE1.out]), ⟨rfl, by omega⟩, ⟨hs10, HB.out.2.trans hk10 (by simp)⟩⟩
            · have hcb : decide ((v : Int) < (L : Int)) = false := decide_eq_false hc
              have hve : v = L := by omega
              have hz2 : (i + (L - v)) % L = i := by rw [hve, Nat.sub_self, Nat.add_zero, Nat.mod_eq_of_lt hin]
              have H1 := HB.out
              rw [hz2] at H1
              have q94 : ∀ W, Keep [] wr W → Calls Try.prog 94 #[.pointer (some ⟨p, 0, none⟩)] W fun e w' => e = .returned (.int .i64 (i : Int)) ∧ Below W.heap.size W w' := fun W k => by
                have := cindex_calls (H1.1.keep k (by simp) (by simp)) (HOK.out _ hin)
                rw [show ixof (tbl (S.l { X with cur := (tbl X.l).getD i 0 })) (S.cur { X with cur := (tbl X.l).getD i 0 }) = (i : Int) from ixof_self (by rw [HL.out]; exact hin)] at this
                exact this
              rw [HZ.out] at H1
              have q64 : ∀ W, Keep [] wr W → Calls Try.prog 64 #[.pointer (some ⟨p, 0, none⟩)] W fun e w' => e = .returned (.int .i64 z) ∧ W = w' := fun W k => cursor_calls (H1.1.keep k (by simp) (by simp))
              have hrow : ∀ W, Keep [] wr W → W.cell? ⟨g1, i, none⟩ = some (.int .i64 z) := fun W k => by
                have := R1.out _ W ((K6.out.mono (R' := [p]) (by simp)).trans (H1.2.trans k (by simp)) (by simp)) HP1.out i hin
                rw [HZ.out] at this; exact this
              have KA := Aside0.mk H1.2
              clear H1 hz2 hve
              go_wp2
              refine wp_quiet_all (K := fun W => Keep [] wr W) (by kernel_rfl) (by kernel_rfl) (Keep.refl [] wr).drew ?_
              repeat (first
                | go_big_quiet_skip
                | (go_big_quiet_want; first
                    | (go_big_quiet_op; first
                        | go_big_quiet_on
                        | (go_big_quiet_call ((intro hW; first
                            | exact Calls.mono (q64 _ hW) (fun e W' h => ⟨h.1, h.2 ▸ hW⟩)
                            | exact Calls.mono (q94 _ hW) (fun e W' h => ⟨h.1, hW.call h.2⟩)))))
                    | (apply quiet_of
                       · (intro W hW
                          go_simp
                          with_reducible rfl)
                       simp only [Act.put, List.setIfInBounds_toArray, List.set_cons_zero, List.set_cons_succ]
                       go_big_quiet_on)))
              refine wpQuiet_nil ?_
              intro W12 k12
              go_wp2
              go_ret
              exact ⟨by simp, (((K2.out.trans K5.out (by simp)).trans K6.out (by simp)).trans (KA.out.trans k12 (by simp)) (fun x hx => by right; simp at hx; have := HG.out; have := HW1.out; omega)).below⟩)

end Go.Proofs.Ytangandfgbnomaa.V
