/- The program's Span: its closure, told. -/
import Derived.Test.YtangandfgbnomaaVSA
import Derived.Test.YtangandfgbnomaaVP4
import Derived.Stop.RegionWithIn
namespace Go.Proofs.Ytangandfgbnomaa.V
open Go.RowKit Go.Shelf
set_option linter.unusedVariables false
set_option linter.unusedSimpArgs false

attribute [local go_sem] Oper.semAt_some

theorem span_calls (w : World) (R C a b : Int) : Calls Try.prog 80 #[sz R C, .int .i64 a, .int .i64 b] w fun e w' =>
    e = .returned (.func (.func 157) #[] #[.pointer (some ⟨w.heap.size, 0, none⟩), .pointer (some ⟨w.heap.size + 1, 0, none⟩), .pointer (some ⟨w.heap.size + 2, 0, none⟩)]) ∧
    w' = ((w.alloc (.cells #[.int .i64 R, .int .i64 C] 24)).alloc (.cells #[.int .i64 a] 3)).alloc (.cells #[.int .i64 b] 3) := by
  go_enter Try.func80, Try.ntmps80
  go_wp2
  go_ret
  exact ⟨rfl, rfl⟩
theorem spn_length (R C a b : Int) : (spn R C a b).length = (len R C a b).toNat := by unfold spn; simp
theorem len_bound (R C a b : Int) : 0 ≤ len R C a b ∧ len R C a b ≤ 3564 := by
  unfold len
  split
  · rename_i h
    have hp := vld_pos h
    have h1 := Int.emod_nonneg (b - a) (show R * C ≠ 0 by omega)
    have h2 := Int.emod_lt_of_pos (b - a) (show 0 < R * C by omega)
    split <;> omega
  · omega
theorem spn_take (R C a b : Int) (i : Nat) (h : i < (len R C a b).toNat) : (spn R C a b).take (i + 1) = (spn R C a b).take i ++ [wrp R C (wrp R C a + (i : Int))] := by
  unfold spn
  rw [List.take_add_one, List.getElem?_map, List.getElem?_range h]; rfl

theorem up1 {i L : Nat} (h : i < L) (hL : (L : Int) ≤ 3564) : wrap64 ((i : Int) + 1) = ((i + 1 : Nat) : Int) := by unfold wrap64; omega
theorem in64 {f : Int} {i L : Nat} (h : i < L) (hL : (L : Int) ≤ 3564) (h0 : 0 ≤ f ∧ f ≤ 3564) : IntKind.i64.wrap (f + (i : Int)) = f + (i : Int) := by rw [IntKind.wrap_i64]; omega
theorem meas_of {i L : Nat} {x : Int} (hx : x = ((i + 1 : Nat) : Int)) (h : i < L) : L - (intOf (.int .i64 x)).toNat < L - (intOf (.int .i64 (i : Int))).toNat := by
  subst hx
  simp only [intOf, Int.toNat_natCast]
  omega

set_option maxRecDepth 100000 in
set_option maxHeartbeats 4000000 in
theorem span_stops {Kp : World → World → Prop} {safe : World → Nat → Prop} {good : World → Prop} {w : World} (hS : Holds Kp safe good) {R C a b : Int} {B1 B2 B3 : Nat}
    (h1 : Blk w B1 [.int .i64 R, .int .i64 C] 24) (h2 : Blk w B2 [.int .i64 a] 3) (h3 : Blk w B3 [.int .i64 b] 3) (hg : good w) (hsf : safe w B1 ∧ safe w B2 ∧ safe w B3) (n : Nat) (hn : 1 ≤ n) :
    SeqStopsK Fence.wide n Try.prog 157 #[.pointer (some ⟨B1, 0, none⟩), .pointer (some ⟨B2, 0, none⟩), .pointer (some ⟨B3, 0, none⟩)] (fun x : Int => #[Value.int .i64 x]) Kp (fun ys => ys = spn R C a b) (fun pre => pre <+: spn R C a b) (spn R C a b).length w := by
  intro l J Jx W hW hJ hJx hY h0
  have b1 := h1.call hW
  have b2 := h2.call hW
  have b3 := h3.call hW
  have hgW := hS.gkeep _ _ (Keep.of_below hW []) hg
  have hsW : safe W B1 ∧ safe W B2 ∧ safe W B3 := ⟨hS.keep _ _ _ (Keep.of_below hW []) h1.lt hsf.1 hg, hS.keep _ _ _ (Keep.of_below hW []) h2.lt hsf.2.1 hg, hS.keep _ _ _ (Keep.of_below hW []) h3.lt hsf.2.2 hg⟩
  have hY2 : ∀ pre x W1, J pre W1 → pre.length < (spn R C a b).length → YieldAt Fence.wide (n - 1) Try.prog l #[Value.int .i64 x] W1 fun e W' => ∃ bo, e = .returned (.bool bo) ∧ ((bo = true ∧ J (pre ++ [x]) W' ∧ Kp W1 W') ∨ (bo = false ∧ Jx (pre ++ [x]) W')) := fun pre x W1 q1 q2 => by
    obtain ⟨fn, tmps, assign, body, hy, hR⟩ := hY pre x W1 q1 q2
    refine ⟨fn, tmps, assign, body, hy, hR.mono ?_⟩
    rintro e W' (⟨h1, h2⟩ | ⟨h1, h2⟩)
    · exact ⟨true, h1, .inl ⟨rfl, h2⟩⟩
    · exact ⟨false, h1, .inr ⟨rfl, h2⟩⟩
  have hlb := len_bound R C a b
  have hln : ∀ W, Calls Try.prog 81 #[.agg #[.int .i64 R, .int .i64 C], .int .i64 a, .int .i64 b] W fun e w' => e = .returned (.int .i64 (len R C a b)) ∧ Below W.heap.size W w' := fun W => c_length R C a b W
  have hst := spn_take R C a b
  have hsl := spn_length R C a b
  obtain ⟨L, hL⟩ : ∃ L : Nat, len R C a b = (L : Int) := ⟨(len R C a b).toNat, by omega⟩
  rw [hL] at hln hst hsl hlb
  simp only [Int.toNat_natCast] at hst hsl
  have hwr : ∀ x W, Calls Try.prog 32 #[.agg #[.int .i64 R, .int .i64 C], .int .i64 x] W fun e w' => e = .returned (.int .i64 (wrp R C x)) ∧ Below W.heap.size W w' := fun x W => c_wrap R C x W
  have hwb := fun W => hwr a W
  have hfb := wrp_in R C a
  obtain ⟨f, hf⟩ : ∃ f, wrp R C a = f := ⟨_, rfl⟩
  rw [hf] at hwb hst hfb
  have c0 := b1.cell 0
  have c1 := b1.cell 1
  have c2 := b2.cell 0
  have c3 := b3.cell 0
  simp only [List.getElem?_cons_zero, List.getElem?_cons_succ] at c0 c1 c2 c3
  rw [hsl] at hY2
  have k0 : Keep [] W W := Keep.refl _ _
  have HGW := Aside0.mk (And.intro hgW hsW)
  have HB := Aside0.mk (And.intro b1 (And.intro b2 b3))
  have HJ := Aside0.mk hJ
  have HY := Aside0.mk hY2
  have H0 := Aside0.mk h0
  have HS := Aside0.mk hS
  have HST := Aside0.mk hst
  have HSL := Aside0.mk hsl
  have HLB := Aside0.mk hlb
  have HFB := Aside0.mk hfb
  clear hS h1 h2 h3 b1 b2 b3 hJ hJx hY hY2 h0 hg hsf hgW hsW hst hsl hlb hfb hL hf
  refine callsIn_of_wp Try.func157 rfl trivial ?_ rfl
  simp only [Try.ntmps157, List.size_toArray, List.length_cons, List.length_nil, Nat.reduceAdd, Nat.reduceSub, Array.replicate_succ, Array.replicate_zero, List.push_toArray, List.append_toArray, List.nil_append, List.cons_append]
  gi_wp2_with (refine ⟨trivial, ?_⟩; gi_at_call 81; (with_reducible refine (callsIn_wide.2 (hln _)).mono ?_); rintro e w1 ⟨rfl, hb1⟩; have K1 := Aside0.mk (k0.call hb1))
  clear hb1 c0 c1 c2 c3 hln
  gi_loopw [10] (fun v10 wr => ∃ i : Nat, v10 = .int .i64 i ∧ Aside0 (i ≤ L) ∧ Aside0 (Blk wr B1 [.int .i64 R, .int .i64 C] 24 ∧ Blk wr B2 [.int .i64 a] 3 ∧ Blk wr B3 [.int .i64 b] 3) ∧ Aside0 (J ((spn R C a b).take i) wr) ∧ Aside0 (good wr ∧ safe wr B1 ∧ safe wr B2 ∧ safe wr B3))
    (fun v10 wr => L - (intOf v10).toNat)
  case atStart =>
    refine ⟨0, rfl, ⟨Nat.zero_le _⟩, ⟨HB.out.1.keep K1.out (by simp), HB.out.2.1.keep K1.out (by simp), HB.out.2.2.keep K1.out (by simp)⟩, ⟨abides_keep HJ.out H0.out K1.out⟩, ?_⟩
    exact ⟨HS.out.gkeep _ _ K1.out HGW.out.1, HS.out.keep _ _ _ K1.out HB.out.1.lt HGW.out.2.1 HGW.out.1, HS.out.keep _ _ _ K1.out HB.out.2.1.lt HGW.out.2.2.1 HGW.out.1, HS.out.keep _ _ _ K1.out HB.out.2.2.lt HGW.out.2.2.2 HGW.out.1⟩
  case round =>
    obtain ⟨i, rfl, HI, HP, FJ, FS⟩ := hrel
    have hi := HI.out
    by_cases hc : (i : Int) < (L : Int)
    · have hcb : decide ((i : Int) < (L : Int)) = true := decide_eq_true hc
      have hiL : i < L := by omega
      have hts := HST.out i hiL
      have hwi := hwr (f + (i : Int))
      obtain ⟨x, hx⟩ : ∃ x, wrp R C (f + (i : Int)) = x := ⟨_, rfl⟩
      simp only [hx] at hwi hts
      have HTS := Aside0.mk hts
      have hlen : ((spn R C a b).take i).length < L := by rw [List.length_take, HSL.out]; omega
      have hyy : ∀ V, Keep [] wr V → YieldAt Fence.wide (n - 1) Try.prog l #[Value.int .i64 x] V fun e W' => ∃ bo, e = .returned (.bool bo) ∧ ((bo = true ∧ J ((spn R C a b).take i ++ [x]) W' ∧ Kp V W') ∨ (bo = false ∧ Jx ((spn R C a b).take i ++ [x]) W')) := fun V k => HY.out _ x V (abides_keep HJ.out FJ.out k) hlen
      have j0 : ∀ V, Keep [] wr V → V.cell? ⟨B1, 0, none⟩ = some (.int .i64 R) := fun V k => (HP.out.1.keep k (by simp)).cell 0
      have j1 : ∀ V, Keep [] wr V → V.cell? ⟨B1, 1, none⟩ = some (.int .i64 C) := fun V k => (HP.out.1.keep k (by simp)).cell 1
      have j2 : ∀ V, Keep [] wr V → V.cell? ⟨B2, 0, none⟩ = some (.int .i64 a) := fun V k => (HP.out.2.1.keep k (by simp)).cell 0
      have kd := (Keep.refl [] wr).drew
      have HIL := Aside0.mk hiL
      have WE1 := Aside0.mk (up1 hiL HLB.out.2)
      have hsi : IntKind.i64.wrap (f + (i : Int)) = f + (i : Int) := in64 hiL HLB.out.2 HFB.out
      clear hx hts hlen hiL hi
      gi_wp2
      gi_region_with (first
        | (refine ⟨trivial, ?_⟩; gi_at_call 32; (with_reducible refine (callsIn_wide.2 (hwb _)).mono ?_); rintro e w4 ⟨rfl, hb4⟩; have k4 := kd.call hb4)
        | (refine ⟨trivial, ?_⟩; gi_at_call 32; (with_reducible refine (callsIn_wide.2 (hwi _)).mono ?_); rintro e w5 ⟨rfl, hb5⟩; have k5 := k4.call hb5; obtain ⟨fn, tmps, assign, body, hy, hR⟩ := hyy _ k5)
        | ((with_reducible refine hR.mono ?_); rintro e W6 ⟨bo, rfl, hbo⟩))
      all_goals (
        have q := FS.out
        have g5 := HS.out.gkeep _ _ k5 q.1
        have s1 := HS.out.keep _ _ _ k5 HP.out.1.lt q.2.1 q.1
        have s2 := HS.out.keep _ _ _ k5 HP.out.2.1.lt q.2.2.1 q.1
        have s3 := HS.out.keep _ _ _ k5 HP.out.2.2.lt q.2.2.2 q.1
        have p1 := HP.out.1.keep k5 (by simp)
        have p2 := HP.out.2.1.keep k5 (by simp)
        have p3 := HP.out.2.2.keep k5 (by simp)
        have HJX := Aside0.mk hbo
        have Q5 := Aside0.mk (And.intro g5 (And.intro s1 (And.intro s2 (And.intro s3 (And.intro p1 (And.intro p2 p3))))))
        clear q g5 s1 s2 s3 p1 p2 p3 hy hR hyy hwi hwb hwr kd k4 k5 hb4 hb5 hsi hbo j0 j1 j2
        cases bo
        · gi_wp2
          refine bodyPost_ret (results_none rfl _ _ _) rfl ?_
          refine ⟨⟨_, rfl⟩, .inr ⟨(spn R C a b).take (i + 1), List.take_prefix _ _, ?_⟩⟩
          rw [HTS.out]
          rcases HJX.out with ⟨e, _⟩ | ⟨_, h⟩
          · cases e
          · exact h
        · gi_wp2
          go_roundw
          case rel =>
            obtain ⟨g5, s1, s2, s3, p1, p2, p3⟩ := Q5.out
            rcases HJX.out with ⟨_, h, hk3⟩ | ⟨e, _⟩
            · refine ⟨i + 1, by rw [WE1.out], ⟨HIL.out⟩, ⟨HS.out.blk _ _ _ _ _ hk3 s1 p1, HS.out.blk _ _ _ _ _ hk3 s2 p2, HS.out.blk _ _ _ _ _ hk3 s3 p3⟩, ⟨by rw [HTS.out]; exact h⟩, ?_⟩
              exact ⟨HS.out.gkp _ _ hk3 g5, HS.out.kp _ _ _ hk3 p1.lt s1, HS.out.kp _ _ _ hk3 p2.lt s2, HS.out.kp _ _ _ hk3 p3.lt s3⟩
            · cases e
          case measure =>
            exact meas_of WE1.out HIL.out)
    · have hcb : decide ((i : Int) < (L : Int)) = false := decide_eq_false hc
      have hiL : i = L := by omega
      have HE := Aside0.mk hiL
      clear hiL hi
      gi_wp2
      go_end0
      have hJe := FJ.out
      rw [HE.out, ← HSL.out, List.take_length] at hJe
      refine ⟨⟨_, rfl⟩, .inl ?_⟩
      first | exact hJe | exact ⟨_, rfl, hJe⟩

end Go.Proofs.Ytangandfgbnomaa.V
