/- The walk of the reference's Starts. -/
import Derived.Test.YtangandfgbnomaaVZ1
namespace Go.Proofs.Ytangandfgbnomaa.V
open Go.RowKit
set_option linter.unusedVariables false
set_option linter.unusedSimpArgs false

theorem blk_ints {w : World} {base g n : Nat} (h : w.ownsRow base 3 1 (.slice (some ⟨g, 0, none⟩) n n) n (madeCells #[.int .i64 0] (n * 1)).toList) : Blk w g (List.replicate n (Value.int .i64 0)) 3 := by
  rcases h.2 with ⟨e, _⟩ | ⟨g', cap, cur, e, _, hh, _, _, hs, ht⟩
  · cases e
  · injection e with e1 _ e3
    injection e1 with e1
    injection e1 with e1
    subst e1 e3
    unfold Blk
    rw [hh]
    have hm : (madeCells #[.int .i64 0] (n * 1)).toList = List.replicate n (Value.int .i64 0) := by
      apply List.ext_getElem?
      intro k
      rw [List.getElem?_replicate]
      by_cases hk : k < n
      · rw [if_pos hk]
        simp only [madeCells, Array.toList_map, Array.toList_range, List.getElem?_map]
        rw [List.getElem?_range (by omega)]
        simp [Nat.mod_one]
      · rw [if_neg hk, List.getElem?_eq_none (by rw [Array.length_toList, size_madeCells]; omega)]
    have : cur.toList = List.replicate n (Value.int .i64 0) := by
      rw [← hm, ← ht, List.take_of_length_le (by rw [Array.length_toList, hs]; exact Nat.le_refl _)]
    rw [← this]

theorem sts_length {l : List C} {i : Nat} (h : i ≤ l.length) : (stsTo l i).length = l.length := by unfold stsTo; rw [List.length_append, List.length_map, List.length_range, List.length_replicate]; omega
theorem IR.of_blk {w : World} {base g n cap : Nat} {l : List Int} (h : Blk w g (l.map (Value.int .i64)) 3) (hb : base ≤ g) (hn : l.length = n) (hm : n ≤ maxLen) (h0 : l ≠ []) : IR w base (.slice (some ⟨g, 0, none⟩) n n) l := by
  subst hn
  refine ⟨⟨by simp, .inr ⟨g, l.length, (l.map (Value.int .i64)).toArray, rfl, hb, h, Nat.le_refl _, hm, by simp, ?_⟩⟩, fun e => absurd e h0⟩
  rw [List.take_of_length_le (by simp)]

set_option maxRecDepth 100000 in
set_option maxHeartbeats 4000000 in
theorem rstarts_nil {w : World} {p b : Nat} {s : S} (h : RSp w p b s) (hl : s.l.length ≤ 3564) (h1l : 1 ≤ s.l.length) (hn : atts s.l = []) :
    Calls Try.prog 85 #[.pointer (some ⟨p, 0, none⟩)] w fun e w' => ∃ v, e = .returned v ∧ IR w' w.heap.size v (starts s.l) ∧ Below w.heap.size w w' := by
  obtain ⟨i0, hi, hz0, hz1, hz2⟩ := info_parts info3'
  have hat := rattrs_calls h hl
  obtain ⟨cap, ex, hcap, g1, g2⟩ := h
  have plt := g1.lt
  have R4 : ∀ W, Keep [] w W → W.cell? ⟨p, 4, none⟩ = some (.slice (some ⟨b, 0, none⟩) s.l.length cap) := fun W k => (g1.keep k (by simp)).cell 4
  have G2 := Aside0.mk g2
  have hfin := fin_last s.l
  clear g1 g2
  rw [hn] at hfin
  simp at hfin
  have FN := Aside0.mk hfin
  have HN := Aside0.mk hn
  clear hfin hn
  go_enter Try.func85, Try.ntmps85
  go_wp2_with (first
    | (go_at_call 105; (with_reducible refine hat.mono ?_); rintro e w1 ⟨v, rfl, hv, hb1⟩
       obtain rfl := hv.2 HN.out
       have k1 : Keep [] w w1 := Keep.of_below hb1 []
       have r4 := R4 _ k1
       have pl1 : p < w1.heap.size := by have := hb1.size; omega)
    | (at_make; go_loud (refine wpList_make_full _ rfl _ _ 79 rfl w1.heap.size 3 i0 _ 1 Try.underlying79 hi hz0 hz1 .i64 .i64 _ _ s.l.length (by go_simp) (by go_simp) rfl rfl (by rw [hz2]; omega) (by unfold maxLen; omega) (Nat.le_refl _) ?_)
       intro w3 hown hgrow
       go_loud (have kg : Keep [] w1 w3 := by obtain ⟨g1, g2, g3, g4, g5⟩ := hgrow; exact ⟨g1, g2, g3, g4, fun k hk _ => g5 k hk (by simp)⟩)
       go_loud (have k3 : Keep [] w w3 := k1.trans kg (by simp))
       go_loud (have B3 := blk_ints hown)
       have r43 := R4 _ k3
       have g1le := k1.size
       have pl3 : p < w3.heap.size := by have := k3.size; omega))
  have B3' := Aside0.mk B3
  have K3' := Aside0.mk k3
  have G1L := Aside0.mk (show w.heap.size ≤ w1.heap.size ∧ w1.heap.size < w3.heap.size from ⟨k1.size, B3.lt⟩)
  clear B3 hown hgrow kg
  go_loopg [5, 30] s.l.length (fun kq v5 v w' => ∃ i : Nat, v = .int .i64 i ∧ v5 = .int .i64 (lst (fin s.l) s.l i) ∧ Aside0 (kq = s.l.length - i ∧ i ≤ s.l.length) ∧ Aside0 (Blk w' w1.heap.size (stsTo s.l i) 3) ∧ Aside0 (Keep [w1.heap.size] w3 w'))
  case atStart => exact ⟨0, rfl, by rw [lst_zero, FN.out], ⟨by omega, Nat.zero_le _⟩, ⟨by rw [sts_zero]; exact B3'.out⟩, ⟨Keep.refl _ _⟩⟩
  case round =>
    obtain ⟨i, rfl, rfl, HI, HB, HK⟩ := hrel
    obtain ⟨hi1, hi2⟩ := HI.out
    have kk : Keep [] w wr := K3'.out.trans HK.out (by intro y hy; right; have := G1L.out; simp at hy; omega)
    by_cases hc : (i : Int) < (s.l.length : Int)
    · have hcb : decide ((i : Int) < (s.l.length : Int)) = true := decide_eq_true hc
      have hil : i < s.l.length := by omega
      have hi0 : (0 : Int) ≤ (i : Int) := by omega
      obtain ⟨cj, hcj2⟩ : ∃ c, s.l.getD i C.zero = c := ⟨_, rfl⟩
      obtain ⟨x0, x1, x2, x3, x4, x5⟩ := six_rules (G2.out.keep kk (by simp)) i hil cj hcj2
      have K0 : Keep [] wr wr := Keep.refl _ _
      have y0 := x0 _ K0
      have y1 := x1 _ K0
      have y2 := x2 _ K0
      have y3 := x3 _ K0
      have y4 := x4 _ K0
      have y5 := x5 _ K0
      obtain ⟨qa, hqa⟩ : ∃ qa, cj.at_ = qa := ⟨_, rfl⟩
      rw [hqa] at y1
      have hst : lst (fin s.l) s.l (i + 1) = if qa = true then (i : Int) else lst (fin s.l) s.l i := by rw [lst_succ, hcj2, hqa]
      have hstt : stt s.l i = lst (fin s.l) s.l (i + 1) := stt_eq _ _
      have ST := Aside0.mk hst
      have SS := Aside0.mk hstt
      have hwe1 : wrap64 ((i : Int) + 1) = ((i + 1 : Nat) : Int) := by unfold wrap64; omega
      have WEi := Aside0.mk hwe1
      have hbf := HB.out.frozen
      have hbl := HB.out.lt
      obtain ⟨vo, hvo⟩ : ∃ vo, wr.cell? ⟨w1.heap.size, i, none⟩ = some vo := ⟨_, (HB.out.cell i).trans (List.getElem?_eq_getElem (by rw [sts_length hi2]; exact hil))⟩
      have hstep := Aside0.mk (stsTo_step s.l i hil)
      clear x0 x1 x2 x3 x4 x5 K0 hst hstt hwe1 hcj2 hqa kk
      cases qa
      · go_wp2
        go_roundg (s.l.length - (i + 1))
        case measure => omega
        case rel =>
          refine ⟨i + 1, by first | rfl | (rw [WEi.out]), by rw [ST.out]; rfl, ⟨rfl, by omega⟩, ⟨?_⟩, ⟨(HK.out.setCell (p := ⟨w1.heap.size, i, none⟩) (.inl (List.mem_cons_self ..)) _).alloc _⟩⟩
          rw [hstep.out, SS.out, ST.out, if_neg (by decide)]
          exact (HB.out.set i _).alloc _
      · go_wp2
        go_roundg (s.l.length - (i + 1))
        case measure => omega
        case rel =>
          refine ⟨i + 1, by first | rfl | (rw [WEi.out]), by rw [ST.out]; rfl, ⟨rfl, by omega⟩, ⟨?_⟩, ⟨(HK.out.setCell (p := ⟨w1.heap.size, i, none⟩) (.inl (List.mem_cons_self ..)) _).alloc _⟩⟩
          rw [hstep.out, SS.out, ST.out, if_pos trivial]
          exact (HB.out.set i _).alloc _
    · have hcb : decide ((i : Int) < (s.l.length : Int)) = false := decide_eq_false hc
      have hie : i = s.l.length := by omega
      have KK := Aside0.mk kk
      clear kk
      go_wp2
      go_ret
      have hb := HB.out
      have hg := G1L.out
      rw [hie, starts_full] at hb
      refine ⟨_, rfl, IR.of_blk (cap := s.l.length) hb hg.1 (starts_length _) (by unfold maxLen; omega) ?_, KK.out.below⟩
      intro e
      have : (starts s.l).length = 0 := by rw [e]; rfl
      rw [starts_length] at this
      omega

set_option maxRecDepth 100000 in
set_option maxHeartbeats 4000000 in
theorem rstarts_some {w : World} {p b : Nat} {s : S} (h : RSp w p b s) (hl : s.l.length ≤ 3564) (h1l : 1 ≤ s.l.length) (hn : atts s.l ≠ []) :
    Calls Try.prog 85 #[.pointer (some ⟨p, 0, none⟩)] w fun e w' => ∃ v, e = .returned v ∧ IR w' w.heap.size v (starts s.l) ∧ Below w.heap.size w w' := by
  obtain ⟨i0, hi, hz0, hz1, hz2⟩ := info_parts info3'
  have hat := rattrs_calls h hl
  obtain ⟨cap, ex, hcap, g1, g2⟩ := h
  have plt := g1.lt
  have R4 : ∀ W, Keep [] w W → W.cell? ⟨p, 4, none⟩ = some (.slice (some ⟨b, 0, none⟩) s.l.length cap) := fun W k => (g1.keep k (by simp)).cell 4
  have G2 := Aside0.mk g2
  have hfin := fin_last s.l
  clear g1 g2
  have hlen := attsTo_length s.l s.l.length
  obtain ⟨m, hm⟩ : ∃ m, (atts s.l).length = m + 1 := ⟨(atts s.l).length - 1, by have : (atts s.l).length ≠ 0 := fun e => hn (List.length_eq_zero_iff.1 e); omega⟩
  rw [hm, if_pos (by omega), Nat.add_sub_cancel] at hfin
  have hm2 : m + 1 ≤ 3564 := by unfold atts at hm; omega
  have FN := Aside0.mk hfin
  have HN := Aside0.mk hn
  have HM := Aside0.mk hm
  obtain ⟨y, hy⟩ : ∃ y, (atts s.l).getD m 0 = y := ⟨_, rfl⟩
  have HY := Aside0.mk hy
  clear hfin hn hlen hm hy
  go_enter Try.func85, Try.ntmps85
  go_wp2_with (first
    | (go_at_call 105; (with_reducible refine hat.mono ?_); rintro e w1 ⟨v, rfl, hv, hb1⟩
       go_loud (obtain ⟨g, cp, hve⟩ : ∃ g cp, v = .slice (some ⟨g, 0, none⟩) (m + 1) cp := by
                  rcases hv.shape with ⟨_, h0⟩ | ⟨_, g, cp, h1, _⟩
                  · exact absurd h0 HN.out
                  · exact ⟨g, cp, by rw [h1, HM.out]⟩)
       subst hve
       have k1 : Keep [] w w1 := Keep.of_below hb1 []
       have r4 := R4 _ k1
       have HV := Aside0.mk hv
       clear hv
       have pl1 : p < w1.heap.size := by have := hb1.size; omega)
    | (at_make; go_loud (refine wpList_make_full _ rfl _ _ 79 rfl w1.heap.size 3 i0 _ 1 Try.underlying79 hi hz0 hz1 .i64 .i64 _ _ s.l.length (by go_simp) (by go_simp) rfl rfl (by rw [hz2]; omega) (by unfold maxLen; omega) (Nat.le_refl _) ?_)
       intro w3 hown hgrow
       go_loud (have kg : Keep [] w1 w3 := by obtain ⟨g1, g2, g3, g4, g5⟩ := hgrow; exact ⟨g1, g2, g3, g4, fun k hk _ => g5 k hk (by simp)⟩)
       go_loud (have k3 : Keep [] w w3 := k1.trans kg (by simp))
       go_loud (have B3 := blk_ints hown)
       go_loud (have hgc : w3.cell? ⟨g, m, none⟩ = some (.int .i64 y) := by
                  rcases (HV.out.keep kg (by simp)).shape with ⟨h0, _⟩ | ⟨_, g', cp', h1, _, _, _, h5⟩
                  · cases h0
                  · injection h1 with h1
                    injection h1 with h1
                    injection h1 with h1
                    subst h1
                    rw [h5 m (by rw [HM.out]; omega), HY.out])
       have r43 := R4 _ k3
       have g1le := k1.size
       have pl3 : p < w3.heap.size := by have := k3.size; omega))
  have B3' := Aside0.mk B3
  have K3' := Aside0.mk k3
  have G1L := Aside0.mk (show w.heap.size ≤ w1.heap.size ∧ w1.heap.size < w3.heap.size from ⟨k1.size, B3.lt⟩)
  clear B3 hown hgrow kg
  go_loopg [5, 30] s.l.length (fun kq v5 v w' => ∃ i : Nat, v = .int .i64 i ∧ v5 = .int .i64 (lst (fin s.l) s.l i) ∧ Aside0 (kq = s.l.length - i ∧ i ≤ s.l.length) ∧ Aside0 (Blk w' w1.heap.size (stsTo s.l i) 3) ∧ Aside0 (Keep [w1.heap.size] w3 w'))
  case atStart => exact ⟨0, rfl, by rw [lst_zero, FN.out, HY.out], ⟨by omega, Nat.zero_le _⟩, ⟨by rw [sts_zero]; exact B3'.out⟩, ⟨Keep.refl _ _⟩⟩
  case round =>
    obtain ⟨i, rfl, rfl, HI, HB, HK⟩ := hrel
    obtain ⟨hi1, hi2⟩ := HI.out
    have kk : Keep [] w wr := K3'.out.trans HK.out (by intro y hy; right; have := G1L.out; simp at hy; omega)
    by_cases hc : (i : Int) < (s.l.length : Int)
    · have hcb : decide ((i : Int) < (s.l.length : Int)) = true := decide_eq_true hc
      have hil : i < s.l.length := by omega
      have hi0 : (0 : Int) ≤ (i : Int) := by omega
      obtain ⟨cj, hcj2⟩ : ∃ c, s.l.getD i C.zero = c := ⟨_, rfl⟩
      obtain ⟨x0, x1, x2, x3, x4, x5⟩ := six_rules (G2.out.keep kk (by simp)) i hil cj hcj2
      have K0 : Keep [] wr wr := Keep.refl _ _
      have y0 := x0 _ K0
      have y1 := x1 _ K0
      have y2 := x2 _ K0
      have y3 := x3 _ K0
      have y4 := x4 _ K0
      have y5 := x5 _ K0
      obtain ⟨qa, hqa⟩ : ∃ qa, cj.at_ = qa := ⟨_, rfl⟩
      rw [hqa] at y1
      have hst : lst (fin s.l) s.l (i + 1) = if qa = true then (i : Int) else lst (fin s.l) s.l i := by rw [lst_succ, hcj2, hqa]
      have hstt : stt s.l i = lst (fin s.l) s.l (i + 1) := stt_eq _ _
      have ST := Aside0.mk hst
      have SS := Aside0.mk hstt
      have hwe1 : wrap64 ((i : Int) + 1) = ((i + 1 : Nat) : Int) := by unfold wrap64; omega
      have WEi := Aside0.mk hwe1
      have hbf := HB.out.frozen
      have hbl := HB.out.lt
      obtain ⟨vo, hvo⟩ : ∃ vo, wr.cell? ⟨w1.heap.size, i, none⟩ = some vo := ⟨_, (HB.out.cell i).trans (List.getElem?_eq_getElem (by rw [sts_length hi2]; exact hil))⟩
      have hstep := Aside0.mk (stsTo_step s.l i hil)
      clear x0 x1 x2 x3 x4 x5 K0 hst hstt hwe1 hcj2 hqa kk
      cases qa
      · go_wp2
        go_roundg (s.l.length - (i + 1))
        case measure => omega
        case rel =>
          refine ⟨i + 1, by first | rfl | (rw [WEi.out]), by rw [ST.out]; rfl, ⟨rfl, by omega⟩, ⟨?_⟩, ⟨(HK.out.setCell (p := ⟨w1.heap.size, i, none⟩) (.inl (List.mem_cons_self ..)) _).alloc _⟩⟩
          rw [hstep.out, SS.out, ST.out, if_neg (by decide)]
          exact (HB.out.set i _).alloc _
      · go_wp2
        go_roundg (s.l.length - (i + 1))
        case measure => omega
        case rel =>
          refine ⟨i + 1, by first | rfl | (rw [WEi.out]), by rw [ST.out]; rfl, ⟨rfl, by omega⟩, ⟨?_⟩, ⟨(HK.out.setCell (p := ⟨w1.heap.size, i, none⟩) (.inl (List.mem_cons_self ..)) _).alloc _⟩⟩
          rw [hstep.out, SS.out, ST.out, if_pos trivial]
          exact (HB.out.set i _).alloc _
    · have hcb : decide ((i : Int) < (s.l.length : Int)) = false := decide_eq_false hc
      have hie : i = s.l.length := by omega
      have KK := Aside0.mk kk
      clear kk
      go_wp2
      go_ret
      have hb := HB.out
      have hg := G1L.out
      rw [hie, starts_full] at hb
      refine ⟨_, rfl, IR.of_blk (cap := s.l.length) hb hg.1 (starts_length _) (by unfold maxLen; omega) ?_, KK.out.below⟩
      intro e
      have : (starts s.l).length = 0 := by rw [e]; rfl
      rw [starts_length] at this
      omega

theorem rstarts_calls {w : World} {p b : Nat} {s : S} (h : RSp w p b s) (hl : s.l.length ≤ 3564) (h1l : 1 ≤ s.l.length) :
    Calls Try.prog 85 #[.pointer (some ⟨p, 0, none⟩)] w fun e w' => ∃ v, e = .returned v ∧ IR w' w.heap.size v (starts s.l) ∧ Below w.heap.size w w' := by
  by_cases hn : atts s.l = []
  · exact rstarts_nil h hl h1l hn
  · exact rstarts_some h hl h1l hn

end Go.Proofs.Ytangandfgbnomaa.V
