/- The walk of the law SpaceTold. -/
import Derived.Test.YtangandfgbnomaaVR6
import Derived.Test.YtangandfgbnomaaVE1
import Derived.Test.YtangandfgbnomaaVUL
import Derived.Test.YtangandfgbnomaaVXA
namespace Go.Proofs.Ytangandfgbnomaa.V
open Go.RowKit
set_option linter.unusedVariables false
set_option linter.unusedSimpArgs false


theorem min_two (a b : Int) (W : World) : Sem.run Try.prog (Builtin.min_ #[3, 3] 3 #[.int .i64 a, .int .i64 b]) W = .ok (.int .i64 (if b < a then b else a)) W := by
  simp only [Builtin.min_, List.foldlM_cons, List.foldlM_nil, Builtin.min2]
  go_simp
theorem flat_cut (l : List C) (k : Nat) : flat l = flat (l.take k) ++ flat (l.drop k) := by
  unfold flat
  rw [← List.flatMap_append, List.take_append_drop]
theorem nil64_ne : ∀ (a : Addr) (w : World), Sem.run Try.prog (binOp .neq 64 (.pointer (some a)) (.pointer none)) w = .ok (.bool true) w := fun _ _ => by kernel_rfl
theorem nil64_eq : ∀ (a : Addr) (w : World), Sem.run Try.prog (binOp .eql 64 (.pointer (some a)) (.pointer none)) w = .ok (.bool false) w := fun _ _ => by kernel_rfl
theorem nil64_n : ∀ (w : World), Sem.run Try.prog (binOp .neq 64 (.pointer none) (.pointer none)) w = .ok (.bool false) w := fun _ => by kernel_rfl
theorem nil64_e : ∀ (w : World), Sem.run Try.prog (binOp .eql 64 (.pointer none) (.pointer none)) w = .ok (.bool true) w := fun _ => by kernel_rfl
theorem zero_ne : ∀ (w : World), Sem.run Try.prog (binOp .neq 60 (.agg #[.int .u8 0, .bool false, .int .u8 0, .int .u8 0, .int .u8 0, .int .u8 0]) (.agg #[.int .u8 0, .bool false, .int .u8 0, .int .u8 0, .int .u8 0, .int .u8 0])) w = .ok (.bool false) w := fun _ => by kernel_rfl

set_option maxRecDepth 100000 in
theorem n66_nn (x : Addr) (w : World) : Calls Try.prog 66 #[.pointer none, .pointer none] w fun e w' => e = .returned (.bool true) ∧ Below w.heap.size w w' := by
  have r1 := nil_eq
  have r3 := nil_ps
  have r4 := nil_sp
  go_enter Try.func66, Try.ntmps66
  go_wp2
  go_ret
  exact ⟨rfl, Below.refl _ _⟩

set_option maxRecDepth 100000 in
theorem n66_ns (x : Addr) (w : World) : Calls Try.prog 66 #[.pointer none, .pointer (some x)] w fun e w' => e = .returned (.bool false) ∧ Below w.heap.size w w' := by
  have r1 := nil_eq
  have r3 := nil_ps
  have r4 := nil_sp
  go_enter Try.func66, Try.ntmps66
  go_wp2
  go_ret
  exact ⟨rfl, Below.refl _ _⟩

set_option maxRecDepth 100000 in
theorem n66_sn (x : Addr) (w : World) : Calls Try.prog 66 #[.pointer (some x), .pointer none] w fun e w' => e = .returned (.bool false) ∧ Below w.heap.size w w' := by
  have r1 := nil_eq
  have r3 := nil_ps
  have r4 := nil_sp
  go_enter Try.func66, Try.ntmps66
  go_wp2
  go_ret
  exact ⟨rfl, Below.refl _ _⟩

set_option maxRecDepth 100000 in
set_option maxHeartbeats 4000000 in
theorem told_none (m : Int) (hm : ¬ (2 ≤ m ∧ m ≤ 5)) (v : Value) (st : Int) (w : World) : Calls Try.prog 15 #[.int .i64 m, v, .int .u16 st] w fun e w' => e = .returned (.bool true) ∧ Below w.heap.size w w' := by
  have f1 : addr_Model.f m = some (0, 0, 5) := by
    unfold addr_Model.f
    rw [if_neg (by omega), if_neg (by omega), if_neg (by omega), if_neg (by omega)]
  have f2 : vitrineref04_Model.f m = some (0, 0, false) := by
    unfold vitrineref04_Model.f
    rw [if_neg (by omega), if_neg (by omega), if_neg (by omega), if_neg (by omega)]
  have q54 := fun W => new_err W m 0 0 5 f1 (by decide)
  have q55 := fun W => rnew_none W m 0 0 f2
  have r1 := nil_eq
  have r2 := nil_ne
  have r3 := nil_ps
  have r4 := nil_sp
  have r5 := nil64_ne
  have r6 := nil64_eq
  have r7 := nil64_n
  have r8 := nil64_e
  have r9 := zero_ne
  have fd0 := field24_0
  have q59 : ∀ W, Calls Try.prog 59 #[.pointer none, .int .i64 1, .agg #[.int .u8 0, .bool false, .int .u8 0, .int .u8 0, .int .u8 0, .int .u8 0]] W fun e w' => e = .returned (.tuple #[]) ∧ Below W.heap.size W w' := fun W => n59 1 C.zero W
  clear f1 f2 hm
  go_enter Try.func15, Try.ntmps15
  go_wp2_with (first
    | (go_at_call 53; (with_reducible refine (awake12 _).mono ?_); rintro e w1 ⟨rfl, hb1⟩; have k1 := (Keep.refl [] w).call hb1)
    | (go_at_call 54; (with_reducible refine (q54 _).mono ?_); rintro e w2 ⟨rfl, hb2⟩; have k2 := k1.call hb2)
    | (go_at_call 55; (with_reducible refine (q55 _).mono ?_); rintro e w3 ⟨rfl, hb3⟩; have k3 := k2.call hb3)
    | (go_at_call 59; (with_reducible refine (q59 _).mono ?_); rintro e w59 ⟨rfl, hb59⟩; have := Keep.call (R := []) (a := w) (by assumption) hb59)
    | (go_at_call 62; (with_reducible refine (n62 1 1 _).mono ?_); rintro e w62 ⟨rfl, hb62⟩; have := Keep.call (R := []) (a := w) (by assumption) hb62)
    | (go_at_call 60; (with_reducible refine (n60 1 _).mono ?_); rintro e w60 ⟨rfl, hb60⟩; have := Keep.call (R := []) (a := w) (by assumption) hb60)
    | (go_at_call 99; (with_reducible refine (n99 true _).mono ?_); rintro e w99 ⟨rfl, hb99⟩; have := Keep.call (R := []) (a := w) (by assumption) hb99)
    | (go_at_call 100; (with_reducible refine (n100 9 _).mono ?_); rintro e w100 ⟨rfl, hb100⟩; have := Keep.call (R := []) (a := w) (by assumption) hb100)
    | (go_at_call 57; (with_reducible refine (n57 _).mono ?_); rintro e w57 ⟨rfl, hb57⟩; have := Keep.call (R := []) (a := w) (by assumption) hb57)
    | (go_at_call 101; (with_reducible refine (n101 _).mono ?_); rintro e w101 ⟨rfl, hb101⟩; have := Keep.call (R := []) (a := w) (by assumption) hb101)
    | (go_at_call 102; (with_reducible refine (n102 _).mono ?_); rintro e w102 ⟨rfl, hb102⟩; have := Keep.call (R := []) (a := w) (by assumption) hb102)
    | (go_at_call 58; (with_reducible refine (n58 1 _).mono ?_); rintro e w58 ⟨rfl, hb58⟩; have := Keep.call (R := []) (a := w) (by assumption) hb58)
    | (go_at_call 64; (with_reducible refine (n64 _).mono ?_); rintro e w64 ⟨rfl, hb64⟩; have := Keep.call (R := []) (a := w) (by assumption) hb64)
    | (go_at_call 103; (with_reducible refine (n103 _).mono ?_); rintro e w103 ⟨rfl, hb103⟩; have := Keep.call (R := []) (a := w) (by assumption) hb103)
    | (go_at_call 61; (with_reducible refine (n61 _).mono ?_); rintro e w61 ⟨rfl, hb61⟩; have := Keep.call (R := []) (a := w) (by assumption) hb61)
    | (go_at_call 66; (with_reducible refine (n66_nn ⟨0, 0, none⟩ _).mono ?_); rintro e w66 ⟨rfl, hb66⟩; have := Keep.call (R := []) (a := w) (by assumption) hb66)
    | (go_at_call 104; (with_reducible refine (n104 _ _).mono ?_); rintro e w104 ⟨rfl, hb104⟩; have K104 := Keep.call (R := []) (a := w) (by assumption) hb104))
  go_ret
  exact ⟨rfl, K104.below⟩

set_option maxRecDepth 100000 in
set_option maxHeartbeats 4000000 in
theorem told_some {w : World} (M : Int) (hmm : 2 ≤ M ∧ M ≤ 5) (ta : Option Addr) (cap : Nat) (us : List Ac) (hA : Acts w ta us) (hul : us.length ≤ maxLen) (st : Int) (hst : 0 ≤ st ∧ st < 65536) :
    Calls Try.prog 15 #[.int .i64 M, .slice ta us.length cap, .int .u16 st] w fun e w' => e = .returned (.bool true) ∧ Below w.heap.size w w' := by
  have hul' : us.length ≤ 9223372036854775807 := hul
  have HA := Aside0.mk hA
  have HM := Aside0.mk hmm
  have HL := Aside0.mk hul'
  have HST := Aside0.mk hst
  have r1 := nil_eq
  have r2 := nil_ne
  have r3 := nil_ps
  have r4 := nil_sp
  have r5 := nil64_ne
  have r6 := nil64_eq
  have r7 := nil64_n
  have r8 := nil64_e
  have r9 := zero_ne
  have fd0 := field24_0
  have q59 : ∀ W, Calls Try.prog 59 #[.pointer none, .int .i64 1, .agg #[.int .u8 0, .bool false, .int .u8 0, .int .u8 0, .int .u8 0, .int .u8 0]] W fun e w' => e = .returned (.tuple #[]) ∧ Below W.heap.size W w' := fun W => n59 1 C.zero W
  clear hA hul hul' hmm hst
  go_enter Try.func15, Try.ntmps15
  go_wp2_with (first
    | (go_at_call 53; (with_reducible refine (awake12 _).mono ?_); rintro e w1 ⟨rfl, hb1⟩)
    | (go_at_call 54; go_loud (with_reducible refine (new_calls _ M HM.out).mono ?_); rintro e w2 ⟨p, b, rfl, hp, hb, hs, hk2⟩)
    | (go_at_call 55; go_loud (with_reducible refine (rnew_calls _ M HM.out).mono ?_); rintro e w3 ⟨q, d, rfl, hq, hd, hx, hk3⟩; have k3 : Keep [] w3 w3 := Keep.refl _ _)
    | (go_at_call 59; (with_reducible refine (q59 _).mono ?_); rintro e w59 ⟨rfl, hb59⟩; have := Keep.call (R := []) (a := w3) (by assumption) hb59)
    | (go_at_call 62; (with_reducible refine (n62 1 1 _).mono ?_); rintro e w62 ⟨rfl, hb62⟩; have := Keep.call (R := []) (a := w3) (by assumption) hb62)
    | (go_at_call 60; (with_reducible refine (n60 1 _).mono ?_); rintro e w60 ⟨rfl, hb60⟩; have := Keep.call (R := []) (a := w3) (by assumption) hb60)
    | (go_at_call 99; (with_reducible refine (n99 true _).mono ?_); rintro e w99 ⟨rfl, hb99⟩; have := Keep.call (R := []) (a := w3) (by assumption) hb99)
    | (go_at_call 100; (with_reducible refine (n100 9 _).mono ?_); rintro e w100 ⟨rfl, hb100⟩; have := Keep.call (R := []) (a := w3) (by assumption) hb100)
    | (go_at_call 57; (with_reducible refine (n57 _).mono ?_); rintro e w57 ⟨rfl, hb57⟩; have := Keep.call (R := []) (a := w3) (by assumption) hb57)
    | (go_at_call 101; (with_reducible refine (n101 _).mono ?_); rintro e w101 ⟨rfl, hb101⟩; have := Keep.call (R := []) (a := w3) (by assumption) hb101)
    | (go_at_call 102; (with_reducible refine (n102 _).mono ?_); rintro e w102 ⟨rfl, hb102⟩; have := Keep.call (R := []) (a := w3) (by assumption) hb102)
    | (go_at_call 58; (with_reducible refine (n58 1 _).mono ?_); rintro e w58 ⟨rfl, hb58⟩; have := Keep.call (R := []) (a := w3) (by assumption) hb58)
    | (go_at_call 64; (with_reducible refine (n64 _).mono ?_); rintro e w64 ⟨rfl, hb64⟩; have := Keep.call (R := []) (a := w3) (by assumption) hb64)
    | (go_at_call 103; (with_reducible refine (n103 _).mono ?_); rintro e w103 ⟨rfl, hb103⟩; have := Keep.call (R := []) (a := w3) (by assumption) hb103)
    | (go_at_call 61; (with_reducible refine (n61 _).mono ?_); rintro e w61 ⟨rfl, hb61⟩; have := Keep.call (R := []) (a := w3) (by assumption) hb61)
    | (go_at_call 66; (with_reducible refine (n66_nn ⟨0, 0, none⟩ _).mono ?_); rintro e w66 ⟨rfl, hb66⟩; have := Keep.call (R := []) (a := w3) (by assumption) hb66)
    | (go_at_call 66; (with_reducible refine (n66_ns _ _).mono ?_); rintro e w67 ⟨rfl, hb67⟩; have := Keep.call (R := []) (a := w3) (by assumption) hb67)
    | (go_at_call 104; (with_reducible refine (n104 _ _).mono ?_); rintro e w104 ⟨rfl, hb104⟩; have K104 := Keep.call (R := []) (a := w3) (by assumption) hb104))
  have W1 : Keep [] w w1 := (Keep.refl [] w).call hb1
  have W2 : Keep [] w w2 := W1.trans hk2 (by simp)
  have W3 : Keep [] w w3 := W2.trans hk3 (by simp)
  have hsp3 := hs.keep hk3 (by simp) (by simp)
  have plt : p < w2.heap.size := by obtain ⟨_, _, _, x, _⟩ := id hs; exact x.lt
  have blt : b < w2.heap.size := by obtain ⟨_, _, _, _, x⟩ := id hs; exact x.lt
  have s1 := W1.size
  have s2 := W2.size
  have T3 : Two w3 p b q d (S.clr M false) := ⟨hsp3, hx, by omega, by omega, by omega, by omega⟩
  have hk2s := hk2.size
  have hpq : w.heap.size ≤ p ∧ w.heap.size ≤ q ∧ w.heap.size ≤ b ∧ w.heap.size ≤ d := by omega
  have T3' := Aside0.mk (T3.keep K104 (by simp) (by simp) (by simp) (by simp))
  have K3' := Aside0.mk (W3.trans K104 (by simp))
  have PQ := Aside0.mk hpq
  clear T3 W1 W2 W3 hk2 hk3 hs hsp3 hx hb1 plt blt s1 s2 hp hb hq hd hpq hk2s K104
  go_loopg [116] us.length (fun kq v w' => ∃ (i b' d' : Nat), v = .int .i64 i ∧ Aside0 (kq = us.length - i ∧ i ≤ us.length) ∧ Aside0 (w.heap.size ≤ b' ∧ w.heap.size ≤ d') ∧ Aside0 (Two w' p b' q d' ((S.clr M false).acts (us.take (min i 20)))) ∧ Aside0 (Keep [] w w'))
  case atStart => exact ⟨0, b, d, rfl, ⟨rfl, Nat.zero_le _⟩, ⟨by have := PQ.out; omega⟩, T3', K3'⟩
  case round =>
    obtain ⟨i, b', d', rfl, HI, HS, HT2, HK⟩ := hrel
    obtain ⟨hi1, hi2⟩ := HI.out
    by_cases hc : (i : Int) < (us.length : Int)
    · have hcb : decide ((i : Int) < (us.length : Int)) = true := decide_eq_true hc
      have hil : i < us.length := by omega
      have hi0 : (0 : Int) ≤ (i : Int) := by omega
      have hul := HL.out
      obtain ⟨x, tt, cp, rfl, hcell⟩ := HA.out.2 i hil
      obtain ⟨htx, f0, f1, f2, f3, f4, f5, f6, f7, f8, f9, f10⟩ := hcell _ HK.out
      have hstep := Aside0.mk (S.acts_take (S.clr M false) us 20 i hil)
      have hfine := HA.out.1 us[i] (List.getElem_mem hil)
      have hok := Aside0.mk (S.ok.acts (us.take (min i 20)) (S.clr_ok M false HM.out) HM.out (fun y hy => HA.out.1 y (List.mem_of_mem_take hy)))
      have hmod := S.acts_model (us.take (min i 20)) (S.clr M false)
      generalize us[i] = a at *
      generalize (S.clr M false).acts (us.take (min i 20)) = t at *
      have hPQ := PQ.out
      have hS := HS.out
      have hTT : ∀ o W, Keep [p, b', q, d'] (wr.alloc o) W → TxRow W tt a.tx := fun o W k => (hcell W ((HK.out.alloc o).trans k (by intro y hy; right; simp at hy; omega))).1
      by_cases h2 : (i : Int) < 20
      · have h2b : decide ((i : Int) < 20) = true := decide_eq_true h2
        have hLD : ∀ o, Calls Try.prog 56 #[.pointer (some ⟨p, 0, none⟩), .pointer (some ⟨q, 0, none⟩), .agg #[.int .u8 a.d, .int .i64 a.n, .bool a.on, .int .u8 a.code, .int .u8 a.c.ch, .bool a.c.at_, .int .u8 a.c.fa, .int .u8 a.c.hi, .int .u8 a.c.co, .int .u8 a.c.se, .slice tt a.tx.length cp]] (wr.alloc o) (DoPost (wr.alloc o) p b' q d' t a) := fun o => ldo (HT2.out.call ((Below.refl _ wr).alloc (Nat.le_refl _) o)) hok.out (by rw [hmod]; exact HM.out) a hfine tt cp (hTT o)
        have we1 : wrap64 ((i : Int) + 1) = ((i + 1 : Nat) : Int) := by unfold wrap64; omega
        have WE1 := Aside0.mk we1
        have FA := Aside0.mk hfine
        have HC2 := Aside0.mk hcell
        clear we1 hfine hTT hPQ hS htx hcell hmod
        go_wp2_with (go_at_call 56; go_loud (with_reducible refine (hLD _).mono ?_); rintro e w5 ⟨rfl, b2, d2, hb2, hd2, hT5, hK5⟩)
        have hPQ := PQ.out
        have hS := HS.out
        have hks := HK.out.size
        have hsz1 : ∀ o, (wr.alloc o).heap.size = wr.heap.size + 1 := fun o => Array.size_push ..
        rw [hsz1] at hb2 hd2
        go_roundg (us.length - (i + 1))
        case measure => omega
        case rel =>
          refine ⟨i + 1, b2, d2, by first | rfl | (rw [WE1.out]), ⟨rfl, by omega⟩, ⟨by omega⟩, ⟨?_⟩, ⟨?_⟩⟩
          · rw [hstep.out, if_pos (by omega)]; exact hT5
          · exact (HK.out.alloc _).trans hK5 (by intro y hy; right; simp at hy; omega)
      · have h2b : decide ((i : Int) < 20) = false := decide_eq_false h2
        have we1 : wrap64 ((i : Int) + 1) = ((i + 1 : Nat) : Int) := by unfold wrap64; omega
        have WE1 := Aside0.mk we1
        have FA := Aside0.mk hfine
        have HC2 := Aside0.mk hcell
        clear we1 hfine hTT hPQ hS htx hcell hmod
        go_wp2
        go_roundg (us.length - (i + 1))
        case measure => omega
        case rel =>
          refine ⟨i + 1, b', d', by first | rfl | (rw [WE1.out]), ⟨rfl, by omega⟩, HS, ⟨?_⟩, ⟨HK.out.alloc _⟩⟩
          rw [hstep.out, if_neg (by omega)]; exact HT2.out.call ((Below.refl _ wr).alloc (Nat.le_refl _) _)
    · have hcb : decide ((i : Int) < (us.length : Int)) = false := decide_eq_false hc
      have hok := Aside0.mk (S.ok.acts (us.take (min i 20)) (S.clr_ok M false HM.out) HM.out (fun y hy => HA.out.1 y (List.mem_of_mem_take hy)))
      generalize (S.clr M false).acts (us.take (min i 20)) = s at *
      have ok := hok.out
      obtain ⟨_, _, hlN, hl1⟩ := ok.ix 0
      have h := HT2.out.1
      have h2 := HT2.out.2.1
      obtain ⟨dcap, ex, hdcap, rb1, rb2⟩ := id h2
      have hst := HST.out
      have t1 : st.tmod 2500 = st % 2500 := Int.tmod_eq_emod_of_nonneg hst.1
      obtain ⟨k, hk⟩ : ∃ k : Nat, (1 + st % 2500 : Int) = k := ⟨(1 + st % 2500).toNat, by omega⟩
      have hk1 : 1 ≤ k ∧ k ≤ 2500 := by omega
      have t2 : ∃ u, st % 2500 = u ∧ 0 ≤ u ∧ u < 2500 := ⟨_, rfl, by omega, by omega⟩
      obtain ⟨u, hu, hu0, hu1⟩ := t2
      rw [hu] at t1 hk
      have t3 : wrap64 u = u := by unfold wrap64; omega
      have t4 : wrap64 (1 + u) = (k : Int) := by unfold wrap64; omega
      have q105 := rattrs_calls h2 hlN
      have HH := Aside0.mk (And.intro h (And.intro h2 (And.intro rb1 rb2)))
      have HU := Aside0.mk (And.intro hu0 (And.intro hu1 hst))
      clear hst hu h h2 rb1 rb2 hu0 hu1
      go_wp2_with (go_at_call 105; (with_reducible refine q105.mono ?_); rintro e w2 ⟨v14, rfl, hv, hb2⟩)
      have kw := Aside0.mk (HK.out.call hb2)
      have h : PSp w2 p b' s := HH.out.1.call hb2
      have b1 := HH.out.2.2.1.call hb2
      have b2 := HH.out.2.2.2.call hb2
      have kd : ∀ W, Keep [] w2.drew W → Keep [] w2 W := fun W k => (Keep.refl [] w2).drew.trans k (by simp)
      obtain ⟨ta2, cp2, hve, hI2⟩ := hv.ints
      obtain ⟨L, hL⟩ : ∃ L, (atts s.l).length = L := ⟨_, rfl⟩
      have hcp : L ≤ cp2 ∧ (ta2 = none → L = 0 ∧ cp2 = 0) := by
        rcases hv.1.2 with ⟨e, h0⟩ | ⟨_, _, _, e, _, _, h5, _⟩
        · rw [hve] at e; injection e with e1 e2 e3; exact ⟨by omega, fun _ => ⟨by omega, e3⟩⟩
        · rw [hve] at e; injection e with e1 e2 e3; exact ⟨by omega, fun h => by rw [h] at e1; cases e1⟩
      rw [hL] at hve
      subst hve
      have IM := Aside0.mk hI2
      have hLb : L ≤ 3564 := by have := attsTo_length s.l s.l.length; rw [← hL]; unfold atts; omega
      obtain ⟨M2, hM2⟩ : ∃ M2, ((atts s.l).take 2).length = M2 := ⟨_, rfl⟩
      have hM2' : M2 = min 2 L := by rw [← hM2, List.length_take, hL]
      obtain ⟨N, hN⟩ : ∃ N, s.l.length = N := ⟨_, rfl⟩
      obtain ⟨K1, hK1⟩ : ∃ K1, (s.l.take k).length = K1 := ⟨_, rfl⟩
      have hK1' : K1 = min k N := by rw [← hK1, List.length_take, hN]
      rw [hN] at hlN hl1 hdcap
      have hne : s.l.take k ≠ [] := by intro e; rw [e] at hK1; simp at hK1; omega
      have i1 : (if (k : Int) < (N : Int) then (k : Int) else (N : Int)) = (K1 : Int) := by split <;> omega
      have i2 : (if (2 : Int) < (L : Int) then (2 : Int) else (L : Int)) = (M2 : Int) := by split <;> omega
      have i3 : (K1 : Int) ≤ (dcap : Int) := by omega
      have i4 : (M2 : Int) ≤ (cp2 : Int) := by omega
      have i5 : (0 : Int) ≤ (K1 : Int) := by omega
      have i6 : (0 : Int) ≤ (M2 : Int) := by omega
      have i7 : K1 ≤ dcap := by omega
      have i8 : M2 ≤ cp2 := by omega
      have x4 : ∀ W, Keep [] w2 W → W.cell? ⟨q, 4, none⟩ = some (.slice (some ⟨d', 0, none⟩) N dcap) := fun W kk => by rw [← hN]; exact (b1.keep kk (by simp)).cell 4
      have c100 : ∀ W, Keep [] w2 W → Calls Try.prog 100 #[.pointer (some ⟨p, 0, none⟩), .int .i64 (k : Int)] W fun e w' => ∃ v, e = .returned v ∧ CR w' w2.heap.size v (s.l.take k) ∧ Keep [] W w' := fun W kk =>
        (cells_calls (h.keep kk (by simp) (by simp)) ok k hk1.1).mono (fun e w' ⟨v, h1, h2, h3⟩ => ⟨v, h1, h2.lower kk.size, Keep.of_below h3 []⟩)
      have c106 : ∀ W v, Keep [] w2 W → CR W w2.heap.size v (s.l.take k) → Calls Try.prog 106 #[v, .slice (some ⟨d', 0, none⟩) K1 dcap] W fun e w' => e = .returned (.bool true) ∧ Below W.heap.size W w' := fun W v kk hc => by
        obtain ⟨g, cp, ex2, rfl, _, hb⟩ := hc.blk hne
        have hb3 := b2.keep kk (by simp)
        rw [flat_cut s.l k, List.append_assoc] at hb3
        have := equal_calls cp dcap hb hb3 (by rw [hK1]; omega) (by rw [hK1]; omega)
        rw [(leq_iff _ _).2 rfl, hK1] at this
        rw [hK1]; exact this
      have c107 : ∀ W, Keep [] w2 W → Calls Try.prog 107 #[.pointer (some ⟨p, 0, none⟩), .int .i64 2] W fun e w' => ∃ v, e = .returned v ∧ IR w' w2.heap.size v ((atts s.l).take 2) ∧ Keep [] W w' := fun W kk =>
        (attrs107_calls (h.keep kk (by simp) (by simp)) ok 2 (by decide) (by decide)).mono (fun e w' ⟨v, h1, h2, h3⟩ => ⟨v, h1, h2.lower kk.size, Keep.of_below h3 []⟩)
      have c78 : ∀ W v, Keep [] w2 W → IR W w2.heap.size v ((atts s.l).take 2) → Calls Try.prog 78 #[v, .slice ta2 M2 cp2] W fun e W' => e = .returned (.bool true) ∧ Below W.heap.size W W' := fun W v kk hv => by
        obtain ⟨tb, c, rfl, hI⟩ := hv.ints
        have := equal78_calls c cp2 hI ((IM.out.keep kk).take 2) (by rw [hM2]; omega)
        rw [hM2] at this ⊢
        exact this
      have c66 : ∀ W, Calls Try.prog 66 #[.pointer (some ⟨p, 0, none⟩), .pointer none] W fun e w' => e = .returned (.bool false) ∧ Below W.heap.size W w' := fun W => n66_sn ⟨p, 0, none⟩ W
      have mn1 := min_two (N : Int) (k : Int)
      have mn2 := min_two (L : Int) 2
      rw [i1] at mn1
      rw [i2] at mn2
      clear hv hb2 b1 b2 hL hM2 hN hK1 hI2 h hK1' hM2' hk1 hne hk t1 t3 t4
      rcases ta2 with _ | ad
      · obtain ⟨rfl, rfl⟩ := hcp.2 rfl
        have hM0 : M2 = 0 := by omega
        subst hM0
        have i9 : (if (2 : Int) < 0 then (2 : Int) else 0) = 0 := by simp
        apply wp_region_rel 165 [_, _, fun W v => CR W w2.heap.size v (s.l.take k), _, _, _, _, _, _, _, _, _, _, _, _, _, _, _, fun W v => IR W w2.heap.size v ((atts s.l).take 2), _, _, _, _, _, _, _, _, _, _, _, _, _] (by kernel_rfl) (by kernel_rfl) (Nat.le_refl _)
        case hO =>
          refine ⟨?o0, ?o1, ?o2, ?o3, ?o4, ?o5, ?o6, ?o7, ?o8, ?o9, ?o10, ?o11, ?o12, ?o13, ?o14, ?o15, ?o16, ?o17, ?o18, ?o19, ?o20, ?o21, ?o22, ?o23, ?o24, ?o25, ?o26, ?o27, ?o28, ?o29, ?o30, ?o31, trivial⟩
          case o0 =>
            apply obl_val
            case hd => rfl
            intro a W hK hF hD
            have e7 : a.tmps.getD 7 undef = _ := hF.word 7 (by kernel_rfl)
            have hK := kd W hK
            refine ⟨rfl, ?_⟩
            (go_simp; with_reducible rfl)
          case o1 =>
            apply obl_val
            case hd => rfl
            intro a W hK hF hD
            have e13 : a.tmps.getD 13 undef = _ := hF.word 13 (by kernel_rfl)
            have hK := kd W hK
            refine ⟨rfl, ?_⟩
            (go_simp; with_reducible rfl)
          case o2 =>
            refine obl_call _ (fun W W' v kk hh => hh.keep kk) rfl (fun a W hK hF hD => ?_)
            have e134 : a.tmps.getD 134 undef = _ := hD.1
            have e135 : a.tmps.getD 135 undef = _ := hD.2.1
            have hK := kd W hK
            refine ⟨rfl, ?_⟩
            apply enter_of
            case hr => (go_simp; first | exact ⟨rfl, rfl⟩ | rfl)
            case hc => exact c100 W hK
          case o3 =>
            apply obl_val
            case hd => rfl
            intro a W hK hF hD
            have e9 : a.tmps.getD 9 undef = _ := hF.word 9 (by kernel_rfl)
            have hK := kd W hK
            refine ⟨rfl, ?_⟩
            (go_simp; with_reducible rfl)
          case o4 =>
            apply obl_val
            case hd => rfl
            intro a W hK hF hD
            have e137 : a.tmps.getD 137 undef = _ := hD.1
            have hK := kd W hK
            refine ⟨rfl, ?_⟩
            (go_simp; with_reducible rfl)
          case o5 =>
            apply obl_val
            case hd => rfl
            intro a W hK hF hD
            have e138 : a.tmps.getD 138 undef = _ := hD.1
            have hK := kd W hK
            refine ⟨rfl, ?_⟩
            (go_simp; with_reducible rfl)
          case o6 =>
            apply obl_val
            case hd => rfl
            intro a W hK hF hD
            have e139 : a.tmps.getD 139 undef = _ := hD.1
            have hK := kd W hK
            refine ⟨rfl, ?_⟩
            (go_simp; with_reducible rfl)
          case o7 =>
            apply obl_val
            case hd => rfl
            intro a W hK hF hD
            have e9 : a.tmps.getD 9 undef = _ := hF.word 9 (by kernel_rfl)
            have hK := kd W hK
            refine ⟨rfl, ?_⟩
            (go_simp; with_reducible rfl)
          case o8 =>
            apply obl_val
            case hd => rfl
            intro a W hK hF hD
            have e141 : a.tmps.getD 141 undef = _ := hD.1
            have hK := kd W hK
            refine ⟨rfl, ?_⟩
            (go_simp; with_reducible rfl)
          case o9 =>
            apply obl_val
            case hd => rfl
            intro a W hK hF hD
            have e142 : a.tmps.getD 142 undef = _ := hD.1
            have hK := kd W hK
            refine ⟨rfl, ?_⟩
            (go_simp; with_reducible rfl)
          case o10 =>
            apply obl_val
            case hd => rfl
            intro a W hK hF hD
            have e143 : a.tmps.getD 143 undef = _ := hD.1
            have hK := kd W hK
            refine ⟨rfl, ?_⟩
            (go_simp; with_reducible rfl)
          case o11 =>
            apply obl_val
            case hd => rfl
            intro a W hK hF hD
            have e144 : a.tmps.getD 144 undef = _ := hD.1
            have hK := kd W hK
            refine ⟨rfl, ?_⟩
            (go_simp; with_reducible rfl)
          case o12 =>
            apply obl_val
            case hd => rfl
            intro a W hK hF hD
            have e13 : a.tmps.getD 13 undef = _ := hF.word 13 (by kernel_rfl)
            have hK := kd W hK
            refine ⟨rfl, ?_⟩
            (go_simp; with_reducible rfl)
          case o13 =>
            apply obl_val
            case hd => rfl
            intro a W hK hF hD
            have e145 : a.tmps.getD 145 undef = _ := hD.1
            have e146 : a.tmps.getD 146 undef = _ := hD.2.1
            have hK := kd W hK
            refine ⟨rfl, ?_⟩
            (go_simp; with_reducible rfl)
          case o14 =>
            apply obl_val
            case hd => rfl
            intro a W hK hF hD
            have e140 : a.tmps.getD 140 undef = _ := hD.1
            have e147 : a.tmps.getD 147 undef = _ := hD.2.1
            have hK := kd W hK
            refine ⟨rfl, ?_⟩
            (go_simp; with_reducible rfl)
          case o15 =>
            apply obl_quiet
            case hd => rfl
            intro a W hK hF hD
            have k2 := hD.1
            have e148 : a.tmps.getD 148 undef = _ := hD.2.1
            have hK := kd W hK
            have k2 : CR W _ (a.tmps.getD 136 undef) _ := hD.1
            obtain ⟨v136, e136⟩ : ∃ v, a.tmps.getD 136 undef = v := ⟨_, rfl⟩
            rw [e136] at k2
            refine ⟨rfl, ?_⟩
            apply enter_of
            case hr => (go_simp; first | exact ⟨rfl, rfl⟩ | rfl)
            case hc => exact c106 W _ hK k2
          case o16 =>
            apply obl_val
            case hd => rfl
            intro a W hK hF hD
            have e149 : a.tmps.getD 149 undef = _ := hD.1
            have hK := kd W hK
            refine ⟨rfl, ?_⟩
            (go_simp; with_reducible rfl)
          case o17 =>
            apply obl_val
            case hd => rfl
            intro a W hK hF hD
            have e150 : a.tmps.getD 150 undef = _ := hD.1
            have e7 : a.tmps.getD 7 undef = _ := hF.word 7 (by kernel_rfl)
            have hK := kd W hK
            refine ⟨⟨_, e150, rfl⟩, ?_⟩
            (go_simp; with_reducible rfl)
          case o18 =>
            refine obl_call _ (fun W W' v kk hh => hh.keep kk (by simp)) rfl (fun a W hK hF hD => ?_)
            have e151 : a.tmps.getD 151 undef = _ := hD.1
            have e150 : a.tmps.getD 150 undef = _ := hD.2.1
            have hK := kd W hK
            refine ⟨⟨_, e150, rfl⟩, ?_⟩
            apply enter_of
            case hr => (go_simp; first | exact ⟨rfl, rfl⟩ | rfl)
            case hc => exact c107 W hK
          case o19 =>
            apply obl_val
            case hd => rfl
            intro a W hK hF hD
            have e150 : a.tmps.getD 150 undef = _ := hD.1
            have e14 : a.tmps.getD 14 undef = _ := hF.word 14 (by kernel_rfl)
            have hK := kd W hK
            refine ⟨⟨_, e150, rfl⟩, ?_⟩
            (go_simp; with_reducible rfl)
          case o20 =>
            apply obl_val
            case hd => rfl
            intro a W hK hF hD
            have e150 : a.tmps.getD 150 undef = _ := hD.1
            have e14 : a.tmps.getD 14 undef = _ := hF.word 14 (by kernel_rfl)
            have hK := kd W hK
            refine ⟨⟨_, e150, rfl⟩, ?_⟩
            (go_simp; with_reducible rfl)
          case o21 =>
            apply obl_val
            case hd => rfl
            intro a W hK hF hD
            have e154 : a.tmps.getD 154 undef = _ := hD.1
            have e150 : a.tmps.getD 150 undef = _ := hD.2.1
            have hK := kd W hK
            refine ⟨⟨_, e150, rfl⟩, ?_⟩
            (go_simp; with_reducible rfl)
          case o22 =>
            apply obl_val
            case hd => rfl
            intro a W hK hF hD
            have e155 : a.tmps.getD 155 undef = _ := hD.1
            have e150 : a.tmps.getD 150 undef = _ := hD.2.1
            have hK := kd W hK
            refine ⟨⟨_, e150, rfl⟩, ?_⟩
            (go_simp; with_reducible rfl)
          case o23 =>
            apply obl_val
            case hd => rfl
            intro a W hK hF hD
            have e153 : a.tmps.getD 153 undef = _ := hD.1
            have e156 : a.tmps.getD 156 undef = _ := hD.2.1
            have e150 : a.tmps.getD 150 undef = _ := hD.2.2.1
            have hK := kd W hK
            refine ⟨⟨_, e150, rfl⟩, ?_⟩
            (go_simp; with_reducible rfl)
          case o24 =>
            apply obl_quiet
            case hd => rfl
            intro a W hK hF hD
            have k18 := hD.1
            have e157 : a.tmps.getD 157 undef = _ := hD.2.1
            have e150 : a.tmps.getD 150 undef = _ := hD.2.2.2.1
            have hK := kd W hK
            have k18 : IR W _ (a.tmps.getD 152 undef) _ := hD.1
            obtain ⟨v152, e152⟩ : ∃ v, a.tmps.getD 152 undef = v := ⟨_, rfl⟩
            rw [e152] at k18
            refine ⟨⟨_, e150, rfl⟩, ?_⟩
            apply enter_of
            case hr => (go_simp; first | exact ⟨rfl, rfl⟩ | rfl)
            case hc => exact c78 W _ hK k18
          case o25 =>
            apply obl_val
            case hd => rfl
            intro a W hK hF hD
            have e150 : a.tmps.getD 150 undef = _ := hD.1
            have e158 : a.tmps.getD 158 undef = _ := hD.2.1
            have hK := kd W hK
            refine ⟨rfl, ?_⟩
            (go_simp; with_reducible rfl)
          case o26 =>
            apply obl_val
            case hd => rfl
            intro a W hK hF hD
            have e159 : a.tmps.getD 159 undef = _ := hD.1
            have e158 : a.tmps.getD 158 undef = _ := hD.2.1
            have hK := kd W hK
            refine ⟨rfl, ?_⟩
            (go_simp; with_reducible rfl)
          case o27 =>
            apply obl_val
            case hd => rfl
            intro a W hK hF hD
            have e160 : a.tmps.getD 160 undef = _ := hD.1
            have e7 : a.tmps.getD 7 undef = _ := hF.word 7 (by kernel_rfl)
            have hK := kd W hK
            refine ⟨⟨_, e160, rfl⟩, ?_⟩
            (go_simp; with_reducible rfl)
          case o28 =>
            apply obl_quiet
            case hd => rfl
            intro a W hK hF hD
            have e161 : a.tmps.getD 161 undef = _ := hD.1
            have e160 : a.tmps.getD 160 undef = _ := hD.2.1
            refine ⟨⟨_, e160, rfl⟩, ?_⟩
            apply enter_of
            case hr => (go_simp; first | exact ⟨rfl, rfl⟩ | rfl)
            case hc =>
              first
                | exact c66 W
          case o29 =>
            apply obl_val
            case hd => rfl
            intro a W hK hF hD
            have e162 : a.tmps.getD 162 undef = _ := hD.1
            have e160 : a.tmps.getD 160 undef = _ := hD.2.1
            have hK := kd W hK
            refine ⟨⟨_, e160, rfl⟩, ?_⟩
            (go_simp; with_reducible rfl)
          case o30 =>
            apply obl_val
            case hd => rfl
            intro a W hK hF hD
            have e160 : a.tmps.getD 160 undef = _ := hD.1
            have e163 : a.tmps.getD 163 undef = _ := hD.2.1
            have hK := kd W hK
            refine ⟨rfl, ?_⟩
            (go_simp; with_reducible rfl)
          case o31 =>
            apply obl_val
            case hd => rfl
            intro a W hK hF hD
            have e164 : a.tmps.getD 164 undef = _ := hD.1
            have e162 : a.tmps.getD 162 undef = _ := hD.2.1
            have e134 : a.tmps.getD 134 undef = _ := hD.2.2.1
            have e135 : a.tmps.getD 135 undef = _ := hD.2.2.2.1
            have k2 := hD.2.2.2.2.1
            have e137 : a.tmps.getD 137 undef = _ := hD.2.2.2.2.2.1
            have e138 : a.tmps.getD 138 undef = _ := hD.2.2.2.2.2.2.1
            have e139 : a.tmps.getD 139 undef = _ := hD.2.2.2.2.2.2.2.1
            have e140 : a.tmps.getD 140 undef = _ := hD.2.2.2.2.2.2.2.2.1
            have e141 : a.tmps.getD 141 undef = _ := hD.2.2.2.2.2.2.2.2.2.1
            have e142 : a.tmps.getD 142 undef = _ := hD.2.2.2.2.2.2.2.2.2.2.1
            have e143 : a.tmps.getD 143 undef = _ := hD.2.2.2.2.2.2.2.2.2.2.2.1
            have e144 : a.tmps.getD 144 undef = _ := hD.2.2.2.2.2.2.2.2.2.2.2.2.1
            have e145 : a.tmps.getD 145 undef = _ := hD.2.2.2.2.2.2.2.2.2.2.2.2.2.1
            have e146 : a.tmps.getD 146 undef = _ := hD.2.2.2.2.2.2.2.2.2.2.2.2.2.2.1
            have e147 : a.tmps.getD 147 undef = _ := hD.2.2.2.2.2.2.2.2.2.2.2.2.2.2.2.1
            have e148 : a.tmps.getD 148 undef = _ := hD.2.2.2.2.2.2.2.2.2.2.2.2.2.2.2.2.1
            have e149 : a.tmps.getD 149 undef = _ := hD.2.2.2.2.2.2.2.2.2.2.2.2.2.2.2.2.2.1
            have e150 : a.tmps.getD 150 undef = _ := hD.2.2.2.2.2.2.2.2.2.2.2.2.2.2.2.2.2.2.1
            have e151 : a.tmps.getD 151 undef = _ := hD.2.2.2.2.2.2.2.2.2.2.2.2.2.2.2.2.2.2.2.1
            have k18 := hD.2.2.2.2.2.2.2.2.2.2.2.2.2.2.2.2.2.2.2.2.1
            have e153 : a.tmps.getD 153 undef = _ := hD.2.2.2.2.2.2.2.2.2.2.2.2.2.2.2.2.2.2.2.2.2.1
            have e154 : a.tmps.getD 154 undef = _ := hD.2.2.2.2.2.2.2.2.2.2.2.2.2.2.2.2.2.2.2.2.2.2.1
            have e155 : a.tmps.getD 155 undef = _ := hD.2.2.2.2.2.2.2.2.2.2.2.2.2.2.2.2.2.2.2.2.2.2.2.1
            have e156 : a.tmps.getD 156 undef = _ := hD.2.2.2.2.2.2.2.2.2.2.2.2.2.2.2.2.2.2.2.2.2.2.2.2.1
            have e157 : a.tmps.getD 157 undef = _ := hD.2.2.2.2.2.2.2.2.2.2.2.2.2.2.2.2.2.2.2.2.2.2.2.2.2.1
            have e158 : a.tmps.getD 158 undef = _ := hD.2.2.2.2.2.2.2.2.2.2.2.2.2.2.2.2.2.2.2.2.2.2.2.2.2.2.1
            have e159 : a.tmps.getD 159 undef = _ := hD.2.2.2.2.2.2.2.2.2.2.2.2.2.2.2.2.2.2.2.2.2.2.2.2.2.2.2.1
            have e160 : a.tmps.getD 160 undef = _ := hD.2.2.2.2.2.2.2.2.2.2.2.2.2.2.2.2.2.2.2.2.2.2.2.2.2.2.2.2.1
            have e161 : a.tmps.getD 161 undef = _ := hD.2.2.2.2.2.2.2.2.2.2.2.2.2.2.2.2.2.2.2.2.2.2.2.2.2.2.2.2.2.1
            have e163 : a.tmps.getD 163 undef = _ := hD.2.2.2.2.2.2.2.2.2.2.2.2.2.2.2.2.2.2.2.2.2.2.2.2.2.2.2.2.2.2.2.1
            have hK := kd W hK
            refine ⟨rfl, ?_⟩
            (go_simp; with_reducible rfl)
        case hQ =>
          intro a W hK hF hD
          have e134 : a.tmps.getD 134 undef = _ := hD.1
          have e135 : a.tmps.getD 135 undef = _ := hD.2.1
          obtain ⟨v136, e136⟩ : ∃ v, a.tmps.getD 136 undef = v := ⟨_, rfl⟩
          have e137 : a.tmps.getD 137 undef = _ := hD.2.2.2.1
          have e138 : a.tmps.getD 138 undef = _ := hD.2.2.2.2.1
          have e139 : a.tmps.getD 139 undef = _ := hD.2.2.2.2.2.1
          have e140 : a.tmps.getD 140 undef = _ := hD.2.2.2.2.2.2.1
          have e141 : a.tmps.getD 141 undef = _ := hD.2.2.2.2.2.2.2.1
          have e142 : a.tmps.getD 142 undef = _ := hD.2.2.2.2.2.2.2.2.1
          have e143 : a.tmps.getD 143 undef = _ := hD.2.2.2.2.2.2.2.2.2.1
          have e144 : a.tmps.getD 144 undef = _ := hD.2.2.2.2.2.2.2.2.2.2.1
          have e145 : a.tmps.getD 145 undef = _ := hD.2.2.2.2.2.2.2.2.2.2.2.1
          have e146 : a.tmps.getD 146 undef = _ := hD.2.2.2.2.2.2.2.2.2.2.2.2.1
          have e147 : a.tmps.getD 147 undef = _ := hD.2.2.2.2.2.2.2.2.2.2.2.2.2.1
          have e148 : a.tmps.getD 148 undef = _ := hD.2.2.2.2.2.2.2.2.2.2.2.2.2.2.1
          have e149 : a.tmps.getD 149 undef = _ := hD.2.2.2.2.2.2.2.2.2.2.2.2.2.2.2.1
          have e150 : a.tmps.getD 150 undef = _ := hD.2.2.2.2.2.2.2.2.2.2.2.2.2.2.2.2.1
          have e151 : a.tmps.getD 151 undef = _ := hD.2.2.2.2.2.2.2.2.2.2.2.2.2.2.2.2.2.1
          obtain ⟨v152, e152⟩ : ∃ v, a.tmps.getD 152 undef = v := ⟨_, rfl⟩
          have e153 : a.tmps.getD 153 undef = _ := hD.2.2.2.2.2.2.2.2.2.2.2.2.2.2.2.2.2.2.2.1
          have e154 : a.tmps.getD 154 undef = _ := hD.2.2.2.2.2.2.2.2.2.2.2.2.2.2.2.2.2.2.2.2.1
          have e155 : a.tmps.getD 155 undef = _ := hD.2.2.2.2.2.2.2.2.2.2.2.2.2.2.2.2.2.2.2.2.2.1
          have e156 : a.tmps.getD 156 undef = _ := hD.2.2.2.2.2.2.2.2.2.2.2.2.2.2.2.2.2.2.2.2.2.2.1
          have e157 : a.tmps.getD 157 undef = _ := hD.2.2.2.2.2.2.2.2.2.2.2.2.2.2.2.2.2.2.2.2.2.2.2.1
          have e158 : a.tmps.getD 158 undef = _ := hD.2.2.2.2.2.2.2.2.2.2.2.2.2.2.2.2.2.2.2.2.2.2.2.2.1
          have e159 : a.tmps.getD 159 undef = _ := hD.2.2.2.2.2.2.2.2.2.2.2.2.2.2.2.2.2.2.2.2.2.2.2.2.2.1
          have e160 : a.tmps.getD 160 undef = _ := hD.2.2.2.2.2.2.2.2.2.2.2.2.2.2.2.2.2.2.2.2.2.2.2.2.2.2.1
          have e161 : a.tmps.getD 161 undef = _ := hD.2.2.2.2.2.2.2.2.2.2.2.2.2.2.2.2.2.2.2.2.2.2.2.2.2.2.2.1
          have e162 : a.tmps.getD 162 undef = _ := hD.2.2.2.2.2.2.2.2.2.2.2.2.2.2.2.2.2.2.2.2.2.2.2.2.2.2.2.2.1
          have e163 : a.tmps.getD 163 undef = _ := hD.2.2.2.2.2.2.2.2.2.2.2.2.2.2.2.2.2.2.2.2.2.2.2.2.2.2.2.2.2.1
          have e164 : a.tmps.getD 164 undef = _ := hD.2.2.2.2.2.2.2.2.2.2.2.2.2.2.2.2.2.2.2.2.2.2.2.2.2.2.2.2.2.2.1
          have e6 : a.tmps.getD 6 undef = _ := hD.2.2.2.2.2.2.2.2.2.2.2.2.2.2.2.2.2.2.2.2.2.2.2.2.2.2.2.2.2.2.2.1
          have e0 : a.tmps.getD 0 undef = _ := hF.word 0 (by kernel_rfl)
          have e1 : a.tmps.getD 1 undef = _ := hF.word 1 (by kernel_rfl)
          have e2 : a.tmps.getD 2 undef = _ := hF.word 2 (by kernel_rfl)
          have e3 : a.tmps.getD 3 undef = _ := hF.word 3 (by kernel_rfl)
          have e4 : a.tmps.getD 4 undef = _ := hF.word 4 (by kernel_rfl)
          have e5 : a.tmps.getD 5 undef = _ := hF.word 5 (by kernel_rfl)
          have e7 : a.tmps.getD 7 undef = _ := hF.word 7 (by kernel_rfl)
          have e8 : a.tmps.getD 8 undef = _ := hF.word 8 (by kernel_rfl)
          have e9 : a.tmps.getD 9 undef = _ := hF.word 9 (by kernel_rfl)
          have e10 : a.tmps.getD 10 undef = _ := hF.word 10 (by kernel_rfl)
          have e11 : a.tmps.getD 11 undef = _ := hF.word 11 (by kernel_rfl)
          have e12 : a.tmps.getD 12 undef = _ := hF.word 12 (by kernel_rfl)
          have e13 : a.tmps.getD 13 undef = _ := hF.word 13 (by kernel_rfl)
          have e14 : a.tmps.getD 14 undef = _ := hF.word 14 (by kernel_rfl)
          have e15 : a.tmps.getD 15 undef = _ := hF.word 15 (by kernel_rfl)
          have e16 : a.tmps.getD 16 undef = _ := hF.word 16 (by kernel_rfl)
          have e17 : a.tmps.getD 17 undef = _ := hF.word 17 (by kernel_rfl)
          have e18 : a.tmps.getD 18 undef = _ := hF.word 18 (by kernel_rfl)
          have e19 : a.tmps.getD 19 undef = _ := hF.word 19 (by kernel_rfl)
          have e20 : a.tmps.getD 20 undef = _ := hF.word 20 (by kernel_rfl)
          have e21 : a.tmps.getD 21 undef = _ := hF.word 21 (by kernel_rfl)
          have e22 : a.tmps.getD 22 undef = _ := hF.word 22 (by kernel_rfl)
          have e23 : a.tmps.getD 23 undef = _ := hF.word 23 (by kernel_rfl)
          have e24 : a.tmps.getD 24 undef = _ := hF.word 24 (by kernel_rfl)
          have e25 : a.tmps.getD 25 undef = _ := hF.word 25 (by kernel_rfl)
          have e26 : a.tmps.getD 26 undef = _ := hF.word 26 (by kernel_rfl)
          have e27 : a.tmps.getD 27 undef = _ := hF.word 27 (by kernel_rfl)
          have e28 : a.tmps.getD 28 undef = _ := hF.word 28 (by kernel_rfl)
          have e29 : a.tmps.getD 29 undef = _ := hF.word 29 (by kernel_rfl)
          have e30 : a.tmps.getD 30 undef = _ := hF.word 30 (by kernel_rfl)
          have e31 : a.tmps.getD 31 undef = _ := hF.word 31 (by kernel_rfl)
          have e32 : a.tmps.getD 32 undef = _ := hF.word 32 (by kernel_rfl)
          have e33 : a.tmps.getD 33 undef = _ := hF.word 33 (by kernel_rfl)
          have e34 : a.tmps.getD 34 undef = _ := hF.word 34 (by kernel_rfl)
          have e35 : a.tmps.getD 35 undef = _ := hF.word 35 (by kernel_rfl)
          have e36 : a.tmps.getD 36 undef = _ := hF.word 36 (by kernel_rfl)
          have e37 : a.tmps.getD 37 undef = _ := hF.word 37 (by kernel_rfl)
          have e38 : a.tmps.getD 38 undef = _ := hF.word 38 (by kernel_rfl)
          have e39 : a.tmps.getD 39 undef = _ := hF.word 39 (by kernel_rfl)
          have e40 : a.tmps.getD 40 undef = _ := hF.word 40 (by kernel_rfl)
          have e41 : a.tmps.getD 41 undef = _ := hF.word 41 (by kernel_rfl)
          have e42 : a.tmps.getD 42 undef = _ := hF.word 42 (by kernel_rfl)
          have e43 : a.tmps.getD 43 undef = _ := hF.word 43 (by kernel_rfl)
          have e44 : a.tmps.getD 44 undef = _ := hF.word 44 (by kernel_rfl)
          have e45 : a.tmps.getD 45 undef = _ := hF.word 45 (by kernel_rfl)
          have e46 : a.tmps.getD 46 undef = _ := hF.word 46 (by kernel_rfl)
          have e47 : a.tmps.getD 47 undef = _ := hF.word 47 (by kernel_rfl)
          have e48 : a.tmps.getD 48 undef = _ := hF.word 48 (by kernel_rfl)
          have e49 : a.tmps.getD 49 undef = _ := hF.word 49 (by kernel_rfl)
          have e50 : a.tmps.getD 50 undef = _ := hF.word 50 (by kernel_rfl)
          have e51 : a.tmps.getD 51 undef = _ := hF.word 51 (by kernel_rfl)
          have e52 : a.tmps.getD 52 undef = _ := hF.word 52 (by kernel_rfl)
          have e53 : a.tmps.getD 53 undef = _ := hF.word 53 (by kernel_rfl)
          have e54 : a.tmps.getD 54 undef = _ := hF.word 54 (by kernel_rfl)
          have e55 : a.tmps.getD 55 undef = _ := hF.word 55 (by kernel_rfl)
          have e56 : a.tmps.getD 56 undef = _ := hF.word 56 (by kernel_rfl)
          have e57 : a.tmps.getD 57 undef = _ := hF.word 57 (by kernel_rfl)
          have e58 : a.tmps.getD 58 undef = _ := hF.word 58 (by kernel_rfl)
          have e59 : a.tmps.getD 59 undef = _ := hF.word 59 (by kernel_rfl)
          have e60 : a.tmps.getD 60 undef = _ := hF.word 60 (by kernel_rfl)
          have e61 : a.tmps.getD 61 undef = _ := hF.word 61 (by kernel_rfl)
          have e62 : a.tmps.getD 62 undef = _ := hF.word 62 (by kernel_rfl)
          have e63 : a.tmps.getD 63 undef = _ := hF.word 63 (by kernel_rfl)
          have e64 : a.tmps.getD 64 undef = _ := hF.word 64 (by kernel_rfl)
          have e65 : a.tmps.getD 65 undef = _ := hF.word 65 (by kernel_rfl)
          have e66 : a.tmps.getD 66 undef = _ := hF.word 66 (by kernel_rfl)
          have e67 : a.tmps.getD 67 undef = _ := hF.word 67 (by kernel_rfl)
          have e68 : a.tmps.getD 68 undef = _ := hF.word 68 (by kernel_rfl)
          have e69 : a.tmps.getD 69 undef = _ := hF.word 69 (by kernel_rfl)
          have e70 : a.tmps.getD 70 undef = _ := hF.word 70 (by kernel_rfl)
          have e71 : a.tmps.getD 71 undef = _ := hF.word 71 (by kernel_rfl)
          have e72 : a.tmps.getD 72 undef = _ := hF.word 72 (by kernel_rfl)
          have e73 : a.tmps.getD 73 undef = _ := hF.word 73 (by kernel_rfl)
          have e74 : a.tmps.getD 74 undef = _ := hF.word 74 (by kernel_rfl)
          have e75 : a.tmps.getD 75 undef = _ := hF.word 75 (by kernel_rfl)
          have e76 : a.tmps.getD 76 undef = _ := hF.word 76 (by kernel_rfl)
          have e77 : a.tmps.getD 77 undef = _ := hF.word 77 (by kernel_rfl)
          have e78 : a.tmps.getD 78 undef = _ := hF.word 78 (by kernel_rfl)
          have e79 : a.tmps.getD 79 undef = _ := hF.word 79 (by kernel_rfl)
          have e80 : a.tmps.getD 80 undef = _ := hF.word 80 (by kernel_rfl)
          have e81 : a.tmps.getD 81 undef = _ := hF.word 81 (by kernel_rfl)
          have e82 : a.tmps.getD 82 undef = _ := hF.word 82 (by kernel_rfl)
          have e83 : a.tmps.getD 83 undef = _ := hF.word 83 (by kernel_rfl)
          have e84 : a.tmps.getD 84 undef = _ := hF.word 84 (by kernel_rfl)
          have e85 : a.tmps.getD 85 undef = _ := hF.word 85 (by kernel_rfl)
          have e86 : a.tmps.getD 86 undef = _ := hF.word 86 (by kernel_rfl)
          have e87 : a.tmps.getD 87 undef = _ := hF.word 87 (by kernel_rfl)
          have e88 : a.tmps.getD 88 undef = _ := hF.word 88 (by kernel_rfl)
          have e89 : a.tmps.getD 89 undef = _ := hF.word 89 (by kernel_rfl)
          have e90 : a.tmps.getD 90 undef = _ := hF.word 90 (by kernel_rfl)
          have e91 : a.tmps.getD 91 undef = _ := hF.word 91 (by kernel_rfl)
          have e92 : a.tmps.getD 92 undef = _ := hF.word 92 (by kernel_rfl)
          have e93 : a.tmps.getD 93 undef = _ := hF.word 93 (by kernel_rfl)
          have e94 : a.tmps.getD 94 undef = _ := hF.word 94 (by kernel_rfl)
          have e95 : a.tmps.getD 95 undef = _ := hF.word 95 (by kernel_rfl)
          have e96 : a.tmps.getD 96 undef = _ := hF.word 96 (by kernel_rfl)
          have e97 : a.tmps.getD 97 undef = _ := hF.word 97 (by kernel_rfl)
          have e98 : a.tmps.getD 98 undef = _ := hF.word 98 (by kernel_rfl)
          have e99 : a.tmps.getD 99 undef = _ := hF.word 99 (by kernel_rfl)
          have e100 : a.tmps.getD 100 undef = _ := hF.word 100 (by kernel_rfl)
          have e101 : a.tmps.getD 101 undef = _ := hF.word 101 (by kernel_rfl)
          have e102 : a.tmps.getD 102 undef = _ := hF.word 102 (by kernel_rfl)
          have e103 : a.tmps.getD 103 undef = _ := hF.word 103 (by kernel_rfl)
          have e104 : a.tmps.getD 104 undef = _ := hF.word 104 (by kernel_rfl)
          have e105 : a.tmps.getD 105 undef = _ := hF.word 105 (by kernel_rfl)
          have e106 : a.tmps.getD 106 undef = _ := hF.word 106 (by kernel_rfl)
          have e107 : a.tmps.getD 107 undef = _ := hF.word 107 (by kernel_rfl)
          have e108 : a.tmps.getD 108 undef = _ := hF.word 108 (by kernel_rfl)
          have e109 : a.tmps.getD 109 undef = _ := hF.word 109 (by kernel_rfl)
          have e110 : a.tmps.getD 110 undef = _ := hF.word 110 (by kernel_rfl)
          have e111 : a.tmps.getD 111 undef = _ := hF.word 111 (by kernel_rfl)
          have e112 : a.tmps.getD 112 undef = _ := hF.word 112 (by kernel_rfl)
          have e113 : a.tmps.getD 113 undef = _ := hF.word 113 (by kernel_rfl)
          have e114 : a.tmps.getD 114 undef = _ := hF.word 114 (by kernel_rfl)
          have e115 : a.tmps.getD 115 undef = _ := hF.word 115 (by kernel_rfl)
          have e116 : a.tmps.getD 116 undef = _ := hF.word 116 (by kernel_rfl)
          have e117 : a.tmps.getD 117 undef = _ := hF.word 117 (by kernel_rfl)
          have e118 : a.tmps.getD 118 undef = _ := hF.word 118 (by kernel_rfl)
          have e119 : a.tmps.getD 119 undef = _ := hF.word 119 (by kernel_rfl)
          have e120 : a.tmps.getD 120 undef = _ := hF.word 120 (by kernel_rfl)
          have e121 : a.tmps.getD 121 undef = _ := hF.word 121 (by kernel_rfl)
          have e122 : a.tmps.getD 122 undef = _ := hF.word 122 (by kernel_rfl)
          have e123 : a.tmps.getD 123 undef = _ := hF.word 123 (by kernel_rfl)
          have e124 : a.tmps.getD 124 undef = _ := hF.word 124 (by kernel_rfl)
          have e125 : a.tmps.getD 125 undef = _ := hF.word 125 (by kernel_rfl)
          have e126 : a.tmps.getD 126 undef = _ := hF.word 126 (by kernel_rfl)
          have e127 : a.tmps.getD 127 undef = _ := hF.word 127 (by kernel_rfl)
          have e128 : a.tmps.getD 128 undef = _ := hF.word 128 (by kernel_rfl)
          have e129 : a.tmps.getD 129 undef = _ := hF.word 129 (by kernel_rfl)
          have e130 : a.tmps.getD 130 undef = _ := hF.word 130 (by kernel_rfl)
          have e131 : a.tmps.getD 131 undef = _ := hF.word 131 (by kernel_rfl)
          have e132 : a.tmps.getD 132 undef = _ := hF.word 132 (by kernel_rfl)
          have e133 : a.tmps.getD 133 undef = _ := hF.word 133 (by kernel_rfl)
          have ha := act_of (l := [_, _, _, _, _, _, _, _, _, _, _, _, _, _, _, _, _, _, _, _, _, _, _, _, _, _, _, _, _, _, _, _, _, _, _, _, _, _, _, _, _, _, _, _, _, _, _, _, _, _, _, _, _, _, _, _, _, _, _, _, _, _, _, _, _, _, _, _, _, _, _, _, _, _, _, _, _, _, _, _, _, _, _, _, _, _, _, _, _, _, _, _, _, _, _, _, _, _, _, _, _, _, _, _, _, _, _, _, _, _, _, _, _, _, _, _, _, _, _, _, _, _, _, _, _, _, _, _, _, _, _, _, _, _, _, _, _, _, _, _, _, _, _, _, _, _, _, _, _, _, _, _, _, _, _, _, _, _, _, _, _, _, _, _, _]) (by rw [hF.size]; rfl) hF.defers ⟨e0, e1, e2, e3, e4, e5, e6, e7, e8, e9, e10, e11, e12, e13, e14, e15, e16, e17, e18, e19, e20, e21, e22, e23, e24, e25, e26, e27, e28, e29, e30, e31, e32, e33, e34, e35, e36, e37, e38, e39, e40, e41, e42, e43, e44, e45, e46, e47, e48, e49, e50, e51, e52, e53, e54, e55, e56, e57, e58, e59, e60, e61, e62, e63, e64, e65, e66, e67, e68, e69, e70, e71, e72, e73, e74, e75, e76, e77, e78, e79, e80, e81, e82, e83, e84, e85, e86, e87, e88, e89, e90, e91, e92, e93, e94, e95, e96, e97, e98, e99, e100, e101, e102, e103, e104, e105, e106, e107, e108, e109, e110, e111, e112, e113, e114, e115, e116, e117, e118, e119, e120, e121, e122, e123, e124, e125, e126, e127, e128, e129, e130, e131, e132, e133, e134, e135, e136, e137, e138, e139, e140, e141, e142, e143, e144, e145, e146, e147, e148, e149, e150, e151, e152, e153, e154, e155, e156, e157, e158, e159, e160, e161, e162, e163, e164, trivial⟩
          clear hF hD e0 e1 e2 e3 e4 e5 e6 e7 e8 e9 e10 e11 e12 e13 e14 e15 e16 e17 e18 e19 e20 e21 e22 e23 e24 e25 e26 e27 e28 e29 e30 e31 e32 e33 e34 e35 e36 e37 e38 e39 e40 e41 e42 e43 e44 e45 e46 e47 e48 e49 e50 e51 e52 e53 e54 e55 e56 e57 e58 e59 e60 e61 e62 e63 e64 e65 e66 e67 e68 e69 e70 e71 e72 e73 e74 e75 e76 e77 e78 e79 e80 e81 e82 e83 e84 e85 e86 e87 e88 e89 e90 e91 e92 e93 e94 e95 e96 e97 e98 e99 e100 e101 e102 e103 e104 e105 e106 e107 e108 e109 e110 e111 e112 e113 e114 e115 e116 e117 e118 e119 e120 e121 e122 e123 e124 e125 e126 e127 e128 e129 e130 e131 e132 e133 e134 e135 e136 e137 e138 e139 e140 e141 e142 e143 e144 e145 e146 e147 e148 e149 e150 e151 e152 e153 e154 e155 e156 e157 e158 e159 e160 e161 e162 e163 e164
          subst ha
          have hKa := kd W hK
          clear hK kd
          go_wp2
          go_ret
          exact ⟨rfl, (kw.out.trans hKa (by simp)).below⟩
      · clear hcp
        apply wp_region_rel 165 [_, _, fun W v => CR W w2.heap.size v (s.l.take k), _, _, _, _, _, _, _, _, _, _, _, _, _, _, _, fun W v => IR W w2.heap.size v ((atts s.l).take 2), _, _, _, _, _, _, _, _, _, _, _, _, _] (by kernel_rfl) (by kernel_rfl) (Nat.le_refl _)
        case hO =>
          refine ⟨?o0, ?o1, ?o2, ?o3, ?o4, ?o5, ?o6, ?o7, ?o8, ?o9, ?o10, ?o11, ?o12, ?o13, ?o14, ?o15, ?o16, ?o17, ?o18, ?o19, ?o20, ?o21, ?o22, ?o23, ?o24, ?o25, ?o26, ?o27, ?o28, ?o29, ?o30, ?o31, trivial⟩
          case o0 =>
            apply obl_val
            case hd => rfl
            intro a W hK hF hD
            have e7 : a.tmps.getD 7 undef = _ := hF.word 7 (by kernel_rfl)
            have hK := kd W hK
            refine ⟨rfl, ?_⟩
            (go_simp; with_reducible rfl)
          case o1 =>
            apply obl_val
            case hd => rfl
            intro a W hK hF hD
            have e13 : a.tmps.getD 13 undef = _ := hF.word 13 (by kernel_rfl)
            have hK := kd W hK
            refine ⟨rfl, ?_⟩
            (go_simp; with_reducible rfl)
          case o2 =>
            refine obl_call _ (fun W W' v kk hh => hh.keep kk) rfl (fun a W hK hF hD => ?_)
            have e134 : a.tmps.getD 134 undef = _ := hD.1
            have e135 : a.tmps.getD 135 undef = _ := hD.2.1
            have hK := kd W hK
            refine ⟨rfl, ?_⟩
            apply enter_of
            case hr => (go_simp; first | exact ⟨rfl, rfl⟩ | rfl)
            case hc => exact c100 W hK
          case o3 =>
            apply obl_val
            case hd => rfl
            intro a W hK hF hD
            have e9 : a.tmps.getD 9 undef = _ := hF.word 9 (by kernel_rfl)
            have hK := kd W hK
            refine ⟨rfl, ?_⟩
            (go_simp; with_reducible rfl)
          case o4 =>
            apply obl_val
            case hd => rfl
            intro a W hK hF hD
            have e137 : a.tmps.getD 137 undef = _ := hD.1
            have hK := kd W hK
            refine ⟨rfl, ?_⟩
            (go_simp; with_reducible rfl)
          case o5 =>
            apply obl_val
            case hd => rfl
            intro a W hK hF hD
            have e138 : a.tmps.getD 138 undef = _ := hD.1
            have hK := kd W hK
            refine ⟨rfl, ?_⟩
            (go_simp; with_reducible rfl)
          case o6 =>
            apply obl_val
            case hd => rfl
            intro a W hK hF hD
            have e139 : a.tmps.getD 139 undef = _ := hD.1
            have hK := kd W hK
            refine ⟨rfl, ?_⟩
            (go_simp; with_reducible rfl)
          case o7 =>
            apply obl_val
            case hd => rfl
            intro a W hK hF hD
            have e9 : a.tmps.getD 9 undef = _ := hF.word 9 (by kernel_rfl)
            have hK := kd W hK
            refine ⟨rfl, ?_⟩
            (go_simp; with_reducible rfl)
          case o8 =>
            apply obl_val
            case hd => rfl
            intro a W hK hF hD
            have e141 : a.tmps.getD 141 undef = _ := hD.1
            have hK := kd W hK
            refine ⟨rfl, ?_⟩
            (go_simp; with_reducible rfl)
          case o9 =>
            apply obl_val
            case hd => rfl
            intro a W hK hF hD
            have e142 : a.tmps.getD 142 undef = _ := hD.1
            have hK := kd W hK
            refine ⟨rfl, ?_⟩
            (go_simp; with_reducible rfl)
          case o10 =>
            apply obl_val
            case hd => rfl
            intro a W hK hF hD
            have e143 : a.tmps.getD 143 undef = _ := hD.1
            have hK := kd W hK
            refine ⟨rfl, ?_⟩
            (go_simp; with_reducible rfl)
          case o11 =>
            apply obl_val
            case hd => rfl
            intro a W hK hF hD
            have e144 : a.tmps.getD 144 undef = _ := hD.1
            have hK := kd W hK
            refine ⟨rfl, ?_⟩
            (go_simp; with_reducible rfl)
          case o12 =>
            apply obl_val
            case hd => rfl
            intro a W hK hF hD
            have e13 : a.tmps.getD 13 undef = _ := hF.word 13 (by kernel_rfl)
            have hK := kd W hK
            refine ⟨rfl, ?_⟩
            (go_simp; with_reducible rfl)
          case o13 =>
            apply obl_val
            case hd => rfl
            intro a W hK hF hD
            have e145 : a.tmps.getD 145 undef = _ := hD.1
            have e146 : a.tmps.getD 146 undef = _ := hD.2.1
            have hK := kd W hK
            refine ⟨rfl, ?_⟩
            (go_simp; with_reducible rfl)
          case o14 =>
            apply obl_val
            case hd => rfl
            intro a W hK hF hD
            have e140 : a.tmps.getD 140 undef = _ := hD.1
            have e147 : a.tmps.getD 147 undef = _ := hD.2.1
            have hK := kd W hK
            refine ⟨rfl, ?_⟩
            (go_simp; with_reducible rfl)
          case o15 =>
            apply obl_quiet
            case hd => rfl
            intro a W hK hF hD
            have k2 := hD.1
            have e148 : a.tmps.getD 148 undef = _ := hD.2.1
            have hK := kd W hK
            have k2 : CR W _ (a.tmps.getD 136 undef) _ := hD.1
            obtain ⟨v136, e136⟩ : ∃ v, a.tmps.getD 136 undef = v := ⟨_, rfl⟩
            rw [e136] at k2
            refine ⟨rfl, ?_⟩
            apply enter_of
            case hr => (go_simp; first | exact ⟨rfl, rfl⟩ | rfl)
            case hc => exact c106 W _ hK k2
          case o16 =>
            apply obl_val
            case hd => rfl
            intro a W hK hF hD
            have e149 : a.tmps.getD 149 undef = _ := hD.1
            have hK := kd W hK
            refine ⟨rfl, ?_⟩
            (go_simp; with_reducible rfl)
          case o17 =>
            apply obl_val
            case hd => rfl
            intro a W hK hF hD
            have e150 : a.tmps.getD 150 undef = _ := hD.1
            have e7 : a.tmps.getD 7 undef = _ := hF.word 7 (by kernel_rfl)
            have hK := kd W hK
            refine ⟨⟨_, e150, rfl⟩, ?_⟩
            (go_simp; with_reducible rfl)
          case o18 =>
            refine obl_call _ (fun W W' v kk hh => hh.keep kk (by simp)) rfl (fun a W hK hF hD => ?_)
            have e151 : a.tmps.getD 151 undef = _ := hD.1
            have e150 : a.tmps.getD 150 undef = _ := hD.2.1
            have hK := kd W hK
            refine ⟨⟨_, e150, rfl⟩, ?_⟩
            apply enter_of
            case hr => (go_simp; first | exact ⟨rfl, rfl⟩ | rfl)
            case hc => exact c107 W hK
          case o19 =>
            apply obl_val
            case hd => rfl
            intro a W hK hF hD
            have e150 : a.tmps.getD 150 undef = _ := hD.1
            have e14 : a.tmps.getD 14 undef = _ := hF.word 14 (by kernel_rfl)
            have hK := kd W hK
            refine ⟨⟨_, e150, rfl⟩, ?_⟩
            (go_simp; with_reducible rfl)
          case o20 =>
            apply obl_val
            case hd => rfl
            intro a W hK hF hD
            have e150 : a.tmps.getD 150 undef = _ := hD.1
            have e14 : a.tmps.getD 14 undef = _ := hF.word 14 (by kernel_rfl)
            have hK := kd W hK
            refine ⟨⟨_, e150, rfl⟩, ?_⟩
            (go_simp; with_reducible rfl)
          case o21 =>
            apply obl_val
            case hd => rfl
            intro a W hK hF hD
            have e154 : a.tmps.getD 154 undef = _ := hD.1
            have e150 : a.tmps.getD 150 undef = _ := hD.2.1
            have hK := kd W hK
            refine ⟨⟨_, e150, rfl⟩, ?_⟩
            (go_simp; with_reducible rfl)
          case o22 =>
            apply obl_val
            case hd => rfl
            intro a W hK hF hD
            have e155 : a.tmps.getD 155 undef = _ := hD.1
            have e150 : a.tmps.getD 150 undef = _ := hD.2.1
            have hK := kd W hK
            refine ⟨⟨_, e150, rfl⟩, ?_⟩
            (go_simp; with_reducible rfl)
          case o23 =>
            apply obl_val
            case hd => rfl
            intro a W hK hF hD
            have e153 : a.tmps.getD 153 undef = _ := hD.1
            have e156 : a.tmps.getD 156 undef = _ := hD.2.1
            have e150 : a.tmps.getD 150 undef = _ := hD.2.2.1
            have hK := kd W hK
            refine ⟨⟨_, e150, rfl⟩, ?_⟩
            (go_simp; with_reducible rfl)
          case o24 =>
            apply obl_quiet
            case hd => rfl
            intro a W hK hF hD
            have k18 := hD.1
            have e157 : a.tmps.getD 157 undef = _ := hD.2.1
            have e150 : a.tmps.getD 150 undef = _ := hD.2.2.2.1
            have hK := kd W hK
            have k18 : IR W _ (a.tmps.getD 152 undef) _ := hD.1
            obtain ⟨v152, e152⟩ : ∃ v, a.tmps.getD 152 undef = v := ⟨_, rfl⟩
            rw [e152] at k18
            refine ⟨⟨_, e150, rfl⟩, ?_⟩
            apply enter_of
            case hr => (go_simp; first | exact ⟨rfl, rfl⟩ | rfl)
            case hc => exact c78 W _ hK k18
          case o25 =>
            apply obl_val
            case hd => rfl
            intro a W hK hF hD
            have e150 : a.tmps.getD 150 undef = _ := hD.1
            have e158 : a.tmps.getD 158 undef = _ := hD.2.1
            have hK := kd W hK
            refine ⟨rfl, ?_⟩
            (go_simp; with_reducible rfl)
          case o26 =>
            apply obl_val
            case hd => rfl
            intro a W hK hF hD
            have e159 : a.tmps.getD 159 undef = _ := hD.1
            have e158 : a.tmps.getD 158 undef = _ := hD.2.1
            have hK := kd W hK
            refine ⟨rfl, ?_⟩
            (go_simp; with_reducible rfl)
          case o27 =>
            apply obl_val
            case hd => rfl
            intro a W hK hF hD
            have e160 : a.tmps.getD 160 undef = _ := hD.1
            have e7 : a.tmps.getD 7 undef = _ := hF.word 7 (by kernel_rfl)
            have hK := kd W hK
            refine ⟨⟨_, e160, rfl⟩, ?_⟩
            (go_simp; with_reducible rfl)
          case o28 =>
            apply obl_quiet
            case hd => rfl
            intro a W hK hF hD
            have e161 : a.tmps.getD 161 undef = _ := hD.1
            have e160 : a.tmps.getD 160 undef = _ := hD.2.1
            refine ⟨⟨_, e160, rfl⟩, ?_⟩
            apply enter_of
            case hr => (go_simp; first | exact ⟨rfl, rfl⟩ | rfl)
            case hc =>
              first
                | exact c66 W
          case o29 =>
            apply obl_val
            case hd => rfl
            intro a W hK hF hD
            have e162 : a.tmps.getD 162 undef = _ := hD.1
            have e160 : a.tmps.getD 160 undef = _ := hD.2.1
            have hK := kd W hK
            refine ⟨⟨_, e160, rfl⟩, ?_⟩
            (go_simp; with_reducible rfl)
          case o30 =>
            apply obl_val
            case hd => rfl
            intro a W hK hF hD
            have e160 : a.tmps.getD 160 undef = _ := hD.1
            have e163 : a.tmps.getD 163 undef = _ := hD.2.1
            have hK := kd W hK
            refine ⟨rfl, ?_⟩
            (go_simp; with_reducible rfl)
          case o31 =>
            apply obl_val
            case hd => rfl
            intro a W hK hF hD
            have e164 : a.tmps.getD 164 undef = _ := hD.1
            have e162 : a.tmps.getD 162 undef = _ := hD.2.1
            have e134 : a.tmps.getD 134 undef = _ := hD.2.2.1
            have e135 : a.tmps.getD 135 undef = _ := hD.2.2.2.1
            have k2 := hD.2.2.2.2.1
            have e137 : a.tmps.getD 137 undef = _ := hD.2.2.2.2.2.1
            have e138 : a.tmps.getD 138 undef = _ := hD.2.2.2.2.2.2.1
            have e139 : a.tmps.getD 139 undef = _ := hD.2.2.2.2.2.2.2.1
            have e140 : a.tmps.getD 140 undef = _ := hD.2.2.2.2.2.2.2.2.1
            have e141 : a.tmps.getD 141 undef = _ := hD.2.2.2.2.2.2.2.2.2.1
            have e142 : a.tmps.getD 142 undef = _ := hD.2.2.2.2.2.2.2.2.2.2.1
            have e143 : a.tmps.getD 143 undef = _ := hD.2.2.2.2.2.2.2.2.2.2.2.1
            have e144 : a.tmps.getD 144 undef = _ := hD.2.2.2.2.2.2.2.2.2.2.2.2.1
            have e145 : a.tmps.getD 145 undef = _ := hD.2.2.2.2.2.2.2.2.2.2.2.2.2.1
            have e146 : a.tmps.getD 146 undef = _ := hD.2.2.2.2.2.2.2.2.2.2.2.2.2.2.1
            have e147 : a.tmps.getD 147 undef = _ := hD.2.2.2.2.2.2.2.2.2.2.2.2.2.2.2.1
            have e148 : a.tmps.getD 148 undef = _ := hD.2.2.2.2.2.2.2.2.2.2.2.2.2.2.2.2.1
            have e149 : a.tmps.getD 149 undef = _ := hD.2.2.2.2.2.2.2.2.2.2.2.2.2.2.2.2.2.1
            have e150 : a.tmps.getD 150 undef = _ := hD.2.2.2.2.2.2.2.2.2.2.2.2.2.2.2.2.2.2.1
            have e151 : a.tmps.getD 151 undef = _ := hD.2.2.2.2.2.2.2.2.2.2.2.2.2.2.2.2.2.2.2.1
            have k18 := hD.2.2.2.2.2.2.2.2.2.2.2.2.2.2.2.2.2.2.2.2.1
            have e153 : a.tmps.getD 153 undef = _ := hD.2.2.2.2.2.2.2.2.2.2.2.2.2.2.2.2.2.2.2.2.2.1
            have e154 : a.tmps.getD 154 undef = _ := hD.2.2.2.2.2.2.2.2.2.2.2.2.2.2.2.2.2.2.2.2.2.2.1
            have e155 : a.tmps.getD 155 undef = _ := hD.2.2.2.2.2.2.2.2.2.2.2.2.2.2.2.2.2.2.2.2.2.2.2.1
            have e156 : a.tmps.getD 156 undef = _ := hD.2.2.2.2.2.2.2.2.2.2.2.2.2.2.2.2.2.2.2.2.2.2.2.2.1
            have e157 : a.tmps.getD 157 undef = _ := hD.2.2.2.2.2.2.2.2.2.2.2.2.2.2.2.2.2.2.2.2.2.2.2.2.2.1
            have e158 : a.tmps.getD 158 undef = _ := hD.2.2.2.2.2.2.2.2.2.2.2.2.2.2.2.2.2.2.2.2.2.2.2.2.2.2.1
            have e159 : a.tmps.getD 159 undef = _ := hD.2.2.2.2.2.2.2.2.2.2.2.2.2.2.2.2.2.2.2.2.2.2.2.2.2.2.2.1
            have e160 : a.tmps.getD 160 undef = _ := hD.2.2.2.2.2.2.2.2.2.2.2.2.2.2.2.2.2.2.2.2.2.2.2.2.2.2.2.2.1
            have e161 : a.tmps.getD 161 undef = _ := hD.2.2.2.2.2.2.2.2.2.2.2.2.2.2.2.2.2.2.2.2.2.2.2.2.2.2.2.2.2.1
            have e163 : a.tmps.getD 163 undef = _ := hD.2.2.2.2.2.2.2.2.2.2.2.2.2.2.2.2.2.2.2.2.2.2.2.2.2.2.2.2.2.2.2.1
            have hK := kd W hK
            refine ⟨rfl, ?_⟩
            (go_simp; with_reducible rfl)
        case hQ =>
          intro a W hK hF hD
          have e134 : a.tmps.getD 134 undef = _ := hD.1
          have e135 : a.tmps.getD 135 undef = _ := hD.2.1
          obtain ⟨v136, e136⟩ : ∃ v, a.tmps.getD 136 undef = v := ⟨_, rfl⟩
          have e137 : a.tmps.getD 137 undef = _ := hD.2.2.2.1
          have e138 : a.tmps.getD 138 undef = _ := hD.2.2.2.2.1
          have e139 : a.tmps.getD 139 undef = _ := hD.2.2.2.2.2.1
          have e140 : a.tmps.getD 140 undef = _ := hD.2.2.2.2.2.2.1
          have e141 : a.tmps.getD 141 undef = _ := hD.2.2.2.2.2.2.2.1
          have e142 : a.tmps.getD 142 undef = _ := hD.2.2.2.2.2.2.2.2.1
          have e143 : a.tmps.getD 143 undef = _ := hD.2.2.2.2.2.2.2.2.2.1
          have e144 : a.tmps.getD 144 undef = _ := hD.2.2.2.2.2.2.2.2.2.2.1
          have e145 : a.tmps.getD 145 undef = _ := hD.2.2.2.2.2.2.2.2.2.2.2.1
          have e146 : a.tmps.getD 146 undef = _ := hD.2.2.2.2.2.2.2.2.2.2.2.2.1
          have e147 : a.tmps.getD 147 undef = _ := hD.2.2.2.2.2.2.2.2.2.2.2.2.2.1
          have e148 : a.tmps.getD 148 undef = _ := hD.2.2.2.2.2.2.2.2.2.2.2.2.2.2.1
          have e149 : a.tmps.getD 149 undef = _ := hD.2.2.2.2.2.2.2.2.2.2.2.2.2.2.2.1
          have e150 : a.tmps.getD 150 undef = _ := hD.2.2.2.2.2.2.2.2.2.2.2.2.2.2.2.2.1
          have e151 : a.tmps.getD 151 undef = _ := hD.2.2.2.2.2.2.2.2.2.2.2.2.2.2.2.2.2.1
          obtain ⟨v152, e152⟩ : ∃ v, a.tmps.getD 152 undef = v := ⟨_, rfl⟩
          have e153 : a.tmps.getD 153 undef = _ := hD.2.2.2.2.2.2.2.2.2.2.2.2.2.2.2.2.2.2.2.1
          have e154 : a.tmps.getD 154 undef = _ := hD.2.2.2.2.2.2.2.2.2.2.2.2.2.2.2.2.2.2.2.2.1
          have e155 : a.tmps.getD 155 undef = _ := hD.2.2.2.2.2.2.2.2.2.2.2.2.2.2.2.2.2.2.2.2.2.1
          have e156 : a.tmps.getD 156 undef = _ := hD.2.2.2.2.2.2.2.2.2.2.2.2.2.2.2.2.2.2.2.2.2.2.1
          have e157 : a.tmps.getD 157 undef = _ := hD.2.2.2.2.2.2.2.2.2.2.2.2.2.2.2.2.2.2.2.2.2.2.2.1
          have e158 : a.tmps.getD 158 undef = _ := hD.2.2.2.2.2.2.2.2.2.2.2.2.2.2.2.2.2.2.2.2.2.2.2.2.1
          have e159 : a.tmps.getD 159 undef = _ := hD.2.2.2.2.2.2.2.2.2.2.2.2.2.2.2.2.2.2.2.2.2.2.2.2.2.1
          have e160 : a.tmps.getD 160 undef = _ := hD.2.2.2.2.2.2.2.2.2.2.2.2.2.2.2.2.2.2.2.2.2.2.2.2.2.2.1
          have e161 : a.tmps.getD 161 undef = _ := hD.2.2.2.2.2.2.2.2.2.2.2.2.2.2.2.2.2.2.2.2.2.2.2.2.2.2.2.1
          have e162 : a.tmps.getD 162 undef = _ := hD.2.2.2.2.2.2.2.2.2.2.2.2.2.2.2.2.2.2.2.2.2.2.2.2.2.2.2.2.1
          have e163 : a.tmps.getD 163 undef = _ := hD.2.2.2.2.2.2.2.2.2.2.2.2.2.2.2.2.2.2.2.2.2.2.2.2.2.2.2.2.2.1
          have e164 : a.tmps.getD 164 undef = _ := hD.2.2.2.2.2.2.2.2.2.2.2.2.2.2.2.2.2.2.2.2.2.2.2.2.2.2.2.2.2.2.1
          have e6 : a.tmps.getD 6 undef = _ := hD.2.2.2.2.2.2.2.2.2.2.2.2.2.2.2.2.2.2.2.2.2.2.2.2.2.2.2.2.2.2.2.1
          have e0 : a.tmps.getD 0 undef = _ := hF.word 0 (by kernel_rfl)
          have e1 : a.tmps.getD 1 undef = _ := hF.word 1 (by kernel_rfl)
          have e2 : a.tmps.getD 2 undef = _ := hF.word 2 (by kernel_rfl)
          have e3 : a.tmps.getD 3 undef = _ := hF.word 3 (by kernel_rfl)
          have e4 : a.tmps.getD 4 undef = _ := hF.word 4 (by kernel_rfl)
          have e5 : a.tmps.getD 5 undef = _ := hF.word 5 (by kernel_rfl)
          have e7 : a.tmps.getD 7 undef = _ := hF.word 7 (by kernel_rfl)
          have e8 : a.tmps.getD 8 undef = _ := hF.word 8 (by kernel_rfl)
          have e9 : a.tmps.getD 9 undef = _ := hF.word 9 (by kernel_rfl)
          have e10 : a.tmps.getD 10 undef = _ := hF.word 10 (by kernel_rfl)
          have e11 : a.tmps.getD 11 undef = _ := hF.word 11 (by kernel_rfl)
          have e12 : a.tmps.getD 12 undef = _ := hF.word 12 (by kernel_rfl)
          have e13 : a.tmps.getD 13 undef = _ := hF.word 13 (by kernel_rfl)
          have e14 : a.tmps.getD 14 undef = _ := hF.word 14 (by kernel_rfl)
          have e15 : a.tmps.getD 15 undef = _ := hF.word 15 (by kernel_rfl)
          have e16 : a.tmps.getD 16 undef = _ := hF.word 16 (by kernel_rfl)
          have e17 : a.tmps.getD 17 undef = _ := hF.word 17 (by kernel_rfl)
          have e18 : a.tmps.getD 18 undef = _ := hF.word 18 (by kernel_rfl)
          have e19 : a.tmps.getD 19 undef = _ := hF.word 19 (by kernel_rfl)
          have e20 : a.tmps.getD 20 undef = _ := hF.word 20 (by kernel_rfl)
          have e21 : a.tmps.getD 21 undef = _ := hF.word 21 (by kernel_rfl)
          have e22 : a.tmps.getD 22 undef = _ := hF.word 22 (by kernel_rfl)
          have e23 : a.tmps.getD 23 undef = _ := hF.word 23 (by kernel_rfl)
          have e24 : a.tmps.getD 24 undef = _ := hF.word 24 (by kernel_rfl)
          have e25 : a.tmps.getD 25 undef = _ := hF.word 25 (by kernel_rfl)
          have e26 : a.tmps.getD 26 undef = _ := hF.word 26 (by kernel_rfl)
          have e27 : a.tmps.getD 27 undef = _ := hF.word 27 (by kernel_rfl)
          have e28 : a.tmps.getD 28 undef = _ := hF.word 28 (by kernel_rfl)
          have e29 : a.tmps.getD 29 undef = _ := hF.word 29 (by kernel_rfl)
          have e30 : a.tmps.getD 30 undef = _ := hF.word 30 (by kernel_rfl)
          have e31 : a.tmps.getD 31 undef = _ := hF.word 31 (by kernel_rfl)
          have e32 : a.tmps.getD 32 undef = _ := hF.word 32 (by kernel_rfl)
          have e33 : a.tmps.getD 33 undef = _ := hF.word 33 (by kernel_rfl)
          have e34 : a.tmps.getD 34 undef = _ := hF.word 34 (by kernel_rfl)
          have e35 : a.tmps.getD 35 undef = _ := hF.word 35 (by kernel_rfl)
          have e36 : a.tmps.getD 36 undef = _ := hF.word 36 (by kernel_rfl)
          have e37 : a.tmps.getD 37 undef = _ := hF.word 37 (by kernel_rfl)
          have e38 : a.tmps.getD 38 undef = _ := hF.word 38 (by kernel_rfl)
          have e39 : a.tmps.getD 39 undef = _ := hF.word 39 (by kernel_rfl)
          have e40 : a.tmps.getD 40 undef = _ := hF.word 40 (by kernel_rfl)
          have e41 : a.tmps.getD 41 undef = _ := hF.word 41 (by kernel_rfl)
          have e42 : a.tmps.getD 42 undef = _ := hF.word 42 (by kernel_rfl)
          have e43 : a.tmps.getD 43 undef = _ := hF.word 43 (by kernel_rfl)
          have e44 : a.tmps.getD 44 undef = _ := hF.word 44 (by kernel_rfl)
          have e45 : a.tmps.getD 45 undef = _ := hF.word 45 (by kernel_rfl)
          have e46 : a.tmps.getD 46 undef = _ := hF.word 46 (by kernel_rfl)
          have e47 : a.tmps.getD 47 undef = _ := hF.word 47 (by kernel_rfl)
          have e48 : a.tmps.getD 48 undef = _ := hF.word 48 (by kernel_rfl)
          have e49 : a.tmps.getD 49 undef = _ := hF.word 49 (by kernel_rfl)
          have e50 : a.tmps.getD 50 undef = _ := hF.word 50 (by kernel_rfl)
          have e51 : a.tmps.getD 51 undef = _ := hF.word 51 (by kernel_rfl)
          have e52 : a.tmps.getD 52 undef = _ := hF.word 52 (by kernel_rfl)
          have e53 : a.tmps.getD 53 undef = _ := hF.word 53 (by kernel_rfl)
          have e54 : a.tmps.getD 54 undef = _ := hF.word 54 (by kernel_rfl)
          have e55 : a.tmps.getD 55 undef = _ := hF.word 55 (by kernel_rfl)
          have e56 : a.tmps.getD 56 undef = _ := hF.word 56 (by kernel_rfl)
          have e57 : a.tmps.getD 57 undef = _ := hF.word 57 (by kernel_rfl)
          have e58 : a.tmps.getD 58 undef = _ := hF.word 58 (by kernel_rfl)
          have e59 : a.tmps.getD 59 undef = _ := hF.word 59 (by kernel_rfl)
          have e60 : a.tmps.getD 60 undef = _ := hF.word 60 (by kernel_rfl)
          have e61 : a.tmps.getD 61 undef = _ := hF.word 61 (by kernel_rfl)
          have e62 : a.tmps.getD 62 undef = _ := hF.word 62 (by kernel_rfl)
          have e63 : a.tmps.getD 63 undef = _ := hF.word 63 (by kernel_rfl)
          have e64 : a.tmps.getD 64 undef = _ := hF.word 64 (by kernel_rfl)
          have e65 : a.tmps.getD 65 undef = _ := hF.word 65 (by kernel_rfl)
          have e66 : a.tmps.getD 66 undef = _ := hF.word 66 (by kernel_rfl)
          have e67 : a.tmps.getD 67 undef = _ := hF.word 67 (by kernel_rfl)
          have e68 : a.tmps.getD 68 undef = _ := hF.word 68 (by kernel_rfl)
          have e69 : a.tmps.getD 69 undef = _ := hF.word 69 (by kernel_rfl)
          have e70 : a.tmps.getD 70 undef = _ := hF.word 70 (by kernel_rfl)
          have e71 : a.tmps.getD 71 undef = _ := hF.word 71 (by kernel_rfl)
          have e72 : a.tmps.getD 72 undef = _ := hF.word 72 (by kernel_rfl)
          have e73 : a.tmps.getD 73 undef = _ := hF.word 73 (by kernel_rfl)
          have e74 : a.tmps.getD 74 undef = _ := hF.word 74 (by kernel_rfl)
          have e75 : a.tmps.getD 75 undef = _ := hF.word 75 (by kernel_rfl)
          have e76 : a.tmps.getD 76 undef = _ := hF.word 76 (by kernel_rfl)
          have e77 : a.tmps.getD 77 undef = _ := hF.word 77 (by kernel_rfl)
          have e78 : a.tmps.getD 78 undef = _ := hF.word 78 (by kernel_rfl)
          have e79 : a.tmps.getD 79 undef = _ := hF.word 79 (by kernel_rfl)
          have e80 : a.tmps.getD 80 undef = _ := hF.word 80 (by kernel_rfl)
          have e81 : a.tmps.getD 81 undef = _ := hF.word 81 (by kernel_rfl)
          have e82 : a.tmps.getD 82 undef = _ := hF.word 82 (by kernel_rfl)
          have e83 : a.tmps.getD 83 undef = _ := hF.word 83 (by kernel_rfl)
          have e84 : a.tmps.getD 84 undef = _ := hF.word 84 (by kernel_rfl)
          have e85 : a.tmps.getD 85 undef = _ := hF.word 85 (by kernel_rfl)
          have e86 : a.tmps.getD 86 undef = _ := hF.word 86 (by kernel_rfl)
          have e87 : a.tmps.getD 87 undef = _ := hF.word 87 (by kernel_rfl)
          have e88 : a.tmps.getD 88 undef = _ := hF.word 88 (by kernel_rfl)
          have e89 : a.tmps.getD 89 undef = _ := hF.word 89 (by kernel_rfl)
          have e90 : a.tmps.getD 90 undef = _ := hF.word 90 (by kernel_rfl)
          have e91 : a.tmps.getD 91 undef = _ := hF.word 91 (by kernel_rfl)
          have e92 : a.tmps.getD 92 undef = _ := hF.word 92 (by kernel_rfl)
          have e93 : a.tmps.getD 93 undef = _ := hF.word 93 (by kernel_rfl)
          have e94 : a.tmps.getD 94 undef = _ := hF.word 94 (by kernel_rfl)
          have e95 : a.tmps.getD 95 undef = _ := hF.word 95 (by kernel_rfl)
          have e96 : a.tmps.getD 96 undef = _ := hF.word 96 (by kernel_rfl)
          have e97 : a.tmps.getD 97 undef = _ := hF.word 97 (by kernel_rfl)
          have e98 : a.tmps.getD 98 undef = _ := hF.word 98 (by kernel_rfl)
          have e99 : a.tmps.getD 99 undef = _ := hF.word 99 (by kernel_rfl)
          have e100 : a.tmps.getD 100 undef = _ := hF.word 100 (by kernel_rfl)
          have e101 : a.tmps.getD 101 undef = _ := hF.word 101 (by kernel_rfl)
          have e102 : a.tmps.getD 102 undef = _ := hF.word 102 (by kernel_rfl)
          have e103 : a.tmps.getD 103 undef = _ := hF.word 103 (by kernel_rfl)
          have e104 : a.tmps.getD 104 undef = _ := hF.word 104 (by kernel_rfl)
          have e105 : a.tmps.getD 105 undef = _ := hF.word 105 (by kernel_rfl)
          have e106 : a.tmps.getD 106 undef = _ := hF.word 106 (by kernel_rfl)
          have e107 : a.tmps.getD 107 undef = _ := hF.word 107 (by kernel_rfl)
          have e108 : a.tmps.getD 108 undef = _ := hF.word 108 (by kernel_rfl)
          have e109 : a.tmps.getD 109 undef = _ := hF.word 109 (by kernel_rfl)
          have e110 : a.tmps.getD 110 undef = _ := hF.word 110 (by kernel_rfl)
          have e111 : a.tmps.getD 111 undef = _ := hF.word 111 (by kernel_rfl)
          have e112 : a.tmps.getD 112 undef = _ := hF.word 112 (by kernel_rfl)
          have e113 : a.tmps.getD 113 undef = _ := hF.word 113 (by kernel_rfl)
          have e114 : a.tmps.getD 114 undef = _ := hF.word 114 (by kernel_rfl)
          have e115 : a.tmps.getD 115 undef = _ := hF.word 115 (by kernel_rfl)
          have e116 : a.tmps.getD 116 undef = _ := hF.word 116 (by kernel_rfl)
          have e117 : a.tmps.getD 117 undef = _ := hF.word 117 (by kernel_rfl)
          have e118 : a.tmps.getD 118 undef = _ := hF.word 118 (by kernel_rfl)
          have e119 : a.tmps.getD 119 undef = _ := hF.word 119 (by kernel_rfl)
          have e120 : a.tmps.getD 120 undef = _ := hF.word 120 (by kernel_rfl)
          have e121 : a.tmps.getD 121 undef = _ := hF.word 121 (by kernel_rfl)
          have e122 : a.tmps.getD 122 undef = _ := hF.word 122 (by kernel_rfl)
          have e123 : a.tmps.getD 123 undef = _ := hF.word 123 (by kernel_rfl)
          have e124 : a.tmps.getD 124 undef = _ := hF.word 124 (by kernel_rfl)
          have e125 : a.tmps.getD 125 undef = _ := hF.word 125 (by kernel_rfl)
          have e126 : a.tmps.getD 126 undef = _ := hF.word 126 (by kernel_rfl)
          have e127 : a.tmps.getD 127 undef = _ := hF.word 127 (by kernel_rfl)
          have e128 : a.tmps.getD 128 undef = _ := hF.word 128 (by kernel_rfl)
          have e129 : a.tmps.getD 129 undef = _ := hF.word 129 (by kernel_rfl)
          have e130 : a.tmps.getD 130 undef = _ := hF.word 130 (by kernel_rfl)
          have e131 : a.tmps.getD 131 undef = _ := hF.word 131 (by kernel_rfl)
          have e132 : a.tmps.getD 132 undef = _ := hF.word 132 (by kernel_rfl)
          have e133 : a.tmps.getD 133 undef = _ := hF.word 133 (by kernel_rfl)
          have ha := act_of (l := [_, _, _, _, _, _, _, _, _, _, _, _, _, _, _, _, _, _, _, _, _, _, _, _, _, _, _, _, _, _, _, _, _, _, _, _, _, _, _, _, _, _, _, _, _, _, _, _, _, _, _, _, _, _, _, _, _, _, _, _, _, _, _, _, _, _, _, _, _, _, _, _, _, _, _, _, _, _, _, _, _, _, _, _, _, _, _, _, _, _, _, _, _, _, _, _, _, _, _, _, _, _, _, _, _, _, _, _, _, _, _, _, _, _, _, _, _, _, _, _, _, _, _, _, _, _, _, _, _, _, _, _, _, _, _, _, _, _, _, _, _, _, _, _, _, _, _, _, _, _, _, _, _, _, _, _, _, _, _, _, _, _, _, _, _]) (by rw [hF.size]; rfl) hF.defers ⟨e0, e1, e2, e3, e4, e5, e6, e7, e8, e9, e10, e11, e12, e13, e14, e15, e16, e17, e18, e19, e20, e21, e22, e23, e24, e25, e26, e27, e28, e29, e30, e31, e32, e33, e34, e35, e36, e37, e38, e39, e40, e41, e42, e43, e44, e45, e46, e47, e48, e49, e50, e51, e52, e53, e54, e55, e56, e57, e58, e59, e60, e61, e62, e63, e64, e65, e66, e67, e68, e69, e70, e71, e72, e73, e74, e75, e76, e77, e78, e79, e80, e81, e82, e83, e84, e85, e86, e87, e88, e89, e90, e91, e92, e93, e94, e95, e96, e97, e98, e99, e100, e101, e102, e103, e104, e105, e106, e107, e108, e109, e110, e111, e112, e113, e114, e115, e116, e117, e118, e119, e120, e121, e122, e123, e124, e125, e126, e127, e128, e129, e130, e131, e132, e133, e134, e135, e136, e137, e138, e139, e140, e141, e142, e143, e144, e145, e146, e147, e148, e149, e150, e151, e152, e153, e154, e155, e156, e157, e158, e159, e160, e161, e162, e163, e164, trivial⟩
          clear hF hD e0 e1 e2 e3 e4 e5 e6 e7 e8 e9 e10 e11 e12 e13 e14 e15 e16 e17 e18 e19 e20 e21 e22 e23 e24 e25 e26 e27 e28 e29 e30 e31 e32 e33 e34 e35 e36 e37 e38 e39 e40 e41 e42 e43 e44 e45 e46 e47 e48 e49 e50 e51 e52 e53 e54 e55 e56 e57 e58 e59 e60 e61 e62 e63 e64 e65 e66 e67 e68 e69 e70 e71 e72 e73 e74 e75 e76 e77 e78 e79 e80 e81 e82 e83 e84 e85 e86 e87 e88 e89 e90 e91 e92 e93 e94 e95 e96 e97 e98 e99 e100 e101 e102 e103 e104 e105 e106 e107 e108 e109 e110 e111 e112 e113 e114 e115 e116 e117 e118 e119 e120 e121 e122 e123 e124 e125 e126 e127 e128 e129 e130 e131 e132 e133 e134 e135 e136 e137 e138 e139 e140 e141 e142 e143 e144 e145 e146 e147 e148 e149 e150 e151 e152 e153 e154 e155 e156 e157 e158 e159 e160 e161 e162 e163 e164
          subst ha
          have hKa := kd W hK
          clear hK kd
          go_wp2
          go_ret
          exact ⟨rfl, (kw.out.trans hKa (by simp)).below⟩

end Go.Proofs.Ytangandfgbnomaa.V
