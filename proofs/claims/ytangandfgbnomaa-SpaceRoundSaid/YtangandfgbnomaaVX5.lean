/- The walk of the law SpaceRound. -/
import Derived.Test.YtangandfgbnomaaVX4
namespace Go.Proofs.Ytangandfgbnomaa.V
open Go.RowKit Go.Proofs.YtangandfgbnomaaW.PrintWords Go.Proofs.YtangandfgbnomaaW.PrintLast Go.Proofs.YtangandfgbnomaaW.PrintMore
set_option linter.unusedVariables false
set_option linter.unusedSimpArgs false

/-- Acts, one behind the other. -/
def S.acts (s : S) (us : List Ac) : S := us.foldl S.act s
theorem S.acts_snoc (s : S) (us : List Ac) (a : Ac) : s.acts (us ++ [a]) = (s.acts us).act a := by unfold S.acts; rw [List.foldl_append]; rfl
theorem S.acts_model (us : List Ac) : ∀ s : S, (s.acts us).model = s.model := by
  induction us with
  | nil => intro s; rfl
  | cons a us ih => intro s; show ((s.act a).acts us).model = _; rw [ih, S.act_model]
theorem S.ok.acts (us : List Ac) : ∀ {s : S}, s.ok → 2 ≤ s.model ∧ s.model ≤ 5 → (∀ a ∈ us, a.fine) → (s.acts us).ok := by
  induction us with
  | nil => intro s h _ _; exact h
  | cons a us ih =>
    intro s h hm hf
    exact ih (h.act hm a (hf a (List.mem_cons_self ..))) (by rw [S.act_model]; exact hm) (fun x hx => hf x (List.mem_cons_of_mem _ hx))
/-- The first k acts, a round further. -/
theorem S.acts_take (s : S) (us : List Ac) (k i : Nat) (hi : i < us.length) : s.acts (us.take (min (i + 1) k)) = if (i : Int) < (k : Int) then (s.acts (us.take (min i k))).act us[i] else s.acts (us.take (min i k)) := by
  by_cases h : i < k
  · rw [if_pos (by omega), Nat.min_eq_left (by omega), Nat.min_eq_left (by omega), ← S.acts_snoc]
    congr 1
    rw [List.take_add_one, List.getElem?_eq_getElem hi]; rfl
  · rw [if_neg (by omega), Nat.min_eq_right (by omega), Nat.min_eq_right (by omega)]

/-- The same place, a whole number of screens further. -/
theorem wrp_far {R C : Int} (h : vld R C = true) (n t : Int) : wrp R C (n + t * cel R C) = wrp R C n := by
  unfold wrp cel
  rw [if_pos h, if_pos h, if_pos h, Int.add_mul_emod_self_right]

theorem get_set {s : S} (h : s.ok) (n : Int) (c : C) : (s.set n c).get n = fitc c := by
  obtain ⟨_, hlt, _, _⟩ := S.ok.ix h n
  show ((s.l.set (s.ix n) (fitc c)).getD (s.ix n) C.zero) = _
  rw [List.getD_eq_getElem?_getD, List.getElem?_set_self hlt]; rfl
theorem put_set {s : S} (h : s.ok) (n : Int) (c : C) : (s.set n c).put n c.ch = s.set n c := by
  unfold S.put
  rw [get_set h]
  by_cases ha : (fitc c).at_ = true
  · rw [if_pos ha]
  · rw [if_neg ha]
    have e : ({ fitc c with ch := c.ch } : C) = fitc c := by
      obtain ⟨ch, at_, fa, hi, co, se⟩ := c
      cases at_
      · rfl
      · exact absurd rfl ha
    rw [e]
    show ({ s with l := (s.l.set (s.ix n) (fitc c)).set (s.ix n) (fitc c) } : S) = { s with l := s.l.set (s.ix n) (fitc c) }
    rw [List.set_set]

theorem S.put_place (s : S) (m n x : Int) : (s.place m).put n x = (s.put n x).place m := by
  have e : (s.place m).get n = s.get n := rfl
  unfold S.put
  rw [e]
  split <;> rfl

set_option maxRecDepth 100000 in
set_option maxHeartbeats 4000000 in
theorem round_walk {w : World} (mo : Int) (hmo : 0 ≤ mo ∧ mo < 256) (ta : Option Addr) (cap : Nat) (us : List Ac) (hA : Acts w ta us) (hul : us.length ≤ maxLen) (n : Int) (times : Int) (hti : -128 ≤ times ∧ times < 128) (c : C) (hc1 : 0 ≤ c.ch ∧ c.ch < 256) (hc2 : 0 ≤ c.fa ∧ c.fa < 256) :
    Calls Try.prog 8 #[.int .u8 mo, .slice ta us.length cap, .int .i64 n, .int .i8 times, c.v] w fun e w' => e = .returned (.bool true) ∧ Below w.heap.size w w' := by
  have hm4 : mo.tmod 4 = mo % 4 := Int.tmod_eq_emod_of_nonneg hmo.1
  have hmm : 2 ≤ 2 + mo % 4 ∧ 2 + mo % 4 ≤ 5 := by omega
  have hw1 : wrap64 (mo % 4) = mo % 4 := by unfold wrap64; omega
  have hw2 : wrap64 (2 + mo % 4) = 2 + mo % 4 := by unfold wrap64; omega
  have hw3 : wrap64 (mo.tmod 4) = mo % 4 := by rw [hm4]; exact hw1
  obtain ⟨M, hM⟩ : ∃ M, 2 + mo % 4 = M := ⟨_, rfl⟩
  rw [hM] at hw2 hmm
  have hul' : us.length ≤ 9223372036854775807 := hul
  have HA := Aside0.mk hA
  have HM := Aside0.mk hmm
  have HL := Aside0.mk hul'
  have HT := Aside0.mk hti
  have HC := Aside0.mk (And.intro hc1 hc2)
  clear hA hul hul' hmo hmm hti hc1 hc2
  unfold C.v
  go_enter Try.func8, Try.ntmps8
  go_wp2_with (first
    | (go_at_call 53; (with_reducible refine (awake12 _).mono ?_); rintro e w1 ⟨rfl, hb1⟩)
    | (go_at_call 54; go_loud (with_reducible refine (new_calls _ M HM.out).mono ?_); rintro e w2 ⟨p, b, rfl, hp, hb, hs, hk2⟩)
    | (go_at_call 55; go_loud (with_reducible refine (rnew_calls _ M HM.out).mono ?_); rintro e w3 ⟨q, d, rfl, hq, hd, hx, hk3⟩))
  have W1 : Keep [] w w1 := ((Keep.refl [] w).alloc _).call hb1
  have W2 : Keep [] w w2 := W1.trans hk2 (by simp)
  have W3 : Keep [] w w3 := W2.trans hk3 (by simp)
  have hsp3 := hs.keep hk3 (by simp) (by simp)
  have plt : p < w2.heap.size := by obtain ⟨_, _, _, x, _⟩ := id hs; exact x.lt
  have blt : b < w2.heap.size := by obtain ⟨_, _, _, _, x⟩ := id hs; exact x.lt
  have s1 := W1.size
  have s2 := W2.size
  have T3 : Two w3 p b q d (S.clr M false) := ⟨hsp3, hx, by omega, by omega, by omega, by omega⟩
  have hW1 : w.heap.size < w1.heap.size := by
    have : (w.alloc (.cells #[.int .u8 c.ch, .bool c.at_, .int .u8 c.fa, .int .u8 c.hi, .int .u8 c.co, .int .u8 c.se] 60)).heap.size = w.heap.size + 1 := Array.size_push ..
    have := hb1.size
    omega
  have hk2s := hk2.size
  have hpq : w.heap.size < p ∧ w.heap.size < q ∧ w.heap.size < b ∧ w.heap.size < d := by omega
  have G3 : Blk w3 w.heap.size [.int .u8 c.ch, .bool c.at_, .int .u8 c.fa, .int .u8 c.hi, .int .u8 c.co, .int .u8 c.se] 60 := (((Blk.new w [.int .u8 c.ch, .bool c.at_, .int .u8 c.fa, .int .u8 c.hi, .int .u8 c.co, .int .u8 c.se] 60).call hb1).keep hk2 (by simp)).keep hk3 (by simp)
  have T3' := Aside0.mk T3
  have K3' := Aside0.mk W3
  have G3' := Aside0.mk G3
  have PQ := Aside0.mk hpq
  clear T3 W1 W2 W3 G3 hk2 hk3 hs hsp3 hx hb1 plt blt s1 s2 hp hb hq hd hpq hW1 hk2s
  go_wp2_with fail
  go_loopg [34] us.length (fun kq v w' => ∃ (i b' d' : Nat), v = .int .i64 i ∧ Aside0 (kq = us.length - i ∧ i ≤ us.length) ∧ Aside0 (w.heap.size < b' ∧ w.heap.size < d') ∧ Aside0 (Two w' p b' q d' ((S.clr M false).acts (us.take (min i 20)))) ∧ Aside0 (Keep [] w w') ∧
    Aside0 (Blk w' w.heap.size [.int .u8 c.ch, .bool c.at_, .int .u8 c.fa, .int .u8 c.hi, .int .u8 c.co, .int .u8 c.se] 60))
  case atStart => exact ⟨0, b, d, rfl, ⟨rfl, Nat.zero_le _⟩, ⟨by have := PQ.out; omega⟩, T3', K3', G3'⟩
  case round =>
    obtain ⟨i, b', d', rfl, HI, HS, HT2, HK, HG⟩ := hrel
    obtain ⟨hi1, hi2⟩ := HI.out
    by_cases hc : (i : Int) < (us.length : Int)
    · have hcb : decide ((i : Int) < (us.length : Int)) = true := decide_eq_true hc
      have hil : i < us.length := by omega
      have hi0 : (0 : Int) ≤ (i : Int) := by omega
      have hul := HL.out
      obtain ⟨x, tt, cp, rfl, hcell⟩ := HA.out.2 i hil
      obtain ⟨htx, f0, f1, f2, f3, f4, f5, f6, f7, f8, f9, f10⟩ := hcell _ HK.out
      have hstep := Aside0.mk (S.acts_take (S.clr M false) us 20 i hil)
      have hfine := HA.out.1 us[i] (List.getElem_mem hil)
      have hok := Aside0.mk (S.ok.acts (us.take (min i 20)) (S.clr_ok M false HM.out) HM.out (fun y hy => HA.out.1 y (List.mem_of_mem_take hy)))
      have hmod := S.acts_model (us.take (min i 20)) (S.clr M false)
      generalize us[i] = a at *
      generalize (S.clr M false).acts (us.take (min i 20)) = t at *
      have hPQ := PQ.out
      have hS := HS.out
      have hTT : ∀ o W, Keep [p, b', q, d'] (wr.alloc o) W → TxRow W tt a.tx := fun o W k => (hcell W ((HK.out.alloc o).trans k (by intro y hy; right; simp at hy; omega))).1
      by_cases h2 : (i : Int) < 20
      · have h2b : decide ((i : Int) < 20) = true := decide_eq_true h2
        have hLD : ∀ o, Calls Try.prog 56 #[.pointer (some ⟨p, 0, none⟩), .pointer (some ⟨q, 0, none⟩), .agg #[.int .u8 a.d, .int .i64 a.n, .bool a.on, .int .u8 a.code, .int .u8 a.c.ch, .bool a.c.at_, .int .u8 a.c.fa, .int .u8 a.c.hi, .int .u8 a.c.co, .int .u8 a.c.se, .slice tt a.tx.length cp]] (wr.alloc o) (DoPost (wr.alloc o) p b' q d' t a) := fun o => ldo (HT2.out.call ((Below.refl _ wr).alloc (Nat.le_refl _) o)) hok.out (by rw [hmod]; exact HM.out) a hfine tt cp (hTT o)
        have we1 : wrap64 ((i : Int) + 1) = ((i + 1 : Nat) : Int) := by unfold wrap64; omega
        have WE1 := Aside0.mk we1
        have FA := Aside0.mk hfine
        have HC2 := Aside0.mk hcell
        clear we1 hfine hTT hPQ hS htx hcell hmod
        go_wp2_with (go_at_call 56; go_loud (with_reducible refine (hLD _).mono ?_); rintro e w5 ⟨rfl, b2, d2, hb2, hd2, hT5, hK5⟩)
        have hPQ := PQ.out
        have hS := HS.out
        have hks := HK.out.size
        have hsz1 : ∀ o, (wr.alloc o).heap.size = wr.heap.size + 1 := fun o => Array.size_push ..
        rw [hsz1] at hb2 hd2
        go_roundg (us.length - (i + 1))
        case measure => omega
        case rel =>
          refine ⟨i + 1, b2, d2, by first | rfl | (rw [WE1.out]), ⟨rfl, by omega⟩, ⟨by omega⟩, ⟨?_⟩, ⟨?_⟩, ⟨?_⟩⟩
          · rw [hstep.out, if_pos (by omega)]; exact hT5
          · exact (HK.out.alloc _).trans hK5 (by intro y hy; right; simp at hy; omega)
          · exact (HG.out.alloc _).keep hK5 (by simp; omega)
      · have h2b : decide ((i : Int) < 20) = false := decide_eq_false h2
        have we1 : wrap64 ((i : Int) + 1) = ((i + 1 : Nat) : Int) := by unfold wrap64; omega
        have WE1 := Aside0.mk we1
        have FA := Aside0.mk hfine
        have HC2 := Aside0.mk hcell
        clear we1 hfine hTT hPQ hS htx hcell hmod
        go_wp2
        go_roundg (us.length - (i + 1))
        case measure => omega
        case rel =>
          refine ⟨i + 1, b', d', by first | rfl | (rw [WE1.out]), ⟨rfl, by omega⟩, HS, ⟨?_⟩, ⟨HK.out.alloc _⟩, ⟨HG.out.alloc _⟩⟩
          rw [hstep.out, if_neg (by omega)]; exact HT2.out.call ((Below.refl _ wr).alloc (Nat.le_refl _) _)
    · have hcb : decide ((i : Int) < (us.length : Int)) = false := decide_eq_false hc
      have hie : i = us.length := by omega
      have hok := Aside0.mk (S.ok.acts (us.take (min i 20)) (S.clr_ok M false HM.out) HM.out (fun y hy => HA.out.1 y (List.mem_of_mem_take hy)))
      generalize (S.clr M false).acts (us.take (min i 20)) = t at *
      have hn40 : -1099511627776 < n.tmod 1099511627776 ∧ n.tmod 1099511627776 < 1099511627776 := by
        have h1 := Int.tmod_lt_of_pos n (show (0 : Int) < 1099511627776 by decide)
        have h2 := Int.tmod_lt_of_pos (-n) (show (0 : Int) < 1099511627776 by decide)
        rw [Int.neg_tmod] at h2
        omega
      have hv := hok.out.1
      have hcel : cel t.r t.c ≤ 3564 ∧ 0 ≤ cel t.r t.c := by
        have := vld_pos hv
        have e : cel t.r t.c = t.r * t.c := by unfold cel; rw [if_pos hv]
        omega
      have hfar0 := wrp_far hv (n.tmod 1099511627776) times
      obtain ⟨N, hN⟩ : ∃ N, n.tmod 1099511627776 = N := ⟨_, rfl⟩
      obtain ⟨L, hL⟩ : ∃ L, cel t.r t.c = L := ⟨_, rfl⟩
      rw [hL] at hcel hfar0
      rw [hN] at hn40 hfar0
      have hti := HT.out
      have hb1 : times * L ≤ 127 * L := Int.mul_le_mul_of_nonneg_right (by omega) hcel.2
      have hb2 : -128 * L ≤ times * L := Int.mul_le_mul_of_nonneg_right (by omega) hcel.2
      obtain ⟨TL, hTL⟩ : ∃ T, times * L = T := ⟨_, rfl⟩
      rw [hTL] at hb1 hb2 hfar0
      have wt : wrap64 times = times := by unfold wrap64; omega
      have wtl : wrap64 TL = TL := by unfold wrap64; omega
      have wN : wrap64 N = N := by unfold wrap64; omega
      obtain ⟨F, hF⟩ : ∃ F, N + TL = F := ⟨_, rfl⟩
      have wF : wrap64 F = F := by unfold wrap64; omega
      rw [hF] at hfar0
      clear hn40 hb1 hb2 hti hcel
      have hix : t.ix F = t.ix N := by unfold S.ix; rw [hfar0]
      obtain ⟨g, hg⟩ : ∃ g, t.get N = g := ⟨_, rfl⟩
      have hgF : t.get F = g := by rw [← hg]; unfold S.get; rw [hix]
      have hsp := HT2.out.1
      have hsz : ∀ W, Keep [] wr W → Calls Try.prog 57 #[.pointer (some ⟨p, 0, none⟩)] W fun e w' => e = .returned (.agg #[.int .i64 t.r, .int .i64 t.c]) ∧ Below W.heap.size W w' := fun W k => size_calls (hsp.keep k (by simp) (by simp))
      have hce : ∀ W, Calls Try.prog 33 #[.agg #[.int .i64 t.r, .int .i64 t.c]] W fun e w' => e = .returned (.int .i64 L) ∧ Below W.heap.size W w' := fun W => by have := c_cells t.r t.c W; rw [hL] at this; exact this
      have hatN : ∀ W, Keep [] wr W → Calls Try.prog 58 #[.pointer (some ⟨p, 0, none⟩), .int .i64 N] W fun e w' => e = .returned (.agg #[.int .u8 g.ch, .bool g.at_, .int .u8 g.fa, .int .u8 g.hi, .int .u8 g.co, .int .u8 g.se]) ∧ Below W.heap.size W w' := fun W k => by have := at_calls (hsp.keep k (by simp) (by simp)) hok.out N; rw [hg] at this; exact this
      have hatF : ∀ W, Keep [] wr W → Calls Try.prog 58 #[.pointer (some ⟨p, 0, none⟩), .int .i64 F] W fun e w' => e = .returned (.agg #[.int .u8 g.ch, .bool g.at_, .int .u8 g.fa, .int .u8 g.hi, .int .u8 g.co, .int .u8 g.se]) ∧ Below W.heap.size W w' := fun W k => by have := at_calls (hsp.keep k (by simp) (by simp)) hok.out F; rw [hgF] at this; exact this
      have hnn : ∀ W, Sem.run Try.prog (binOp .neq 60 (.agg #[.int .u8 g.ch, .bool g.at_, .int .u8 g.fa, .int .u8 g.hi, .int .u8 g.co, .int .u8 g.se]) (.agg #[.int .u8 g.ch, .bool g.at_, .int .u8 g.fa, .int .u8 g.hi, .int .u8 g.co, .int .u8 g.se])) W = .ok (.bool false) W := fun W => by rw [cell_neC, C.eqb_self]; rfl
      have hGb := HG.out
      have c0 : ∀ W, Keep [] wr W → W.cell? ⟨w.heap.size, 0, none⟩ = some (.int .u8 c.ch) := fun W k => (hGb.keep k (by simp)).cell 0
      have c1 : ∀ W, Keep [] wr W → W.cell? ⟨w.heap.size, 1, none⟩ = some (.bool c.at_) := fun W k => (hGb.keep k (by simp)).cell 1
      have c2 : ∀ W, Keep [] wr W → W.cell? ⟨w.heap.size, 2, none⟩ = some (.int .u8 c.fa) := fun W k => (hGb.keep k (by simp)).cell 2
      have c3 : ∀ W, Keep [] wr W → W.cell? ⟨w.heap.size, 3, none⟩ = some (.int .u8 c.hi) := fun W k => (hGb.keep k (by simp)).cell 3
      have c4 : ∀ W, Keep [] wr W → W.cell? ⟨w.heap.size, 4, none⟩ = some (.int .u8 c.co) := fun W k => (hGb.keep k (by simp)).cell 4
      have c5 : ∀ W, Keep [] wr W → W.cell? ⟨w.heap.size, 5, none⟩ = some (.int .u8 c.se) := fun W k => (hGb.keep k (by simp)).cell 5
      have hset : ∀ W, Keep [] wr W → Calls Try.prog 59 #[.pointer (some ⟨p, 0, none⟩), .int .i64 F, .agg #[.int .u8 c.ch, .bool c.at_, .int .u8 c.fa, .int .u8 c.hi, .int .u8 c.co, .int .u8 c.se]] W fun e w' => e = .returned (.tuple #[]) ∧ PSp w' p b' (t.set F c) ∧ Keep [p, b'] W w' := fun W k => set_calls (hsp.keep k (by simp) (by simp)) hok.out F c
      have FX := Aside0.mk (And.intro hfar0 (And.intro hix (And.intro hg hgF)))
      have hr0 : Keep [] wr wr := Keep.refl [] wr
      clear hfar0 hix hg hgF hsp hGb hv
      go_wp2_with (first
        | (go_at_call 57; (with_reducible refine (hsz _ (by assumption)).mono ?_); rintro e w5 ⟨rfl, hb5⟩; have := Keep.call (R := []) (a := wr) (by assumption) hb5)
        | (go_at_call 33; (with_reducible refine (hce _).mono ?_); rintro e w5 ⟨rfl, hb5⟩; have := Keep.call (R := []) (a := wr) (by assumption) hb5)
        | (go_at_call 58; (with_reducible refine (hatN _ (by assumption)).mono ?_); rintro e w5 ⟨rfl, hb5⟩; have := Keep.call (R := []) (a := wr) (by assumption) hb5)
        | (go_at_call 58; (with_reducible refine (hatF _ (by assumption)).mono ?_); rintro e w5 ⟨rfl, hb5⟩; have := Keep.call (R := []) (a := wr) (by assumption) hb5)
        | (go_at_call 59; (with_reducible refine (hset _ (by assumption)).mono ?_); rintro e w9 ⟨rfl, hs9, hk9⟩; have K9 : Keep [p, b'] wr w9 := Keep.trans (R := [p, b']) (R' := [p, b']) (Keep.zero (w := wr) (by assumption)) hk9 (fun x hx => .inl hx)))
      clear hset hsz hce hatN hatF c1 c2 c3 c4 c5 hnn
      have hcc := HC.out
      have ok1 : (t.set F c).ok := S.ok.set hok.out F c hcc.1 hcc.2
      have hpl := place_calls hs9 F
      have ok2 : ((t.set F c).place F).ok := ok1.place F
      have OK1 := Aside0.mk ok1
      have OK2 := Aside0.mk ok2
      clear hcc ok1 ok2
      go_wp2_with (go_at_call 60; (with_reducible refine hpl.mono ?_); rintro e w10 ⟨rfl, hs10, hk10⟩)
      have hcp := copy_calls hs10 OK2.out
      clear hpl
      have hPQ := PQ.out
      have hS := HS.out
      obtain ⟨_, hrx, n1, n2, n3, n4⟩ := HT2.out
      have K10 : Keep [p, b'] wr w10 := K9.trans hk10 (by intro y hy; left; simp at hy; simp [hy])
      have hr10 := hrx.keep K10 (by simp; omega) (by simp; omega)
      have hG10 := HG.out.keep K10 (by simp; omega)
      have K10w : Keep [] w w10 := HK.out.trans K10 (by intro y hy; right; simp at hy; omega)
      have HH := Aside0.mk (And.intro hr10 (And.intro hG10 K10w))
      have PL : Aside0 (p < w10.heap.size ∧ b' < w10.heap.size ∧ q < w10.heap.size ∧ d' < w10.heap.size) := by
        obtain ⟨_, _, _, x1, x2⟩ := id hs10
        obtain ⟨_, _, _, x3, x4⟩ := id hr10
        exact ⟨⟨x1.lt, x2.lt, x3.lt, x4.lt⟩⟩
      clear hPQ hS hrx n1 n2 n3 n4 hr10 hG10 K10w K10 hk10 K9 hk9
      have hpe : ((t.set F c).place F).put F c.ch = (t.set F c).place F := by rw [S.put_place, put_set hok.out]
      have hpt : ∀ W p2 b2, PSp W p2 b2 ((t.set F c).place F) → Calls Try.prog 62 #[.pointer (some ⟨p2, 0, none⟩), .int .i64 F, .int .u8 c.ch] W fun e w' => e = .returned (.tuple #[]) ∧ PSp w' p2 b2 ((t.set F c).place F) ∧ Keep [b2] W w' := fun W p2 b2 h => by
        have := put_calls h OK2.out F c.ch
        rw [hpe] at this; exact this
      clear hpe
      go_wp2_with (first
        | (go_at_call 61; (with_reducible refine hcp.mono ?_); rintro e w11 ⟨p2, b2, rfl, hp2, hb2, hs11, hb11⟩
           go_loud (have hc0 : w11.cell? ⟨w.heap.size, 0, none⟩ = some (.int .u8 c.ch) := (HH.out.2.1.call hb11).cell 0)
           have hsw : w.heap.size < w11.heap.size := (HH.out.2.1.call hb11).lt)
        | (go_at_call 62; (with_reducible refine (hpt _ _ _ hs11).mono ?_); rintro e w12 ⟨rfl, hs12, hk12⟩))
      have hPL := PL.out
      have k12 : Keep [b2] w10 w12 := (Keep.of_below hb11 [b2]).trans hk12 (fun x hx => .inl hx)
      have hP12 : PSp w12 p b' ((t.set F c).place F) := hs10.keep k12 (by simp; omega) (by simp; omega)
      have hR12 : RSp w12 q d' t := HH.out.1.keep k12 (by simp; omega) (by simp; omega)
      have hG12 : Blk w12 w.heap.size [.int .u8 c.ch, .bool c.at_, .int .u8 c.fa, .int .u8 c.hi, .int .u8 c.co, .int .u8 c.se] 60 := HH.out.2.1.keep k12 (by have := HH.out.2.1.lt; simp; omega)
      have hW12 : Keep [] w w12 := HH.out.2.2.trans k12 (by intro y hy; right; have := HH.out.2.2.size; simp at hy; omega)
      have hsl : ((t.set F c).place F).l.length ≤ 3564 := (S.ok.ix OK2.out 0).2.2.1
      have hgN : ((t.set F c).place F).get N = fitc c := by
        have e1 := get_set hok.out F c
        have e2 : ((t.set F c).place F).get N = (t.set F c).get F := by
          have hi : t.ix F = t.ix N := FX.out.2.1
          show (t.l.set (t.ix F) (fitc c)).getD (t.ix N) C.zero = (t.l.set (t.ix F) (fitc c)).getD (t.ix F) C.zero
          rw [hi]
        rw [e2, e1]
      obtain ⟨f, hf⟩ : ∃ f, fitc c = f := ⟨_, rfl⟩
      obtain ⟨cu, hcu⟩ : ∃ cu, ((t.set F c).place F).cur = cu := ⟨_, rfl⟩
      have hwn : wrp t.r t.c N = cu := by rw [← hcu, ← FX.out.1]; rfl
      rw [hf] at hgN
      have q58 : ∀ W, Keep [] w12 W → Calls Try.prog 58 #[.pointer (some ⟨p, 0, none⟩), .int .i64 N] W fun e w' => e = .returned (.agg #[.int .u8 f.ch, .bool f.at_, .int .u8 f.fa, .int .u8 f.hi, .int .u8 f.co, .int .u8 f.se]) ∧ Below W.heap.size W w' := fun W k => by have := at_calls (hP12.keep k (by simp) (by simp)) OK2.out N; rw [hgN] at this; exact this
      have q63 : ∀ W, Calls Try.prog 63 #[.agg #[.int .u8 c.ch, .bool c.at_, .int .u8 c.fa, .int .u8 c.hi, .int .u8 c.co, .int .u8 c.se]] W fun e w' => e = .returned (.agg #[.int .u8 f.ch, .bool f.at_, .int .u8 f.fa, .int .u8 f.hi, .int .u8 f.co, .int .u8 f.se]) ∧ Below W.heap.size W w' := fun W => by have := fit_calls W c HC.out.2; rw [hf] at this; exact this
      have q64 : ∀ W, Keep [] w12 W → Calls Try.prog 64 #[.pointer (some ⟨p, 0, none⟩)] W fun e w' => e = .returned (.int .i64 cu) ∧ Below W.heap.size W w' := fun W k => (cursor_calls (hP12.keep k (by simp) (by simp))).mono (fun e w' h => ⟨by rw [← hcu]; exact h.1, by rw [← h.2]; exact Below.refl _ _⟩)
      have q65 : ∀ W, Keep [] w12 W → Calls Try.prog 65 #[.pointer (some ⟨q, 0, none⟩), .int .i64 N] W fun e w' => e = .returned (.int .i64 cu) ∧ Below W.heap.size W w' := fun W k => by have := rwrap_calls (hR12.keep k (by simp) (by simp)) N; rw [hwn] at this; exact this
      have q66 : ∀ W, Keep [] w12 W → Calls Try.prog 66 #[.pointer (some ⟨p2, 0, none⟩), .pointer (some ⟨p, 0, none⟩)] W fun e w' => e = .returned (.bool true) ∧ Below W.heap.size W w' := fun W k => by have := same_calls (hs12.keep k (by simp) (by simp)) (hP12.keep k (by simp) (by simp)) hsl hsl; rw [S.eqb_self] at this; exact this
      have c0 : ∀ W, Keep [] w12 W → W.cell? ⟨w.heap.size, 0, none⟩ = some (.int .u8 c.ch) := fun W k => (hG12.keep k (by simp)).cell 0
      have c1 : ∀ W, Keep [] w12 W → W.cell? ⟨w.heap.size, 1, none⟩ = some (.bool c.at_) := fun W k => (hG12.keep k (by simp)).cell 1
      have c2 : ∀ W, Keep [] w12 W → W.cell? ⟨w.heap.size, 2, none⟩ = some (.int .u8 c.fa) := fun W k => (hG12.keep k (by simp)).cell 2
      have c3 : ∀ W, Keep [] w12 W → W.cell? ⟨w.heap.size, 3, none⟩ = some (.int .u8 c.hi) := fun W k => (hG12.keep k (by simp)).cell 3
      have c4 : ∀ W, Keep [] w12 W → W.cell? ⟨w.heap.size, 4, none⟩ = some (.int .u8 c.co) := fun W k => (hG12.keep k (by simp)).cell 4
      have c5 : ∀ W, Keep [] w12 W → W.cell? ⟨w.heap.size, 5, none⟩ = some (.int .u8 c.se) := fun W k => (hG12.keep k (by simp)).cell 5
      have hee : ∀ W, Sem.run Try.prog (binOp .eql 60 (.agg #[.int .u8 f.ch, .bool f.at_, .int .u8 f.fa, .int .u8 f.hi, .int .u8 f.co, .int .u8 f.se]) (.agg #[.int .u8 f.ch, .bool f.at_, .int .u8 f.fa, .int .u8 f.hi, .int .u8 f.co, .int .u8 f.se])) W = .ok (.bool true) W := fun W => by rw [cell_eqC, C.eqb_self]
      have K0 : Keep [] w12 w12.drew := (Keep.refl [] w12).drew
      have KW := Aside0.mk hW12
      clear hpt hcp hs10 hs11 hs12 hk12 k12 hP12 hR12 hG12 hW12 hgN hf hcu hwn hPL hsl hb11 hp2 hb2
      refine wp_quiet_all (K := fun W => Keep [] w12 W) (by kernel_rfl) (by kernel_rfl) K0 ?_
      repeat (first
        | go_big_quiet_skip
        | (go_big_quiet_want; first
            | (go_big_quiet_op; first
                | go_big_quiet_on
                | (go_big_quiet_call ((intro hW; first
                    | exact Calls.mono (q58 _ hW) (fun e W' h => ⟨h.1, hW.call h.2⟩)
                    | exact Calls.mono (q63 _) (fun e W' h => ⟨h.1, hW.call h.2⟩)
                    | exact Calls.mono (q64 _ hW) (fun e W' h => ⟨h.1, hW.call h.2⟩)
                    | exact Calls.mono (q65 _ hW) (fun e W' h => ⟨h.1, hW.call h.2⟩)
                    | exact Calls.mono (q66 _ hW) (fun e W' h => ⟨h.1, hW.call h.2⟩)))))
            | (apply quiet_of
               · (intro W hW
                  go_simp
                  with_reducible rfl)
               simp only [Act.put, List.setIfInBounds_toArray, List.set_cons_zero, List.set_cons_succ]
               go_big_quiet_on)))
      refine wpQuiet_nil ?_
      intro W2 k2
      clear K0
      go_wp2
      go_ret
      exact ⟨rfl, (KW.out.trans k2 (by simp)).below⟩

end Go.Proofs.Ytangandfgbnomaa.V
