/- Spaces that are alike but for the cursor don't differ; any act of the cursor on the reference's space; a row of such acts opened. -/
import Derived.Test.YtangandfgbnomaaVCC
import Derived.Test.YtangandfgbnomaaVRP
import Derived.Stop.RegionWithIn
namespace Go.Proofs.Ytangandfgbnomaa.V
open Go.RowKit Go.Shelf
set_option linter.unusedVariables false
set_option linter.unusedSimpArgs false


attribute [local go_sem] Oper.semAt_some
theorem rcdo_calls {w : World} {p b : Nat} {s : S} (h : RSp w p b s) (ok : s.ok) (a : CA) (hf : a.fine) : Calls Try.prog 127 #[.pointer (some ⟨p, 0, none⟩), a.v] w (RPost w p b s a) := by
  have : a.d % 6 = 0 ∨ a.d % 6 = 1 ∨ a.d % 6 = 2 ∨ a.d % 6 = 3 ∨ a.d % 6 = 4 ∨ a.d % 6 = 5 := by omega
  rcases this with e | e | e | e | e | e
  · exact rcdo_0 h ok a hf e
  · exact rcdo_1 h ok a hf e
  · exact rcdo_2 h ok a hf e
  · exact rcdo_3 h ok a hf e
  · exact rcdo_4 h ok a hf e
  · exact rcdo_5 h ok a hf e

set_option maxRecDepth 100000 in
set_option maxHeartbeats 4000000 in
theorem diff_same {w : World} {p b q d : Nat} {s o : S} (h : PSp w p b s) (h2 : PSp w q d o) (ok : s.ok) (ok2 : o.ok) (hl : o.l = s.l) (hr : o.r = s.r) (hc : o.c = s.c) :
    Calls Try.prog 104 #[.pointer (some ⟨p, 0, none⟩), .pointer (some ⟨q, 0, none⟩)] w fun e w' => e = .returned (.slice none 0 0) ∧ Below w.heap.size w w' := by
  refine (callsIn_wide (n := 7)).1 ?_
  have hpb : p < w.heap.size ∧ b < w.heap.size := by obtain ⟨_, _, _, x1, x2⟩ := id h; exact ⟨x1.lt, x2.lt⟩
  have hqd : q < w.heap.size ∧ d < w.heap.size := by obtain ⟨_, _, _, x1, x2⟩ := id h2; exact ⟨x1.lt, x2.lt⟩
  have hit := all_calls (((w.alloc (.cells #[.pointer (some ⟨p, 0, none⟩)] 61)).alloc (.cells #[.pointer (some ⟨q, 0, none⟩)] 61)).alloc (.cells #[.slice none 0 0] 79)) (some ⟨p, 0, none⟩)
  simp only [World.size_alloc] at hit
  have c1 := (((Blk.new w [.pointer (some ⟨p, 0, none⟩)] 61).alloc (.cells #[.pointer (some ⟨q, 0, none⟩)] 61)).alloc (.cells #[.slice none 0 0] 79)).cell 0
  simp only [List.getElem?_cons_zero] at c1
  refine callsIn_of_wp_marks Try.func104 rfl trivial ?_ rfl
  simp only [Try.ntmps104, List.size_toArray, List.length_cons, List.length_nil, Nat.reduceAdd, Nat.reduceSub, Array.replicate_succ, Array.replicate_zero, List.push_toArray, List.append_toArray, List.nil_append, List.cons_append]
  gi_wp2_with (first
    | (refine ⟨trivial, ?_⟩; gi_at_call 162; (with_reducible refine (callsIn_wide.2 hit).mono ?_); rintro e w1 ⟨rfl, rfl⟩))
  have a0 := (((Blk.new w [.pointer (some ⟨p, 0, none⟩)] 61).alloc (.cells #[.pointer (some ⟨q, 0, none⟩)] 61)).alloc (.cells #[.slice none 0 0] 79)).alloc (.cells #[.pointer (some ⟨p, 0, none⟩)] 61)
  have a1 := ((Blk.new (w.alloc (.cells #[.pointer (some ⟨p, 0, none⟩)] 61)) [.pointer (some ⟨q, 0, none⟩)] 61).alloc (.cells #[.slice none 0 0] 79)).alloc (.cells #[.pointer (some ⟨p, 0, none⟩)] 61)
  have a2 := (Blk.new ((w.alloc (.cells #[.pointer (some ⟨p, 0, none⟩)] 61)).alloc (.cells #[.pointer (some ⟨q, 0, none⟩)] 61)) [.slice none 0 0] 79).alloc (.cells #[.pointer (some ⟨p, 0, none⟩)] 61)
  have a3 := Blk.new (((w.alloc (.cells #[.pointer (some ⟨p, 0, none⟩)] 61)).alloc (.cells #[.pointer (some ⟨q, 0, none⟩)] 61)).alloc (.cells #[.slice none 0 0] 79)) [.pointer (some ⟨p, 0, none⟩)] 61
  simp only [World.size_alloc] at a0 a1 a2 a3
  have K1 := ((((Keep.refl [] w).alloc (.cells #[.pointer (some ⟨p, 0, none⟩)] 61)).alloc (.cells #[.pointer (some ⟨q, 0, none⟩)] 61)).alloc (.cells #[.slice none 0 0] 79)).alloc (.cells #[.pointer (some ⟨p, 0, none⟩)] 61)
  have hsz : ((((w.alloc (.cells #[.pointer (some ⟨p, 0, none⟩)] 61)).alloc (.cells #[.pointer (some ⟨q, 0, none⟩)] 61)).alloc (.cells #[.slice none 0 0] 79)).alloc (.cells #[.pointer (some ⟨p, 0, none⟩)] 61)).heap.size = w.heap.size + 4 := by simp only [World.size_alloc]
  clear c1
  generalize (((w.alloc (.cells #[.pointer (some ⟨p, 0, none⟩)] 61)).alloc (.cells #[.pointer (some ⟨q, 0, none⟩)] 61)).alloc (.cells #[.slice none 0 0] 79)).alloc (.cells #[.pointer (some ⟨p, 0, none⟩)] 61) = W at *
  have hs1 := h.keep K1 (by simp) (by simp)
  have hs2 := h2.keep K1 (by simp) (by simp)
  have hst := all_stopsP (Inv := fun s' => s' = s) ((holds_kc (R := []) 0 (by simp)).servesI p b _) hs1 rfl (fun s' e => by subst e; exact ⟨ok, rfl, rfl, rfl⟩) a3 ⟨by omega, by omega⟩ (Nat.zero_le _) ⟨by simp, by simp, by simp⟩ 6 (by decide)
  have hz1 := size_calls hs1
  have hz2 := size_calls hs2
  rw [hr, hc] at hz2
  refine wpIn_rangeP (F := Fence.wide) (n := 7) rfl (by decide) (gf := 184) (lb := #[.pointer (some ⟨w.heap.size + 1 + 1 + 1, 0, none⟩)]) rfl trivial (enters_of Try.func184 (by kernel_rfl) rfl)
    hst KC.trans (fun V l o o' hl ho hc hw => KC.put ho hc) (Below.refl _ _) (fun _ => rfl)
    (fun _ V => Keep [] W V) (fun _ _ _ => False) (ownFrom_keep (by omega)) (fun _ _ _ _ _ hs _ _ => hs) (Keep.refl _ _)
    (fun x a' V => ∃ Bc, Blk V Bc x.2.vs 60 ∧ a' = { tmps := #[.pointer (some ⟨p, 0, none⟩), .pointer (some ⟨q, 0, none⟩), .pointer (some ⟨w.heap.size, 0, none⟩), .pointer (some ⟨w.heap.size + 1, 0, none⟩), .slice none 0 0, .pointer (some ⟨w.heap.size + 1 + 1, 0, none⟩), .int .i64 (x.1 : Int), .pointer (some ⟨Bc, 0, none⟩), .pointer (some ⟨p, 0, none⟩), .func (.func 184) #[] #[.pointer (some ⟨w.heap.size + 1 + 1 + 1, 0, none⟩)], .int .i64 (x.1 : Int), x.2.v, undef, undef, undef, undef, undef, undef, undef, undef, undef, undef, undef, undef, undef, undef, undef, undef, undef], defers := [] }) ?ax ?assign ?body ?done (fun _ _ _ _ _ _ h _ => h.elim)
  case ax =>
    rintro x a' u A B row ⟨Bc, h3, he⟩ hg hr
    exact ⟨Bc, ownFrom_blk (f := fun _ : Unit => x.2.vs) () A B row h3 hg hr, he⟩
  case assign =>
    rintro lr pre x V K hI _ _ hK2
    have kk : Keep [] V (V.alloc (.cells #[.int .u8 x.2.ch, .bool x.2.at_, .int .u8 x.2.fa, .int .u8 x.2.hi, .int .u8 x.2.co, .int .u8 x.2.se] 60)) := (Keep.refl [] V).alloc _
    have HK := Aside0.mk (hK2 _ _ (kk.keepsFrom _ (by simp)) kk.kc (hI.alloc _) ⟨_, Blk.new V x.2.vs 60, rfl⟩)
    clear hK2 kk hst hI
    gi_wp2
    exact HK.out
  case body =>
    rintro lr pre x a' V hlr hrec hK ⟨Bc, hbc, rfl⟩ ⟨hp1, ⟨s9, rfl, hp2⟩, _⟩ hlen
    obtain ⟨i, c⟩ := x
    simp only at hp1 hp2
    have hiN : i < s9.l.length := by omega
    have b0 : ∀ U, Keep [] V U → U.cell? ⟨Bc, 0, none⟩ = some (.int .u8 c.ch) := fun U k => (hbc.keep k (by simp)).cell 0
    have b1 : ∀ U, Keep [] V U → U.cell? ⟨Bc, 1, none⟩ = some (.bool c.at_) := fun U k => (hbc.keep k (by simp)).cell 1
    have b2 : ∀ U, Keep [] V U → U.cell? ⟨Bc, 2, none⟩ = some (.int .u8 c.fa) := fun U k => (hbc.keep k (by simp)).cell 2
    have b3 : ∀ U, Keep [] V U → U.cell? ⟨Bc, 3, none⟩ = some (.int .u8 c.hi) := fun U k => (hbc.keep k (by simp)).cell 3
    have b4 : ∀ U, Keep [] V U → U.cell? ⟨Bc, 4, none⟩ = some (.int .u8 c.co) := fun U k => (hbc.keep k (by simp)).cell 4
    have b5 : ∀ U, Keep [] V U → U.cell? ⟨Bc, 5, none⟩ = some (.int .u8 c.se) := fun U k => (hbc.keep k (by simp)).cell 5
    have x0 : ∀ U, Keep [] V U → U.cell? ⟨w.heap.size, 0, none⟩ = some (.pointer (some ⟨p, 0, none⟩)) := fun U k => (a0.keep (hK.trans k (by simp)) (by simp)).cell 0
    have x1 : ∀ U, Keep [] V U → U.cell? ⟨w.heap.size + 1, 0, none⟩ = some (.pointer (some ⟨q, 0, none⟩)) := fun U k => (a1.keep (hK.trans k (by simp)) (by simp)).cell 0
    have c57 : ∀ U, Keep [] V U → Calls Try.prog 57 #[.pointer (some ⟨p, 0, none⟩)] U fun e w' => e = .returned (.agg #[.int .i64 s9.r, .int .i64 s9.c]) ∧ Below U.heap.size U w' := fun U k => size_calls (hs1.keep (hK.trans k (by simp)) (by simp) (by simp))
    have c57b : ∀ U, Keep [] V U → Calls Try.prog 57 #[.pointer (some ⟨q, 0, none⟩)] U fun e w' => e = .returned (.agg #[.int .i64 s9.r, .int .i64 s9.c]) ∧ Below U.heap.size U w' := fun U k => by
      have := size_calls (hs2.keep (hK.trans k (by simp)) (by simp) (by simp))
      rw [hr, hc] at this; exact this
    have c58 : ∀ U, Keep [] V U → Calls Try.prog 58 #[.pointer (some ⟨q, 0, none⟩), .int .i64 (i : Int)] U fun e w' => e = .returned (.agg #[.int .u8 c.ch, .bool c.at_, .int .u8 c.fa, .int .u8 c.hi, .int .u8 c.co, .int .u8 c.se]) ∧ Below U.heap.size U w' := fun U k => by
      have := at_calls (hs2.keep (hK.trans k (by simp)) (by simp) (by simp)) ok2 (i : Int)
      rw [S.get_self ok2 (by rw [hl]; exact hiN), hl, ← hp2] at this; exact this
    have hnn : ∀ W, Sem.run Try.prog (binOp .neq 60 (.agg #[.int .u8 c.ch, .bool c.at_, .int .u8 c.fa, .int .u8 c.hi, .int .u8 c.co, .int .u8 c.se]) (.agg #[.int .u8 c.ch, .bool c.at_, .int .u8 c.fa, .int .u8 c.hi, .int .u8 c.co, .int .u8 c.se])) W = .ok (.bool false) W := fun W => by rw [cell_neC, C.eqb_self]; rfl
    have kd := (Keep.refl [] V).drew
    have HKV := Aside0.mk hK
    clear hst hz1 hz2 hK hbc hlen hp1 hp2 hiN a0 a1 a2 a3 hit hs1 hs2
    gi_wp2_with fail
    gi_region_with (first
      | (refine ⟨trivial, ?_⟩; gi_at_call 57; (with_reducible refine (CallsIn.inRound lr (callsIn_wide.2 (c57 _ (by assumption)))).mono ?_); rintro e w4 ⟨rfl, hb4⟩; have k4 := Keep.call (R := []) (a := V) (by assumption) hb4)
      | (refine ⟨trivial, ?_⟩; gi_at_call 57; (with_reducible refine (CallsIn.inRound lr (callsIn_wide.2 (c57b _ (by assumption)))).mono ?_); rintro e w5 ⟨rfl, hb5⟩; have k5 := Keep.call (R := []) (a := V) (by assumption) hb5)
      | (refine ⟨trivial, ?_⟩; gi_at_call 58; (with_reducible refine (CallsIn.inRound lr (callsIn_wide.2 (c58 _ (by assumption)))).mono ?_); rintro e w6 ⟨rfl, hb6⟩; have k6 := Keep.call (R := []) (a := V) (by assumption) hb6))
    all_goals (
      gi_wp2
      refine ⟨Keep.keepsFrom _ k6 (by simp), k6.kc, HKV.out.trans k6 (by simp)⟩)
  case done =>
    rintro D xs V hD hxs hK hKD
    have hb := a2.keep hK (by simp)
    have c0 := hb.cell 0
    simp only [List.getElem?_cons_zero] at c0
    clear hst
    gi_wp2
    refine ⟨by simp, .inl ⟨_, _, rfl, run_takeDeferred hKD, ?_⟩⟩
    exact ⟨_, results_tmp rfl _ _ _, rfl, ((K1.trans hK (by simp)).putObj (by omega)).below⟩

end Go.Proofs.Ytangandfgbnomaa.V
