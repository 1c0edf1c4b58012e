/- The places of attributes, told by the program: the contract of its closure. -/
import Derived.Test.YtangandfgbnomaaVR1
namespace Go.Proofs.Ytangandfgbnomaa.V
open Go.RowKit Go.Shelf
set_option linter.unusedVariables false
set_option linter.unusedSimpArgs false


attribute [local go_sem] Oper.semAt_some

/-- The places of the attributes among cells that were told. -/
def atOf (xs : List (Nat × C)) : List Int := (xs.filter (fun x => x.2.at_)).map (fun x => (x.1 : Int))
theorem atOf_snoc (xs : List (Nat × C)) (x : Nat × C) : atOf (xs ++ [x]) = atOf xs ++ (if x.2.at_ = true then [(x.1 : Int)] else []) := by
  unfold atOf
  rw [List.filter_append, List.map_append]
  congr 1
  simp only [List.filter_cons, List.filter_nil]
  split <;> rfl
theorem atOf_le (xs : List (Nat × C)) : (atOf xs).length ≤ xs.length := by unfold atOf; rw [List.length_map]; exact List.length_filter_le _ _
theorem AllIs.cut {Inv : S → Prop} {k : Nat} {xs : List (Nat × C)} (h : AllIs Inv (k + 1) xs) : ∃ ys s', Inv s' ∧ AllIs Inv k ys ∧ xs = ys ++ [(k, s'.l.getD k C.zero)] := by
  obtain ⟨s', hi, hx⟩ := h.2 k (by omega)
  refine ⟨xs.take k, s', hi, ⟨by rw [List.length_take, h.1]; omega, fun i hik => ?_⟩, ?_⟩
  · obtain ⟨s2, h2, h3⟩ := h.2 i (by omega)
    exact ⟨s2, h2, by rw [List.getElem?_take_of_lt hik]; exact h3⟩
  · have hk : k < xs.length := by rw [h.1]; omega
    rw [List.getElem?_eq_getElem hk] at hx
    have hx := Option.some.inj hx
    have e : xs = xs.take k ++ xs.drop k := (List.take_append_drop k xs).symm
    rw [List.drop_eq_getElem_cons hk, hx, List.drop_eq_nil_of_le (by rw [h.1]; omega)] at e
    exact e
theorem AllIs.atts {Inv : S → Prop} {l : List C} (hI : ∀ s', Inv s' → ∀ n, ata s'.l n = ata l n) : ∀ (k : Nat) (xs : List (Nat × C)), AllIs Inv k xs → atOf xs = attsTo l k
  | 0, xs, h => by
    have : xs = [] := List.length_eq_zero_iff.1 h.1
    subst this; rfl
  | k + 1, xs, h => by
    obtain ⟨ys, s', hi, hy, rfl⟩ := h.cut
    rw [atOf_snoc, attsTo_succ, AllIs.atts hI k ys hy]
    have := hI s' hi k
    unfold ata at this
    simp only [this]
theorem attsTo_prefix (l : List C) {k n : Nat} (h : k ≤ n) : attsTo l k <+: attsTo l n := by
  unfold attsTo
  refine List.IsPrefix.map _ (List.IsPrefix.filter _ ?_)
  exact ⟨(List.range (n - k)).map (k + ·), by rw [← List.range_add]; congr 1; omega⟩

theorem attrs_calls (w : World) (v : Option Addr) : Calls Try.prog 158 #[.pointer v] w fun e w' => e = .returned (.func (.func 183) #[] #[.pointer (some ⟨w.heap.size, 0, none⟩)]) ∧ w' = w.alloc (.cells #[.pointer v] 61) := by
  go_enter Try.func158, Try.ntmps158
  go_wp2
  go_ret
  exact ⟨rfl, rfl⟩

set_option maxRecDepth 100000 in
set_option maxHeartbeats 4000000 in
theorem attrs_stops {Kp : World → World → Prop} {safe : World → Nat → Prop} {good : World → Prop} {w : World} {p b : Nat} {Inv : S → Prop} {s : S} {N : Nat} {R C' : Int} (hS : ServesI Kp safe good p b Inv) (hL : Lets Kp good w.heap.size) (h : PSp w p b s) (hs : Inv s)
    (hI : ∀ s', Inv s' → s'.ok ∧ s'.l.length = N ∧ s'.r = R ∧ s'.c = C' ∧ ∀ n, ata s'.l n = ata s.l n) {B1 : Nat} (h1 : Blk w B1 [.pointer (some ⟨p, 0, none⟩)] 61) (hg : good w) (hsf : safe w p ∧ safe w b) (n : Nat) (hn : 4 ≤ n) :
    SeqF Fence.wide n Try.prog 183 #[.pointer (some ⟨B1, 0, none⟩)] (fun x : Int => #[Value.int .i64 x]) Kp (fun ys => ys = atts s.l) (fun pre => pre <+: atts s.l) N w := by
  intro l J Jx W hW hJ hJx hY h0
  have h1n : 1 ≤ n := by omega
  have h2n : 1 ≤ n - 1 := by omega
  have h3n : 1 ≤ n - 1 - 1 := by omega
  have kW := Keep.of_below hW []
  have hp := h.keep kW (by simp) (by simp)
  have b1 := h1.call hW
  have hgW := hS.gkeep _ _ kW hg
  have hlp : p < w.heap.size ∧ b < w.heap.size := by obtain ⟨_, _, _, x1, x2⟩ := id h; exact ⟨x1.lt, x2.lt⟩
  have hsW : safe W p ∧ safe W b := ⟨hS.keep _ _ _ kW hlp.1 hsf.1 hg, hS.keep _ _ _ kW hlp.2 hsf.2 hg⟩
  have hlW : p < W.heap.size ∧ b < W.heap.size := by have := kW.size; omega
  have hN : s.l.length = N := (hI s hs).2.1
  have HLW := Aside0.mk hlW
  have HP := Aside0.mk hp
  have HJ := Aside0.mk hJ
  have HJX := Aside0.mk hJx
  have HY := Aside0.mk hY
  have H0 := Aside0.mk h0
  have HS := Aside0.mk hS
  have HL := Aside0.mk (hL.up kW.size)
  have HI := Aside0.mk hI
  have HSS := Aside0.mk hs
  have HG := Aside0.mk (And.intro hgW hsW)
  have HN := Aside0.mk hN
  have c1 := (b1.alloc (.cells #[.func (.yield l) #[] #[]] 31)).cell 0
  simp only [List.getElem?_cons_zero] at c1
  have hit := all_calls (W.alloc (.cells #[.func (.yield l) #[] #[]] 31)) (some ⟨p, 0, none⟩)
  simp only [World.size_alloc] at hit
  clear hS hL h h1 hg hsf hlp kW hp b1 hgW hsW hJ hJx hY h0 hs hW hI hN hlW
  refine callsIn_of_wp_marks Try.func183 rfl trivial ?_ rfl
  simp only [Try.ntmps183, List.size_toArray, List.length_cons, List.length_nil, Nat.reduceAdd, Nat.reduceSub, Array.replicate_succ, Array.replicate_zero, List.push_toArray, List.append_toArray, List.nil_append, List.cons_append]
  gi_wp2_with (first
    | (refine ⟨trivial, ?_⟩; gi_at_call 162; (with_reducible refine (callsIn_wide.2 hit).mono ?_); rintro e w1 ⟨rfl, rfl⟩))
  have K0 := (Keep.refl [] W).alloc (.cells #[.func (.yield l) #[] #[]] 31)
  have a2 := Blk.new W [.func (.yield l) #[] #[]] 31
  have a3 := Blk.new (W.alloc (.cells #[.func (.yield l) #[] #[]] 31)) [.pointer (some ⟨p, 0, none⟩)] 61
  simp only [World.size_alloc] at a3
  have K1 := K0.alloc (.cells #[.pointer (some ⟨p, 0, none⟩)] 61)
  have x2 := a2.alloc (.cells #[.pointer (some ⟨p, 0, none⟩)] 61)
  have hsz : ((W.alloc (.cells #[.func (.yield l) #[] #[]] 31)).alloc (.cells #[.pointer (some ⟨p, 0, none⟩)] 61)).heap.size = W.heap.size + 2 := by simp only [World.size_alloc]
  have sx : safe (W.alloc (.cells #[.func (.yield l) #[] #[]] 31)) W.heap.size := HS.out.fresh _ _ HG.out.1
  have g1 := HS.out.gkeep _ _ K0 HG.out.1
  have sx2 := HS.out.keep _ _ _ ((Keep.refl [] (W.alloc (.cells #[.func (.yield l) #[] #[]] 31))).alloc (.cells #[.pointer (some ⟨p, 0, none⟩)] 61)) (by rw [World.size_alloc]; omega) sx g1
  have sb := HS.out.fresh (W.alloc (.cells #[.func (.yield l) #[] #[]] 31)) (.cells #[.pointer (some ⟨p, 0, none⟩)] 61) g1
  simp only [World.size_alloc] at sb
  generalize (W.alloc (.cells #[.func (.yield l) #[] #[]] 31)).alloc (.cells #[.pointer (some ⟨p, 0, none⟩)] 61) = V0 at *
  have gV := HS.out.gkeep _ _ K1 HG.out.1
  have spV := HS.out.keep _ _ _ K1 HLW.out.1 HG.out.2.1 HG.out.1
  have sbV := HS.out.keep _ _ _ K1 HLW.out.2 HG.out.2.2 HG.out.1
  have hbx : W.heap.size ≠ p ∧ W.heap.size ≠ b := by have := HLW.out; omega
  have hba : W.heap.size + 1 ≠ p ∧ W.heap.size + 1 ≠ b := by have := HLW.out; omega
  have hst := all_stops HS.out (HP.out.keep K1 (by simp) (by simp)) HSS.out (fun s' hs' => ⟨(HI.out s' hs').1, (HI.out s' hs').2.1, (HI.out s' hs').2.2.1, (HI.out s' hs').2.2.2.1⟩) a3 hba gV ⟨sb, spV, sbV⟩ (n - 1) (by omega)
  clear K0 a2 sx g1 sb c1
  refine wpIn_rangeFunc_ownH (F := Fence.wide) (n := n) rfl (by omega) (gf := 184) (lb := #[.pointer (some ⟨W.heap.size + 1, 0, none⟩)]) rfl trivial (enters_of Try.func184 (by kernel_rfl) rfl)
    hst HL.out.trans (fun V lv o o' hl ho hc hw => HL.out.put V lv o o' (by omega) ho hc) (Below.refl _ _) (fun _ => rfl)
    (fun pre V => J (atOf pre) V ∧ good V ∧ safe V W.heap.size ∧ Blk V W.heap.size [.func (.yield l) #[] #[]] 31) (fun c pre V => c = .ret ∧ Jx (atOf pre) V)
    ?own ?ownx ⟨?start, gV, sx2, x2⟩
    (fun x a' V => ∃ Bc, Blk V Bc x.2.vs 60 ∧ a' = { tmps := #[.func (.yield l) #[] #[], .pointer (some ⟨B1, 0, none⟩), .pointer (some ⟨W.heap.size, 0, none⟩), .int .i64 (x.1 : Int), .pointer (some ⟨Bc, 0, none⟩), .pointer (some ⟨p, 0, none⟩), .func (.func 184) #[] #[.pointer (some ⟨W.heap.size + 1, 0, none⟩)], .int .i64 (x.1 : Int), x.2.v, undef, undef, undef, undef, undef, undef, undef, undef], defers := [] }) ?ax ?assign ?body ?done ?stop
  case own =>
    refine OwnFrom.and ?_ (good_own HS.out.toSafe (HL.out.up (by omega)))
    exact fun s A B row hs hg hr => HJ.out _ A B row hs hg (fun r e => ⟨by have := (hr r e).1; omega, (hr r e).2⟩)
  case ownx =>
    exact fun c => OwnFrom.and (fun _ _ _ _ h _ _ => h) (fun s A B row hs hg hr => HJX.out _ A B row hs hg (fun r e => ⟨by have := (hr r e).1; omega, (hr r e).2⟩))
  case start => exact abides_keep (abides_own HJ.out) H0.out K1
  case ax =>
    rintro x a' u A B row ⟨Bc, hb, he⟩ hg hr
    exact ⟨Bc, ownFrom_blk (f := fun _ : Unit => x.2.vs) () A B row hb hg hr, he⟩
  case assign =>
    rintro lr pre x V K ⟨hj, hgd, hsx, hbx2⟩ hK
    have kk : Keep [] V (V.alloc (.cells #[.int .u8 x.2.ch, .bool x.2.at_, .int .u8 x.2.fa, .int .u8 x.2.hi, .int .u8 x.2.co, .int .u8 x.2.se] 60)) := (Keep.refl [] V).alloc _
    have hK2 := hK _ (V.alloc (.cells #[.int .u8 x.2.ch, .bool x.2.at_, .int .u8 x.2.fa, .int .u8 x.2.hi, .int .u8 x.2.co, .int .u8 x.2.se] 60)) (kk.keepsFrom _ (by simp)) (HL.out.keep kk hgd)
      ⟨abides_keep (abides_own HJ.out) hj kk, HS.out.gkeep _ _ kk hgd, HS.out.keep _ _ _ kk hbx2.lt hsx hgd, hbx2.keep kk (by simp)⟩ ⟨_, Blk.new V x.2.vs 60, rfl⟩
    have HK := Aside0.mk hK2
    clear hK hK2 hj hgd hsx hbx2 kk hst
    gi_wp2
    exact HK.out
  case body =>
    rintro lr pre x a' V hlr hrec ⟨hj, hgd, hsx, hbx2⟩ ⟨Bc, hbc, rfl⟩ hlen
    obtain ⟨i, c⟩ := x
    have cc := hbc.cell 1
    have cx := hbx2.cell 0
    simp only [List.getElem?_cons_zero, List.getElem?_cons_succ] at cc cx
    have hl2 : (atOf pre).length < N := Nat.lt_of_le_of_lt (atOf_le pre) hlen
    obtain ⟨q, hq⟩ : ∃ q, c.at_ = q := ⟨_, rfl⟩
    have hsn := atOf_snoc pre (i, c)
    simp only [hq] at hsn
    rw [hq] at cc
    have hKV : Kp V V := HL.out.keep (Keep.refl [] V) hgd
    have HV := Aside0.mk (And.intro hj (And.intro hgd (And.intro hsx (And.intro hbx2 hKV))))
    have HSN := Aside0.mk hsn
    clear hj hgd hsx hbx2 hKV hst hsn hbc hlen hrec
    cases q
    · clear hl2
      gi_wp2
      all_goals (refine ⟨fun _ _ => trivial, ?_⟩)
      all_goals gi_wp2
      all_goals refine ⟨KeepsFrom.refl _ _, HV.out.2.2.2.2, ?_, HV.out.2.1, HV.out.2.2.1, HV.out.2.2.2.1⟩
      all_goals rw [HSN.out]
      all_goals simp only [Bool.false_eq_true, if_false, List.append_nil]
      all_goals exact HV.out.1
    · obtain ⟨fn, tmps, assign, body, hy, hR⟩ := yield_wide (m := n - 1 - 1 - 1) (l' := lr) (HY.out (atOf pre) (i : Int) V HV.out.1 hl2)
      clear hl2
      gi_wp2
      clear hy
      refine hR.mono ?_
      rintro e V3 (⟨rfl, hJ3, hk3, hkf⟩ | ⟨rfl, hJx3, hkf⟩)
      · gi_wp2
        have q := HV.out
        refine ⟨⟨hkf.size, fun k o hB hk ho => hkf.same k o (by omega) hk ho⟩, hk3, ?_, HS.out.gkp _ _ hk3 q.2.1, HS.out.kp _ _ _ hk3 q.2.2.2.1.lt q.2.2.1, HS.out.blk _ _ _ _ _ hk3 hbx.1 hbx.2 q.2.2.1 q.2.2.2.1⟩
        rw [HSN.out]
        exact hJ3
      · gi_wp2
        refine ⟨⟨hkf.size, fun k o hB hk ho => hkf.same k o (by omega) hk ho⟩, rfl, ?_⟩
        rw [HSN.out]
        exact hJx3
  case done =>
    rintro D ys V hD hys ⟨hj, _⟩ hKD
    have e := hys.atts (fun s' hs' => (HI.out s' hs').2.2.2.2)
    have hj2 := HJ.out.putObj (.deferred none) hj (by omega) hKD rfl
    rw [e] at hj2
    gi_wp2
    refine ⟨by simp, .inl ⟨_, _, rfl, run_takeDeferred hKD, ?_⟩⟩
    refine ⟨_, results_none rfl _ _ _, ⟨_, rfl⟩, .inl ⟨_, ?_, hj2⟩⟩
    unfold atts; rw [HN.out]
  case stop =>
    rintro D c pre V hD ⟨k, hkN, hpre⟩ ⟨rfl, hj⟩ hKD
    have e := hpre.atts (fun s' hs' => (HI.out s' hs').2.2.2.2)
    have hj2 := HJX.out.putObj (.deferred none) hj (by omega) hKD rfl
    rw [e] at hj2
    gi_wp2
    refine ⟨by simp, .inl ⟨_, _, rfl, run_takeDeferred hKD, ?_⟩⟩
    refine ⟨_, results_none rfl _ _ _, ⟨_, rfl⟩, .inr ⟨_, ?_, hj2⟩⟩
    unfold atts; rw [HN.out]; exact attsTo_prefix _ hkN


end Go.Proofs.Ytangandfgbnomaa.V
