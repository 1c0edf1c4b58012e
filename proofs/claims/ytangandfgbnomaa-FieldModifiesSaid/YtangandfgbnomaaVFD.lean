/- The fields, told by the program: the contract of its closure; what a round that writes the space keeps. -/
import Derived.Test.YtangandfgbnomaaVRP
import Derived.Test.YtangandfgbnomaaVE3
import Derived.Test.YtangandfgbnomaaVWI
import Derived.Stop.RegionWithIn
namespace Go.Proofs.Ytangandfgbnomaa.V
open Go.RowKit Go.Shelf
set_option linter.unusedVariables false
set_option linter.unusedSimpArgs false


attribute [local go_sem] Oper.semAt_some

/-- What a round may write that writes the space and the blocks in R: the space stays one of Inv. -/
def KS (R : List Nat) (p b : Nat) (Inv : S → Prop) (W W' : World) : Prop := KC (p :: b :: R) W W' ∧ ∀ s', PSp W p b s' → Inv s' → ∃ s'', PSp W' p b s'' ∧ Inv s''
theorem KS.trans {R : List Nat} {p b : Nat} {Inv : S → Prop} {A B C : World} (h : KS R p b Inv A B) (k : KS R p b Inv B C) : KS R p b Inv A C :=
  ⟨h.1.trans k.1, fun s' hs hi => by obtain ⟨s2, h2, i2⟩ := h.2 s' hs hi; exact k.2 s2 h2 i2⟩
theorem KS.of_kc {R : List Nat} {p b : Nat} {Inv : S → Prop} {A B : World} (h : KC [] A B) : KS R p b Inv A B :=
  ⟨⟨h.size, fun k o _ ho hc => h.block k o (by simp) ho hc⟩, fun s' hs hi => ⟨s', h.psp hs (by simp) (by simp), hi⟩⟩
theorem KS.keep {R : List Nat} {p b : Nat} {Inv : S → Prop} {A B : World} (h : Keep [] A B) : KS R p b Inv A B := KS.of_kc h.kc
theorem flat_inj : ∀ {l m : List C} {x y : List Value}, l.length = m.length → flat l ++ x = flat m ++ y → l = m
  | [], [], _, _, _, _ => rfl
  | c :: l, d :: m, x, y, hl, h => by
    rw [flat_cons, flat_cons] at h
    simp only [C.vs, List.cons_append, List.nil_append, List.cons.injEq, Value.int.injEq, Value.bool.injEq, true_and] at h
    obtain ⟨h0, h1, h2, h3, h4, h5, h6⟩ := h
    have := flat_inj (by simpa using hl) h6
    obtain ⟨c0, c1, c2, c3, c4, c5⟩ := c
    obtain ⟨d0, d1, d2, d3, d4, d5⟩ := d
    simp only at h0 h1 h2 h3 h4 h5
    rw [this, h0, h1, h2, h3, h4, h5]
theorem psp_inj {W : World} {p b : Nat} {s s' : S} (h : PSp W p b s) (h' : PSp W p b s') : s = s' := by
  obtain ⟨cap, ex, hc, x1, x2⟩ := h
  obtain ⟨cap', ex', hc', y1, y2⟩ := h'
  have e1 := (show W.heap[p]? = _ from x1).symm.trans y1
  have e2 := (show W.heap[b]? = _ from x2).symm.trans y2
  simp only [Option.some.injEq, Obj.cells.injEq, and_true, true_and] at e1 e2
  have e1 := congrArg Array.toList e1
  have e2 : flat s.l ++ ex = flat s'.l ++ ex' := by simpa using congrArg Array.toList e2
  simp only [List.cons.injEq, Value.int.injEq, Value.bool.injEq, Value.slice.injEq, and_true, true_and] at e1
  obtain ⟨m1, m2, m3, m4, ⟨m5, _⟩, m6, _⟩ := e1
  have hl := flat_inj m5 e2
  obtain ⟨a1, a2, a3, a4, a5, a6⟩ := s
  obtain ⟨b1, b2, b3, b4, b5, b6⟩ := s'
  simp only at m1 m2 m3 m4 m6 hl
  rw [m1, m2, m3, m4, m6, hl]
theorem KS.upd {R : List Nat} {p b : Nat} {Inv : S → Prop} {A B : World} {s s2 : S} (h : Keep (p :: b :: R) A B) (hs : PSp A p b s) (h2 : PSp B p b s2) (hi : Inv s → Inv s2) : KS R p b Inv A B :=
  ⟨h.kc, fun s' hs' hi' => ⟨s2, h2, hi (by rw [psp_inj hs hs']; exact hi')⟩⟩
theorem serves_ks {R : List Nat} {p b : Nat} {Inv : S → Prop} (n0 : Nat) (hR : ∀ r ∈ R, r < n0) : ServesI (KS R p b Inv) (fun _ X => X ∉ R) (fun W => n0 ≤ W.heap.size) p b Inv where
  fresh W o h := fun hr => by have := hR _ hr; omega
  keep _ _ _ _ _ h _ := h
  kp _ _ _ _ _ h := h
  gkeep _ _ k h := Nat.le_trans h k.size
  gkp _ _ k h := Nat.le_trans h k.1.size
  blk _ _ _ _ _ k h1 h2 h hB := k.1.blk hB (by simp only [List.mem_cons, not_or]; exact ⟨h1, h2, h⟩)
  sp _ _ s' k _ _ hs hi := k.2 s' hs hi
theorem lets_ks {R : List Nat} {p b : Nat} {Inv : S → Prop} {good : World → Prop} (n0 : Nat) : Lets (KS R p b Inv) good n0 where
  trans h k := h.trans k
  put W l o o' _ h ho := KS.of_kc (KC.put h ho)
  grown W W' row hg hr _ := KS.of_kc ((lets_kc (R := []) (good := fun _ => True) n0).grown W W' row hg hr trivial)

/-- What a round over the fields knows. -/
def FldPr (Inv : S → Prop) (l : List C) (N : Nat) (pre : List (Nat × Int)) (x : Nat × Int) : Prop := AttPr l N (pre.map (fun y => (y.1 : Int))) (x.1 : Int) ∧ ∃ s', Inv s' ∧ x.2 = (s'.l.getD x.1 C.zero).fa
/-- Fields as they lie. -/
def FldAre (Inv : S → Prop) (fs : List (Nat × Int)) : Prop := ∀ x ∈ fs, ∃ s', Inv s' ∧ x.2 = (s'.l.getD x.1 C.zero).fa
abbrev posOf (fs : List (Nat × Int)) : List Int := fs.map (fun y => (y.1 : Int))

theorem fields_calls (v : Option Addr) (w : World) : Calls Try.prog 108 #[.pointer v] w fun e w' => e = .returned (.func (.func 163) #[] #[.pointer (some ⟨w.heap.size, 0, none⟩)]) ∧ w' = w.alloc (.cells #[.pointer v] 61) := by
  go_enter Try.func108, Try.ntmps108
  go_wp2
  go_ret
  exact ⟨rfl, rfl⟩
theorem field60_2 : ∀ (c : C) (w : World), Sem.run Try.prog (Instr.field 60 (.agg #[.int .u8 c.ch, .bool c.at_, .int .u8 c.fa, .int .u8 c.hi, .int .u8 c.co, .int .u8 c.se]) 2) w = .ok (.int .u8 c.fa) w := fun _ _ => by kernel_rfl

set_option maxRecDepth 100000 in
set_option maxHeartbeats 4000000 in
theorem fields_stopsP {Kp : World → World → Prop} {safe : World → Nat → Prop} {good : World → Prop} {w : World} {p b : Nat} {Inv : S → Prop} {s : S} {N : Nat} {R C' : Int} (hS : ServesI Kp safe good p b Inv) (hL : Lets Kp good w.heap.size) (h : PSp w p b s) (hs : Inv s)
    (hI : ∀ s', Inv s' → s'.ok ∧ s'.l.length = N ∧ s'.r = R ∧ s'.c = C' ∧ ∀ n, ata s'.l n = ata s.l n) {B1 : Nat} (h1 : Blk w B1 [.pointer (some ⟨p, 0, none⟩)] 61) (hB : B1 ≠ p ∧ B1 ≠ b) (hg : good w) (hsf : safe w B1 ∧ safe w p ∧ safe w b) (n : Nat) (hn : 7 ≤ n) :
    SeqP Fence.wide n Try.prog 163 #[.pointer (some ⟨B1, 0, none⟩)] (fun x : Nat × Int => #[Value.int .i64 x.1, fld x.2]) Kp (FldPr Inv s.l N) (fun fs => posOf fs = atts s.l ∧ FldAre Inv fs) (fun fs => posOf fs <+: atts s.l ∧ FldAre Inv fs) N w := by
  intro l J Jx W hW hJ hJx hY h0
  have h1n : 1 ≤ n := by omega
  have h2n : 1 ≤ n - 1 := by omega
  have h3n : 1 ≤ n - 1 - 1 := by omega
  have kW := Keep.of_below hW []
  have hp := h.keep kW (by simp) (by simp)
  have b1 := h1.call hW
  have hgW := hS.gkeep _ _ kW hg
  have hlp : p < w.heap.size ∧ b < w.heap.size := by obtain ⟨_, _, _, x1, x2⟩ := id h; exact ⟨x1.lt, x2.lt⟩
  have hsW : safe W B1 ∧ safe W p ∧ safe W b := ⟨hS.keep _ _ _ kW h1.lt hsf.1 hg, hS.keep _ _ _ kW hlp.1 hsf.2.1 hg, hS.keep _ _ _ kW hlp.2 hsf.2.2 hg⟩
  have hlW : p < W.heap.size ∧ b < W.heap.size ∧ B1 < W.heap.size := by have := kW.size; have := h1.lt; omega
  have HLW := Aside0.mk hlW
  have HP := Aside0.mk hp
  have HB1 := Aside0.mk b1
  have HBN := Aside0.mk hB
  have HJ := Aside0.mk hJ
  have HJX := Aside0.mk hJx
  have HY := Aside0.mk hY
  have H0 := Aside0.mk h0
  have HS := Aside0.mk hS
  have HL := Aside0.mk (hL.up kW.size)
  have HI := Aside0.mk hI
  have HSS := Aside0.mk hs
  have HG := Aside0.mk (And.intro hgW hsW)
  have c1 := (b1.alloc (.cells #[.func (.yield l) #[] #[]] 171)).cell 0
  simp only [List.getElem?_cons_zero] at c1
  have hit := attrs_calls (W.alloc (.cells #[.func (.yield l) #[] #[]] 171)) (some ⟨p, 0, none⟩)
  simp only [World.size_alloc] at hit
  clear hS hL h h1 hg hsf hlp kW hp b1 hgW hsW hJ hJx hY h0 hs hW hI hlW hB
  refine callsIn_of_wp_marks Try.func163 rfl trivial ?_ rfl
  simp only [Try.ntmps163, List.size_toArray, List.length_cons, List.length_nil, Nat.reduceAdd, Nat.reduceSub, Array.replicate_succ, Array.replicate_zero, List.push_toArray, List.append_toArray, List.nil_append, List.cons_append]
  gi_wp2_with (first
    | (refine ⟨trivial, ?_⟩; gi_at_call 158; (with_reducible refine (callsIn_wide.2 hit).mono ?_); rintro e w1 ⟨rfl, rfl⟩))
  have K0 := (Keep.refl [] W).alloc (.cells #[.func (.yield l) #[] #[]] 171)
  have a2 := Blk.new W [.func (.yield l) #[] #[]] 171
  have a3 := Blk.new (W.alloc (.cells #[.func (.yield l) #[] #[]] 171)) [.pointer (some ⟨p, 0, none⟩)] 61
  simp only [World.size_alloc] at a3
  have K1 := K0.alloc (.cells #[.pointer (some ⟨p, 0, none⟩)] 61)
  have x2 := a2.alloc (.cells #[.pointer (some ⟨p, 0, none⟩)] 61)
  have sx : safe (W.alloc (.cells #[.func (.yield l) #[] #[]] 171)) W.heap.size := HS.out.fresh _ _ HG.out.1
  have g1 := HS.out.gkeep _ _ K0 HG.out.1
  have sx2 := HS.out.keep _ _ _ ((Keep.refl [] (W.alloc (.cells #[.func (.yield l) #[] #[]] 171))).alloc (.cells #[.pointer (some ⟨p, 0, none⟩)] 61)) (by rw [World.size_alloc]; omega) sx g1
  generalize (W.alloc (.cells #[.func (.yield l) #[] #[]] 171)).alloc (.cells #[.pointer (some ⟨p, 0, none⟩)] 61) = V0 at *
  have gV := HS.out.gkeep _ _ K1 HG.out.1
  have hbx : W.heap.size ≠ p ∧ W.heap.size ≠ b := by have := HLW.out; omega
  have s1V := HS.out.keep _ _ _ K1 HLW.out.2.2 HG.out.2.1 HG.out.1
  have spV := HS.out.keep _ _ _ K1 HLW.out.1 HG.out.2.2.1 HG.out.1
  have sbV := HS.out.keep _ _ _ K1 HLW.out.2.1 HG.out.2.2.2 HG.out.1
  have hst := attrs_stopsP HS.out (HL.out.up K1.size) (HP.out.keep K1 (by simp) (by simp)) HSS.out HI.out a3 gV ⟨spV, sbV⟩ (n - 1) (by omega)
  clear K0 a2 sx g1 c1
  refine wpIn_rangeP (F := Fence.wide) (n := n) rfl (by omega) (gf := 183) (lb := #[.pointer (some ⟨W.heap.size + 1, 0, none⟩)]) rfl trivial (enters_of Try.func183 (by kernel_rfl) rfl)
    hst HL.out.trans (fun V lv o o' hl ho hc hw => HL.out.put V lv o o' (by have := K1.size; omega) ho hc) (Below.refl _ _) (fun _ => rfl)
    (fun pre V => (∃ fs, posOf fs = pre ∧ FldAre Inv fs ∧ J fs V) ∧ (∃ s', PSp V p b s' ∧ Inv s') ∧ (good V ∧ safe V W.heap.size ∧ Blk V W.heap.size [.func (.yield l) #[] #[]] 171) ∧ (good V ∧ safe V B1 ∧ Blk V B1 [.pointer (some ⟨p, 0, none⟩)] 61) ∧ (safe V p ∧ p < V.heap.size) ∧ (safe V b ∧ b < V.heap.size))
    (fun c pre V => c = .ret ∧ ∃ fs, posOf fs = pre ∧ FldAre Inv fs ∧ Jx fs V)
    ?own ?ownx ⟨⟨[], rfl, (fun x hx => by cases hx), ?start⟩, ⟨s, HP.out.keep K1 (by simp) (by simp), HSS.out⟩, ⟨gV, sx2, x2⟩, ⟨gV, s1V, HB1.out.keep K1 (by simp)⟩, ⟨spV, by have := HLW.out; have := K1.size; omega⟩, ⟨sbV, by have := HLW.out; have := K1.size; omega⟩⟩
    (fun x a' V => a' = { tmps := #[.func (.yield l) #[] #[], .pointer (some ⟨B1, 0, none⟩), .pointer (some ⟨W.heap.size, 0, none⟩), .int .i64 x, .pointer (some ⟨p, 0, none⟩), .func (.func 183) #[] #[.pointer (some ⟨W.heap.size + 1, 0, none⟩)], .int .i64 x, undef, undef, undef, undef, undef, undef, undef, undef, undef], defers := [] }) (fun _ _ _ _ _ _ hs _ _ => hs) ?assign ?body ?done ?stop
  case own =>
    have hVW := K1.size
    refine OwnFrom.and ?_ (OwnFrom.and ?_ (OwnFrom.and (good_own HS.out.toSafe (HL.out.up (by omega))) ?_))
    · rintro pre A B row ⟨fs, e, hf, hj⟩ hg hr
      exact ⟨fs, e, hf, HJ.out _ A B row hj hg (fun r e => ⟨by have := (hr r e).1; omega, (hr r e).2⟩)⟩
    · rintro pre A B row ⟨s', ⟨cap, ex, hc, y1, y2⟩, hi⟩ hg hr
      exact ⟨s', ⟨cap, ex, hc, ownFrom_blk (β := Unit) (f := fun _ => _) () A B row y1 hg hr, ownFrom_blk (β := Unit) (f := fun _ => _) () A B row y2 hg hr⟩, hi⟩
    · rintro pre A B row ⟨h1, h2, h3⟩ hg hr
      have hq := good_own (β := Unit) HS.out.toSafe (HL.out.up hVW) () A B row h1 hg hr
      have hk := HL.out.grown A B row hg (fun r e => ⟨by have := (hr r e).1; omega, (hr r e).2⟩) h1.1
      exact ⟨hq, ⟨HS.out.kp _ _ _ hk h2.2 h2.1, Nat.lt_of_lt_of_le h2.2 hg.size⟩, ⟨HS.out.kp _ _ _ hk h3.2 h3.1, Nat.lt_of_lt_of_le h3.2 hg.size⟩⟩
  case ownx =>
    have hVW := K1.size
    refine fun c => OwnFrom.and (fun _ _ _ _ h _ _ => h) ?_
    rintro pre A B row ⟨fs, e, hf, hj⟩ hg hr
    exact ⟨fs, e, hf, HJX.out _ A B row hj hg (fun r e => ⟨by have := (hr r e).1; omega, (hr r e).2⟩)⟩
  case start => exact abides_keep (abides_own HJ.out) H0.out K1
  case assign =>
    intro lr pre x V K hI2 _ _ hK
    have HK := Aside0.mk (hK _ V (KeepsFrom.refl _ _) (HL.out.keep (Keep.refl [] V) hI2.2.2.1.1) hI2 rfl)
    clear hK hI2 hst
    gi_wp2
    exact HK.out
  case body =>
    rintro lr pre x a' V hlr hrec ⟨⟨fs, hfp, hfa, hj⟩, ⟨s', hs', hi'⟩, hbx2, hb1, hsp, hsb⟩ rfl ⟨k, rfl, hkN, hka, hpre⟩ hlen
    obtain ⟨ok', hN', hr', hc', hat'⟩ := HI.out s' hi'
    have hkl : k < s'.l.length := by rw [hN']; exact hkN
    have q58 : ∀ U, Keep [] V U → Calls Try.prog 58 #[.pointer (some ⟨p, 0, none⟩), .int .i64 (k : Int)] U fun e w' => e = .returned (s'.l.getD k C.zero).v ∧ Below U.heap.size U w' := fun U kk => by
      have := at_calls (hs'.keep kk (by simp) (by simp)) ok' (k : Int)
      rw [S.get_self ok' hkl] at this; exact this
    have hft := getD_fit ok' k
    obtain ⟨c, hc⟩ : ∃ c, s'.l.getD k C.zero = c := ⟨_, rfl⟩
    rw [hc] at q58 hft
    unfold C.v at q58
    have f60 := field60_2 c
    have q159 : ∀ U, Calls Try.prog 159 #[.int .u8 c.fa] U fun e w' => e = .returned (.agg #[.bool (decide (32 ≤ c.fa)), .bool (decide (c.fa / 16 % 2 = 1)), .int .i64 (c.fa / 4 % 4), .bool (decide (c.fa % 2 = 1))]) ∧ Below U.heap.size U w' := fun U => attrOf_calls U c.fa ⟨hft.2.2.1, hft.2.2.2.1⟩
    have hl2 : fs.length < N := by
      have e : (posOf fs).length = fs.length := by simp
      rw [← e, hfp]; exact hlen
    have hyy : ∀ U, Keep [] V U → YieldAt (Fence.wide.inRound lr) (n - 1 - 1 - 1) Try.prog l #[Value.int .i64 (k : Int), .agg #[.bool (decide (32 ≤ c.fa)), .bool (decide (c.fa / 16 % 2 = 1)), .int .i64 (c.fa / 4 % 4), .bool (decide (c.fa % 2 = 1))]] U fun e U' => ∃ bo, e = .returned (.bool bo) ∧ KeepsFrom W.heap.size U U' ∧ ((bo = true ∧ J (fs ++ [(k, c.fa)]) U' ∧ Kp U U') ∨ (bo = false ∧ Jx (fs ++ [(k, c.fa)]) U')) := fun U kk => by
      have := yield_wide (m := n - 1 - 1 - 1) (l' := lr) (HY.out fs (k, c.fa) U (abides_keep (abides_own HJ.out) hj kk) ⟨⟨k, rfl, hkN, hka, hfp.trans hpre⟩, s', hi', by show c.fa = _; rw [hc]⟩ hl2)
      refine this.mono ?_
      rintro e U' (⟨rfl, h1, h2, h3⟩ | ⟨rfl, h1, h3⟩)
      · exact ⟨true, rfl, h3, .inl ⟨rfl, h1, h2⟩⟩
      · exact ⟨false, rfl, h3, .inr ⟨rfl, h1⟩⟩
    have y0 : ∀ U, Keep [] V U → U.cell? ⟨W.heap.size, 0, none⟩ = some (.func (.yield l) #[] #[]) := fun U kk => (hbx2.2.2.keep kk (by simp)).cell 0
    have y1 : ∀ U, Keep [] V U → U.cell? ⟨B1, 0, none⟩ = some (.pointer (some ⟨p, 0, none⟩)) := fun U kk => (hb1.2.2.keep kk (by simp)).cell 0
    have kd := (Keep.refl [] V).drew
    have HV := Aside0.mk (And.intro hs' (And.intro hi' (And.intro hbx2 (And.intro hb1 (And.intro hsp hsb)))))
    have HF := Aside0.mk (And.intro hfp (And.intro hfa hc))
    clear hst hfp hfa hj hs' hi' hbx2 hb1 hsp hsb hpre hlen hl2 hft ok' hN' hr' hc' hat' hkl hc hrec
    have kdd : ∀ U, Keep [] V.drew U → Keep [] V U := fun U kk => (Keep.refl [] V).drew.trans kk (by simp)
    gi_wp2_with fail
    apply wpIn_region_rel_tail 7 16 [_, _, _, _, _, _, _] (wide_fn lr) rfl (wide_calls _ lr) (by kernel_rfl) (by kernel_rfl) (by kernel_rfl) (Nat.le_refl _) (by decide) (by kernel_rfl) (by kernel_rfl) (by kernel_rfl)
    case hO =>
      refine ⟨?o0, ?o1, ?o2, ?o3, ?o4, ?o5, ?o6, trivial⟩
      case o0 =>
        apply obl_val
        case hd => rfl
        intro a U hK hF hD
        have e2 : a.tmps.getD 2 undef = _ := hF.word 2 (by kernel_rfl)
        have hK := kdd U hK
        refine ⟨rfl, ?_⟩
        (go_simp; with_reducible rfl)
      case o1 =>
        apply obl_val
        case hd => rfl
        intro a U hK hF hD
        have e3 : a.tmps.getD 3 undef = _ := hF.word 3 (by kernel_rfl)
        have hK := kdd U hK
        refine ⟨rfl, ?_⟩
        (go_simp; with_reducible rfl)
      case o2 =>
        apply obl_val
        case hd => rfl
        intro a U hK hF hD
        have e1 : a.tmps.getD 1 undef = _ := hF.word 1 (by kernel_rfl)
        have hK := kdd U hK
        refine ⟨rfl, ?_⟩
        (go_simp; with_reducible rfl)
      case o3 =>
        apply obl_val
        case hd => rfl
        intro a U hK hF hD
        have e3 : a.tmps.getD 3 undef = _ := hF.word 3 (by kernel_rfl)
        have hK := kdd U hK
        refine ⟨rfl, ?_⟩
        (go_simp; with_reducible rfl)
      case o4 =>
        apply obl_quiet
        case hd => rfl
        intro a U hK hF hD
        have e9 : a.tmps.getD 9 undef = _ := hD.1
        have e10 : a.tmps.getD 10 undef = _ := hD.2.1
        refine ⟨rfl, ?_⟩
        apply enter_of
        case hr => (go_simp; first | exact ⟨rfl, rfl⟩ | rfl)
        case hc =>
          first
            | exact q58 U (kdd U hK)
            | exact q159 U
      case o5 =>
        apply obl_val
        case hd => rfl
        intro a U hK hF hD
        have e11 : a.tmps.getD 11 undef = _ := hD.1
        have hK := kdd U hK
        refine ⟨rfl, ?_⟩
        (go_simp; with_reducible rfl)
      case o6 =>
        apply obl_quiet
        case hd => rfl
        intro a U hK hF hD
        have e12 : a.tmps.getD 12 undef = _ := hD.1
        have e11 : a.tmps.getD 11 undef = _ := hD.2.1
        refine ⟨rfl, ?_⟩
        apply enter_of
        case hr => (go_simp; first | exact ⟨rfl, rfl⟩ | rfl)
        case hc =>
          first
            | exact q58 U (kdd U hK)
            | exact q159 U
    case hQ =>
      intro a U hK hF hD
      have e7 : a.tmps.getD 7 undef = _ := hD.1
      have e8 : a.tmps.getD 8 undef = _ := hD.2.1
      have e9 : a.tmps.getD 9 undef = _ := hD.2.2.1
      have e10 : a.tmps.getD 10 undef = _ := hD.2.2.2.1
      have e11 : a.tmps.getD 11 undef = _ := hD.2.2.2.2.1
      have e12 : a.tmps.getD 12 undef = _ := hD.2.2.2.2.2.1
      have e13 : a.tmps.getD 13 undef = _ := hD.2.2.2.2.2.2.1
      have e0 : a.tmps.getD 0 undef = _ := hF.word 0 (by kernel_rfl)
      have e1 : a.tmps.getD 1 undef = _ := hF.word 1 (by kernel_rfl)
      have e2 : a.tmps.getD 2 undef = _ := hF.word 2 (by kernel_rfl)
      have e3 : a.tmps.getD 3 undef = _ := hF.word 3 (by kernel_rfl)
      have e4 : a.tmps.getD 4 undef = _ := hF.word 4 (by kernel_rfl)
      have e5 : a.tmps.getD 5 undef = _ := hF.word 5 (by kernel_rfl)
      have e6 : a.tmps.getD 6 undef = _ := hF.word 6 (by kernel_rfl)
      obtain ⟨u14, e14⟩ : ∃ v, a.tmps.getD 14 undef = v := ⟨_, rfl⟩
      obtain ⟨u15, e15⟩ : ∃ v, a.tmps.getD 15 undef = v := ⟨_, rfl⟩
      have ha := act_of (l := [_, _, _, _, _, _, _, _, _, _, _, _, _, _, _, _]) (by rw [hF.size]; rfl) hF.defers ⟨e0, e1, e2, e3, e4, e5, e6, e7, e8, e9, e10, e11, e12, e13, e14, e15, trivial⟩
      clear hF hD e0 e1 e2 e3 e4 e5 e6 e7 e8 e9 e10 e11 e12 e13 e14 e15
      subst ha
      have kU := kdd U hK
      obtain ⟨fn, tmps, assign, body, hy, hR⟩ := hyy _ kU
      clear hK kdd hyy q58 q159 y0 y1
      gi_wp2
      clear hy
      refine hR.mono ?_
      rintro e W6 ⟨bo, rfl, hkf, hbo⟩
      obtain ⟨hs', hi', hbx2, hb1, hsp, hsb⟩ := HV.out
      obtain ⟨hfp, hfa, hc⟩ := HF.out
      have hkf2 : KeepsFrom V0.heap.size V W6 := KeepsFrom.trans (kU.keepsFrom _ (by simp)) ⟨hkf.size, fun k o hB hk ho => hkf.same k o (by have := K1.size; omega) hk ho⟩
      have hpos : posOf (fs ++ [(k, c.fa)]) = pre ++ [(k : Int)] := by rw [← hfp]; simp [posOf]
      have hfa2 : FldAre Inv (fs ++ [(k, c.fa)]) := fun x hx => by
        rcases List.mem_append.1 hx with h | h
        · exact hfa x h
        · rw [List.mem_singleton] at h
          subst h
          exact ⟨s', hi', by show c.fa = _; rw [hc]⟩
      rcases hbo with ⟨rfl, hJ6, hk6⟩ | ⟨rfl, hJx6⟩
      · have gU := HS.out.gkeep _ _ kU hbx2.1
        have s0U := HS.out.keep _ _ _ kU hbx2.2.2.lt hbx2.2.1 hbx2.1
        have s1U := HS.out.keep _ _ _ kU hb1.2.2.lt hb1.2.1 hbx2.1
        have spU := HS.out.keep _ _ _ kU hsp.2 hsp.1 hbx2.1
        have sbU := HS.out.keep _ _ _ kU hsb.2 hsb.1 hbx2.1
        obtain ⟨s6, hs6, hi6⟩ := HS.out.sp _ _ _ hk6 spU sbU (hs'.keep kU (by simp) (by simp)) hi'
        have b0U := hbx2.2.2.keep kU (by simp)
        have b1U := hb1.2.2.keep kU (by simp)
        have lpU : p < U.heap.size ∧ b < U.heap.size := by have := kU.size; have := hsp.2; have := hsb.2; omega
        have F6 := Aside0.mk (show (∃ fs, posOf fs = pre ++ [(k : Int)] ∧ FldAre Inv fs ∧ J fs W6) ∧ (∃ s', PSp W6 p b s' ∧ Inv s') ∧ (good W6 ∧ safe W6 W.heap.size ∧ Blk W6 W.heap.size [.func (.yield l) #[] #[]] 171) ∧ (good W6 ∧ safe W6 B1 ∧ Blk W6 B1 [.pointer (some ⟨p, 0, none⟩)] 61) ∧ (safe W6 p ∧ p < W6.heap.size) ∧ (safe W6 b ∧ b < W6.heap.size) from
          ⟨⟨_, hpos, hfa2, hJ6⟩, ⟨s6, hs6, hi6⟩, ⟨HS.out.gkp _ _ hk6 gU, HS.out.kp _ _ _ hk6 b0U.lt s0U, HS.out.blk _ _ _ _ _ hk6 hbx.1 hbx.2 s0U b0U⟩, ⟨HS.out.gkp _ _ hk6 gU, HS.out.kp _ _ _ hk6 b1U.lt s1U, HS.out.blk _ _ _ _ _ hk6 HBN.out.1 HBN.out.2 s1U b1U⟩,
            ⟨HS.out.kp _ _ _ hk6 lpU.1 spU, by have := hkf.size; omega⟩, ⟨HS.out.kp _ _ _ hk6 lpU.2 sbU, by have := hkf.size; omega⟩⟩)
        have KPF := Aside0.mk (And.intro hkf2 (HL.out.trans (HL.out.keep kU hbx2.1) hk6))
        clear hs' hi' hbx2 hb1 hsp hsb hfp hfa hc hkf hkf2 hpos hfa2 hJ6 hk6 gU s0U s1U spU sbU hs6 hi6 b0U b1U lpU kU hR
        gi_wp2
        exact ⟨KPF.out.1, KPF.out.2, F6.out⟩
      · have KPF := Aside0.mk (And.intro hkf2 (And.intro hpos (And.intro hfa2 hJx6)))
        clear hs' hi' hbx2 hb1 hsp hsb hfp hfa hc hkf hkf2 hpos hfa2 hJx6 kU hR
        gi_wp2
        exact ⟨KPF.out.1, rfl, _, KPF.out.2.1, KPF.out.2.2.1, KPF.out.2.2.2⟩
  case done =>
    rintro D xs V hD hxs ⟨⟨fs, hfp, hfa, hj⟩, _⟩ hKD
    have hj2 := HJ.out.putObj (.deferred none) hj (by have := K1.size; omega) hKD rfl
    clear hst
    gi_wp2
    refine ⟨by simp, .inl ⟨_, _, rfl, run_takeDeferred hKD, ?_⟩⟩
    exact ⟨_, results_none rfl _ _ _, ⟨_, rfl⟩, .inl ⟨fs, ⟨hfp.trans hxs, hfa⟩, hj2⟩⟩
  case stop =>
    rintro D c pre V hD hpre ⟨rfl, fs, hfp, hfa, hj⟩ hKD
    have hj2 := HJX.out.putObj (.deferred none) hj (by have := K1.size; omega) hKD rfl
    clear hst
    gi_wp2
    refine ⟨by simp, .inl ⟨_, _, rfl, run_takeDeferred hKD, ?_⟩⟩
    exact ⟨_, results_none rfl _ _ _, ⟨_, rfl⟩, .inr ⟨fs, ⟨by rw [hfp]; exact hpre, hfa⟩, hj2⟩⟩

end Go.Proofs.Ytangandfgbnomaa.V
