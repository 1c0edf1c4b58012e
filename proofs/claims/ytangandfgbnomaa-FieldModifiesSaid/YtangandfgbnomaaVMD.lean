/- The modified fields, told by the program. -/
import Derived.Test.YtangandfgbnomaaVFD
import Derived.Test.YtangandfgbnomaaVZ1
import Derived.Stop.RegionWithIn
namespace Go.Proofs.Ytangandfgbnomaa.V
open Go.RowKit Go.Shelf
set_option linter.unusedVariables false
set_option linter.unusedSimpArgs false


attribute [local go_sem] Oper.semAt_some

theorem modified_calls (v : Option Addr) (w : World) : Calls Try.prog 119 #[.pointer v] w fun e w' => e = .returned (.func (.func 166) #[] #[.pointer (some ⟨w.heap.size, 0, none⟩)]) ∧ w' = w.alloc (.cells #[.pointer v] 61) := by
  go_enter Try.func119, Try.ntmps119
  go_wp2
  go_ret
  exact ⟨rfl, rfl⟩

/-- The places of the modified among fields told. -/
def modOf (xs : List (Nat × Int)) : List Int := (xs.filter (fun x => decide (x.2 % 2 = 1))).map (fun x => (x.1 : Int))
theorem modOf_snoc (xs : List (Nat × Int)) (x : Nat × Int) : modOf (xs ++ [x]) = modOf xs ++ (if decide (x.2 % 2 = 1) = true then [(x.1 : Int)] else []) := by
  unfold modOf
  rw [List.filter_append, List.map_append]
  congr 1
  cases h : decide (x.2 % 2 = 1) <;> simp [List.filter_cons, h]
theorem modOf_le (xs : List (Nat × Int)) : (modOf xs).length ≤ xs.length := by unfold modOf; rw [List.length_map]; exact List.length_filter_le _ _
/-- The places of a space's modified fields. -/
def mods (l : List C) : List Int := (atts l).filter (fun x => decide ((l.getD x.toNat C.zero).fa % 2 = 1))
theorem modOf_pos {s : S} : ∀ {fs : List (Nat × Int)}, FldAre (fun s' => s' = s) fs → modOf fs = (posOf fs).filter (fun x => decide ((s.l.getD x.toNat C.zero).fa % 2 = 1))
  | [], _ => rfl
  | x :: fs, h => by
    obtain ⟨k, fa⟩ := x
    obtain ⟨s', rfl, e⟩ := h (k, fa) (by simp)
    simp only at e
    subst e
    have := modOf_pos (fs := fs) (fun y hy => h y (List.mem_cons_of_mem _ hy))
    unfold modOf posOf at *
    rw [List.map_cons, List.filter_cons, List.filter_cons]
    simp only [Int.toNat_natCast]
    split
    · rw [List.map_cons, this]
    · exact this

abbrev fvs (fa : Int) : List Value := [.bool (decide (32 ≤ fa)), .bool (decide (fa / 16 % 2 = 1)), .int .i64 (fa / 4 % 4), .bool (decide (fa % 2 = 1))]
set_option maxRecDepth 100000 in
set_option maxHeartbeats 4000000 in
theorem modified_stopsP {Kp : World → World → Prop} {safe : World → Nat → Prop} {good : World → Prop} {w : World} {p b : Nat} {Inv : S → Prop} {s : S} {N : Nat} {R C' : Int} (hS : ServesI Kp safe good p b Inv) (hL : Lets Kp good w.heap.size) (h : PSp w p b s) (hs : Inv s)
    (hI : ∀ s', Inv s' → s'.ok ∧ s'.l.length = N ∧ s'.r = R ∧ s'.c = C' ∧ ∀ n, ata s'.l n = ata s.l n) {B1 : Nat} (h1 : Blk w B1 [.pointer (some ⟨p, 0, none⟩)] 61) (hg : good w) (hsf : safe w p ∧ safe w b) (n : Nat) (hn : 8 ≤ n) :
    SeqP Fence.wide n Try.prog 166 #[.pointer (some ⟨B1, 0, none⟩)] (fun x : Int => #[Value.int .i64 x]) Kp (fun _ _ => True) (fun ys => ∃ fs, posOf fs = atts s.l ∧ FldAre Inv fs ∧ ys = modOf fs) (fun ys => ∃ fs, posOf fs <+: atts s.l ∧ FldAre Inv fs ∧ ys = modOf fs) N w := by
  intro l J Jx W hW hJ hJx hY h0
  have h1n : 1 ≤ n := by omega
  have h2n : 1 ≤ n - 1 := by omega
  have h3n : 1 ≤ n - 1 - 1 := by omega
  have kW := Keep.of_below hW []
  have hp := h.keep kW (by simp) (by simp)
  have b1 := h1.call hW
  have hgW := hS.gkeep _ _ kW hg
  have hlp : p < w.heap.size ∧ b < w.heap.size := by obtain ⟨_, _, _, x1, x2⟩ := id h; exact ⟨x1.lt, x2.lt⟩
  have hsW : safe W p ∧ safe W b := ⟨hS.keep _ _ _ kW hlp.1 hsf.1 hg, hS.keep _ _ _ kW hlp.2 hsf.2 hg⟩
  have hlW : p < W.heap.size ∧ b < W.heap.size := by have := kW.size; omega
  have hN : s.l.length = N := (hI s hs).2.1
  have HLW := Aside0.mk hlW
  have HP := Aside0.mk hp
  have HJ := Aside0.mk hJ
  have HJX := Aside0.mk hJx
  have HY := Aside0.mk hY
  have H0 := Aside0.mk h0
  have HS := Aside0.mk hS
  have HL := Aside0.mk (hL.up kW.size)
  have HI := Aside0.mk hI
  have HSS := Aside0.mk hs
  have HG := Aside0.mk (And.intro hgW hsW)
  have HN := Aside0.mk hN
  have c1 := (b1.alloc (.cells #[.func (.yield l) #[] #[]] 31)).cell 0
  simp only [List.getElem?_cons_zero] at c1
  have hit := fields_calls (some ⟨p, 0, none⟩) (W.alloc (.cells #[.func (.yield l) #[] #[]] 31))
  simp only [World.size_alloc] at hit
  clear hS hL h h1 hg hsf hlp kW hp b1 hgW hsW hJ hJx hY h0 hs hW hI hN hlW
  refine callsIn_of_wp_marks Try.func166 rfl trivial ?_ rfl
  simp only [Try.ntmps166, List.size_toArray, List.length_cons, List.length_nil, Nat.reduceAdd, Nat.reduceSub, Array.replicate_succ, Array.replicate_zero, List.push_toArray, List.append_toArray, List.nil_append, List.cons_append]
  gi_wp2_with (first
    | (refine ⟨trivial, ?_⟩; gi_at_call 108; (with_reducible refine (callsIn_wide.2 hit).mono ?_); rintro e w1 ⟨rfl, rfl⟩))
  have K0 := (Keep.refl [] W).alloc (.cells #[.func (.yield l) #[] #[]] 31)
  have a2 := Blk.new W [.func (.yield l) #[] #[]] 31
  have a3 := Blk.new (W.alloc (.cells #[.func (.yield l) #[] #[]] 31)) [.pointer (some ⟨p, 0, none⟩)] 61
  simp only [World.size_alloc] at a3
  have K1 := K0.alloc (.cells #[.pointer (some ⟨p, 0, none⟩)] 61)
  have x2 := a2.alloc (.cells #[.pointer (some ⟨p, 0, none⟩)] 61)
  have hsz : ((W.alloc (.cells #[.func (.yield l) #[] #[]] 31)).alloc (.cells #[.pointer (some ⟨p, 0, none⟩)] 61)).heap.size = W.heap.size + 2 := by simp only [World.size_alloc]
  have sx : safe (W.alloc (.cells #[.func (.yield l) #[] #[]] 31)) W.heap.size := HS.out.fresh _ _ HG.out.1
  have g1 := HS.out.gkeep _ _ K0 HG.out.1
  have sx2 := HS.out.keep _ _ _ ((Keep.refl [] (W.alloc (.cells #[.func (.yield l) #[] #[]] 31))).alloc (.cells #[.pointer (some ⟨p, 0, none⟩)] 61)) (by rw [World.size_alloc]; omega) sx g1
  have sb := HS.out.fresh (W.alloc (.cells #[.func (.yield l) #[] #[]] 31)) (.cells #[.pointer (some ⟨p, 0, none⟩)] 61) g1
  simp only [World.size_alloc] at sb
  generalize (W.alloc (.cells #[.func (.yield l) #[] #[]] 31)).alloc (.cells #[.pointer (some ⟨p, 0, none⟩)] 61) = V0 at *
  have gV := HS.out.gkeep _ _ K1 HG.out.1
  have spV := HS.out.keep _ _ _ K1 HLW.out.1 HG.out.2.1 HG.out.1
  have sbV := HS.out.keep _ _ _ K1 HLW.out.2 HG.out.2.2 HG.out.1
  have hbx : W.heap.size ≠ p ∧ W.heap.size ≠ b := by have := HLW.out; omega
  have hba : W.heap.size + 1 ≠ p ∧ W.heap.size + 1 ≠ b := by have := HLW.out; omega
  have hst := fields_stopsP HS.out (HL.out.up K1.size) (HP.out.keep K1 (by simp) (by simp)) HSS.out HI.out a3 hba gV ⟨sb, spV, sbV⟩ (n - 1) (by omega)
  clear K0 a2 sx g1 sb c1
  refine wpIn_rangeP (F := Fence.wide) (n := n) rfl (by omega) (gf := 163) (lb := #[.pointer (some ⟨W.heap.size + 1, 0, none⟩)]) rfl trivial (enters_of Try.func163 (by kernel_rfl) rfl)
    hst HL.out.trans (fun V lv o o' hl ho hc hw => HL.out.put V lv o o' (by omega) ho hc) (Below.refl _ _) (fun _ => rfl)
    (fun pre V => J (modOf pre) V ∧ good V ∧ safe V W.heap.size ∧ Blk V W.heap.size [.func (.yield l) #[] #[]] 31) (fun c pre V => c = .ret ∧ Jx (modOf pre) V)
    ?own ?ownx ⟨?start, gV, sx2, x2⟩
    (fun x a' V => ∃ Bc, Blk V Bc (fvs x.2) 103 ∧ a' = { tmps := #[.func (.yield l) #[] #[], .pointer (some ⟨B1, 0, none⟩), .pointer (some ⟨W.heap.size, 0, none⟩), .int .i64 (x.1 : Int), .pointer (some ⟨Bc, 0, none⟩), .pointer (some ⟨p, 0, none⟩), .func (.func 163) #[] #[.pointer (some ⟨W.heap.size + 1, 0, none⟩)], .int .i64 (x.1 : Int), fld x.2, undef, undef, undef, undef, undef, undef, undef, undef], defers := [] }) ?ax ?assign ?body ?done ?stop
  case own =>
    refine OwnFrom.and ?_ (good_own HS.out.toSafe (HL.out.up (by omega)))
    exact fun s A B row hs hg hr => HJ.out _ A B row hs hg (fun r e => ⟨by have := (hr r e).1; omega, (hr r e).2⟩)
  case ownx =>
    exact fun c => OwnFrom.and (fun _ _ _ _ h _ _ => h) (fun s A B row hs hg hr => HJX.out _ A B row hs hg (fun r e => ⟨by have := (hr r e).1; omega, (hr r e).2⟩))
  case start => exact abides_keep (abides_own HJ.out) H0.out K1
  case ax =>
    rintro x a' u A B row ⟨Bc, hb, he⟩ hg hr
    exact ⟨Bc, ownFrom_blk (f := fun _ : Unit => fvs x.2) () A B row hb hg hr, he⟩
  case assign =>
    rintro lr pre x V K ⟨hj, hgd, hsx, hbx2⟩ _ _ hK
    have kk : Keep [] V (V.alloc (.cells #[.bool (decide (32 ≤ x.2)), .bool (decide (x.2 / 16 % 2 = 1)), .int .i64 (x.2 / 4 % 4), .bool (decide (x.2 % 2 = 1))] 103)) := (Keep.refl [] V).alloc _
    have hK2 := hK _ (V.alloc (.cells #[.bool (decide (32 ≤ x.2)), .bool (decide (x.2 / 16 % 2 = 1)), .int .i64 (x.2 / 4 % 4), .bool (decide (x.2 % 2 = 1))] 103)) (kk.keepsFrom _ (by simp)) (HL.out.keep kk hgd)
      ⟨abides_keep (abides_own HJ.out) hj kk, HS.out.gkeep _ _ kk hgd, HS.out.keep _ _ _ kk hbx2.lt hsx hgd, hbx2.keep kk (by simp)⟩ ⟨_, Blk.new V (fvs x.2) 103, rfl⟩
    have HK := Aside0.mk hK2
    clear hK hK2 hj hgd hsx hbx2 kk hst
    gi_wp2
    exact HK.out
  case body =>
    rintro lr pre x a' V hlr hrec ⟨hj, hgd, hsx, hbx2⟩ ⟨Bc, hbc, rfl⟩ hpr hlen
    obtain ⟨i, c⟩ := x
    clear hpr
    have cc := hbc.cell 3
    have cx := hbx2.cell 0
    simp only [List.getElem?_cons_zero, List.getElem?_cons_succ] at cc cx
    have hl2 : (modOf pre).length < N := Nat.lt_of_le_of_lt (modOf_le pre) hlen
    obtain ⟨q, hq⟩ : ∃ q, decide (c % 2 = 1) = q := ⟨_, rfl⟩
    have hsn := modOf_snoc pre (i, c)
    simp only [hq] at hsn
    rw [hq] at cc
    clear hq
    have hKV : Kp V V := HL.out.keep (Keep.refl [] V) hgd
    have HV := Aside0.mk (And.intro hj (And.intro hgd (And.intro hsx (And.intro hbx2 hKV))))
    have HSN := Aside0.mk hsn
    clear hj hgd hsx hbx2 hKV hst hsn hbc hlen hrec
    cases q
    · clear hl2
      gi_wp2
      all_goals (refine ⟨fun _ _ => trivial, ?_⟩)
      all_goals gi_wp2
      all_goals refine ⟨KeepsFrom.refl _ _, HV.out.2.2.2.2, ?_, HV.out.2.1, HV.out.2.2.1, HV.out.2.2.2.1⟩
      all_goals rw [HSN.out]
      all_goals simp only [Bool.false_eq_true, if_false, List.append_nil]
      all_goals exact HV.out.1
    · obtain ⟨fn, tmps, assign, body, hy, hR⟩ := yield_wide (m := n - 1 - 1 - 1) (l' := lr) (HY.out (modOf pre) (i : Int) V HV.out.1 trivial hl2)
      clear hl2
      gi_wp2
      clear hy
      refine hR.mono ?_
      rintro e V3 (⟨rfl, hJ3, hk3, hkf⟩ | ⟨rfl, hJx3, hkf⟩)
      · gi_wp2
        have q := HV.out
        refine ⟨⟨hkf.size, fun k o hB hk ho => hkf.same k o (by omega) hk ho⟩, hk3, ?_, HS.out.gkp _ _ hk3 q.2.1, HS.out.kp _ _ _ hk3 q.2.2.2.1.lt q.2.2.1, HS.out.blk _ _ _ _ _ hk3 hbx.1 hbx.2 q.2.2.1 q.2.2.2.1⟩
        rw [HSN.out]
        exact hJ3
      · gi_wp2
        refine ⟨⟨hkf.size, fun k o hB hk ho => hkf.same k o (by omega) hk ho⟩, rfl, ?_⟩
        rw [HSN.out]
        exact hJx3
  case done =>
    rintro D ys V hD hys ⟨hj, _⟩ hKD
    have hj2 := HJ.out.putObj (.deferred none) hj (by omega) hKD rfl
    gi_wp2
    refine ⟨by simp, .inl ⟨_, _, rfl, run_takeDeferred hKD, ?_⟩⟩
    exact ⟨_, results_none rfl _ _ _, ⟨_, rfl⟩, .inl ⟨_, ⟨ys, hys.1, hys.2, rfl⟩, hj2⟩⟩
  case stop =>
    rintro D c pre V hD hpre ⟨rfl, hj⟩ hKD
    have hj2 := HJX.out.putObj (.deferred none) hj (by omega) hKD rfl
    gi_wp2
    refine ⟨by simp, .inl ⟨_, _, rfl, run_takeDeferred hKD, ?_⟩⟩
    exact ⟨_, results_none rfl _ _ _, ⟨_, rfl⟩, .inr ⟨_, ⟨pre, hpre.1, hpre.2, rfl⟩, hj2⟩⟩




theorem tellsF_mods {w : World} {p b : Nat} {s : S} (h : PSp w p b s) (ok : s.ok) {B1 : Nat} (h1 : Blk w B1 [.pointer (some ⟨p, 0, none⟩)] 61) : TellsF w 166 #[.pointer (some ⟨B1, 0, none⟩)] (mods s.l) := by
  intro B W k hB hb
  have hno := no_owned hb
  have hlp : p < w.heap.size ∧ b < w.heap.size := by obtain ⟨_, _, _, x1, x2⟩ := id h; exact ⟨x1.lt, x2.lt⟩
  have hs := k.size
  have := (modified_stopsP (Inv := fun s' => s' = s) ((holds_ko B).servesI p b _) (lets_ko hb.lt) (h.keep k (by simp) (by simp)) rfl (fun s' e => by subst e; exact ⟨ok, rfl, rfl, rfl, fun _ => rfl⟩)
    (h1.keep k (by simp)) ⟨hb.lt, fun k hk => absurd hk (hno k)⟩ ⟨⟨by omega, hno _⟩, ⟨by omega, hno _⟩⟩ 19 (by decide)).seqF
  refine ⟨s.l.length, by have := (ok.ix 0).2.2.1; omega, fun l J Jx W hW hJ hJx hY h0 => (this l J Jx W hW hJ hJx hY h0).mono ?_⟩
  rintro e V ⟨h1, ⟨xs, ⟨fs, hp, hf, rfl⟩, h2⟩ | ⟨xs, ⟨fs, hp, hf, rfl⟩, h2⟩⟩
  · exact ⟨h1, .inl ⟨_, by rw [modOf_pos hf, hp]; rfl, h2⟩⟩
  · exact ⟨h1, .inr ⟨_, by rw [modOf_pos hf]; exact hp.filter _, h2⟩⟩

end Go.Proofs.Ytangandfgbnomaa.V
