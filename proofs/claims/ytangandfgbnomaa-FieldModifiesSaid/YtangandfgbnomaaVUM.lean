/- No field is modified any more, by both sides. -/
import Derived.Test.YtangandfgbnomaaVMF
import Derived.Stop.RegionWithIn
namespace Go.Proofs.Ytangandfgbnomaa.V
open Go.RowKit Go.Shelf
set_option linter.unusedVariables false
set_option linter.unusedSimpArgs false


attribute [local go_sem] Oper.semAt_some
theorem PSp.cells2 {W : World} {p b : Nat} {s : S} (h : PSp W p b s) : ∀ r ∈ [p, b], ∃ o, W.heap[r]? = some o ∧ o.isCells = true := by
  obtain ⟨_, _, _, x1, x2⟩ := h
  intro r hr
  simp only [List.mem_cons, List.not_mem_nil, or_false] at hr
  rcases hr with rfl | rfl
  · exact ⟨_, x1, rfl⟩
  · exact ⟨_, x2, rfl⟩
theorem fitc_at (c : C) : (fitc c).at_ = c.at_ := by unfold fitc; split <;> rfl
theorem afa_get {s : S} (ok : s.ok) {m : Nat} (hm : m < s.l.length) (x : Int) (n : Nat) : (s.afa m x).l.getD n C.zero = if n = m then fitc { s.l.getD m C.zero with fa := x } else s.l.getD n C.zero := by
  unfold S.afa S.set
  rw [ok.self hm]
  simp only [List.getD_eq_getElem?_getD, List.getElem?_set]
  by_cases h : n = m
  · subst h
    rw [if_pos rfl, if_pos hm, if_pos rfl]; rfl
  · rw [if_neg (fun e => h e.symm), if_neg h]
/-- A space of the same size and attributes' places. -/
def Alike (s s' : S) : Prop := s'.ok ∧ s'.l.length = s.l.length ∧ s'.r = s.r ∧ s'.c = s.c ∧ ∀ n, ata s'.l n = ata s.l n
theorem Alike.refl {s : S} (ok : s.ok) : Alike s s := ⟨ok, rfl, rfl, rfl, fun _ => rfl⟩
theorem Alike.trans {s s' s2 : S} (h : Alike s s') (k : Alike s' s2) : Alike s s2 := ⟨k.1, k.2.1.trans h.2.1, k.2.2.1.trans h.2.2.1, k.2.2.2.1.trans h.2.2.2.1, fun n => (k.2.2.2.2 n).trans (h.2.2.2.2 n)⟩
theorem afa_alike {s : S} (ok : s.ok) {m : Nat} (hm : m < s.l.length) (x : Int) (hx : 0 ≤ x ∧ x < 256) : Alike s (s.afa m x) := by
  have hf := getD_fit ok m
  refine ⟨ok.set _ _ ⟨hf.1, hf.2.1⟩ hx, ?_, rfl, rfl, fun n => ?_⟩
  · unfold S.afa S.set; simp only [List.length_set]
  · unfold ata
    rw [afa_get ok hm x n]
    by_cases h : n = m
    · rw [if_pos h, fitc_at, h]
    · rw [if_neg h]
theorem Alike.atts {s s' : S} (h : Alike s s') : atts s'.l = atts s.l := by
  obtain ⟨_, h2, _, _, h5⟩ := h
  unfold V.atts attsTo
  rw [h2]
  congr 1
  exact List.filter_congr (fun i _ => h5 i)
/-- A field, not modified. -/
def S.ufa (s : S) (k : Nat) : S := s.afa k (bits .andNot .u8 (s.l.getD k C.zero).fa 1)
def S.unm (s : S) (l : List Int) : S := l.foldl (fun s x => s.ufa x.toNat) s
theorem S.unm_snoc (s : S) (l : List Int) (x : Int) : s.unm (l ++ [x]) = (s.unm l).ufa x.toNat := by unfold S.unm; rw [List.foldl_append]; rfl
theorem ufa_alike {s : S} (ok : s.ok) {m : Nat} (hm : m < s.l.length) : Alike s (s.ufa m) := by
  have hf := getD_fit ok m
  have := andnot1 hf.2.2.1 hf.2.2.2.1
  exact afa_alike ok hm _ ⟨this.2.1, by omega⟩
theorem unm_alike : ∀ (l : List Int) {s : S}, s.ok → (∀ x ∈ l, x.toNat < s.l.length) → Alike s (s.unm l)
  | [], s, ok, _ => Alike.refl ok
  | x :: l, s, ok, h => by
    have h1 := ufa_alike ok (h x (by simp))
    exact h1.trans (unm_alike l h1.1 (fun y hy => by rw [h1.2.1]; exact h y (List.mem_cons_of_mem _ hy)))
theorem atts_dom {l : List C} {x : Int} (h : x ∈ atts l) : ∃ k : Nat, x = k ∧ k < l.length ∧ ata l k = true := by
  unfold atts attsTo at h
  obtain ⟨k, hk, rfl⟩ := List.mem_map.1 h
  obtain ⟨h1, h2⟩ := List.mem_filter.1 hk
  exact ⟨k, rfl, List.mem_range.1 h1, h2⟩

theorem ufa_even {s : S} (ok : s.ok) {k : Nat} (hk : k < s.l.length) (hka : ata s.l k = true) (n : Nat) (h : n = k ∨ (s.l.getD n C.zero).fa % 2 = 0) : ((s.ufa k).l.getD n C.zero).fa % 2 = 0 := by
  unfold S.ufa
  rw [afa_get ok hk]
  split
  · have hf := getD_fit ok k
    have := andnot1 hf.2.2.1 hf.2.2.2.1
    unfold ata at hka
    unfold fitc
    rw [if_pos hka]
    exact this.2.2.2
  · rename_i hne
    exact h.resolve_left hne
theorem unm_even : ∀ (l : List Int) {s : S}, s.ok → (∀ x ∈ l, ∃ k : Nat, x = k ∧ k < s.l.length ∧ ata s.l k = true) → ∀ n : Nat, (n : Int) ∈ l ∨ (s.l.getD n C.zero).fa % 2 = 0 → ((s.unm l).l.getD n C.zero).fa % 2 = 0
  | [], s, ok, _, n, h => by
    rcases h with h | h
    · cases h
    · exact h
  | y :: l, s, ok, hd, n, h => by
    obtain ⟨k, rfl, hk, hka⟩ := hd y (by simp)
    have ha := ufa_alike ok hk
    refine unm_even l (s := s.ufa k) ha.1 (fun x hx => ?_) n ?_
    · obtain ⟨j, e, hj, hja⟩ := hd x (List.mem_cons_of_mem _ hx)
      exact ⟨j, e, by rw [ha.2.1]; exact hj, by rw [ha.2.2.2.2]; exact hja⟩
    · rcases h with h | h
      · rcases List.mem_cons.1 h with h | h
        · exact .inr (ufa_even ok hk hka n (.inl (by omega)))
        · exact .inl h
      · exact .inr (ufa_even ok hk hka n (.inr h))
theorem unm_mods {s : S} (ok : s.ok) : mods (s.unm (atts s.l)).l = [] := by
  have ha := unm_alike (atts s.l) ok (fun x hx => by obtain ⟨k, rfl, hk, _⟩ := atts_dom hx; simpa using hk)
  unfold mods
  rw [ha.atts, List.filter_eq_nil_iff]
  intro x hx
  obtain ⟨k, rfl, _⟩ := atts_dom hx
  have := unm_even (atts s.l) ok (fun x hx => atts_dom hx) k (.inl hx)
  simp only [decide_eq_true_eq, Int.toNat_natCast]
  omega
theorem attsTo_dom {l : List C} {n : Nat} {x : Int} (h : x ∈ attsTo l n) : x.toNat < n := by
  unfold attsTo at h
  obtain ⟨k, hk, rfl⟩ := List.mem_map.1 h
  have := List.mem_range.1 (List.mem_filter.1 hk).1
  simpa using this

set_option maxRecDepth 100000 in
set_option maxHeartbeats 4000000 in
theorem unmodify_calls {w : World} {p b : Nat} {s : S} (h : PSp w p b s) (ok : s.ok) : Calls Try.prog 121 #[.pointer (some ⟨p, 0, none⟩)] w fun e w' => e = .returned (.tuple #[]) ∧ PSp w' p b (s.unm (atts s.l)) ∧ Keep [p, b] w w' := by
  refine (callsIn_wide (n := 10)).1 ?_
  have hpb : p < w.heap.size ∧ b < w.heap.size := by obtain ⟨_, _, _, x1, x2⟩ := id h; exact ⟨x1.lt, x2.lt⟩
  have hit := attrs_calls (w.alloc (.cells #[.pointer (some ⟨p, 0, none⟩)] 61)) (some ⟨p, 0, none⟩)
  simp only [World.size_alloc] at hit
  refine callsIn_of_wp_marks Try.func121 rfl trivial ?_ rfl
  simp only [Try.ntmps121, List.size_toArray, List.length_cons, List.length_nil, Nat.reduceAdd, Nat.reduceSub, Array.replicate_succ, Array.replicate_zero, List.push_toArray, List.append_toArray, List.nil_append, List.cons_append]
  gi_wp2_with (first
    | (refine ⟨trivial, ?_⟩; gi_at_call 158; (with_reducible refine (callsIn_wide.2 hit).mono ?_); rintro e w1 ⟨rfl, rfl⟩))
  have a0 := (Blk.new w [.pointer (some ⟨p, 0, none⟩)] 61).alloc (.cells #[.pointer (some ⟨p, 0, none⟩)] 61)
  have a1 := Blk.new (w.alloc (.cells #[.pointer (some ⟨p, 0, none⟩)] 61)) [.pointer (some ⟨p, 0, none⟩)] 61
  simp only [World.size_alloc] at a1
  have K1 := ((Keep.refl [] w).alloc (.cells #[.pointer (some ⟨p, 0, none⟩)] 61)).alloc (.cells #[.pointer (some ⟨p, 0, none⟩)] 61)
  have hsz : ((w.alloc (.cells #[.pointer (some ⟨p, 0, none⟩)] 61)).alloc (.cells #[.pointer (some ⟨p, 0, none⟩)] 61)).heap.size = w.heap.size + 2 := by simp only [World.size_alloc]
  generalize (w.alloc (.cells #[.pointer (some ⟨p, 0, none⟩)] 61)).alloc (.cells #[.pointer (some ⟨p, 0, none⟩)] 61) = W at *
  have hs1 := h.keep K1 (by simp) (by simp)
  have hst := attrs_stopsP (N := s.l.length) (R := s.r) (C' := s.c) (serves_ks (R := []) (p := p) (b := b) (Inv := Alike s) 0 (by simp)) ((lets_ks 0).up (Nat.zero_le _)) hs1 (Alike.refl ok) (fun s' e => e) a1 (Nat.zero_le _) ⟨by simp, by simp⟩ 9 (by decide)
  refine wpIn_rangeP (F := Fence.wide) (n := 10) rfl (by decide) (gf := 183) (lb := #[.pointer (some ⟨w.heap.size + 1, 0, none⟩)]) rfl trivial (enters_of Try.func183 (by kernel_rfl) rfl)
    hst KS.trans (fun V l o o' hl ho hc hw => (lets_ks (R := []) (p := p) (b := b) (Inv := Alike s) (good := fun _ => True) 0).put V l o o' (Nat.zero_le _) ho hc) (Below.refl _ _) (fun _ => rfl)
    (fun pre V => PSp V p b (s.unm pre) ∧ Keep [p, b] W V) (fun _ _ _ => False) ?own (fun _ _ _ _ _ hs _ _ => hs) ⟨hs1, Keep.refl _ _⟩
    (fun x a' V => a' = { tmps := #[.pointer (some ⟨p, 0, none⟩), .pointer (some ⟨w.heap.size, 0, none⟩), .int .i64 x, undef, .pointer (some ⟨p, 0, none⟩), .func (.func 183) #[] #[.pointer (some ⟨w.heap.size + 1, 0, none⟩)], .int .i64 x, undef, undef, undef, undef, undef, undef, undef, undef, undef, undef, undef], defers := [] }) (fun _ _ _ _ _ _ hs _ _ => hs) ?assign ?body ?done (fun _ _ _ _ _ _ h _ => h.elim)
  case own =>
    refine OwnFrom.and ?_ (ownFrom_keep (by omega))
    rintro pre A B row ⟨cap, ex, hc, y1, y2⟩ hg hr
    exact ⟨cap, ex, hc, ownFrom_blk (β := Unit) (f := fun _ => _) () A B row y1 hg hr, ownFrom_blk (β := Unit) (f := fun _ => _) () A B row y2 hg hr⟩
  case assign =>
    rintro lr pre x V K hI _ _ hK2
    have HK := Aside0.mk (hK2 _ V (KeepsFrom.refl _ _) (KS.keep (Keep.refl [] V)) hI rfl)
    clear hK2 hst hI
    gi_wp2
    exact HK.out
  case body =>
    rintro lr pre x a' V hlr hrec ⟨hs, hK⟩ rfl ⟨k, rfl, hkN, hka, hpre⟩ hlen
    have hal : Alike s (s.unm pre) := unm_alike pre ok (fun x hx => by rw [hpre] at hx; have := attsTo_dom hx; omega)
    have hkl : k < (s.unm pre).l.length := by rw [hal.2.1]; exact hkN
    have hsn : s.unm (pre ++ [(k : Int)]) = (s.unm pre).ufa k := by rw [S.unm_snoc]; rfl
    have h2 := ufa_alike hal.1 hkl
    obtain ⟨Y, hY⟩ : ∃ Y, s.unm pre = Y := ⟨_, rfl⟩
    rw [hY] at hsn hal h2 hs hkl
    have HSN := Aside0.mk hsn
    obtain ⟨c, hc⟩ : ∃ c, Y.l.getD k C.zero = c := ⟨_, rfl⟩
    have h58 : ∀ W, Keep [] V W → Calls Try.prog 58 #[.pointer (some ⟨p, 0, none⟩), .int .i64 (k : Int)] W fun e w' => e = .returned (.agg #[.int .u8 c.ch, .bool c.at_, .int .u8 c.fa, .int .u8 c.hi, .int .u8 c.co, .int .u8 c.se]) ∧ Below W.heap.size W w' := fun W kk => by
      have := at_calls (hs.keep kk (by simp) (by simp)) hal.1 (k : Int)
      rw [S.get_self hal.1 hkl, hc] at this; exact this
    have h59 : ∀ W, Keep [] V W → Calls Try.prog 59 #[.pointer (some ⟨p, 0, none⟩), .int .i64 (k : Int), .agg #[.int .u8 c.ch, .bool c.at_, .int .u8 (bits .andNot .u8 c.fa 1), .int .u8 c.hi, .int .u8 c.co, .int .u8 c.se]] W fun e w' => e = .returned (.tuple #[]) ∧ PSp w' p b (Y.ufa k) ∧ Keep [p, b] W w' := fun W kk => by
      have := set_calls (hs.keep kk (by simp) (by simp)) hal.1 (k : Int) { c with fa := bits .andNot .u8 c.fa 1 }
      unfold S.ufa S.afa; rw [hc]; exact this
    have hx0 := (a0.keep hK (by simp; omega)).cell 0
    simp only [List.getElem?_cons_zero] at hx0
    have hx1 : ∀ U, Keep [] V U → U.cell? ⟨w.heap.size, 0, none⟩ = some (.pointer (some ⟨p, 0, none⟩)) := fun U kk => by
      have := ((a0.keep hK (by simp; omega)).keep kk (by simp)).cell 0
      exact this
    have k0 : Keep [] V V := Keep.refl _ _
    have HA := Aside0.mk (And.intro hs (And.intro hK (And.intro hal h2)))
    clear hs hK hal h2 hkl hka hpre hlen hrec hsn hY hst hs1 hc a0 a1
    gi_wp2_with (first
      | (refine ⟨trivial, ?_⟩; gi_at_call 58; (with_reducible refine (CallsIn.inRound lr (callsIn_wide.2 (h58 _ k0))).mono ?_); rintro e w4 ⟨rfl, hb4⟩; have k4 := k0.call hb4; have hx4 := fun o => hx1 _ (k4.alloc o))
      | (refine ⟨trivial, ?_⟩; gi_at_call 59; (with_reducible refine (CallsIn.inRound lr (callsIn_wide.2 (h59 _ (k4.alloc _)))).mono ?_); rintro e w5 ⟨rfl, hs5, hk5⟩; have k5 : Keep [p, b] V w5 := ((k4.alloc _).mono (by simp)).trans hk5 (by simp)))
    obtain ⟨hs, hK, hal, h2⟩ := HA.out
    exact ⟨k5.keepsFrom _ hs.cells2, KS.upd k5 hs hs5 (fun hi => hi.trans h2), by rw [HSN.out]; exact hs5, hK.trans k5 (by simp)⟩
  case done =>
    rintro D xs V hD rfl ⟨hs, hK⟩ hKD
    clear hst
    gi_wp2
    refine ⟨by simp, .inl ⟨_, _, rfl, run_takeDeferred hKD, ?_⟩⟩
    obtain ⟨cap, ex, hc, y1, y2⟩ := hs
    exact ⟨_, results_none rfl _ _ _, rfl, ⟨cap, ex, hc, y1.putObj hKD rfl, y2.putObj hKD rfl⟩, (((K1.mono (by simp)).trans hK (by simp))).putObj (by omega)⟩

end Go.Proofs.Ytangandfgbnomaa.V
