/- Collecting what an iterator tells that hands its rounds on. -/
import Derived.Test.YtangandfgbnomaaVR2
import Derived.Test.YtangandfgbnomaaVP2
namespace Go.Proofs.Ytangandfgbnomaa.V
open Go.RowKit Go.Shelf
set_option linter.unusedVariables false
set_option linter.unusedSimpArgs false


attribute [local go_sem] Oper.semAt_some

/-- An iterator that tells l, whatever row is appended to behind each round. -/
def TellsF (w : World) (gf : Nat) (lb : Array Value) (l : List Int) : Prop :=
  ∀ (B : Nat) (W : World), Keep [] w W → w.heap.size ≤ B → Blk W B [.slice none 0 0] 79 → ∃ N, N ≤ 99999 ∧ SeqF Fence.wide 19 Try.prog gf lb (fun x : Int => #[Value.int .i64 x]) (KO B) (fun ys => ys = l) (fun pre => pre <+: l) N W
theorem no_owned {W : World} {B : Nat} (h : Blk W B [.slice none 0 0] 79) : ∀ k, ¬ owned B W k := by
  rintro k ⟨n, c, hk⟩
  have := h.cell 0
  simp only [List.getElem?_cons_zero] at this
  rw [this] at hk
  cases hk
theorem tellsF_attrs {w : World} {p b : Nat} {s : S} (h : PSp w p b s) (ok : s.ok) {B1 : Nat} (h1 : Blk w B1 [.pointer (some ⟨p, 0, none⟩)] 61) : TellsF w 183 #[.pointer (some ⟨B1, 0, none⟩)] (atts s.l) := by
  intro B W k hB hb
  have hno := no_owned hb
  have hlp : p < w.heap.size ∧ b < w.heap.size := by obtain ⟨_, _, _, x1, x2⟩ := id h; exact ⟨x1.lt, x2.lt⟩
  have hs := k.size
  exact ⟨s.l.length, by have := (ok.ix 0).2.2.1; omega, attrs_stops (Inv := fun s' => s' = s) ((holds_ko B).servesI p b _) (lets_ko hb.lt) (h.keep k (by simp) (by simp)) rfl (fun s' e => by subst e; exact ⟨ok, rfl, rfl, rfl, fun _ => rfl⟩)
    (h1.keep k (by simp)) ⟨hb.lt, fun k hk => absurd hk (hno k)⟩ ⟨⟨by omega, hno _⟩, ⟨by omega, hno _⟩⟩ 19 (by decide)⟩

set_option maxRecDepth 100000 in
set_option maxHeartbeats 2000000 in
theorem appendSeqF_calls {w : World} {gf : Nat} {lb : Array Value} {l : List Int} (hE : Enters Try.prog gf) (hl : l.length ≤ 99999) (hT : TellsF w gf lb l) :
    Calls Try.prog 156 #[.slice none 0 0, .func (.func gf) #[] lb] w fun e w' => ∃ v, e = .returned v ∧ IR w' w.heap.size v l ∧ Below w.heap.size w w' := by
  refine (callsIn_wide (n := 20)).1 ?_
  refine callsIn_of_wp_marks Try.func156 rfl trivial ?_ rfl
  simp only [Try.ntmps156, List.size_toArray, List.length_cons, List.length_nil, Nat.reduceAdd, Nat.reduceSub, Array.replicate_succ, Array.replicate_zero, List.push_toArray, List.append_toArray, List.nil_append, List.cons_append]
  gi_wp2
  have b0 := Blk.new w [.slice none 0 0] 79
  have k1 : Keep [] w (w.alloc (.cells #[.slice none 0 0] 79)) := (Keep.refl [] w).alloc _
  have hsz : (w.alloc (.cells #[.slice none 0 0] 79)).heap.size = w.heap.size + 1 := World.size_alloc _ _
  generalize (w.alloc (.cells #[.slice none 0 0] 79)) = W at *
  obtain ⟨N, hN9, hst⟩ := hT w.heap.size W k1 (Nat.le_refl _) b0
  refine wpIn_rangeF (F := Fence.wide) (n := 20) rfl (by decide) (gf := gf) (lb := lb) rfl trivial hE
    hst KO.trans (fun V l o o' hl ho hc hw => KO.put (by omega) ho hc) (Below.refl _ _) (fun _ => rfl)
    (Coll w w.heap.size (w.heap.size + 1)) (fun _ _ _ => False)
    (coll_own (by omega)) (fun _ _ _ _ _ hs _ _ => hs) ⟨⟨.slice none 0 0, b0, World.ownsRow_nil _ _ _ _, fun _ => rfl⟩, k1⟩
    (fun x a' _ => a' = { tmps := #[.slice none 0 0, .func (.func gf) #[] lb, .pointer (some ⟨w.heap.size, 0, none⟩), undef, .slice none 0 0, .int .i64 x, .func (.func gf) #[] lb, .int .i64 x, undef, undef, undef, undef, undef], defers := [] }) (fun _ _ _ _ _ _ h _ _ => h) ?assign ?body ?done ?stop
  case assign =>
    intro l pre x V K hI _ hK
    have h1 := hK _ V (KeepsFrom.refl _ _) (KO.refl _ _) hI rfl
    clear hK hI hst
    gi_wp2
    exact h1
  case body =>
    rintro lr pre x a' V hlr hrec ⟨⟨v, hv, hrow, hnil⟩, hK⟩ rfl hlen
    clear hlr hrec hst
    have hc := hv.cell
    have hVs := hK.size
    obtain ⟨hb1, hb2⟩ : w.heap.size < V.heap.size ∧ w.heap.size + 1 ≤ V.heap.size := by have := hv.lt; omega
    obtain ⟨v', w1, hrun, hown, hgr, hwh⟩ := append79 (V.alloc (.cells #[.int .i64 x] 3)) (w.heap.size + 1) v pre.length _ (hrow.alloc _) ⟨V.heap.size, 0, none⟩ (.int .i64 x) rfl ((Blk.new V [.int .i64 x] 3).cell 0) 1 (by omega) (by rw [World.size_alloc]; omega)
    obtain ⟨q1, q2, q3⟩ := coll_round hv hrow hK (Nat.le_refl _) (by omega) (by omega) hown hgr hwh
    have hv1 : Boxed w1 w.heap.size 79 v := (hv.alloc _).kept hgr (hv.not_row (by decide) hrow)
    obtain ⟨g', cap', rfl, _, _⟩ := own_shape hown
    have hc1 := hv1.cell
    have hf1 := hv1.frozen
    have hl1 := hv1.lt
    have Q1 := Aside0.mk (And.intro q1 (And.intro q2 q3))
    clear q1 q2 q3 hown hgr hwh hrow hnil hK hlen hv hv1
    gi_wp2_with (gi_at_builtin; refine wpListIn_ran rfl _ _ rfl rfl rfl rfl hrun ?_)
    exact ⟨Q1.out.1 _, Q1.out.2.1, Q1.out.2.2⟩
  case done =>
    rintro D ys V hD rfl ⟨⟨v, hv, hrow, hnil⟩, hK⟩ hKD
    have c0 := hv.cell
    gi_wp2
    refine ⟨by simp, .inl ⟨_, _, rfl, run_takeDeferred hKD, ?_⟩⟩
    exact ⟨_, results_tmp rfl _ _ _, v, rfl, IR.lower ⟨ownsRow_putObj hrow _ hKD rfl, hnil⟩ (by omega), (hK.putObj (by omega)).below⟩
  case stop =>
    rintro D c pre V _ _ h _
    exact h.elim

theorem collectF_calls {w : World} {gf : Nat} {lb : Array Value} {l : List Int} (hE : Enters Try.prog gf) (hl : l.length ≤ 99999) (hT : TellsF w gf lb l) :
    Calls Try.prog 79 #[.func (.func gf) #[] lb] w fun e w' => ∃ v, e = .returned v ∧ IR w' w.heap.size v l ∧ Below w.heap.size w w' := by
  have hA := appendSeqF_calls hE hl hT
  clear hT
  go_enter Try.func79, Try.ntmps79
  go_wp2_with (go_at_call 156; (with_reducible refine hA.mono ?_); rintro e w1 ⟨v, rfl, hv, hb⟩)
  go_ret
  exact ⟨v, rfl, hv, hb⟩

end Go.Proofs.Ytangandfgbnomaa.V
