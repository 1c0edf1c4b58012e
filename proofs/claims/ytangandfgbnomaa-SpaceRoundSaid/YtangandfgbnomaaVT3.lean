/- Walks of Space.Set and Space.Put. -/
import Derived.Test.YtangandfgbnomaaVT2
import Derived.Test.YtangandfgbnomaaV4
namespace Go.Proofs.Ytangandfgbnomaa.V
open Go.RowKit Go.Proofs.YtangandfgbnomaaW.PrintWords Go.Proofs.YtangandfgbnomaaW.PrintLast Go.Proofs.YtangandfgbnomaaW.PrintMore
set_option linter.unusedVariables false
set_option linter.unusedSimpArgs false

/-- A cell as it may stand. -/
def fitc (c : C) : C := if c.at_ = true then { c with ch := 0, fa := bits .and .u8 c.fa 61 } else { c with fa := 0 }
def S.set (s : S) (n : Int) (c : C) : S := { s with l := s.l.set (s.ix n) (fitc c) }
def S.put (s : S) (n : Int) (x : Int) : S := if (s.get n).at_ = true then s else { s with l := s.l.set (s.ix n) { s.get n with ch := x } }

/-- Its numbers are bytes. -/
def C.wf (c : C) : Prop := (0 ≤ c.ch ∧ c.ch < 256) ∧ (0 ≤ c.fa ∧ c.fa < 256) ∧ (0 ≤ c.hi ∧ c.hi < 256) ∧ (0 ≤ c.co ∧ c.co < 256) ∧ (0 ≤ c.se ∧ c.se < 256)

def one (b : Bool) : Int := if b = true then 1 else 0

theorem cnt_nil : cnt [] = 0 := rfl
theorem cnt_cons (c : C) (l : List C) : cnt (c :: l) = one c.at_ + cnt l := by
  unfold cnt one
  by_cases h : c.at_ = true
  · rw [List.filter_cons_of_pos (by simpa using h), if_pos h]; simp; omega
  · rw [List.filter_cons_of_neg (by simpa using h), if_neg h]; simp
theorem cnt_nonneg (l : List C) : 0 ≤ cnt l ∧ cnt l ≤ l.length := by
  unfold cnt
  have := List.length_filter_le (fun c : C => c.at_) l
  omega
theorem cnt_set : ∀ (l : List C) (i : Nat) (c : C) (h : i < l.length), cnt (l.set i c) = cnt l + (one c.at_ - one l[i].at_)
  | d :: l, 0, c, _ => by rw [List.set_cons_zero, cnt_cons, cnt_cons]; simp; omega
  | d :: l, i + 1, c, h => by
    rw [List.set_cons_succ, cnt_cons, cnt_cons, cnt_set l i c (by simpa using h)]; simp; omega

theorem count_calls (c : C) (w : World) : Calls Try.prog 150 #[c.v] w fun e w' => e = .returned (.int .i64 (one c.at_)) ∧ Below w.heap.size w w' :=
  space_count.calls _ _ _ _ _ _ _ _ (by unfold space_count.f one; split <;> rfl)

theorem Blk.set6 {w : World} {b : Nat} {l : List C} {ex : List Value} (h : Blk w b (flat l ++ ex) 60) (i : Nat) (hi : i < l.length) (c : C) :
    Blk ((((((w.setCell ⟨b, i * 6, none⟩ (.int .u8 c.ch)).setCell ⟨b, i * 6 + 1, none⟩ (.bool c.at_)).setCell ⟨b, i * 6 + 2, none⟩ (.int .u8 c.fa)).setCell ⟨b, i * 6 + 3, none⟩ (.int .u8 c.hi)).setCell ⟨b, i * 6 + 4, none⟩ (.int .u8 c.co)).setCell ⟨b, i * 6 + 5, none⟩ (.int .u8 c.se)) b (flat (l.set i c) ++ ex) 60 := by
  have hl := flat_length l
  have := (((((h.set (i * 6) (.int .u8 c.ch)).set (i * 6 + 1) (.bool c.at_)).set (i * 6 + 2) (.int .u8 c.fa)).set (i * 6 + 3) (.int .u8 c.hi)).set (i * 6 + 4) (.int .u8 c.co)).set (i * 6 + 5) (.int .u8 c.se)
  rw [Nat.mul_comm i 6] at this ⊢
  rw [List.set_append_left _ _ (by omega), List.set_append_left _ _ (by simp; omega), List.set_append_left _ _ (by simp; omega), List.set_append_left _ _ (by simp; omega), List.set_append_left _ _ (by simp; omega), List.set_append_left _ _ (by simp; omega), flat_set l i c hi] at this
  exact this

theorem Kn.upd {R : List Nat} {w0 W : World} {q : Nat} {cs : List Value} {t : TypeId} {B : Known} (h : Kn R w0 ((q, cs, t) :: B) W) (hq : ∀ x ∈ B, x.1 ≠ q) (hR : q ∈ R ∨ w0.heap.size ≤ q) (j : Nat) (v : Value) :
    Kn R w0 ((q, cs.set j v, t) :: B) (W.setCell ⟨q, j, none⟩ v) :=
  ⟨h.1.setCell (p := ⟨q, j, none⟩) hR v, fun x hx => by
    rcases List.mem_cons.1 hx with rfl | hx
    · exact (h.2 _ (List.mem_cons_self ..)).set j v
    · exact (h.2 x (List.mem_cons_of_mem _ hx)).other (p := ⟨q, j, none⟩) (hq x hx) v⟩
theorem Kn.mono {R R' : List Nat} {w0 W : World} {B : Known} (h : Kn R w0 B W) (hr : ∀ x, x ∈ R → x ∈ R') : Kn R' w0 B W := ⟨h.1.mono (fun x hx => .inl (hr x hx)), h.2⟩

theorem rules_c {R : List Nat} {w0 : World} {B : Known} {p : Nat} {c : C} (m : (p, c.vs, 60) ∈ B) : (∀ W, Kn R w0 B W → W.cell? ⟨p, 0, none⟩ = some (.int .u8 c.ch)) ∧ (∀ W, Kn R w0 B W → W.cell? ⟨p, 1, none⟩ = some (.bool c.at_)) ∧ (∀ W, Kn R w0 B W → W.cell? ⟨p, 2, none⟩ = some (.int .u8 c.fa)) ∧
    (∀ W, Kn R w0 B W → W.cell? ⟨p, 3, none⟩ = some (.int .u8 c.hi)) ∧ (∀ W, Kn R w0 B W → W.cell? ⟨p, 4, none⟩ = some (.int .u8 c.co)) ∧ (∀ W, Kn R w0 B W → W.cell? ⟨p, 5, none⟩ = some (.int .u8 c.se)) :=
  ⟨fun _ h => h.cell m 0, fun _ h => h.cell m 1, fun _ h => h.cell m 2, fun _ h => h.cell m 3, fun _ h => h.cell m 4, fun _ h => h.cell m 5⟩

theorem Keep.setb6 {R : List Nat} {w W : World} {b : Nat} (h : Keep R w W) (hb : b ∈ R ∨ w.heap.size ≤ b) (j0 j1 j2 j3 j4 j5 : Nat) (v0 v1 v2 v3 v4 v5 : Value) :
    Keep R w ((((((W.setCell ⟨b, j0, none⟩ v0).setCell ⟨b, j1, none⟩ v1).setCell ⟨b, j2, none⟩ v2).setCell ⟨b, j3, none⟩ v3).setCell ⟨b, j4, none⟩ v4).setCell ⟨b, j5, none⟩ v5) :=
  (((((h.setCell (p := ⟨b, j0, none⟩) hb v0).setCell (p := ⟨b, j1, none⟩) hb v1).setCell (p := ⟨b, j2, none⟩) hb v2).setCell (p := ⟨b, j3, none⟩) hb v3).setCell (p := ⟨b, j4, none⟩) hb v4).setCell (p := ⟨b, j5, none⟩) hb v5
theorem Blk.otherb6 {W : World} {q b : Nat} {cs : List Value} {t : TypeId} (h : Blk W q cs t) (hb : q ≠ b) (j0 j1 j2 j3 j4 j5 : Nat) (v0 v1 v2 v3 v4 v5 : Value) :
    Blk ((((((W.setCell ⟨b, j0, none⟩ v0).setCell ⟨b, j1, none⟩ v1).setCell ⟨b, j2, none⟩ v2).setCell ⟨b, j3, none⟩ v3).setCell ⟨b, j4, none⟩ v4).setCell ⟨b, j5, none⟩ v5) q cs t :=
  (((((h.other (p := ⟨b, j0, none⟩) hb v0).other (p := ⟨b, j1, none⟩) hb v1).other (p := ⟨b, j2, none⟩) hb v2).other (p := ⟨b, j3, none⟩) hb v3).other (p := ⟨b, j4, none⟩) hb v4).other (p := ⟨b, j5, none⟩) hb v5

set_option maxRecDepth 100000 in
set_option maxHeartbeats 2000000 in
theorem set_attr {w : World} {p b : Nat} {s : S} (h : PSp w p b s) (ok : s.ok) (n ch fa hi co se : Int) (f : C) (hf : f = ⟨0, true, bits .and .u8 fa 61, hi, co, se⟩) :
    Calls Try.prog 59 #[.pointer (some ⟨p, 0, none⟩), .int .i64 n, .agg #[.int .u8 ch, .bool true, .int .u8 fa, .int .u8 hi, .int .u8 co, .int .u8 se]] w fun e w' => e = .returned (.tuple #[]) ∧ PSp w' p b { s with l := s.l.set (s.ix n) f } ∧ Keep [p, b] w w' := by
  have hne := h.ne
  obtain ⟨cap, ex, hcap, h1, h2⟩ := h
  have plt := h1.lt
  have blt := h2.lt
  have k0 : Kn [p, b] w [(p, pb s b cap, 155), (b, flat s.l ++ ex, 60)] w := by
    refine ⟨Keep.refl _ _, ?_⟩
    intro x hx
    rcases List.mem_cons.1 hx with rfl | hx
    · exact h1
    · rcases List.mem_cons.1 hx with rfl | hx
      · exact h2
      · cases hx
  obtain ⟨hix, hlt, hN, hN1⟩ := ok.ix n
  generalize hi : s.ix n = i at *
  clear hi
  have kc : Kn [p, b] w [(w.heap.size, f.vs, 60), (p, pb s b cap, 155), (b, flat s.l ++ ex, 60)] (w.alloc (.cells #[.int .u8 0, .bool true, .int .u8 (bits .and .u8 fa 61), .int .u8 hi, .int .u8 co, .int .u8 se] 60)) := by rw [hf]; exact k0.new _ 60
  obtain ⟨B, hB⟩ : ∃ B, B = [(w.heap.size, f.vs, 60), (p, pb s b cap, 155), (b, flat s.l ++ ex, 60)] := ⟨_, rfl⟩
  have m0 : (w.heap.size, f.vs, 60) ∈ B := by rw [hB]; exact List.mem_cons_self ..
  have m1 : (p, pb s b cap, 155) ∈ B := by rw [hB]; exact List.mem_cons_of_mem _ (List.mem_cons_self ..)
  have m2 : (b, flat s.l ++ ex, 60) ∈ B := by rw [hB]; exact List.mem_cons_of_mem _ (List.mem_cons_of_mem _ (List.mem_cons_self ..))
  rw [← hB] at kc
  have KC := Aside0.mk kc
  obtain ⟨r0, r1, r2, r3, r4, r5, r6⟩ := rules_p (R := [p, b]) (w0 := w) m1
  obtain ⟨x0, x1, x2, x3, x4, x5⟩ := rules_b (R := [p, b]) (w0 := w) m2 hlt
  obtain ⟨y0, y1, y2, y3, y4, y5⟩ := rules_c (R := [p, b]) (w0 := w) m0
  have rf := rules_f (R := [p, b]) (w0 := w) m1
  have s2 := h1.cell 2
  have s3 := h1.cell 3
  simp at s2 s3
  have i1 : (0 : Int) ≤ (i : Int) := by omega
  have i2 : (i : Int) < (s.l.length : Int) := by omega
  have hcn := cnt_nonneg s.l
  have e1 : (0 : Int) ≤ one f.at_ ∧ one f.at_ ≤ 1 := by unfold one; split <;> omega
  have e2 : (0 : Int) ≤ one s.l[i].at_ ∧ one s.l[i].at_ ≤ 1 := by unfold one; split <;> omega
  have hcs := cnt_set s.l i f hlt
  have w1 : IntKind.i64.wrap (one f.at_ - one s.l[i].at_) = one f.at_ - one s.l[i].at_ := by rw [IntKind.wrap_i64]; omega
  have w2 : IntKind.i64.wrap (cnt s.l + (one f.at_ - one s.l[i].at_)) = cnt (s.l.set i f) := by rw [hcs, IntKind.wrap_i64]; omega
  have W1 := Aside0.mk w1
  have W2 := Aside0.mk w2
  have HB := Aside0.mk hB
  clear kc hcn e1 e2 hcs w1 w2 hB m0 k0
  have F := Aside0.mk hf
  clear hf
  go_enter Try.func59, Try.ntmps59
  go_wp2_with (go_at_call 32; (with_reducible refine (c_wrap _ _ _ _).mono ?_); rintro e w1 ⟨rfl, hb1⟩; have k1 := KC.out.call hb1)
  clear hb1 KC s2 s3
  have w1 := W1.out
  have w2 := W2.out
  clear W1 W2
  refine wp_quiet_tail (K := Kn [p, b] w B) 18 (by kernel_rfl) (by kernel_rfl) k1.drew ?_
  simp only [List.take_succ_cons, List.take_zero, List.drop_succ_cons, List.drop_zero]
  repeat (first
    | go_big_quiet_skip
    | (go_big_quiet_want; first
        | (go_big_quiet_op; first
            | go_big_quiet_on
            | (go_big_quiet_call ((intro hW; first
                | exact Calls.mono (c_wrap _ _ _ _) (fun e W' h => ⟨h.1, hW.call h.2⟩)
                | exact Calls.mono (count_calls f _) (fun e W' h => ⟨h.1, hW.call h.2⟩)
                | exact Calls.mono (count_calls s.l[i] _) (fun e W' h => ⟨h.1, hW.call h.2⟩)))))
        | (apply quiet_of
           · (intro W hW
              go_simp
              with_reducible rfl)
           simp only [Act.put, List.setIfInBounds_toArray, List.set_cons_zero, List.set_cons_succ]
           go_big_quiet_on)))
  refine wpQuiet_nil ?_
  intro W2 k2
  clear k1 w1 w2
  go_wp2
  rw [HB.out] at k2
  have q0 : Blk W2 w.heap.size f.vs 60 := k2.blk (List.mem_cons_self ..)
  have q1 : Blk W2 p (pb s b cap) 155 := k2.blk (List.mem_cons_of_mem _ (List.mem_cons_self ..))
  have q2 : Blk W2 b (flat s.l ++ ex) 60 := k2.blk (List.mem_cons_of_mem _ (List.mem_cons_of_mem _ (List.mem_cons_self ..)))
  have k3 : Kn [p, b] w [(w.heap.size, f.vs, 60), (p, pb { s with l := s.l.set i f } b cap, 155), (b, flat s.l ++ ex, 60)] (W2.setCell ⟨p, 6, none⟩ (.int .i64 (cnt (s.l.set i f)))) := by
    refine ⟨k2.1.setCell (p := ⟨p, 6, none⟩) (.inl (List.mem_cons_self ..)) _, ?_⟩
    intro x hx
    rcases List.mem_cons.1 hx with rfl | hx
    · exact q0.other (p := ⟨p, 6, none⟩) (by show w.heap.size ≠ p; omega) _
    · rcases List.mem_cons.1 hx with rfl | hx
      · have e : pb { s with l := s.l.set i f } b cap = (pb s b cap).set 6 (.int .i64 (cnt (s.l.set i f))) := by simp [pb]
        show Blk _ p (pb { s with l := s.l.set i f } b cap) 155
        rw [e]; exact q1.set 6 _
      · rcases List.mem_cons.1 hx with rfl | hx
        · exact q2.other (p := ⟨p, 6, none⟩) hne.symm _
        · cases hx
  clear q0 q1 q2 k2 m1 m2
  obtain ⟨B2, hB2⟩ : ∃ B2, B2 = [(w.heap.size, f.vs, 60), (p, pb { s with l := s.l.set i f } b cap, 155), (b, flat s.l ++ ex, 60)] := ⟨_, rfl⟩
  have m0 : (w.heap.size, f.vs, 60) ∈ B2 := by rw [hB2]; exact List.mem_cons_self ..
  have m1 : (p, pb { s with l := s.l.set i f } b cap, 155) ∈ B2 := by rw [hB2]; exact List.mem_cons_of_mem _ (List.mem_cons_self ..)
  have m2 : (b, flat s.l ++ ex, 60) ∈ B2 := by rw [hB2]; exact List.mem_cons_of_mem _ (List.mem_cons_of_mem _ (List.mem_cons_self ..))
  rw [← hB2] at k3
  clear hB2 HB
  obtain ⟨_, _, _, _, r4, _, _⟩ := rules_p (R := [p, b]) (w0 := w) m1
  obtain ⟨x0, x1, x2, x3, x4, x5⟩ := rules_b (R := [p, b]) (w0 := w) m2 hlt
  obtain ⟨y0, y1, y2, y3, y4, y5⟩ := rules_c (R := [p, b]) (w0 := w) m0
  have bf := rules_f (R := [p, b]) (w0 := w) m2
  simp only [List.length_set] at r4
  refine wp_quiet_tail (K := Kn [p, b] w B2) 7 (by kernel_rfl) (by kernel_rfl) k3.drew ?_
  simp only [List.take_succ_cons, List.take_zero, List.drop_succ_cons, List.drop_zero]
  repeat (first
    | go_big_quiet_skip
    | (go_big_quiet_want; first
        | (go_big_quiet_op; first
            | go_big_quiet_on)
        | (apply quiet_of
           · (intro W hW
              go_simp
              with_reducible rfl)
           simp only [Act.put, List.setIfInBounds_toArray, List.set_cons_zero, List.set_cons_succ]
           go_big_quiet_on)))
  refine wpQuiet_nil ?_
  intro W4 k4
  clear k3
  go_wp2
  go_end0
  refine ⟨rfl, ⟨cap, ex, by rw [List.length_set]; exact hcap, ?_, ?_⟩, ?_⟩
  · exact (k4.blk m1).otherb6 hne _ _ _ _ _ _ _ _ _ _ _ _
  · exact (k4.blk m2).set6 i hlt f
  · exact k4.1.setb6 (.inl (List.mem_cons_of_mem _ (List.mem_cons_self ..))) _ _ _ _ _ _ _ _ _ _ _ _

set_option maxRecDepth 100000 in
set_option maxHeartbeats 2000000 in
theorem set_char {w : World} {p b : Nat} {s : S} (h : PSp w p b s) (ok : s.ok) (n ch fa hi co se : Int) (f : C) (hf : f = ⟨ch, false, 0, hi, co, se⟩) :
    Calls Try.prog 59 #[.pointer (some ⟨p, 0, none⟩), .int .i64 n, .agg #[.int .u8 ch, .bool false, .int .u8 fa, .int .u8 hi, .int .u8 co, .int .u8 se]] w fun e w' => e = .returned (.tuple #[]) ∧ PSp w' p b { s with l := s.l.set (s.ix n) f } ∧ Keep [p, b] w w' := by
  have hne := h.ne
  obtain ⟨cap, ex, hcap, h1, h2⟩ := h
  have plt := h1.lt
  have blt := h2.lt
  have k0 : Kn [p, b] w [(p, pb s b cap, 155), (b, flat s.l ++ ex, 60)] w := by
    refine ⟨Keep.refl _ _, ?_⟩
    intro x hx
    rcases List.mem_cons.1 hx with rfl | hx
    · exact h1
    · rcases List.mem_cons.1 hx with rfl | hx
      · exact h2
      · cases hx
  obtain ⟨hix, hlt, hN, hN1⟩ := ok.ix n
  generalize hi : s.ix n = i at *
  clear hi
  have kc : Kn [p, b] w [(w.heap.size, f.vs, 60), (p, pb s b cap, 155), (b, flat s.l ++ ex, 60)] (w.alloc (.cells #[.int .u8 ch, .bool false, .int .u8 0, .int .u8 hi, .int .u8 co, .int .u8 se] 60)) := by rw [hf]; exact k0.new _ 60
  obtain ⟨B, hB⟩ : ∃ B, B = [(w.heap.size, f.vs, 60), (p, pb s b cap, 155), (b, flat s.l ++ ex, 60)] := ⟨_, rfl⟩
  have m0 : (w.heap.size, f.vs, 60) ∈ B := by rw [hB]; exact List.mem_cons_self ..
  have m1 : (p, pb s b cap, 155) ∈ B := by rw [hB]; exact List.mem_cons_of_mem _ (List.mem_cons_self ..)
  have m2 : (b, flat s.l ++ ex, 60) ∈ B := by rw [hB]; exact List.mem_cons_of_mem _ (List.mem_cons_of_mem _ (List.mem_cons_self ..))
  rw [← hB] at kc
  have KC := Aside0.mk kc
  obtain ⟨r0, r1, r2, r3, r4, r5, r6⟩ := rules_p (R := [p, b]) (w0 := w) m1
  obtain ⟨x0, x1, x2, x3, x4, x5⟩ := rules_b (R := [p, b]) (w0 := w) m2 hlt
  obtain ⟨y0, y1, y2, y3, y4, y5⟩ := rules_c (R := [p, b]) (w0 := w) m0
  have rf := rules_f (R := [p, b]) (w0 := w) m1
  have s2 := h1.cell 2
  have s3 := h1.cell 3
  simp at s2 s3
  have i1 : (0 : Int) ≤ (i : Int) := by omega
  have i2 : (i : Int) < (s.l.length : Int) := by omega
  have hcn := cnt_nonneg s.l
  have e1 : (0 : Int) ≤ one f.at_ ∧ one f.at_ ≤ 1 := by unfold one; split <;> omega
  have e2 : (0 : Int) ≤ one s.l[i].at_ ∧ one s.l[i].at_ ≤ 1 := by unfold one; split <;> omega
  have hcs := cnt_set s.l i f hlt
  have w1 : IntKind.i64.wrap (one f.at_ - one s.l[i].at_) = one f.at_ - one s.l[i].at_ := by rw [IntKind.wrap_i64]; omega
  have w2 : IntKind.i64.wrap (cnt s.l + (one f.at_ - one s.l[i].at_)) = cnt (s.l.set i f) := by rw [hcs, IntKind.wrap_i64]; omega
  have W1 := Aside0.mk w1
  have W2 := Aside0.mk w2
  have HB := Aside0.mk hB
  clear kc hcn e1 e2 hcs w1 w2 hB m0 k0
  have F := Aside0.mk hf
  clear hf
  go_enter Try.func59, Try.ntmps59
  go_wp2_with (go_at_call 32; (with_reducible refine (c_wrap _ _ _ _).mono ?_); rintro e w1 ⟨rfl, hb1⟩; have k1 := KC.out.call hb1)
  clear hb1 KC s2 s3
  have w1 := W1.out
  have w2 := W2.out
  clear W1 W2
  refine wp_quiet_tail (K := Kn [p, b] w B) 18 (by kernel_rfl) (by kernel_rfl) k1.drew ?_
  simp only [List.take_succ_cons, List.take_zero, List.drop_succ_cons, List.drop_zero]
  repeat (first
    | go_big_quiet_skip
    | (go_big_quiet_want; first
        | (go_big_quiet_op; first
            | go_big_quiet_on
            | (go_big_quiet_call ((intro hW; first
                | exact Calls.mono (c_wrap _ _ _ _) (fun e W' h => ⟨h.1, hW.call h.2⟩)
                | exact Calls.mono (count_calls f _) (fun e W' h => ⟨h.1, hW.call h.2⟩)
                | exact Calls.mono (count_calls s.l[i] _) (fun e W' h => ⟨h.1, hW.call h.2⟩)))))
        | (apply quiet_of
           · (intro W hW
              go_simp
              with_reducible rfl)
           simp only [Act.put, List.setIfInBounds_toArray, List.set_cons_zero, List.set_cons_succ]
           go_big_quiet_on)))
  refine wpQuiet_nil ?_
  intro W2 k2
  clear k1 w1 w2
  go_wp2
  rw [HB.out] at k2
  have q0 : Blk W2 w.heap.size f.vs 60 := k2.blk (List.mem_cons_self ..)
  have q1 : Blk W2 p (pb s b cap) 155 := k2.blk (List.mem_cons_of_mem _ (List.mem_cons_self ..))
  have q2 : Blk W2 b (flat s.l ++ ex) 60 := k2.blk (List.mem_cons_of_mem _ (List.mem_cons_of_mem _ (List.mem_cons_self ..)))
  have k3 : Kn [p, b] w [(w.heap.size, f.vs, 60), (p, pb { s with l := s.l.set i f } b cap, 155), (b, flat s.l ++ ex, 60)] (W2.setCell ⟨p, 6, none⟩ (.int .i64 (cnt (s.l.set i f)))) := by
    refine ⟨k2.1.setCell (p := ⟨p, 6, none⟩) (.inl (List.mem_cons_self ..)) _, ?_⟩
    intro x hx
    rcases List.mem_cons.1 hx with rfl | hx
    · exact q0.other (p := ⟨p, 6, none⟩) (by show w.heap.size ≠ p; omega) _
    · rcases List.mem_cons.1 hx with rfl | hx
      · have e : pb { s with l := s.l.set i f } b cap = (pb s b cap).set 6 (.int .i64 (cnt (s.l.set i f))) := by simp [pb]
        show Blk _ p (pb { s with l := s.l.set i f } b cap) 155
        rw [e]; exact q1.set 6 _
      · rcases List.mem_cons.1 hx with rfl | hx
        · exact q2.other (p := ⟨p, 6, none⟩) hne.symm _
        · cases hx
  clear q0 q1 q2 k2 m1 m2
  obtain ⟨B2, hB2⟩ : ∃ B2, B2 = [(w.heap.size, f.vs, 60), (p, pb { s with l := s.l.set i f } b cap, 155), (b, flat s.l ++ ex, 60)] := ⟨_, rfl⟩
  have m0 : (w.heap.size, f.vs, 60) ∈ B2 := by rw [hB2]; exact List.mem_cons_self ..
  have m1 : (p, pb { s with l := s.l.set i f } b cap, 155) ∈ B2 := by rw [hB2]; exact List.mem_cons_of_mem _ (List.mem_cons_self ..)
  have m2 : (b, flat s.l ++ ex, 60) ∈ B2 := by rw [hB2]; exact List.mem_cons_of_mem _ (List.mem_cons_of_mem _ (List.mem_cons_self ..))
  rw [← hB2] at k3
  clear hB2 HB
  obtain ⟨_, _, _, _, r4, _, _⟩ := rules_p (R := [p, b]) (w0 := w) m1
  obtain ⟨x0, x1, x2, x3, x4, x5⟩ := rules_b (R := [p, b]) (w0 := w) m2 hlt
  obtain ⟨y0, y1, y2, y3, y4, y5⟩ := rules_c (R := [p, b]) (w0 := w) m0
  have bf := rules_f (R := [p, b]) (w0 := w) m2
  simp only [List.length_set] at r4
  refine wp_quiet_tail (K := Kn [p, b] w B2) 7 (by kernel_rfl) (by kernel_rfl) k3.drew ?_
  simp only [List.take_succ_cons, List.take_zero, List.drop_succ_cons, List.drop_zero]
  repeat (first
    | go_big_quiet_skip
    | (go_big_quiet_want; first
        | (go_big_quiet_op; first
            | go_big_quiet_on)
        | (apply quiet_of
           · (intro W hW
              go_simp
              with_reducible rfl)
           simp only [Act.put, List.setIfInBounds_toArray, List.set_cons_zero, List.set_cons_succ]
           go_big_quiet_on)))
  refine wpQuiet_nil ?_
  intro W4 k4
  clear k3
  go_wp2
  go_end0
  refine ⟨rfl, ⟨cap, ex, by rw [List.length_set]; exact hcap, ?_, ?_⟩, ?_⟩
  · exact (k4.blk m1).otherb6 hne _ _ _ _ _ _ _ _ _ _ _ _
  · exact (k4.blk m2).set6 i hlt f
  · exact k4.1.setb6 (.inl (List.mem_cons_of_mem _ (List.mem_cons_self ..))) _ _ _ _ _ _ _ _ _ _ _ _


end Go.Proofs.Ytangandfgbnomaa.V
