/- Plain: a space laid cell by cell. -/
import Derived.Test.YtangandfgbnomaaVX
import Derived.Test.YtangandfgbnomaaVXA
namespace Go.Proofs.Ytangandfgbnomaa.V
open Go.RowKit
set_option linter.unusedVariables false
set_option linter.unusedSimpArgs false

/-- Its size is its model's. -/
def S.std (s : S) : Prop := (s.r, s.c) = msize (if s.alt = true then s.model else 2)
theorem S.clr_std (m : Int) (alt : Bool) : (S.clr m alt).std := rfl
theorem S.std.act {s : S} (h : s.std) (a : Ac) : (s.act a).std := by
  have put : ∀ n x, (s.put n x).std := fun n x => by
    obtain ⟨h1, h2, h3, _, h5⟩ := S.put_size s n x
    unfold S.std; rw [h1, h2, h3, h5]; exact h
  unfold S.act
  split
  · exact S.clr_std _ _
  split
  · exact h
  split
  · exact put _ _
  split
  · exact h
  split
  · exact h
  · obtain ⟨h1, h2, h3, _, h5⟩ := S.txt_size a.n a.tx s 0
    unfold S.std; rw [h1, h2, h3, h5]; exact h
theorem S.std.acts (us : List Ac) : ∀ {s : S}, s.std → (s.acts us).std := by
  induction us with
  | nil => intro s h; exact h
  | cons a us ih => intro s h; exact ih (h.act a)

/-- A space, its cells laid as far as i. -/
def S.part (x : S) (i : Nat) : S := { x with l := x.l.take i ++ List.replicate (x.l.length - i) C.zero, cur := 0 }
theorem S.part_zero {x : S} (hs : x.std) (hok : x.ok) : x.part 0 = S.clr x.model x.alt := by
  unfold S.part S.clr
  unfold S.std at hs
  have h1 : x.r = (msize (if x.alt = true then x.model else 2)).1 := congrArg Prod.fst hs
  have h2 : x.c = (msize (if x.alt = true then x.model else 2)).2 := congrArg Prod.snd hs
  have hl : (x.l.length : Int) = x.r * x.c := hok.2.1
  have e : x.l.length = (x.r * x.c).toNat := by omega
  simp only [List.take_zero, List.nil_append, Nat.sub_zero]
  rw [e, h1, h2]
theorem S.part_all (x : S) : x.part x.l.length = { x with cur := 0 } := by
  unfold S.part
  simp
theorem S.part_length {x : S} {i : Nat} (hi : i ≤ x.l.length) : (x.part i).l.length = x.l.length := by
  show (x.l.take i ++ List.replicate (x.l.length - i) C.zero).length = _
  simp; omega
theorem S.part_ok {x : S} (hok : x.ok) {i : Nat} (hi : i ≤ x.l.length) : (x.part i).ok := by
  obtain ⟨h1, h2, h3, h4, h5⟩ := id hok
  have hp := vld_pos h1
  refine ⟨h1, by have := S.part_length hi; show ((x.part i).l.length : Int) = x.r * x.c; rw [this]; exact h2, Int.le_refl _, by show (0 : Int) < x.r * x.c; omega, ?_⟩
  intro c hc
  rcases List.mem_append.1 (show c ∈ x.l.take i ++ List.replicate (x.l.length - i) C.zero from hc) with hc | hc
  · exact h5 c (List.mem_of_mem_take hc)
  · have := List.eq_of_mem_replicate hc
    subst this
    exact ⟨by decide, by decide, by decide, by decide, by decide, by decide⟩
theorem wrp_id {R C n : Int} (h : vld R C = true) (h0 : 0 ≤ n) (h1 : n < R * C) : wrp R C n = n := by
  unfold wrp; rw [if_pos h, Int.emod_eq_of_lt h0 h1]
theorem S.part_step {x : S} (hok : x.ok) {i : Nat} (hi : i < x.l.length) : x.part (i + 1) = (x.part i).set i (x.l.getD i C.zero) := by
  have hw : wrp x.r x.c (i : Int) = i := wrp_id hok.1 (by omega) (by have := hok.2.1; omega)
  have hix : (x.part i).ix i = i := by unfold S.ix; show (wrp x.r x.c (i : Int)).toNat = i; rw [hw]; simp
  have hc : x.l.getD i C.zero = x.l[i] := by rw [List.getD_eq_getElem?_getD, List.getElem?_eq_getElem hi]; rfl
  have hfit : fitc x.l[i] = x.l[i] := fitc_id (hok.2.2.2.2 _ (List.getElem_mem hi))
  unfold S.set
  rw [hix, hc, hfit]
  unfold S.part
  simp only [S.mk.injEq, true_and, and_true]
  apply List.ext_getElem?
  intro j
  rw [List.getElem?_set]
  by_cases hj : j < i
  · rw [if_neg (by omega), List.getElem?_append_left (by simp; omega), List.getElem?_append_left (by simp; omega), List.getElem?_take_of_lt (by omega), List.getElem?_take_of_lt (by omega)]
  · by_cases hj2 : j = i
    · subst hj2
      rw [if_pos rfl, if_pos (by simp; omega), List.getElem?_append_left (by simp; omega), List.getElem?_take_of_lt (by omega), List.getElem?_eq_getElem hi]
    · rw [if_neg (by omega), List.getElem?_append_right (by simp; omega), List.getElem?_append_right (by simp; omega), List.getElem?_replicate, List.getElem?_replicate]
      simp only [List.length_take]
      by_cases hj3 : j < x.l.length
      · rw [if_pos (by omega), if_pos (by omega)]
      · rw [if_neg (by omega), if_neg (by omega)]
theorem S.part_skip {x : S} {i : Nat} (hi : i < x.l.length) (hz : x.l.getD i C.zero = C.zero) : x.part (i + 1) = x.part i := by
  have hc : x.l.getD i C.zero = x.l[i] := by rw [List.getD_eq_getElem?_getD, List.getElem?_eq_getElem hi]; rfl
  unfold S.part
  simp only [S.mk.injEq, true_and, and_true]
  rw [List.take_add_one, List.getElem?_eq_getElem hi, ← hc, hz, List.append_assoc]
  congr 1
  have e : x.l.length - i = (x.l.length - (i + 1)) + 1 := by omega
  rw [e, List.replicate_succ]
  rfl
theorem S.part_place {x : S} (hok : x.ok) : (x.part x.l.length).place x.cur = x := by
  rw [S.part_all]
  unfold S.place
  simp only
  rw [wrp_id hok.1 hok.2.2.1 hok.2.2.2.1]

end Go.Proofs.Ytangandfgbnomaa.V
