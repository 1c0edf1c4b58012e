/- Plain facts of the places that tabs come to: lists alone. -/
import Derived.Test.YtangandfgbnomaaVN
namespace Go.Proofs.Ytangandfgbnomaa.V
open Go.RowKit
set_option linter.unusedVariables false
set_option linter.unusedSimpArgs false

/-- The first places of unprotected fields, rising. -/
def tbs (l : List C) : List Nat := (List.range l.length).filter (isf l)
def tbl (l : List C) : List Int := (tbs l).map (fun (n : Nat) => (n : Int))
/-- How many of them stand ahead of a place. -/
def rk (l : List C) (n : Nat) : Nat := ((List.range n).filter (isf l)).length
theorem rk_succ (l : List C) (n : Nat) : rk l (n + 1) = rk l n + if isf l n = true then 1 else 0 := by
  unfold rk
  rw [List.range_succ, List.filter_append, List.length_append]
  congr 1
  cases h : isf l n
  · rw [List.filter_cons_of_neg (by rw [h]; simp)]; rfl
  · rw [List.filter_cons_of_pos (by rw [h])]; rfl
theorem rk_skip {l : List C} {a : Nat} : ∀ b, a ≤ b → (∀ j, a ≤ j → j < b → isf l j = false) → rk l b = rk l a
  | 0, h, _ => by
    have : a = 0 := by omega
    rw [this]
  | b + 1, h, hj => by
    by_cases e : a = b + 1
    · rw [e]
    · rw [rk_succ, if_neg (by rw [hj b (by omega) (by omega)]; simp), Nat.add_zero]
      exact rk_skip b (by omega) (fun j h1 h2 => hj j h1 (by omega))
theorem tbs_length (l : List C) : (tbs l).length = rk l l.length := rfl
theorem tbl_length (l : List C) : (tbl l).length = (tbs l).length := by unfold tbl; simp
theorem rk_le (l : List C) (n : Nat) : rk l n ≤ n := by
  unfold rk
  exact Nat.le_trans (List.length_filter_le ..) (by simp)
theorem rk_mono (l : List C) {a : Nat} : ∀ b, a ≤ b → rk l a ≤ rk l b
  | 0, h => by
    have : a = 0 := by omega
    rw [this]; exact Nat.le_refl _
  | b + 1, h => by
    by_cases e : a = b + 1
    · rw [e]; exact Nat.le_refl _
    · have := rk_mono l b (show a ≤ b by omega)
      rw [rk_succ]; omega
theorem tbs_get {l : List C} {n : Nat} (hn : n < l.length) (h : isf l n = true) : (tbs l)[rk l n]? = some n := by
  unfold tbs
  have e : List.range l.length = List.range n ++ (List.range (l.length - n)).map (n + ·) := by rw [← List.range_add]; congr 1; omega
  rw [e, List.filter_append]
  show (_ ++ _)[((List.range n).filter (isf l)).length]? = _
  rw [List.getElem?_append_right (Nat.le_refl _), Nat.sub_self]
  have e2 : l.length - n = (l.length - n - 1) + 1 := by omega
  rw [e2, List.range_succ_eq_map, List.map_cons, List.filter_cons_of_pos (by simpa using h)]
  rfl
theorem rk_lt {l : List C} {n : Nat} (hn : n < l.length) (h : isf l n = true) : rk l n < (tbs l).length := (List.getElem?_eq_some_iff.1 (tbs_get hn h)).1
theorem tbs_mem_to {l : List C} {i n : Nat} : ∀ m, ((List.range m).filter (isf l))[i]? = some n → n < m ∧ isf l n = true ∧ rk l n = i
  | 0, h => by simp at h
  | m + 1, h => by
    rw [List.range_succ, List.filter_append] at h
    by_cases hc : i < ((List.range m).filter (isf l)).length
    · rw [List.getElem?_append_left hc] at h
      obtain ⟨h1, h2, h3⟩ := tbs_mem_to m h
      exact ⟨by omega, h2, h3⟩
    · rw [List.getElem?_append_right (by omega)] at h
      cases hm : isf l m
      · rw [List.filter_cons_of_neg (by rw [hm]; simp)] at h; simp at h
      · rw [List.filter_cons_of_pos (by rw [hm])] at h
        obtain ⟨h1, h2⟩ := List.getElem?_eq_some_iff.1 h
        have h0 : i - ((List.range m).filter (isf l)).length = 0 := by simpa using h1
        have e : m = n := by
          have h3 := h
          rw [h0] at h3
          simpa using h3
        subst e
        refine ⟨by omega, hm, ?_⟩
        unfold rk; omega
theorem tbs_mem {l : List C} {i n : Nat} (h : (tbs l)[i]? = some n) : n < l.length ∧ isf l n = true ∧ rk l n = i := tbs_mem_to l.length h
theorem tbs_at (l : List C) (i : Nat) (h : i < (tbs l).length) : ∃ n, (tbs l)[i]? = some n ∧ (tbl l).getD i 0 = (n : Int) ∧ n < l.length ∧ isf l n = true ∧ rk l n = i := by
  have e := List.getElem?_eq_getElem h
  obtain ⟨h1, h2, h3⟩ := tbs_mem e
  refine ⟨_, e, ?_, h1, h2, h3⟩
  unfold tbl
  rw [List.getD_eq_getElem?_getD, List.getElem?_map, e]; rfl
theorem tbl_rk {l : List C} {n : Nat} (hn : n < l.length) (h : isf l n = true) : (tbl l).getD (rk l n) 0 = (n : Int) := by
  unfold tbl
  rw [List.getD_eq_getElem?_getD, List.getElem?_map, tbs_get hn h]; rfl

/-- What the next one is. -/
theorem nx_spec {l : List C} {w n : Nat} (hw : w < l.length) (h : nx l w false = n) : n < l.length ∧ isf l n = true ∧ ((w < n ∧ ∀ j, w < j → j < n → isf l j = false) ∨ (n ≤ w ∧ (∀ j, w < j → j < l.length → isf l j = false) ∧ ∀ j, j < n → isf l j = false)) := by
  unfold nx at h
  split at h
  · rename_i hr
    have hy := srch_yes (p := fun k => isf l (pos l.length w false k)) hr
    have hn := fun j (hj : j < srch (fun k => isf l (pos l.length w false k)) l.length) => srch_not (p := fun k => isf l (pos l.length w false k)) hj
    generalize srch (fun k => isf l (pos l.length w false k)) l.length = r at *
    have e : n = pos l.length w false r := by omega
    subst e
    refine ⟨pos_lt (by omega) false, hy, ?_⟩
    have ps : ∀ j, j < l.length → pos l.length w false j = if w + 1 + j < l.length then w + 1 + j else w + 1 + j - l.length := fun j hj => by
      unfold pos
      simp only [Bool.false_eq_true, if_false]
      split
      · rename_i h; exact Nat.mod_eq_of_lt h
      · rename_i h; rw [Nat.mod_eq_sub_mod (by omega), Nat.mod_eq_of_lt (by omega)]
    rw [ps r hr]
    split
    · refine .inl ⟨by omega, fun j h1 h2 => ?_⟩
      have := hn (j - w - 1) (by omega)
      rw [ps _ (by omega), if_pos (by omega)] at this
      rwa [show w + 1 + (j - w - 1) = j by omega] at this
    · refine .inr ⟨by omega, fun j h1 h2 => ?_, fun j h1 => ?_⟩
      · have := hn (j - w - 1) (by omega)
        rw [ps _ (by omega), if_pos (by omega)] at this
        rwa [show w + 1 + (j - w - 1) = j by omega] at this
      · have := hn (j + l.length - w - 1) (by omega)
        rw [ps _ (by omega), if_neg (by omega)] at this
        rwa [show w + 1 + (j + l.length - w - 1) - l.length = j by omega] at this
  · omega
/-- From one on to the next. -/
theorem nx_rk {l : List C} {w n : Nat} (hw : w < l.length) (hf : isf l w = true) (h : nx l w false = n) : rk l n = (rk l w + 1) % (tbs l).length := by
  obtain ⟨hn, hnf, hc⟩ := nx_spec hw h
  have h1 : rk l (w + 1) = rk l w + 1 := by rw [rk_succ, if_pos hf]
  rcases hc with ⟨hlt, hj⟩ | ⟨hle, hj1, hj2⟩
  · have h2 := rk_skip (l := l) (a := w + 1) n (by omega) (fun j a b => hj j (by omega) b)
    have h3 := rk_lt hn hnf
    rw [h2, h1] at h3 ⊢
    rw [Nat.mod_eq_of_lt h3]
  · have h2 := rk_skip (l := l) (a := w + 1) l.length (by omega) (fun j a b => hj1 j (by omega) b)
    have h3 := rk_skip (l := l) (a := 0) n (Nat.zero_le _) (fun j _ b => hj2 j b)
    rw [tbs_length, h2, h1, Nat.mod_self, h3]; rfl
/-- The first one. -/
theorem nx_first {l : List C} {n : Nat} (hN : 0 < l.length) (h : nx l (l.length - 1) false = n) : rk l n = 0 := by
  obtain ⟨hn, hnf, hc⟩ := nx_spec (by omega) h
  rcases hc with ⟨hlt, _⟩ | ⟨_, _, hj2⟩
  · omega
  · have h3 := rk_skip (l := l) (a := 0) n (Nat.zero_le _) (fun j _ b => hj2 j b)
    rw [h3]; rfl
/-- None. -/
theorem nx_none {l : List C} {w : Nat} (hw : w < l.length) (back : Bool) (h : nx l w back = -1) : tbs l = [] := by
  unfold nx at h
  split at h
  · omega
  · rename_i hr
    refine List.filter_eq_nil_iff.2 (fun n hn => ?_)
    obtain ⟨k, hk, e⟩ := pos_all hw (List.mem_range.1 hn) back
    have := srch_not (p := fun k => isf l (pos l.length w back k)) (N := l.length) (j := k) (by omega)
    simp only [e] at this
    rw [this]; simp
theorem nx_some {l : List C} {w : Nat} (hw : w < l.length) (back : Bool) (h : tbs l ≠ []) : ∃ n : Nat, nx l w back = n ∧ n < l.length ∧ isf l n = true := by
  rcases nx_dom hw back with e | ⟨n, e, h1, h2⟩
  · exact absurd (nx_none hw back e) h
  · exact ⟨n, e, h1, h2⟩
/-- Back from one to the one ahead. -/
theorem nx_rk_back {l : List C} {w : Nat} (hw : w < l.length) (hf : isf l w = true) : ∃ m : Nat, nx l w true = m ∧ m < l.length ∧ isf l m = true ∧ (rk l m + 1) % (tbs l).length = rk l w := by
  have hN : 0 < l.length := by omega
  have h0 : nx l ((w + l.length - 1) % l.length) false = w := by
    have e : pos l.length ((w + l.length - 1) % l.length) false 0 = w := by
      unfold pos
      simp only [Bool.false_eq_true, if_false, Nat.add_zero]
      exact on_one hw
    have hs : srch (fun k => isf l (pos l.length ((w + l.length - 1) % l.length) false k)) l.length = 0 := srch_eq (Nat.zero_le _) (fun j hj => by omega) (fun _ => by simp only [e]; exact hf)
    unfold nx
    rw [hs, if_pos hN, e]
  obtain ⟨m, hm, h1, h2⟩ := nx_back (Nat.mod_lt _ hN) h0
  rcases nx_dom hw true with e | ⟨k, e, hk, hkf⟩
  · rw [h1] at e; omega
  · rw [h1] at e
    have : m = k := by omega
    subst this
    exact ⟨m, h1, hm, hkf, (nx_rk hm hkf h2).symm⟩

end Go.Proofs.Ytangandfgbnomaa.V
