/- Plain facts of attributes, of fields' places, of first places: lists alone. -/
import Derived.Test.YtangandfgbnomaaVS
namespace Go.Proofs.Ytangandfgbnomaa.V
open Go.RowKit
set_option linter.unusedVariables false
set_option linter.unusedSimpArgs false

/-- Is a place an attribute? -/
def ata (l : List C) (n : Nat) : Bool := (l.getD n C.zero).at_

/-- The places of attributes among the first k. -/
def attsTo (l : List C) (k : Nat) : List Int := ((List.range k).filter (fun i => (l.getD i C.zero).at_)).map (fun (i : Nat) => (i : Int))
def atts (l : List C) : List Int := attsTo l l.length
theorem attsTo_succ (l : List C) (k : Nat) : attsTo l (k + 1) = attsTo l k ++ (if (l.getD k C.zero).at_ = true then [(k : Int)] else []) := by
  unfold attsTo
  rw [List.range_succ, List.filter_append, List.map_append]
  congr 1
  cases h : (l.getD k C.zero).at_
  · rw [List.filter_cons_of_neg (by rw [h]; simp)]; simp
  · rw [List.filter_cons_of_pos (by rw [h])]; simp
theorem attsTo_length (l : List C) (k : Nat) : (attsTo l k).length ≤ k := by
  unfold attsTo
  rw [List.length_map]
  exact Nat.le_trans (List.length_filter_le ..) (by simp)
theorem mem_atts {l : List C} {x : Int} : x ∈ atts l ↔ ∃ a : Nat, x = a ∧ a < l.length ∧ ata l a = true := by
  unfold atts attsTo ata
  simp only [List.mem_map, List.mem_filter, List.mem_range]
  constructor
  · rintro ⟨a, ⟨h1, h2⟩, h3⟩; exact ⟨a, h3.symm, h1, h2⟩
  · rintro ⟨a, h3, h1, h2⟩; exact ⟨a, ⟨h1, h2⟩, h3.symm⟩

/-- The last attribute among the first k; otherwise d. -/
def lst (d : Int) (l : List C) : Nat → Int
  | 0 => d
  | k + 1 => if (l.getD k C.zero).at_ = true then (k : Int) else lst d l k
/-- The last one of all. -/
def fin (l : List C) : Int := lst (-1) l l.length
/-- A place's field's attribute. -/
def stt (l : List C) (n : Nat) : Int := lst (fin l) l (n + 1)
def starts (l : List C) : List Int := (List.range l.length).map (stt l)
theorem lst_succ (d : Int) (l : List C) (k : Nat) : lst d l (k + 1) = if (l.getD k C.zero).at_ = true then (k : Int) else lst d l k := by rw [lst]
theorem stt_eq (l : List C) (n : Nat) : stt l n = lst (fin l) l (n + 1) := by rw [stt]
theorem lst_zero (d : Int) (l : List C) : lst d l 0 = d := by rw [lst]

theorem atts_last (l : List C) : ∀ k, if (attsTo l k).length = 0 then lst (-1) l k = -1 else (attsTo l k).getD ((attsTo l k).length - 1) 0 = lst (-1) l k
  | 0 => by rw [if_pos (show (attsTo l 0).length = 0 from rfl)]; rfl
  | k + 1 => by
    have ih := atts_last l k
    rw [attsTo_succ]
    unfold lst
    by_cases h : (l.getD k C.zero).at_ = true
    · rw [if_pos h, if_pos h, if_neg (by simp)]
      rw [List.getD_eq_getElem?_getD, List.getElem?_append_right (by simp)]
      simp
    · rw [if_neg h, if_neg h, List.append_nil]
      exact ih
theorem fin_last (l : List C) : fin l = if (0 : Int) < ((atts l).length : Int) then (atts l).getD ((atts l).length - 1) 0 else -1 := by
  have := atts_last l l.length
  unfold fin atts
  split at this
  · rw [if_neg (by omega)]; exact this
  · rw [if_pos (by omega)]; exact this.symm

theorem lst_at {l : List C} {n : Nat} (d : Int) (h : ata l n = true) : lst d l (n + 1) = n := by rw [lst_succ, if_pos (show (l.getD n C.zero).at_ = true from h)]
theorem lst_skip {l : List C} {m : Nat} (d : Int) : ∀ k, m ≤ k → (∀ j, m ≤ j → j < k → ata l j = false) → lst d l k = lst d l m
  | 0, hm, _ => by
    have : m = 0 := by omega
    rw [this]
  | k + 1, hm, h => by
    by_cases e : m = k + 1
    · rw [e]
    · have hk := h k (by omega) (by omega)
      rw [lst_succ, if_neg (by unfold ata at hk; rw [hk]; simp)]
      exact lst_skip d k (by omega) (fun j h1 h2 => h j h1 (by omega))

/-- Behind an attribute, as long as there is no other one. -/
theorem stt_run {l : List C} {a : Nat} (ha : a < l.length) (h : ata l a = true) : ∀ k, k < l.length → (∀ j, j < k → ata l ((a + 1 + j) % l.length) = false) → stt l ((a + k) % l.length) = a := by
  intro k hk hj
  rw [stt_eq]
  by_cases hc : a + k < l.length
  · rw [Nat.mod_eq_of_lt hc, lst_skip (m := a + 1) (fin l) (a + k + 1) (by omega) ?_, lst_at _ h]
    intro j h1 h2
    have := hj (j - (a + 1)) (by omega)
    rwa [show a + 1 + (j - (a + 1)) = j by omega, Nat.mod_eq_of_lt (by omega)] at this
  · have e : (a + k) % l.length = a + k - l.length := by
      rw [Nat.mod_eq_sub_mod (by omega), Nat.mod_eq_of_lt (by omega)]
    rw [e, lst_skip (m := 0) (fin l) _ (Nat.zero_le _) ?_, lst_zero]
    · unfold fin
      rw [lst_skip (m := a + 1) (-1) l.length (by omega) ?_, lst_at _ h]
      intro j h1 h2
      have := hj (j - (a + 1)) (by omega)
      rwa [show a + 1 + (j - (a + 1)) = j by omega, Nat.mod_eq_of_lt (by omega)] at this
    · intro j h1 h2
      have := hj (j + l.length - (a + 1)) (by omega)
      rwa [show a + 1 + (j + l.length - (a + 1)) = j + l.length by omega, Nat.add_mod_right, Nat.mod_eq_of_lt (by omega)] at this
theorem stt_at {l : List C} {n : Nat} (h : ata l n = true) : stt l n = n := by rw [stt_eq, lst_at _ h]
/-- Back from a place to its field's attribute. -/
theorem stt_back {l : List C} {n i : Nat} (hn : n < l.length) (hi : i < l.length) (hj : ∀ j, j < i → ata l ((n + l.length - j) % l.length) = false) (h : ata l ((n + l.length - i) % l.length) = true) :
    stt l n = ((n + l.length - i) % l.length : Nat) := by
  have hN : 0 < l.length := by omega
  have ha := Nat.mod_lt (n + l.length - i) hN
  have e : ∀ j, j ≤ i → ((n + l.length - i) % l.length + j) % l.length = (n + l.length - (i - j)) % l.length := by
    intro j h1
    rw [Nat.add_mod, Nat.mod_mod, ← Nat.add_mod]
    congr 1; omega
  have := stt_run ha h i hi (fun j h1 => by
    rw [Nat.add_assoc, e (1 + j) (by omega)]
    exact hj _ (by omega))
  rw [e i (Nat.le_refl _), Nat.sub_self, Nat.sub_zero, Nat.add_mod_right, Nat.mod_eq_of_lt hn] at this
  exact this
theorem lst_none {l : List C} (d : Int) (h : ∀ j, j < l.length → ata l j = false) (k : Nat) (hk : k ≤ l.length) : lst d l k = d := by
  rw [lst_skip (m := 0) d k (Nat.zero_le _) (fun j _ h2 => h j (by omega)), lst_zero]
theorem stt_none {l : List C} (h : ∀ j, j < l.length → ata l j = false) {n : Nat} (hn : n < l.length) : stt l n = -1 := by
  rw [stt_eq, lst_none _ h _ (by omega)]
  unfold fin
  exact lst_none _ h _ (Nat.le_refl _)
theorem lst_dom (d : Int) (l : List C) : ∀ k, lst d l k = d ∨ ∃ a : Nat, a < k ∧ lst d l k = a ∧ ata l a = true
  | 0 => .inl (lst_zero d l)
  | k + 1 => by
    rw [lst_succ]
    by_cases h : (l.getD k C.zero).at_ = true
    · rw [if_pos h]; exact .inr ⟨k, by omega, rfl, h⟩
    · rw [if_neg h]
      rcases lst_dom d l k with h | ⟨a, h1, h2, h3⟩
      · exact .inl h
      · exact .inr ⟨a, by omega, h2, h3⟩
/-- It is none, or an attribute. -/
theorem stt_dom (l : List C) (n : Nat) (hn : n < l.length) : stt l n = -1 ∨ ∃ a : Nat, a < l.length ∧ stt l n = a ∧ ata l a = true := by
  rw [stt_eq]
  rcases lst_dom (fin l) l (n + 1) with h | ⟨a, h1, h2, h3⟩
  · rw [h]
    unfold fin
    rcases lst_dom (-1) l l.length with h | ⟨a, h1, h2, h3⟩
    · exact .inl h
    · exact .inr ⟨a, h1, h2, h3⟩
  · exact .inr ⟨a, by omega, h2, h3⟩
theorem cnt_none {l : List C} (h : ¬ 0 < cnt l) : ∀ j, j < l.length → ata l j = false := by
  intro j hj
  unfold cnt at h
  have h0 : (l.filter fun c => c.at_).length = 0 := by omega
  have h1 := List.length_eq_zero_iff.1 h0
  have := List.filter_eq_nil_iff.1 h1 l[j] (List.getElem_mem hj)
  unfold ata
  rw [List.getD_eq_getElem?_getD, List.getElem?_eq_getElem hj]
  simpa using this
theorem cnt_some {l : List C} (h : 0 < cnt l) : ∃ j, j < l.length ∧ ata l j = true := by
  unfold cnt at h
  have h0 : 0 < (l.filter fun c => c.at_).length := by omega
  obtain ⟨c, hc⟩ := List.exists_mem_of_length_pos h0
  obtain ⟨h1, h2⟩ := List.mem_filter.1 hc
  obtain ⟨j, hj, e⟩ := List.getElem_of_mem h1
  refine ⟨j, hj, ?_⟩
  unfold ata
  rw [List.getD_eq_getElem?_getD, List.getElem?_eq_getElem hj]
  show (l[j]).at_ = true
  rw [e]; exact h2

/-- The row of starts, laid as far as i. -/
def stsTo (l : List C) (i : Nat) : List Value := (List.range i).map (fun n => Value.int .i64 (stt l n)) ++ List.replicate (l.length - i) (.int .i64 0)
theorem stsTo_step (l : List C) (i : Nat) (hi : i < l.length) : stsTo l (i + 1) = (stsTo l i).set i (.int .i64 (stt l i)) := by
  unfold stsTo
  have e : l.length - i = (l.length - (i + 1)) + 1 := by omega
  rw [e, List.replicate_succ, List.range_succ, List.map_append, List.append_assoc]
  have hl : ((List.range i).map (fun n => Value.int .i64 (stt l n))).length = i := by simp
  rw [List.set_append_right _ _ (by omega), hl, Nat.sub_self]
  rfl
theorem sts_zero (l : List C) : stsTo l 0 = List.replicate l.length (Value.int .i64 0) := by
  unfold stsTo; simp only [List.range_zero, List.map_nil, List.nil_append, Nat.sub_zero]
theorem starts_full (l : List C) : stsTo l l.length = (starts l).map (Value.int .i64) := by
  unfold stsTo starts
  simp
theorem starts_get (l : List C) (n : Nat) (hn : n < l.length) : (starts l).getD n 0 = stt l n := by
  unfold starts
  rw [List.getD_eq_getElem?_getD, List.getElem?_map, List.getElem?_range hn]; rfl
theorem starts_length (l : List C) : (starts l).length = l.length := by unfold starts; simp

/-! ### a search -/
def srchFrom (p : Nat → Bool) : Nat → Nat → Nat
  | 0, k => k
  | f + 1, k => if p k = true then k else srchFrom p f (k + 1)
/-- The first k below N with p k; otherwise N. -/
def srch (p : Nat → Bool) (N : Nat) : Nat := srchFrom p N 0
theorem srchFrom_spec (p : Nat → Bool) : ∀ f k, k ≤ srchFrom p f k ∧ srchFrom p f k ≤ k + f ∧ (∀ j, k ≤ j → j < srchFrom p f k → p j = false) ∧ (srchFrom p f k < k + f → p (srchFrom p f k) = true)
  | 0, k => ⟨Nat.le_refl _, Nat.le_refl _, fun j h1 h2 => by unfold srchFrom at h2; omega, fun h => by unfold srchFrom at h; omega⟩
  | f + 1, k => by
    unfold srchFrom
    by_cases h : p k = true
    · rw [if_pos h]; exact ⟨Nat.le_refl _, by omega, fun j h1 h2 => by omega, fun _ => h⟩
    · rw [if_neg h]
      obtain ⟨h1, h2, h3, h4⟩ := srchFrom_spec p f (k + 1)
      refine ⟨by omega, by omega, fun j g1 g2 => ?_, fun g => h4 (by omega)⟩
      by_cases e : j = k
      · subst e; simpa using h
      · exact h3 j (by omega) g2
theorem srch_le (p : Nat → Bool) (N : Nat) : srch p N ≤ N := by have := (srchFrom_spec p N 0).2.1; unfold srch; omega
theorem srch_not {p : Nat → Bool} {N j : Nat} (h : j < srch p N) : p j = false := (srchFrom_spec p N 0).2.2.1 j (Nat.zero_le _) h
theorem srch_yes {p : Nat → Bool} {N : Nat} (h : srch p N < N) : p (srch p N) = true := (srchFrom_spec p N 0).2.2.2 (by unfold srch at h; omega)
theorem srch_eq {p : Nat → Bool} {N k : Nat} (hk : k ≤ N) (h1 : ∀ j, j < k → p j = false) (h2 : k < N → p k = true) : srch p N = k := by
  have hl := srch_le p N
  rcases Nat.lt_trichotomy (srch p N) k with h | h | h
  · have := srch_yes (p := p) (N := N) (by omega)
    rw [h1 _ h] at this; cases this
  · exact h
  · have := srch_not h
    rw [h2 (by omega)] at this; cases this

/-! ### the places of a field -/
/-- How many places the field has whose attribute stands at a. -/
def lenp (l : List C) (a : Nat) : Nat := srch (fun k => ata l ((a + 1 + k) % l.length)) l.length
def plcTo (l : List C) (a k : Nat) : List Int := (List.range k).map (fun i => (((a + 1 + i) % l.length : Nat) : Int))
def plc (l : List C) (a : Nat) : List Int := plcTo l a (lenp l a)
theorem plcTo_succ (l : List C) (a k : Nat) : plcTo l a (k + 1) = plcTo l a k ++ [(((a + 1 + k) % l.length : Nat) : Int)] := by
  unfold plcTo; rw [List.range_succ, List.map_append]; rfl
theorem plcTo_length (l : List C) (a k : Nat) : (plcTo l a k).length = k := by unfold plcTo; simp
theorem lenp_lt {l : List C} {a : Nat} (ha : a < l.length) (h : ata l a = true) : lenp l a < l.length := by
  have h1 := srch_le (fun k => ata l ((a + 1 + k) % l.length)) l.length
  rcases Nat.lt_or_ge (lenp l a) l.length with h2 | h2
  · exact h2
  · have := srch_not (p := fun k => ata l ((a + 1 + k) % l.length)) (N := l.length) (j := l.length - 1) (by unfold lenp at h2; omega)
    rw [show a + 1 + (l.length - 1) = a + l.length by omega, Nat.add_mod_right, Nat.mod_eq_of_lt ha, h] at this
    cases this
theorem lenp_not {l : List C} {a j : Nat} (h : j < lenp l a) : ata l ((a + 1 + j) % l.length) = false := srch_not (p := fun k => ata l ((a + 1 + k) % l.length)) h
theorem lenp_yes {l : List C} {a : Nat} (ha : a < l.length) (h : ata l a = true) : ata l ((a + 1 + lenp l a) % l.length) = true := srch_yes (p := fun k => ata l ((a + 1 + k) % l.length)) (lenp_lt ha h)
theorem lenp_eq {l : List C} {a k : Nat} (hk : k ≤ l.length) (h1 : ∀ j, j < k → ata l ((a + 1 + j) % l.length) = false) (h2 : ata l ((a + 1 + k) % l.length) = true) : lenp l a = k :=
  srch_eq hk h1 (fun _ => h2)
/-- The reference's test. -/
theorem stt_test {l : List C} {a k : Nat} (ha : a < l.length) (h : ata l a = true) (hk : k + 1 < l.length) (hj : ∀ j, j < k → ata l ((a + 1 + j) % l.length) = false) :
    (stt l ((a + 1 + k) % l.length) = a ↔ ata l ((a + 1 + k) % l.length) = false) := by
  constructor
  · intro e
    cases hb : ata l ((a + 1 + k) % l.length)
    · rfl
    · rw [stt_at hb] at e
      have e2 : (a + 1 + k) % l.length = a := by omega
      rcases Nat.lt_or_ge (a + 1 + k) l.length with h3 | h3
      · rw [Nat.mod_eq_of_lt h3] at e2; omega
      · rw [Nat.mod_eq_sub_mod (by omega), Nat.mod_eq_of_lt (by omega)] at e2; omega
  · intro hb
    have := stt_run ha h (k + 1) hk (fun j hj2 => by
      by_cases e : j = k
      · subst e; exact hb
      · exact hj j (by omega))
    rwa [show a + (k + 1) = a + 1 + k by omega] at this

/-! ### first places -/
/-- Protected. -/
def prt (l : List C) (a : Nat) : Bool := decide (32 ≤ (l.getD a C.zero).fa)
/-- Is a place the first one of an unprotected field? -/
def isf (l : List C) (n : Nat) : Bool := ata l ((n + l.length - 1) % l.length) && (!ata l n && !prt l ((n + l.length - 1) % l.length))
def fst1 (l : List C) (a : Nat) : List Int := if isf l ((a + 1) % l.length) = true then [(((a + 1) % l.length : Nat) : Int)] else []
def firsts (l : List C) : List Int := (atts l).flatMap (fun a => fst1 l a.toNat)
theorem back_one {N a : Nat} (ha : a < N) : ((a + 1) % N + N - 1) % N = a := by
  rcases Nat.lt_or_ge (a + 1) N with h | h
  · rw [Nat.mod_eq_of_lt h, show a + 1 + N - 1 = a + N by omega, Nat.add_mod_right, Nat.mod_eq_of_lt ha]
  · have : a + 1 = N := by omega
    rw [this, Nat.mod_self, Nat.zero_add, Nat.mod_eq_of_lt (by omega)]; omega
theorem on_one {N n : Nat} (hn : n < N) : ((n + N - 1) % N + 1) % N = n := by
  rcases Nat.lt_or_ge 0 n with h | h
  · rw [show n + N - 1 = (n - 1) + N by omega, Nat.add_mod_right, Nat.mod_eq_of_lt (show n - 1 < N by omega), show n - 1 + 1 = n by omega, Nat.mod_eq_of_lt hn]
  · have : n = 0 := by omega
    subst this
    rw [Nat.zero_add, Nat.mod_eq_of_lt (show N - 1 < N by omega), show N - 1 + 1 = N by omega, Nat.mod_self]
theorem mem_firsts {l : List C} {x : Int} : x ∈ firsts l ↔ ∃ n : Nat, x = n ∧ n < l.length ∧ isf l n = true := by
  unfold firsts
  rw [List.mem_flatMap]
  constructor
  · rintro ⟨y, hy, hx⟩
    obtain ⟨a, rfl, ha, hta⟩ := mem_atts.1 hy
    unfold fst1 at hx
    simp only [Int.toNat_natCast] at hx
    split at hx
    · rename_i hf
      refine ⟨(a + 1) % l.length, by simpa using hx, Nat.mod_lt _ (by omega), hf⟩
    · cases hx
  · rintro ⟨n, rfl, hn, hf⟩
    have hf0 := hf
    unfold isf at hf0
    simp only [Bool.and_eq_true] at hf0
    refine ⟨((n + l.length - 1) % l.length : Nat), mem_atts.2 ⟨_, rfl, Nat.mod_lt _ (by omega), hf0.1⟩, ?_⟩
    unfold fst1
    rw [Int.toNat_natCast, on_one hn, if_pos hf]
    exact List.mem_cons_self ..
/-- The reference's first places: of a field's places the first one, if there is one, and it isn't protected. -/
theorem fst1_eq {l : List C} {a : Nat} (ha : a < l.length) (h : ata l a = true) : fst1 l a = if 0 < lenp l a ∧ prt l a = false then [(((a + 1) % l.length : Nat) : Int)] else [] := by
  unfold fst1 isf
  rw [back_one ha, h]
  have e : ata l ((a + 1) % l.length) = decide (lenp l a = 0) := by
    by_cases h0 : lenp l a = 0
    · have := lenp_yes ha h
      rw [h0, Nat.add_zero] at this
      rw [this]; simp [h0]
    · have := lenp_not (l := l) (a := a) (j := 0) (by omega)
      rw [Nat.add_zero] at this
      rw [this]; simp [h0]
  rw [e]
  by_cases h0 : lenp l a = 0
  · rw [if_neg (by simp [h0]), if_neg (by omega)]
  · cases hp : prt l a
    · rw [if_pos (by simp [h0]), if_pos ⟨by omega, rfl⟩]
    · rw [if_neg (by simp), if_neg (by simp)]

/-- The k-th place from w on, or back. -/
def pos (N w : Nat) (back : Bool) (k : Nat) : Nat := if back = true then (w + N - 1 - k) % N else (w + 1 + k) % N
/-- The next first place from w on, or back; -1: there is none. -/
def nx (l : List C) (w : Nat) (back : Bool) : Int :=
  if srch (fun k => isf l (pos l.length w back k)) l.length < l.length then ((pos l.length w back (srch (fun k => isf l (pos l.length w back k)) l.length) : Nat) : Int) else -1
/-- How far a place is, from w on, or back. -/
def dst (N w : Nat) (back : Bool) (f : Int) : Int := if (if back = true then ((w : Int) - f) % (N : Int) else (f - w) % (N : Int)) = 0 then (N : Int) else (if back = true then ((w : Int) - f) % (N : Int) else (f - w) % (N : Int))
theorem dst_pos {N w k : Nat} (hw : w < N) (hk : k < N) (back : Bool) : dst N w back (pos N w back k : Nat) = k + 1 := by
  unfold dst pos
  cases back
  · simp only [Bool.false_eq_true, if_false]
    have e : (((w + 1 + k) % N : Nat) : Int) - (w : Int) = if w + 1 + k < N then ((k : Int) + 1) else ((k : Int) + 1 - N) := by
      split
      · rename_i h; rw [Nat.mod_eq_of_lt h]; omega
      · rename_i h; rw [Nat.mod_eq_sub_mod (by omega), Nat.mod_eq_of_lt (by omega)]; omega
    rw [e]
    have e2 : (if w + 1 + k < N then ((k : Int) + 1) else ((k : Int) + 1 - N)) % (N : Int) = if k + 1 = N then 0 else (k : Int) + 1 := by
      split <;> split
      · rename_i h1 h2; omega
      · rw [Int.emod_eq_of_lt (by omega) (by omega)]
      · rename_i h1 h2; rw [show (k : Int) + 1 - N = 0 by omega]; simp
      · rw [Int.sub_emod_right, Int.emod_eq_of_lt (by omega) (by omega)]
    rw [e2]
    by_cases hkN : k + 1 = N
    · rw [if_pos hkN, if_pos rfl]; omega
    · rw [if_neg hkN, if_neg (by omega)]
  · simp only [if_true]
    have e : (w : Int) - (((w + N - 1 - k) % N : Nat) : Int) = if k + 1 ≤ w then ((k : Int) + 1) else ((k : Int) + 1 - N) := by
      split
      · rename_i h; rw [show w + N - 1 - k = (w - 1 - k) + N by omega, Nat.add_mod_right, Nat.mod_eq_of_lt (by omega)]; omega
      · rename_i h; rw [Nat.mod_eq_of_lt (by omega)]; omega
    rw [e]
    have e2 : (if k + 1 ≤ w then ((k : Int) + 1) else ((k : Int) + 1 - N)) % (N : Int) = if k + 1 = N then 0 else (k : Int) + 1 := by
      split <;> split
      · rename_i h1 h2; omega
      · rw [Int.emod_eq_of_lt (by omega) (by omega)]
      · rename_i h1 h2; rw [show (k : Int) + 1 - N = 0 by omega]; simp
      · rw [Int.sub_emod_right, Int.emod_eq_of_lt (by omega) (by omega)]
    rw [e2]
    by_cases hkN : k + 1 = N
    · rw [if_pos hkN, if_pos rfl]; omega
    · rw [if_neg hkN, if_neg (by omega)]
theorem pos_lt {N w k : Nat} (hN : 0 < N) (back : Bool) : pos N w back k < N := by unfold pos; split <;> exact Nat.mod_lt _ hN
theorem pos_all {N w n : Nat} (hw : w < N) (hn : n < N) (back : Bool) : ∃ k, k < N ∧ pos N w back k = n := by
  unfold pos
  cases back
  · simp only [Bool.false_eq_true, if_false]
    by_cases h : w < n
    · exact ⟨n - w - 1, by omega, by rw [show w + 1 + (n - w - 1) = n by omega, Nat.mod_eq_of_lt hn]⟩
    · exact ⟨n + N - w - 1, by omega, by rw [show w + 1 + (n + N - w - 1) = n + N by omega, Nat.add_mod_right, Nat.mod_eq_of_lt hn]⟩
  · simp only [if_true]
    by_cases h : n < w
    · exact ⟨w - n - 1, by omega, by rw [show w + N - 1 - (w - n - 1) = n + N by omega, Nat.add_mod_right, Nat.mod_eq_of_lt hn]⟩
    · exact ⟨w + N - 1 - n, by omega, by rw [show w + N - 1 - (w + N - 1 - n) = n by omega, Nat.mod_eq_of_lt hn]⟩

/-- The reference's round: the best one so far, and how far it is. -/
def stp (N w : Nat) (back : Bool) (x : Int × Int) (f : Int) : Int × Int := if x.1 < 0 ∨ dst N w back f < x.2 then (f, dst N w back f) else x
theorem fold_best {N w : Nat} {back : Bool} : ∀ (fs : List Int) (b : Int), (∀ f ∈ fs, 0 ≤ f) → 0 ≤ b →
    ∃ r, fs.foldl (stp N w back) (b, dst N w back b) = (r, dst N w back r) ∧ r ∈ b :: fs ∧ ∀ f ∈ b :: fs, dst N w back r ≤ dst N w back f
  | [], b, _, _ => ⟨b, rfl, List.mem_cons_self .., fun f hf => by simp at hf; subst hf; exact Int.le_refl _⟩
  | f :: fs, b, hfs, hb => by
    rw [List.foldl_cons]
    unfold stp
    by_cases h : dst N w back f < dst N w back b
    · rw [if_pos (.inr h)]
      obtain ⟨r, h1, h2, h3⟩ := fold_best (N := N) (w := w) (back := back) fs f (fun x hx => hfs x (List.mem_cons_of_mem _ hx)) (hfs f (List.mem_cons_self ..))
      refine ⟨r, h1, List.mem_cons_of_mem _ h2, fun x hx => ?_⟩
      rcases List.mem_cons.1 hx with rfl | hx
      · have := h3 f (List.mem_cons_self ..); omega
      · exact h3 x hx
    · rw [if_neg (by simp only [not_or]; exact ⟨by show ¬ b < 0; omega, h⟩)]
      obtain ⟨r, h1, h2, h3⟩ := fold_best (N := N) (w := w) (back := back) fs b (fun x hx => hfs x (List.mem_cons_of_mem _ hx)) hb
      refine ⟨r, h1, ?_, fun x hx => ?_⟩
      · rcases List.mem_cons.1 h2 with rfl | h2
        · exact List.mem_cons_self ..
        · exact List.mem_cons_of_mem _ (List.mem_cons_of_mem _ h2)
      · rcases List.mem_cons.1 hx with rfl | hx
        · exact h3 _ (List.mem_cons_self ..)
        · rcases List.mem_cons.1 hx with rfl | hx
          · have := h3 b (List.mem_cons_self ..); omega
          · exact h3 x (List.mem_cons_of_mem _ hx)
/-- The document's next one is the first one that comes. -/
theorem nx_fold (l : List C) (w : Nat) (hw : w < l.length) (back : Bool) : ((firsts l).foldl (stp l.length w back) (-1, 0)).1 = nx l w back := by
  unfold nx
  have hN : 0 < l.length := by omega
  have hpos : ∀ f ∈ firsts l, 0 ≤ f := fun f hf => by obtain ⟨n, rfl, _⟩ := mem_firsts.1 hf; omega
  split
  · rename_i hr
    have hy := srch_yes hr
    have hn : ∀ j, j < srch (fun k => isf l (pos l.length w back k)) l.length → isf l (pos l.length w back j) = false := fun j hj => srch_not (p := fun k => isf l (pos l.length w back k)) hj
    generalize srch (fun k => isf l (pos l.length w back k)) l.length = r at *
    have hm : ((pos l.length w back r : Nat) : Int) ∈ firsts l := mem_firsts.2 ⟨_, rfl, pos_lt hN back, hy⟩
    cases hf : firsts l with
    | nil => rw [hf] at hm; cases hm
    | cons f fs =>
      have hf0 : 0 ≤ f := hpos f (by rw [hf]; exact List.mem_cons_self ..)
      have e1 : stp l.length w back (-1, 0) f = (f, dst l.length w back f) := by unfold stp; rw [if_pos (.inl (by decide))]
      rw [List.foldl_cons, e1]
      obtain ⟨b, h1, h2, h3⟩ := fold_best (N := l.length) (w := w) (back := back) fs f (fun x hx => hpos x (by rw [hf]; exact List.mem_cons_of_mem _ hx)) hf0
      rw [h1]
      rw [← hf] at h2 h3
      obtain ⟨n, rfl, hnl, hnf⟩ := mem_firsts.1 h2
      obtain ⟨k, hk, rfl⟩ := pos_all hw hnl back
      have := h3 _ hm
      rw [dst_pos hw hk, dst_pos hw hr] at this
      have hkr : ¬ k < r := fun h => by have := hn k h; rw [hnf] at this; cases this
      have : k = r := by omega
      rw [this]
  · rename_i hr
    cases hf : firsts l with
    | nil => rfl
    | cons f fs =>
      obtain ⟨n, rfl, hnl, hnf⟩ := mem_firsts.1 (show f ∈ firsts l by rw [hf]; exact List.mem_cons_self ..)
      obtain ⟨k, hk, rfl⟩ := pos_all hw hnl back
      have := srch_not (p := fun k => isf l (pos l.length w back k)) (N := l.length) (j := k) (by omega)
      rw [hnf] at this; cases this
theorem nx_dom {l : List C} {w : Nat} (hw : w < l.length) (back : Bool) : nx l w back = -1 ∨ ∃ n : Nat, nx l w back = n ∧ n < l.length ∧ isf l n = true := by
  unfold nx
  split
  · rename_i hr; exact .inr ⟨_, rfl, pos_lt (by omega) back, srch_yes (p := fun k => isf l (pos l.length w back k)) hr⟩
  · exact .inl rfl
/-- On, and back again. -/
theorem nx_back {l : List C} {w n : Nat} (hw : w < l.length) (h : nx l w false = n) : ∃ m : Nat, m < l.length ∧ nx l n true = m ∧ nx l m false = n := by
  have hN : 0 < l.length := by omega
  obtain ⟨hn, hnf⟩ : n < l.length ∧ isf l n = true := by
    rcases nx_dom hw false with h2 | ⟨k, h2, h3, h4⟩
    · rw [h] at h2; omega
    · rw [h] at h2; have : n = k := by omega
      subst this; exact ⟨h3, h4⟩
  -- back from n: the first one ahead
  have hr : srch (fun k => isf l (pos l.length n true k)) l.length < l.length := by
    rcases Nat.lt_or_ge (srch (fun k => isf l (pos l.length n true k)) l.length) l.length with h | h
    · exact h
    · obtain ⟨k, hk, e⟩ := pos_all hn hn true
      have := srch_not (p := fun k => isf l (pos l.length n true k)) (N := l.length) (j := k) (by omega)
      simp only [e, hnf] at this; cases this
  have hy := srch_yes (p := fun k => isf l (pos l.length n true k)) hr
  have hno : ∀ j, j < srch (fun k => isf l (pos l.length n true k)) l.length → isf l (pos l.length n true j) = false := fun j hj => srch_not (p := fun k => isf l (pos l.length n true k)) hj
  refine ⟨pos l.length n true (srch (fun k => isf l (pos l.length n true k)) l.length), pos_lt hN true, by unfold nx; rw [if_pos hr], ?_⟩
  generalize srch (fun k => isf l (pos l.length n true k)) l.length = r at *
  have hm := pos_lt (w := n) (k := r) hN true
  -- from there on, r steps behind, is n
  have e : ∀ j, j ≤ r → pos l.length (pos l.length n true r) false j = if j = r then n else pos l.length n true (r - 1 - j) := by
    intro j hj
    unfold pos
    simp only [if_true, Bool.false_eq_true, if_false]
    rw [Nat.add_assoc, Nat.add_mod, Nat.mod_mod, ← Nat.add_mod]
    split
    · rename_i h; rw [show n + l.length - 1 - r + (1 + j) = n + l.length by omega, Nat.add_mod_right, Nat.mod_eq_of_lt hn]
    · congr 1; omega
  have hs : srch (fun k => isf l (pos l.length (pos l.length n true r) false k)) l.length = r := by
    refine srch_eq (by omega) (fun j hj => ?_) (fun _ => ?_)
    · rw [e j (by omega), if_neg (by omega)]; exact hno _ (by omega)
    · rw [e r (Nat.le_refl _), if_pos rfl]; exact hnf
  unfold nx
  rw [hs, if_pos hr, e r (Nat.le_refl _), if_pos rfl]

end Go.Proofs.Ytangandfgbnomaa.V
