/- Acts on a space; the walk of the reference's Do. -/
import Derived.Test.YtangandfgbnomaaVU3
namespace Go.Proofs.Ytangandfgbnomaa.V
open Go.RowKit Go.Proofs.YtangandfgbnomaaW.PrintWords Go.Proofs.YtangandfgbnomaaW.PrintLast Go.Proofs.YtangandfgbnomaaW.PrintMore
set_option linter.unusedVariables false
set_option linter.unusedSimpArgs false

/-- An act. -/
structure Ac where
  d : Int
  n : Int
  on : Bool
  code : Int
  c : C
  tx : List Int
def Ac.v (a : Ac) (ta : Option Addr) (cap : Nat) : Value := .agg #[.int .u8 a.d, .int .i64 a.n, .bool a.on, .int .u8 a.code, .int .u8 a.c.ch, .bool a.c.at_, .int .u8 a.c.fa, .int .u8 a.c.hi, .int .u8 a.c.co, .int .u8 a.c.se, .slice ta a.tx.length cap]
/-- A row of bytes in memory. -/
def TxRow (w : World) (ta : Option Addr) (l : List Int) : Prop := ∀ i : Int, 0 ≤ i → i < (l.length : Int) → ∃ x, ta = some x ∧ w.cell? (x.add i.toNat) = some (.int .u8 (l.getD i.toNat 0))
/-- What an act's numbers are. -/
def Ac.fine (a : Ac) : Prop := (0 ≤ a.d ∧ a.d < 256) ∧ (0 ≤ a.code ∧ a.code < 256) ∧ (0 ≤ a.c.ch ∧ a.c.ch < 256) ∧ (0 ≤ a.c.fa ∧ a.c.fa < 256) ∧ (∀ x ∈ a.tx, 0 ≤ x ∧ x < 256) ∧ a.tx.length ≤ 9223372036854775807

/-- A row of characters. -/
def S.txt (s : S) (n : Int) : Int → List Int → S
  | _, [] => s
  | i, x :: l => S.txt (if i < 200 then s.put (wrp s.r s.c n + i) x else s) n (i + 1) l
/-- An act on a space. -/
def S.act (s : S) (a : Ac) : S :=
  if a.d % 6 = 0 then S.clr s.model a.on
  else if a.d % 6 = 1 then { s with cur := wrp s.r s.c a.n }
  else if a.d % 6 = 2 then s.put a.n a.code
  else if a.d % 6 = 3 then s.set a.n ⟨0, true, a.code, 0, 0, 0⟩
  else if a.d % 6 = 4 then s.set a.n a.c
  else s.txt a.n 0 a.tx

theorem S.txt_snoc (s : S) (n : Int) (l : List Int) (x : Int) : ∀ (i : Int), s.txt n i (l ++ [x]) = (let t := s.txt n i l; if i + l.length < 200 then t.put (wrp t.r t.c n + (i + l.length)) x else t) := by
  induction l generalizing s with
  | nil => intro i; simp [S.txt]
  | cons y l ih =>
    intro i
    simp only [List.cons_append, S.txt, ih, List.length_cons]
    have e : i + 1 + (l.length : Int) = i + ((l.length + 1 : Nat) : Int) := by omega
    rw [e]

theorem S.put_size (s : S) (n x : Int) : (s.put n x).r = s.r ∧ (s.put n x).c = s.c ∧ (s.put n x).model = s.model ∧ (s.put n x).cur = s.cur ∧ (s.put n x).alt = s.alt := by unfold S.put; split <;> exact ⟨rfl, rfl, rfl, rfl, rfl⟩
theorem S.txt_size (n : Int) : ∀ (l : List Int) (s : S) (i : Int), (s.txt n i l).r = s.r ∧ (s.txt n i l).c = s.c ∧ (s.txt n i l).model = s.model ∧ (s.txt n i l).cur = s.cur ∧ (s.txt n i l).alt = s.alt := by
  intro l
  induction l with
  | nil => intro s i; exact ⟨rfl, rfl, rfl, rfl, rfl⟩
  | cons x l ih =>
    intro s i
    unfold S.txt
    obtain ⟨h1, h2, h3, h4, h5⟩ := ih (if i < 200 then s.put (wrp s.r s.c n + i) x else s) (i + 1)
    rw [h1, h2, h3, h4, h5]
    split
    · exact S.put_size _ _ _
    · exact ⟨rfl, rfl, rfl, rfl, rfl⟩

theorem fitc_fit {c : C} (h1 : 0 ≤ c.ch ∧ c.ch < 256) (h2 : 0 ≤ c.fa ∧ c.fa < 256) : (fitc c).fit := by
  obtain ⟨ch, at_, fa, hi, co, se⟩ := c
  simp only at h1 h2
  cases at_
  · simp only [fitc, Bool.false_eq_true, if_false]
    exact ⟨h1.1, h1.2, (by decide : (0 : Int) ≤ 0), (by decide : (0 : Int) < 64), fun h => by simp at h, fun _ => rfl⟩
  · simp only [fitc, if_true]
    obtain ⟨n, rfl⟩ := Int.eq_ofNat_of_zero_le h2.1
    have := (by decide +kernel : ∀ x : Fin 256, 0 ≤ bits .and .u8 (x.val : Int) 61 ∧ bits .and .u8 (x.val : Int) 61 < 64 ∧ bits .and .u8 (x.val : Int) 61 % 4 / 2 = 0)
    obtain ⟨a1, a2, a3⟩ := this ⟨n, by omega⟩
    exact ⟨(by decide : (0 : Int) ≤ 0), (by decide : (0 : Int) < 256), a1, a2, fun _ => ⟨rfl, a3⟩, fun h => by simp at h⟩

theorem S.ok.set {s : S} (h : s.ok) (n : Int) (c : C) (h1 : 0 ≤ c.ch ∧ c.ch < 256) (h2 : 0 ≤ c.fa ∧ c.fa < 256) : (s.set n c).ok := by
  obtain ⟨a, b, c1, d, e⟩ := h
  refine ⟨a, by show ((s.l.set _ _).length : Int) = _; rw [List.length_set]; exact b, c1, d, ?_⟩
  intro x hx
  rcases List.mem_or_eq_of_mem_set hx with hx | rfl
  · exact e x hx
  · exact fitc_fit h1 h2

theorem S.ok.put {s : S} (h : s.ok) (n x : Int) (h1 : 0 ≤ x ∧ x < 256) : (s.put n x).ok := by
  rw [S.put_eq h]
  split
  · exact h
  · obtain ⟨_, _, f2, f3, _⟩ := S.ok.fit_get h n
    exact S.ok.set h n _ h1 ⟨f2, by simp only; omega⟩

theorem S.ok.txt (n : Int) : ∀ (l : List Int) (s : S) (i : Int), s.ok → (∀ x ∈ l, 0 ≤ x ∧ x < 256) → (s.txt n i l).ok := by
  intro l
  induction l with
  | nil => intro s i h _; exact h
  | cons x l ih =>
    intro s i h hx
    unfold S.txt
    refine ih _ _ ?_ (fun y hy => hx y (List.mem_cons_of_mem _ hy))
    split
    · exact h.put _ _ (hx x (List.mem_cons_self ..))
    · exact h

theorem S.ok.place {s : S} (h : s.ok) (n : Int) : S.ok { s with cur := wrp s.r s.c n } := by
  obtain ⟨a, b, c1, d, e⟩ := h
  have := in_place s.r s.c n a
  have e' : wrp s.r s.c n = n % (s.r * s.c) := by unfold wrp; rw [if_pos a]
  exact ⟨a, b, by show 0 ≤ wrp s.r s.c n; rw [e']; exact this.1, by show wrp s.r s.c n < s.r * s.c; rw [e']; exact this.2.1, e⟩

theorem S.ok.act {s : S} (h : s.ok) (hm : 2 ≤ s.model ∧ s.model ≤ 5) (a : Ac) (hf : a.fine) : (s.act a).ok := by
  obtain ⟨f1, f2, f3, f4, f5, _⟩ := hf
  unfold S.act
  split
  · exact S.clr_ok _ _ hm
  split
  · exact h.place _
  split
  · exact h.put _ _ f2
  split
  · exact h.set _ _ (by show (0 : Int) ≤ 0 ∧ (0 : Int) < 256; decide) f2
  split
  · exact h.set _ _ f3 f4
  · exact S.ok.txt _ _ _ _ h f5

theorem S.act_model (s : S) (a : Ac) : (s.act a).model = s.model := by
  unfold S.act
  split
  · rfl
  split
  · rfl
  split
  · exact (S.put_size _ _ _).2.2.1
  split
  · rfl
  split
  · rfl
  · exact (S.txt_size _ _ _ _).2.2.1

end Go.Proofs.Ytangandfgbnomaa.V
