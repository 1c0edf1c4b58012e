/- The screen in memory: a cell, the cells of a screen, the program's space and the reference's; what a call may have written. Plain facts; no walk. -/
import Derived.Test.YtangandfgbnomaaVB0
namespace Go.Proofs.Ytangandfgbnomaa.V
open Go.RowKit

/-- A place of a screen. -/
structure C where
  ch : Int
  at_ : Bool
  fa : Int
  hi : Int
  co : Int
  se : Int
deriving DecidableEq, Inhabited

abbrev C.vs (c : C) : List Value := [.int .u8 c.ch, .bool c.at_, .int .u8 c.fa, .int .u8 c.hi, .int .u8 c.co, .int .u8 c.se]
abbrev C.v (c : C) : Value := .agg #[.int .u8 c.ch, .bool c.at_, .int .u8 c.fa, .int .u8 c.hi, .int .u8 c.co, .int .u8 c.se]
def C.zero : C := ⟨0, false, 0, 0, 0, 0⟩

/-- The cells of a row of places. -/
def flat (l : List C) : List Value := l.flatMap C.vs
theorem flat_nil : flat [] = [] := rfl
theorem flat_cons (c : C) (l : List C) : flat (c :: l) = c.vs ++ flat l := rfl
theorem flat_length : ∀ l : List C, (flat l).length = 6 * l.length
  | [] => rfl
  | c :: l => by rw [flat_cons, List.length_append, flat_length l]; simp; omega

theorem flat_get : ∀ (l : List C) (i : Nat) (h : i < l.length) (j : Nat), j < 6 → (flat l)[6 * i + j]? = (l[i].vs)[j]?
  | c :: l, 0, _, j, hj => by
    rw [flat_cons, List.getElem?_append_left (by simpa using hj)]; simp
  | c :: l, i + 1, h, j, hj => by
    have e : 6 * (i + 1) + j = c.vs.length + (6 * i + j) := by simp; omega
    rw [flat_cons, e, List.getElem?_append_right (by omega), Nat.add_sub_cancel_left, flat_get l i (by simpa using h) j hj]
    rfl

theorem flat_set : ∀ (l : List C) (i : Nat) (c : C) (_ : i < l.length),
    ((((((flat l).set (6 * i) (.int .u8 c.ch)).set (6 * i + 1) (.bool c.at_)).set (6 * i + 2) (.int .u8 c.fa)).set (6 * i + 3) (.int .u8 c.hi)).set (6 * i + 4) (.int .u8 c.co)).set (6 * i + 5) (.int .u8 c.se) = flat (l.set i c)
  | d :: l, 0, c, _ => by simp [flat]
  | d :: l, i + 1, c, h => by
    have ih := flat_set l i c (by simpa using h)
    have e : ∀ j, 6 * (i + 1) + j = (6 * i + j) + 6 := fun j => by omega
    have e0 := e 0
    simp only [Nat.add_zero] at e0
    rw [List.set_cons_succ, flat_cons, flat_cons, e 1, e 2, e 3, e 4, e 5, e0, ← ih]
    simp [List.set_cons_succ]

theorem flat_set_ch (l : List C) (i : Nat) (h : i < l.length) (x : Int) : (flat l).set (6 * i) (.int .u8 x) = flat (l.set i { l[i] with ch := x }) := by
  rw [← flat_set l i { l[i] with ch := x } h]
  have g := flat_get l i h
  have hl := flat_length l
  have keep : ∀ (L : List Value) (k : Nat) (v : Value), L[k]? = some v → L.set k v = L := fun L k v hk => by
    obtain ⟨hk1, hk2⟩ := List.getElem?_eq_some_iff.1 hk
    rw [← hk2]; exact List.set_getElem_self hk1
  have step : ∀ j, 0 < j → ((flat l).set (6 * i) (.int .u8 x))[6 * i + j]? = (flat l)[6 * i + j]? := fun j hj => by
    rw [List.getElem?_set_ne (by omega)]
  rw [keep _ (6 * i + 1) _ (by rw [step 1 (by omega), g 1 (by omega)]; rfl), keep _ (6 * i + 2) _ (by rw [step 2 (by omega), g 2 (by omega)]; rfl), keep _ (6 * i + 3) _ (by rw [step 3 (by omega), g 3 (by omega)]; rfl),
    keep _ (6 * i + 4) _ (by rw [step 4 (by omega), g 4 (by omega)]; rfl), keep _ (6 * i + 5) _ (by rw [step 5 (by omega), g 5 (by omega)]; rfl)]

/-! ### worlds -/
/-- What a call may have written: the blocks in R, and new ones; all else lies as it lay. -/
structure Keep (R : List Nat) (w w' : World) : Prop where
  os : w'.os = w.os
  tape : w'.tape = w.tape
  output : w'.output = w.output
  size : w.heap.size ≤ w'.heap.size
  block : ∀ k, k < w.heap.size → k ∉ R → w'.heap[k]? = w.heap[k]?

theorem Keep.refl (R : List Nat) (w : World) : Keep R w w := ⟨rfl, rfl, rfl, Nat.le_refl _, fun _ _ _ => rfl⟩
theorem Keep.of_below {w w' : World} (h : Below w.heap.size w w') (R : List Nat) : Keep R w w' := ⟨h.os, h.tape, h.output, h.size, fun k hk _ => h.block k hk⟩
theorem Keep.below {w w' : World} (h : Keep [] w w') : Below w.heap.size w w' := ⟨h.os, h.tape, h.output, h.size, fun k hk => h.block k hk (by simp)⟩
/-- A call behind others: what it may write may be written, or is new. -/
theorem Keep.trans {R R' : List Nat} {a b c : World} (h : Keep R a b) (k : Keep R' b c) (hr : ∀ x, x ∈ R' → x ∈ R ∨ a.heap.size ≤ x) : Keep R a c :=
  ⟨k.os.trans h.os, k.tape.trans h.tape, k.output.trans h.output, Nat.le_trans h.size k.size, fun i hi hn =>
    (k.block i (Nat.lt_of_lt_of_le hi h.size) (fun e => by rcases hr i e with h' | h'; exact hn h'; omega)).trans (h.block i hi hn)⟩
theorem Keep.call {R : List Nat} {a b c : World} (h : Keep R a b) (k : Below b.heap.size b c) : Keep R a c := h.trans (Keep.of_below k []) (by simp)
theorem Keep.mono {R R' : List Nat} {a b : World} (h : Keep R a b) (hr : ∀ x, x ∈ R → x ∈ R' ∨ a.heap.size ≤ x) : Keep R' a b := (Keep.refl R' a).trans h hr
theorem Keep.alloc {R : List Nat} {a b : World} (h : Keep R a b) (o : Obj) : Keep R a (b.alloc o) := h.call ((Below.refl _ b).alloc (Nat.le_refl _) o)
theorem Keep.drew {R : List Nat} {a b : World} (h : Keep R a b) : Keep R a b.drew := h.call (Below.refl _ b).drew
theorem Keep.setCell {R : List Nat} {a b : World} (h : Keep R a b) {p : Addr} (hp : p.block ∈ R ∨ a.heap.size ≤ p.block) (v : Value) : Keep R a (b.setCell p v) :=
  h.trans (R' := [p.block]) ⟨rfl, rfl, rfl, by simp, fun k _ hk => Below.heap_setCell b p v k (by simpa using hk)⟩ (by simpa using hp)
theorem Keep.heap {R : List Nat} {a b : World} (h : Keep R a b) {k : Nat} {o : Obj} (ho : a.heap[k]? = some o) (hk : k ∉ R) : b.heap[k]? = some o :=
  (h.block k (Array.getElem?_eq_some_iff.1 ho).1 hk).trans ho

/-- A block whose cells are known. -/
def Blk (w : World) (b : Nat) (cs : List Value) (t : TypeId) : Prop := w.heap[b]? = some (.cells cs.toArray t (0, 0))
theorem Blk.lt {w : World} {b : Nat} {cs : List Value} {t : TypeId} (h : Blk w b cs t) : b < w.heap.size := (Array.getElem?_eq_some_iff.1 h).1
theorem Blk.cell {w : World} {b : Nat} {cs : List Value} {t : TypeId} (h : Blk w b cs t) (j : Nat) : w.cell? ⟨b, j, none⟩ = cs[j]? := by
  unfold World.cell?; rw [show w.heap[b]? = _ from h]; simp
theorem Blk.frozen {w : World} {b : Nat} {cs : List Value} {t : TypeId} (h : Blk w b cs t) (j : Nat) : w.frozen? ⟨b, j, none⟩ = false := by
  unfold World.frozen?; rw [show w.heap[b]? = _ from h]; simp
theorem Blk.keep {R : List Nat} {w w' : World} {b : Nat} {cs : List Value} {t : TypeId} (h : Blk w b cs t) (k : Keep R w w') (hb : b ∉ R) : Blk w' b cs t := k.heap h hb
theorem Blk.call {w w' : World} {b : Nat} {cs : List Value} {t : TypeId} (h : Blk w b cs t) (k : Below w.heap.size w w') : Blk w' b cs t := h.keep (Keep.of_below k []) (by simp)
theorem Blk.alloc {w : World} {b : Nat} {cs : List Value} {t : TypeId} (h : Blk w b cs t) (o : Obj) : Blk (w.alloc o) b cs t := h.call ((Below.refl _ w).alloc (Nat.le_refl _) o)
theorem Blk.drew {w : World} {b : Nat} {cs : List Value} {t : TypeId} (h : Blk w b cs t) : Blk w.drew b cs t := h
theorem Blk.new (w : World) (cs : List Value) (t : TypeId) : Blk (w.alloc (.cells cs.toArray t)) w.heap.size cs t := by
  unfold Blk; show (w.heap.push _)[w.heap.size]? = _; simp
theorem Blk.set {w : World} {b : Nat} {cs : List Value} {t : TypeId} (h : Blk w b cs t) (j : Nat) (v : Value) : Blk (w.setCell ⟨b, j, none⟩ v) b (cs.set j v) t := by
  obtain ⟨hlt, hk⟩ := Array.getElem?_eq_some_iff.1 h
  show (w.heap.modify b _)[b]? = _
  rw [Array.getElem?_eq_getElem (by rw [Array.size_modify]; exact hlt), Array.getElem_modify_self, hk]
  simp
theorem Blk.other {w : World} {b : Nat} {cs : List Value} {t : TypeId} (h : Blk w b cs t) {p : Addr} (hp : b ≠ p.block) (v : Value) : Blk (w.setCell p v) b cs t :=
  (Below.heap_setCell w p v b hp).trans h

/-- A screen. -/
structure S where
  model : Int
  alt : Bool
  r : Int
  c : Int
  l : List C
  cur : Int

def cnt (l : List C) : Int := ((l.filter fun c => c.at_).length : Int)

/-- The six bits of an attribute that count. -/
def C.fit (c : C) : Prop := 0 ≤ c.ch ∧ c.ch < 256 ∧ 0 ≤ c.fa ∧ c.fa < 64 ∧ (c.at_ = true → c.ch = 0 ∧ c.fa % 4 / 2 = 0) ∧ (c.at_ = false → c.fa = 0)

def S.ok (s : S) : Prop := vld s.r s.c = true ∧ (s.l.length : Int) = s.r * s.c ∧ 0 ≤ s.cur ∧ s.cur < s.r * s.c ∧ ∀ c ∈ s.l, c.fit

/-- The place of a number. -/
def S.ix (s : S) (n : Int) : Nat := (wrp s.r s.c n).toNat
def S.get (s : S) (n : Int) : C := s.l.getD (s.ix n) C.zero

theorem S.ok.ix {s : S} (h : s.ok) (n : Int) : wrp s.r s.c n = (s.ix n : Int) ∧ s.ix n < s.l.length ∧ s.l.length ≤ 3564 ∧ 1 ≤ s.l.length := by
  obtain ⟨hv, hl, _⟩ := h
  have hp := vld_pos hv
  have hi := in_place s.r s.c n hv
  have e : wrp s.r s.c n = n % (s.r * s.c) := by unfold wrp; rw [if_pos hv]
  unfold S.ix
  rw [e]
  omega

/-- The program's space lies at block p, its cells at block b. -/
def PSp (w : World) (p b : Nat) (s : S) : Prop :=
  ∃ (cap : Nat) (ex : List Value), s.l.length ≤ cap ∧ Blk w p [.int .i64 s.model, .bool s.alt, .int .i64 s.r, .int .i64 s.c, .slice (some ⟨b, 0, none⟩) s.l.length cap, .int .i64 s.cur, .int .i64 (cnt s.l)] 155 ∧ Blk w b (flat s.l ++ ex) 60

/-- The reference's. -/
def RSp (w : World) (p b : Nat) (s : S) : Prop :=
  ∃ (cap : Nat) (ex : List Value), s.l.length ≤ cap ∧ Blk w p [.int .i64 s.model, .bool s.alt, .int .i64 s.r, .int .i64 s.c, .slice (some ⟨b, 0, none⟩) s.l.length cap, .int .i64 s.cur] 98 ∧ Blk w b (flat s.l ++ ex) 60

theorem PSp.keep {R : List Nat} {w w' : World} {p b : Nat} {s : S} (h : PSp w p b s) (k : Keep R w w') (hp : p ∉ R) (hb : b ∉ R) : PSp w' p b s := by
  obtain ⟨cap, ex, h0, h1, h2⟩ := h; exact ⟨cap, ex, h0, h1.keep k hp, h2.keep k hb⟩
theorem RSp.keep {R : List Nat} {w w' : World} {p b : Nat} {s : S} (h : RSp w p b s) (k : Keep R w w') (hp : p ∉ R) (hb : b ∉ R) : RSp w' p b s := by
  obtain ⟨cap, ex, h0, h1, h2⟩ := h; exact ⟨cap, ex, h0, h1.keep k hp, h2.keep k hb⟩
theorem PSp.call {w w' : World} {p b : Nat} {s : S} (h : PSp w p b s) (k : Below w.heap.size w w') : PSp w' p b s := h.keep (Keep.of_below k []) (by simp) (by simp)
theorem RSp.call {w w' : World} {p b : Nat} {s : S} (h : RSp w p b s) (k : Below w.heap.size w w') : RSp w' p b s := h.keep (Keep.of_below k []) (by simp) (by simp)
theorem PSp.ne {w : World} {p b : Nat} {s : S} (h : PSp w p b s) : p ≠ b := by
  obtain ⟨cap, ex, _, h1, h2⟩ := h
  rintro rfl
  have := (show w.heap[p]? = _ from h1).symm.trans h2
  simp at this
theorem RSp.ne {w : World} {p b : Nat} {s : S} (h : RSp w p b s) : p ≠ b := by
  obtain ⟨cap, ex, _, h1, h2⟩ := h
  rintro rfl
  have := (show w.heap[p]? = _ from h1).symm.trans h2
  simp at this

/-- The six cells of a place. -/
theorem six_cells {w : World} {b : Nat} {l : List C} {ex : List Value} (h : Blk w b (flat l ++ ex) 60) (i : Nat) (hi : i < l.length) :
    w.cell? ⟨b, 6 * i, none⟩ = some (.int .u8 (l.getD i C.zero).ch) ∧ w.cell? ⟨b, 6 * i + 1, none⟩ = some (.bool (l.getD i C.zero).at_) ∧ w.cell? ⟨b, 6 * i + 2, none⟩ = some (.int .u8 (l.getD i C.zero).fa) ∧
    w.cell? ⟨b, 6 * i + 3, none⟩ = some (.int .u8 (l.getD i C.zero).hi) ∧ w.cell? ⟨b, 6 * i + 4, none⟩ = some (.int .u8 (l.getD i C.zero).co) ∧ w.cell? ⟨b, 6 * i + 5, none⟩ = some (.int .u8 (l.getD i C.zero).se) := by
  have hl := flat_length l
  have e : l.getD i C.zero = l[i] := by rw [List.getD_eq_getElem?_getD, List.getElem?_eq_getElem hi]; rfl
  have g : ∀ j, j < 6 → w.cell? ⟨b, 6 * i + j, none⟩ = (l[i].vs)[j]? := fun j hj => by
    rw [h.cell, List.getElem?_append_left (by omega), flat_get l i hi j hj]
  rw [e]
  exact ⟨g 0 (by omega), g 1 (by omega), g 2 (by omega), g 3 (by omega), g 4 (by omega), g 5 (by omega)⟩

end Go.Proofs.Ytangandfgbnomaa.V
