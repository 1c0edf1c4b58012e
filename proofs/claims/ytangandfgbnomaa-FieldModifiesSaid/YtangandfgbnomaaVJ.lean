/- The closed facts of a row, one by one: asked together they take more memory than a Lean process may have. The words of the cut's head are read one behind the other, not all at once. Written by wip/facts.py. -/
import Derived.Test.YtangandfgbnomaaRows
import Derived.ProofKit
namespace Go.Proofs.Ytangandfgbnomaa.VJ

theorem and_mk {a b : Bool} (ha : a = true) (hb : b = true) : (a && b) = true := by rw [ha, hb]; rfl

abbrev blank : Char := Char.ofNat 32

theorem words_ne : ∀ l, wordsSigns l ≠ [] := by
  intro l
  induction l with
  | nil => simp [wordsSigns]
  | cons c r ih =>
    unfold wordsSigns
    split
    · simp
    · simp
    · split <;> simp

theorem words_blank (r : List Char) : wordsSigns (blank :: r) = [] :: wordsSigns r := rfl

theorem words_cons (c : Char) (hc : c ≠ blank) (w : List Char) (ws : List (List Char)) (r : List Char) (h : wordsSigns r = w :: ws) : wordsSigns (c :: r) = (c :: w) :: ws := by
  rw [wordsSigns]
  · rw [h]
  · exact hc

theorem words_split (a : List Char) (ha : (a.all fun c => c != blank) = true) (r : List Char) : wordsSigns (a ++ (blank :: r)) = a :: wordsSigns r := by
  induction a with
  | nil => exact words_blank r
  | cons c a ih =>
    simp only [List.all_cons, Bool.and_eq_true, bne_iff_ne] at ha
    exact words_cons c ha.1 _ _ _ (ih ha.2)

def sum : List Char := List.map Char.ofNat [101, 97, 51, 56, 98, 50, 98, 57, 98, 100, 50, 56, 48, 100, 53, 99, 57, 98, 50, 51, 102, 53, 99, 102, 99, 101, 51, 57, 56, 102, 54, 98, 57, 49, 100, 101, 101, 53, 55, 57, 101, 51, 49, 99, 55, 99, 50, 100, 52, 53, 102, 100, 98, 54, 57, 50, 48, 49, 53, 98, 56, 97, 97, 55]
def roots : List Char := List.map Char.ofNat [118, 105, 116, 114, 105, 110, 101, 47, 118, 105, 116, 114, 105, 110, 101, 108, 97, 119, 48, 52, 46, 65, 100, 100, 114, 77, 111, 100, 101, 108, 115, 32, 118, 105, 116, 114, 105, 110, 101, 47, 118, 105, 116, 114, 105, 110, 101, 108, 97, 119, 48, 52, 46, 65, 100, 100, 114, 77, 111, 118, 101, 115, 32, 118, 105, 116, 114, 105, 110, 101, 47, 118, 105, 116, 114, 105, 110, 101, 108, 97, 119, 48, 52, 46, 65, 100, 100, 114, 67, 111, 100, 101, 115, 32, 118, 105, 116, 114, 105, 110, 101, 47, 118, 105, 116, 114, 105, 110, 101, 108, 97, 119, 48, 52, 46, 65, 100, 100, 114, 83, 105, 120, 101, 115, 32, 118, 105, 116, 114, 105, 110, 101, 47, 118, 105, 116, 114, 105, 110, 101, 108, 97, 119, 48, 52, 46, 65, 100, 100, 114, 80, 108, 97, 99, 101, 115, 32, 118, 105, 116, 114, 105, 110, 101, 47, 118, 105, 116, 114, 105, 110, 101, 108, 97, 119, 49, 50, 46, 83, 112, 97, 99, 101, 82, 111, 117, 110, 100, 32, 118, 105, 116, 114, 105, 110, 101, 47, 118, 105, 116, 114, 105, 110, 101, 108, 97, 119, 49, 51, 46, 70, 105, 101, 108, 100, 78, 101, 120, 116, 115, 32, 118, 105, 116, 114, 105, 110, 101, 47, 118, 105, 116, 114, 105, 110, 101, 108, 97, 119, 49, 53, 46, 67, 117, 114, 115, 111, 114, 70, 105, 114, 115, 116, 115, 32, 118, 105, 116, 114, 105, 110, 101, 47, 118, 105, 116, 114, 105, 110, 101, 108, 97, 119, 48, 52, 46, 65, 100, 100, 114, 83, 112, 97, 110, 115, 32, 118, 105, 116, 114, 105, 110, 101, 47, 118, 105, 116, 114, 105, 110, 101, 108, 97, 119, 49, 50, 46, 83, 112, 97, 99, 101, 80, 108, 97, 121, 115, 32, 118, 105, 116, 114, 105, 110, 101, 47, 118, 105, 116, 114, 105, 110, 101, 108, 97, 119, 49, 51, 46, 70, 105, 101, 108, 100, 83, 116, 97, 114, 116, 115, 32, 118, 105, 116, 114, 105, 110, 101, 47, 118, 105, 116, 114, 105, 110, 101, 108, 97, 119, 49, 53, 46, 67, 117, 114, 115, 111, 114, 84, 97, 98, 115, 32, 118, 105, 116, 114, 105, 110, 101, 47, 118, 105, 116, 114, 105, 110, 101, 108, 97, 119, 49, 50, 46, 83, 112, 97, 99, 101, 84, 111, 108, 100, 32, 118, 105, 116, 114, 105, 110, 101, 47, 118, 105, 116, 114, 105, 110, 101, 108, 97, 119, 49, 51, 46, 70, 105, 101, 108, 100, 80, 108, 97, 99, 101, 115, 32, 118, 105, 116, 114, 105, 110, 101, 47, 118, 105, 116, 114, 105, 110, 101, 108, 97, 119, 49, 51, 46, 70, 105, 101, 108, 100, 77, 111, 100, 105, 102, 105, 101, 115, 32, 118, 105, 116, 114, 105, 110, 101, 47, 118, 105, 116, 114, 105, 110, 101, 108, 97, 119, 49, 53, 46, 67, 117, 114, 115, 111, 114, 78, 105, 108, 32, 118, 105, 116, 114, 105, 110, 101, 47, 118, 105, 116, 114, 105, 110, 101, 108, 97, 119, 49, 53, 46, 67, 117, 114, 115, 111, 114, 80, 108, 97, 121, 115, 32, 118, 105, 116, 114, 105, 110, 101, 47, 118, 105, 116, 114, 105, 110, 101, 108, 97, 119, 49, 51, 46, 70, 105, 101, 108, 100, 78, 105, 108, 32, 118, 105, 116, 114, 105, 110, 101, 47, 118, 105, 116, 114, 105, 110, 101, 108, 97, 119, 49, 52, 46, 69, 114, 97, 115, 101, 66, 97, 99, 107, 32, 118, 105, 116, 114, 105, 110, 101, 47, 118, 105, 116, 114, 105, 110, 101, 108, 97, 119, 49, 52, 46, 69, 114, 97, 115, 101, 78, 117, 108, 108, 115, 32, 118, 105, 116, 114, 105, 110, 101, 47, 118, 105, 116, 114, 105, 110, 101, 108, 97, 119, 49, 52, 46, 69, 114, 97, 115, 101, 83, 97, 102, 101, 32, 118, 105, 116, 114, 105, 110, 101, 47, 118, 105, 116, 114, 105, 110, 101, 108, 97, 119, 49, 52, 46, 69, 114, 97, 115, 101, 80, 108, 97, 121, 115, 32, 118, 105, 116, 114, 105, 110, 101, 47, 118, 105, 116, 114, 105, 110, 101, 108, 97, 119, 49, 52, 46, 69, 114, 97, 115, 101, 78, 105, 108, 32, 118, 105, 116, 114, 105, 110, 101, 47, 118, 105, 116, 114, 105, 110, 101, 108, 97, 119, 49, 52, 46, 69, 114, 97, 115, 101, 84, 119, 105, 99, 101]
def harness : List Char := List.map Char.ofNat [104, 97, 114, 110, 101, 115, 115]
def cut : List Char := List.map Char.ofNat [99, 117, 116]
def at_ : List Char := List.map Char.ofNat [97, 116]

theorem head : Try.prog.initOrder = String.ofList (harness ++ (blank :: (sum ++ (blank :: (cut ++ (blank :: (at_ ++ (blank :: roots)))))))) := by kernel_rfl

theorem words : ∃ R, behindMainWord (wordsSigns Try.prog.initOrder.toList) = String.toList "cut" :: String.toList "at" :: R := by
  rw [head, String.toList_ofList, words_split _ (by decide +kernel), words_split _ (by decide +kernel), words_split _ (by decide +kernel), words_split _ (by decide +kernel)]
  have h : ((harness == String.toList "harness" || harness == String.toList "ownmain") && isSumSigns sum) = true := by decide +kernel
  have e1 : cut = String.toList "cut" := by decide +kernel
  have e2 : at_ = String.toList "at" := by decide +kernel
  rw [← e1, ← e2]
  generalize wordsSigns roots = R
  refine ⟨R, ?_⟩
  simp only [behindMainWord]
  rw [if_pos h]

theorem make_of (P : Program) (R : List (List Char)) (h : behindMainWord (wordsSigns P.initOrder.toList) = String.toList "cut" :: String.toList "at" :: R) : P.make = some .cut := by
  unfold Program.make
  rw [h]
  rfl

theorem headLifts_of (P : Program) (R : List (List Char)) (h : behindMainWord (wordsSigns P.initOrder.toList) = String.toList "cut" :: String.toList "at" :: R) : P.headLifts = [] := by
  unfold Program.headLifts
  rw [h]
  rfl

theorem liftsFinal_of (P : Program) (R : List (List Char)) (h : behindMainWord (wordsSigns P.initOrder.toList) = String.toList "cut" :: String.toList "at" :: R) : P.liftsFinal = false := by
  unfold Program.liftsFinal
  rw [h, headLifts_of P R h]
  rfl

theorem mayEnter_of (P : Program) (R : List (List Char)) (h : behindMainWord (wordsSigns P.initOrder.toList) = String.toList "cut" :: String.toList "at" :: R)
    (h1 : P.laysLater = false) (h2 : P.bearsReflect = false) (h3 : P.doorFits [] = true) : P.mayEnter = true := by
  have may : ∀ R, stripLifts liftWords (String.toList "cut" :: R) = ([], String.toList "cut" :: R) := fun R => by rfl
  unfold Program.mayEnter
  rw [h]
  simp only [may, h1, h2, h3]
  rfl

theorem make : Try.prog.make = some .cut := by
  obtain ⟨R, h⟩ := words
  exact make_of _ R h

theorem headLifts : Try.prog.headLifts = [] := by
  obtain ⟨R, h⟩ := words
  exact headLifts_of _ R h

theorem liftsFinal : Try.prog.liftsFinal = false := by
  obtain ⟨R, h⟩ := words
  exact liftsFinal_of _ R h

theorem laysLater : Try.prog.laysLater = false := by kernel_rfl
theorem bearsReflect : Try.prog.bearsReflect = false := by kernel_rfl
theorem doorFits : Try.prog.doorFits [] = true := by kernel_rfl

theorem mayEnter : Try.prog.mayEnter = true := by
  obtain ⟨R, h⟩ := words
  exact mayEnter_of _ R h laysLater bearsReflect doorFits

theorem laidOut : laidOutB Try.pinned.checked.prog = true := by kernel_rfl
theorem mapsRowed : mapsRowed Try.pinned.checked.prog = true := by kernel_rfl
theorem stopsHeard : Try.pinned.checked.prog.stopsHeard = true := by kernel_rfl
theorem make' : Try.pinned.checked.prog.make = some .cut := make
theorem liftsFinal' : Try.pinned.checked.prog.liftsFinal = false := liftsFinal
theorem mayEnter' : Try.pinned.checked.prog.mayEnter = true := mayEnter

end Go.Proofs.Ytangandfgbnomaa.VJ
