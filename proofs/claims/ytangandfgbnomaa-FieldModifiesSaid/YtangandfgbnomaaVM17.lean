/- The walk of the law FieldModifies. -/
import Derived.Test.YtangandfgbnomaaVUR
import Derived.Test.YtangandfgbnomaaVRM
import Derived.Test.YtangandfgbnomaaVSM
import Derived.Test.YtangandfgbnomaaVR6
import Derived.Test.YtangandfgbnomaaVA13
namespace Go.Proofs.Ytangandfgbnomaa.V
open Go.RowKit Go.Shelf
set_option linter.unusedVariables false
set_option linter.unusedSimpArgs false


/-- Is a field there? The space with it modified. -/
def S.hasf (s : S) (n : Int) : Bool := decide (stt s.l (s.ix n) ≠ -1)
def S.mdf (s : S) (n : Int) : S := if stt s.l (s.ix n) = -1 then s else s.afa (stt s.l (s.ix n)).toNat (bits .or .u8 (s.l.getD (stt s.l (s.ix n)).toNat C.zero).fa 1)
theorem mdf_alike {s : S} (ok : s.ok) (n : Int) : Alike s (s.mdf n) := by
  unfold S.mdf
  split
  · exact Alike.refl ok
  · rename_i hne
    rcases stt_dom s.l (s.ix n) (ok.ix n).2.1 with e | ⟨a, ha, e, _⟩
    · exact absurd e hne
    · rw [e, Int.toNat_natCast]
      have hf := getD_fit ok a
      exact afa_alike ok ha _ (or1_dom hf.2.2.1 hf.2.2.2.1)
theorem modify_calls {w : World} {p b : Nat} {s : S} (h : PSp w p b s) (ok : s.ok) (n : Int) :
    Calls Try.prog 116 #[.pointer (some ⟨p, 0, none⟩), .int .i64 n] w fun e w' => e = .returned (.bool (s.hasf n)) ∧ PSp w' p b (s.mdf n) ∧ Keep [p, b] w w' := by
  unfold S.hasf S.mdf
  rcases stt_dom s.l (s.ix n) (ok.ix n).2.1 with e | ⟨a, ha, e, _⟩
  · have := modify_none h ok n e
    rw [e, if_pos rfl]
    refine this.mono ?_
    rintro e' w' ⟨rfl, hb⟩
    exact ⟨by simp, h.call hb, Keep.of_below hb _⟩
  · have := modify_some h ok n ha e
    have hne : ¬ ((a : Int) = -1) := by omega
    rw [e, if_neg hne, Int.toNat_natCast]
    simpa [hne] using this
theorem rmodify_calls {w : World} {p b : Nat} {s : S} (h : RSp w p b s) (ok : s.ok) (n : Int) :
    Calls Try.prog 117 #[.pointer (some ⟨p, 0, none⟩), .int .i64 n] w fun e w' => e = .returned (.bool (s.hasf n)) ∧ RSp w' p b (s.mdf n) ∧ Keep [b] w w' := by
  unfold S.hasf S.mdf
  rcases stt_dom s.l (s.ix n) (ok.ix n).2.1 with e | ⟨a, ha, e, _⟩
  · have := rmodify_none h ok n e
    rw [e, if_pos rfl]
    refine this.mono ?_
    rintro e' w' ⟨rfl, hb⟩
    exact ⟨by simp, h.call hb, Keep.of_below hb _⟩
  · have := rmodify_some h ok n ha e
    have hne : ¬ ((a : Int) = -1) := by omega
    rw [e, if_neg hne, Int.toNat_natCast]
    simpa [hne] using this
theorem coll_mods {w : World} {p b : Nat} {s : S} (h : PSp w p b s) (ok : s.ok) {B1 : Nat} (h1 : Blk w B1 [.pointer (some ⟨p, 0, none⟩)] 61) :
    Calls Try.prog 79 #[.func (.func 166) #[] #[.pointer (some ⟨B1, 0, none⟩)]] w fun e w' => ∃ v, e = .returned v ∧ IR w' w.heap.size v (mods s.l) ∧ Below w.heap.size w w' :=
  collectF_calls (enters_of Try.func166 (by kernel_rfl) rfl) (by have h1 := attsTo_length s.l s.l.length; have h2 := (ok.ix 0).2.2.1; have h3 := List.length_filter_le (fun x : Int => decide ((s.l.getD x.toNat C.zero).fa % 2 = 1)) (atts s.l); unfold mods; unfold atts at h3 ⊢; omega) (tellsF_mods h ok h1)

set_option maxRecDepth 100000 in
set_option maxHeartbeats 8000000 in
theorem modifies_walk {w : World} (mo : Int) (hmo : 0 ≤ mo ∧ mo < 256) (ta : Option Addr) (cap : Nat) (us : List Ac) (hA : Acts w ta us) (hul : us.length ≤ maxLen) (y : Int) :
    Calls Try.prog 17 #[.int .u8 mo, .slice ta us.length cap, .int .i64 y] w fun e w' => e = .returned (.bool true) ∧ Below w.heap.size w w' := by
  have hok := acts_ok hA (show 2 ≤ 2 + mo % 4 ∧ 2 + mo % 4 ≤ 5 by omega) 30
  have hlay : ∀ W, Keep [] w W → Calls Try.prog 68 #[.int .u8 mo, .slice ta us.length cap] W fun e w' => ∃ p b q d, e = .returned (.tuple #[.pointer (some ⟨p, 0, none⟩), .pointer (some ⟨q, 0, none⟩)]) ∧ (W.heap.size ≤ p ∧ W.heap.size ≤ b ∧ W.heap.size ≤ q ∧ W.heap.size ≤ d) ∧
      Two w' p b q d ((S.clr (2 + mo % 4) false).acts (us.take 30)) ∧ Keep [] W w' := fun W k => lay68 mo hmo ta cap us (hA.keep k) hul
  generalize (S.clr (2 + mo % 4) false).acts (us.take 30) = X at *
  have ha1 := mdf_alike hok y
  have ok1 := ha1.1
  have ha2 := unm_alike (atts (X.mdf y).l) ok1 (fun x hx => by obtain ⟨k, rfl, hk, _⟩ := atts_dom hx; simpa using hk)
  have ok2 := ha2.1
  have hem := unm_mods ok1
  have hml : (mods (X.mdf y).l).length ≤ 100000 := by have h1 := attsTo_length (X.mdf y).l (X.mdf y).l.length; have h2 := (ok1.ix 0).2.2.1; have h3 := List.length_filter_le (fun x : Int => decide (((X.mdf y).l.getD x.toNat C.zero).fa % 2 = 1)) (atts (X.mdf y).l); unfold mods; unfold atts at h3 ⊢; omega
  have m1 : ∀ W p b, PSp W p b X → Calls Try.prog 116 #[.pointer (some ⟨p, 0, none⟩), .int .i64 y] W fun e w' => e = .returned (.bool (X.hasf y)) ∧ PSp w' p b (X.mdf y) ∧ Keep [p, b] W w' := fun W p b h => modify_calls h hok y
  have m2 : ∀ W p b, RSp W p b X → Calls Try.prog 117 #[.pointer (some ⟨p, 0, none⟩), .int .i64 y] W fun e w' => e = .returned (.bool (X.hasf y)) ∧ RSp w' p b (X.mdf y) ∧ Keep [b] W w' := fun W p b h => rmodify_calls h hok y
  generalize X.hasf y = bo at *
  generalize X.mdf y = Y at *
  have u1 : ∀ W p b, PSp W p b Y → Calls Try.prog 121 #[.pointer (some ⟨p, 0, none⟩)] W fun e w' => e = .returned (.tuple #[]) ∧ PSp w' p b (Y.unm (atts Y.l)) ∧ Keep [p, b] W w' := fun W p b h => unmodify_calls h ok1
  have u2 : ∀ W p b, RSp W p b Y → Calls Try.prog 122 #[.pointer (some ⟨p, 0, none⟩)] W fun e w' => e = .returned (.tuple #[]) ∧ RSp w' p b (Y.unm (atts Y.l)) ∧ Keep [b] W w' := fun W p b h => runmodify_calls h ok1
  generalize Y.unm (atts Y.l) = Z at *
  have A := Aside0.mk (And.intro m1 (And.intro m2 (And.intro u1 (And.intro u2 (And.intro ok1 (And.intro ok2 (And.intro hem hml)))))))
  have k0 : Keep [] w w := Keep.refl _ _
  clear hA hul hok hmo ha1 ha2 ok1 ok2 hem hml m1 m2 u1 u2
  go_enter Try.func17, Try.ntmps17
  go_wp2_with (first
    | (go_at_call 67; (with_reducible refine (awake13 _).mono ?_); rintro e w1 ⟨rfl, hb1⟩; have k1 := k0.call hb1)
    | (go_at_call 68; (with_reducible refine (hlay _ k1).mono ?_); rintro e w2 ⟨p, b, q, d, rfl, hge, hT, hk⟩
       have NE := Aside0.mk hT.2.2
       have HG := Aside0.mk hge
       have K2 := Aside0.mk (k1.trans hk (by simp))
       have HW1 := Aside0.mk k1.size
       have R2 := Aside0.mk hT.2.1
       have hm1 := A.out.1 _ _ _ hT.1
       clear hge hk hT)
    | (go_at_call 116; (with_reducible refine hm1.mono ?_); rintro e w3 ⟨rfl, hs3, hk3⟩
       have S3 := Aside0.mk hs3
       have K3 := Aside0.mk (hk3.mono (R' := [p, b, q, d]) (by intro x hx; left; simp at hx ⊢; omega))
       have hm2 := A.out.2.1 _ _ _ (R2.out.keep hk3 (by have := NE.out; simp; omega) (by have := NE.out; simp; omega))
       clear hs3 hk3 hm1)
    | (go_at_call 117; (with_reducible refine hm2.mono ?_); rintro e w4 ⟨rfl, hs4, hk4⟩
       have S4 := Aside0.mk (And.intro (S3.out.keep hk4 (by have := NE.out; simp; omega) (by have := NE.out; simp; omega)) hs4)
       have K4 := Aside0.mk (K3.out.trans hk4 (by intro x hx; left; simp at hx ⊢; omega))
       have h118 := same118_calls S4.out.1 S4.out.2 A.out.2.2.2.2.1
       clear hs4 hk4 hm2)
    | (go_at_call 118; (with_reducible refine h118.mono ?_); rintro e w5 ⟨rfl, hb5⟩
       have S5 := Aside0.mk (And.intro (S4.out.1.call hb5) (S4.out.2.call hb5))
       have K5 := Aside0.mk (K4.out.call hb5)
       have h119 := modified_calls (some ⟨p, 0, none⟩) w5
       clear h118 hb5)
    | (go_at_call 119; (with_reducible refine h119.mono ?_); rintro e w6 ⟨rfl, h6⟩
       have kk6 : Keep [] w5 w6 := by rw [h6]; exact (Keep.refl [] w5).alloc _
       have B6 : Blk w6 w5.heap.size [.pointer (some ⟨p, 0, none⟩)] 61 := by rw [h6]; exact Blk.new _ _ _
       have S6 := Aside0.mk (And.intro (S5.out.1.keep kk6 (by simp) (by simp)) (S5.out.2.keep kk6 (by simp) (by simp)))
       have K6 := Aside0.mk (K5.out.trans kk6 (by simp))
       have h79 := coll_mods S6.out.1 A.out.2.2.2.2.1 B6
       clear h119 h6 kk6 B6)
    | (go_at_call 79; (with_reducible refine h79.mono ?_); rintro e w7 ⟨v7, rfl, hv7, hb7⟩
       go_loud (obtain ⟨ta7, cp7, rfl, hi7⟩ := hv7.ints)
       have I7 := Aside0.mk hi7
       have S7 := Aside0.mk (And.intro (S6.out.1.call hb7) (S6.out.2.call hb7))
       have K7 := Aside0.mk (K6.out.call hb7)
       have h120 := rmods_calls S7.out.2 A.out.2.2.2.2.1
       clear hv7 hi7 hb7 h79)
    | (go_at_call 120; (with_reducible refine h120.mono ?_); rintro e w8 ⟨v8, rfl, hv8, hb8⟩
       go_loud (obtain ⟨ta8, cp8, rfl, hi8⟩ := hv8.ints)
       have S8 := Aside0.mk (And.intro (S7.out.1.call hb8) (S7.out.2.call hb8))
       have K8 := Aside0.mk (K7.out.call hb8)
       have h78 := equal78_calls cp7 cp8 (I7.out.keep (Keep.of_below hb8 [])) hi8 A.out.2.2.2.2.2.2.2
       clear hv8 hi8 hb8 h120)
    | (go_at_call 78; (with_reducible refine h78.mono ?_); rintro e w9 ⟨rfl, hb9⟩
       have S9 := Aside0.mk (And.intro (S8.out.1.call hb9) (S8.out.2.call hb9))
       have K9 := Aside0.mk (K8.out.call hb9)
       have hu1 := A.out.2.2.1 _ _ _ S9.out.1
       clear h78 hb9)
    | (go_at_call 121; (with_reducible refine hu1.mono ?_); rintro e w10 ⟨rfl, hs10, hk10⟩
       have S10 := Aside0.mk hs10
       have K10 := Aside0.mk (K9.out.trans hk10 (by intro x hx; left; simp at hx ⊢; omega))
       have hu2 := A.out.2.2.2.1 _ _ _ (S9.out.2.keep hk10 (by have := NE.out; simp; omega) (by have := NE.out; simp; omega))
       clear hs10 hk10 hu1)
    | (go_at_call 122; (with_reducible refine hu2.mono ?_); rintro e w11 ⟨rfl, hs11, hk11⟩
       have S11 := Aside0.mk (And.intro (S10.out.keep hk11 (by have := NE.out; simp; omega) (by have := NE.out; simp; omega)) hs11)
       have K11 := Aside0.mk (K10.out.trans hk11 (by intro x hx; left; simp at hx ⊢; omega))
       have h118b := same118_calls S11.out.1 S11.out.2 A.out.2.2.2.2.2.1
       clear hs11 hk11 hu2)
    | (go_at_call 118; (with_reducible refine h118b.mono ?_); rintro e w12 ⟨rfl, hb12⟩
       have S12 := Aside0.mk (And.intro (S11.out.1.call hb12) (S11.out.2.call hb12))
       have K12 := Aside0.mk (K11.out.call hb12)
       have h119b := modified_calls (some ⟨p, 0, none⟩) w12
       clear h118b hb12)
    | (go_at_call 119; (with_reducible refine h119b.mono ?_); rintro e w13 ⟨rfl, h13⟩
       have kk13 : Keep [] w12 w13 := by rw [h13]; exact (Keep.refl [] w12).alloc _
       have B13 : Blk w13 w12.heap.size [.pointer (some ⟨p, 0, none⟩)] 61 := by rw [h13]; exact Blk.new _ _ _
       have S13 := Aside0.mk (S12.out.1.keep kk13 (by simp) (by simp))
       have K13 := Aside0.mk (K12.out.trans kk13 (by simp))
       have h79b := coll_mods S13.out A.out.2.2.2.2.2.1 B13
       clear h119b h13 kk13 B13)
    | (go_at_call 79; (with_reducible refine h79b.mono ?_); rintro e w14 ⟨v14, rfl, hv14, hb14⟩
       go_loud (obtain rfl : v14 = .slice none 0 0 := hv14.2 A.out.2.2.2.2.2.2.1)
       have K14 := Aside0.mk (K13.out.call hb14)
       clear hv14 hb14 h79b))
  go_ret
  refine ⟨by simp, Keep.below (K2.out.trans K14.out ?_)⟩
  intro x hx
  right
  have := HG.out
  have := HW1.out
  simp at hx
  omega

end Go.Proofs.Ytangandfgbnomaa.V
