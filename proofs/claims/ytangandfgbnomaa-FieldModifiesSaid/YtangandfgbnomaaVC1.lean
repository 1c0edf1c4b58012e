/- cursor.Tab and BackTab; literal acts; layer 15's awake; arguments that are rows of numbers. -/
import Derived.Test.YtangandfgbnomaaVZ5
import Derived.Test.YtangandfgbnomaaVC0
import Derived.Test.YtangandfgbnomaaVY73
namespace Go.Proofs.Ytangandfgbnomaa.V
open Go.RowKit
set_option linter.unusedVariables false
set_option linter.unusedSimpArgs false


theorem tab_calls {w : World} {p b : Nat} {s : S} (h : PSp w p b s) (ok : s.ok) :
    Calls Try.prog 96 #[.pointer (some ⟨p, 0, none⟩)] w fun e w' => e = .returned (.tuple #[]) ∧ PSp w' p b { s with cur := tabn s.l s.cur.toNat false } ∧ Keep [p] w w' := by
  obtain ⟨hc0, hc1⟩ := ok.2.2
  have hcl : s.cur.toNat < s.l.length := by have := ok.2.1; omega
  have hix : s.ix s.cur = s.cur.toNat := by
    have := ok.self hcl
    rwa [show ((s.cur.toNat : Nat) : Int) = s.cur by omega] at this
  have hcu := cursor_calls h
  have hn := next_calls h ok s.cur
  rw [hix] at hn
  have hm := max_zero (nx s.l s.cur.toNat false)
  have htb : tabn s.l s.cur.toNat false = if nx s.l s.cur.toNat false < 0 then 0 else nx s.l s.cur.toNat false := rfl
  rw [← htb] at hm
  have htd : ∃ k : Nat, tabn s.l s.cur.toNat false = k ∧ k < s.l.length := by
    unfold tabn
    rcases nx_dom hcl false with e | ⟨k, e, hk, _⟩
    · rw [e]; exact ⟨0, rfl, by omega⟩
    · rw [e, if_neg (by omega)]; exact ⟨k, rfl, hk⟩
  obtain ⟨k, hk, hkl⟩ := htd
  have hpl : ∀ W, Keep [] w W → Calls Try.prog 60 #[.pointer (some ⟨p, 0, none⟩), .int .i64 (tabn s.l s.cur.toNat false)] W fun e w' => e = .returned (.tuple #[]) ∧ PSp w' p b { s with cur := tabn s.l s.cur.toNat false } ∧ Keep [p] W w' := fun W kw => by
    have := place_calls (h.keep kw (by simp) (by simp)) (tabn s.l s.cur.toNat false)
    have e : s.place (tabn s.l s.cur.toNat false) = { s with cur := tabn s.l s.cur.toNat false } := by
      unfold S.place
      rw [hk, (ok.ix (k : Int)).1, ok.self hkl]
    rw [e] at this; exact this
  have k0 : Keep [] w w := Keep.refl _ _
  generalize tabn s.l s.cur.toNat false = f at *
  generalize nx s.l s.cur.toNat false = y at *
  clear hix hcl h hk htb
  go_enter Try.func96, Try.ntmps96
  go_wp2_with (first
    | (go_at_call 64; (with_reducible refine hcu.mono ?_); rintro e w0 ⟨rfl, rfl⟩)
    | (go_at_call 69; (with_reducible refine hn.mono ?_); rintro e w1 ⟨rfl, hb1⟩; have k1 := k0.call hb1)
    | (go_at_call 60; (with_reducible refine (hpl _ k1).mono ?_); rintro e w2 ⟨rfl, hs2, hk2⟩))
  go_end0
  exact ⟨rfl, hs2, k1.zero.trans hk2 (fun x hx => .inl hx)⟩

theorem backtab_calls {w : World} {p b : Nat} {s : S} (h : PSp w p b s) (ok : s.ok) :
    Calls Try.prog 98 #[.pointer (some ⟨p, 0, none⟩)] w fun e w' => e = .returned (.tuple #[]) ∧ PSp w' p b { s with cur := tabn s.l s.cur.toNat true } ∧ Keep [p] w w' := by
  obtain ⟨hc0, hc1⟩ := ok.2.2
  have hcl : s.cur.toNat < s.l.length := by have := ok.2.1; omega
  have hix : s.ix s.cur = s.cur.toNat := by
    have := ok.self hcl
    rwa [show ((s.cur.toNat : Nat) : Int) = s.cur by omega] at this
  have hcu := cursor_calls h
  have hn := prev_calls h ok s.cur
  rw [hix] at hn
  have hm := max_zero (nx s.l s.cur.toNat true)
  have htb : tabn s.l s.cur.toNat true = if nx s.l s.cur.toNat true < 0 then 0 else nx s.l s.cur.toNat true := rfl
  rw [← htb] at hm
  have htd : ∃ k : Nat, tabn s.l s.cur.toNat true = k ∧ k < s.l.length := by
    unfold tabn
    rcases nx_dom hcl true with e | ⟨k, e, hk, _⟩
    · rw [e]; exact ⟨0, rfl, by omega⟩
    · rw [e, if_neg (by omega)]; exact ⟨k, rfl, hk⟩
  obtain ⟨k, hk, hkl⟩ := htd
  have hpl : ∀ W, Keep [] w W → Calls Try.prog 60 #[.pointer (some ⟨p, 0, none⟩), .int .i64 (tabn s.l s.cur.toNat true)] W fun e w' => e = .returned (.tuple #[]) ∧ PSp w' p b { s with cur := tabn s.l s.cur.toNat true } ∧ Keep [p] W w' := fun W kw => by
    have := place_calls (h.keep kw (by simp) (by simp)) (tabn s.l s.cur.toNat true)
    have e : s.place (tabn s.l s.cur.toNat true) = { s with cur := tabn s.l s.cur.toNat true } := by
      unfold S.place
      rw [hk, (ok.ix (k : Int)).1, ok.self hkl]
    rw [e] at this; exact this
  have k0 : Keep [] w w := Keep.refl _ _
  generalize tabn s.l s.cur.toNat true = f at *
  generalize nx s.l s.cur.toNat true = y at *
  clear hix hcl h hk htb
  go_enter Try.func98, Try.ntmps98
  go_wp2_with (first
    | (go_at_call 64; (with_reducible refine hcu.mono ?_); rintro e w0 ⟨rfl, rfl⟩)
    | (go_at_call 70; (with_reducible refine hn.mono ?_); rintro e w1 ⟨rfl, hb1⟩; have k1 := k0.call hb1)
    | (go_at_call 60; (with_reducible refine (hpl _ k1).mono ?_); rintro e w2 ⟨rfl, hs2, hk2⟩))
  go_end0
  exact ⟨rfl, hs2, k1.zero.trans hk2 (fun x hx => .inl hx)⟩

/-- The example of layer 15. -/
def ex15 : List Ac := [⟨3, 0, false, 48, C.zero, []⟩, ⟨3, 5, false, 0, C.zero, []⟩, ⟨1, 3, false, 0, C.zero, []⟩]
theorem ex15_tab : tabn ((S.clr 2 false).acts ex15).l ((S.clr 2 false).acts ex15).cur.toNat false = 6 := by decide +kernel
theorem ex15_fine : ∀ a ∈ ex15, a.fine := by
  intro a ha
  simp only [ex15, List.mem_cons, List.not_mem_nil, or_false] at ha
  rcases ha with rfl | rfl | rfl <;> (refine ⟨by decide, by decide, by decide, by decide, fun x hx => (by cases hx), by decide⟩)
theorem ex15_tx : ∀ a ∈ ex15, a.tx = [] := by
  intro a ha
  simp only [ex15, List.mem_cons, List.not_mem_nil, or_false] at ha
  rcases ha with rfl | rfl | rfl <;> rfl

set_option maxRecDepth 100000 in
set_option maxHeartbeats 1000000 in
theorem awake15 (w : World) : Calls Try.prog 72 #[] w fun e w' => e = .returned (.bool true) ∧ Below w.heap.size w w' := by
  have hlay : Calls Try.prog 73 #[.int .u8 0, .slice (some ⟨w.heap.size, 0, none⟩) 3 3] (w.alloc (.cells #[.int .u8 3, .int .i64 0, .bool false, .int .u8 48, .int .u8 0, .bool false, .int .u8 0, .int .u8 0, .int .u8 0, .int .u8 0, .slice none 0 0, .int .u8 3, .int .i64 5, .bool false, .int .u8 0, .int .u8 0, .bool false, .int .u8 0, .int .u8 0, .int .u8 0, .int .u8 0, .slice none 0 0, .int .u8 1, .int .i64 3, .bool false, .int .u8 0, .int .u8 0, .bool false, .int .u8 0, .int .u8 0, .int .u8 0, .int .u8 0, .slice none 0 0] 67)) fun e w' => ∃ p b q d, e = .returned (.tuple #[.pointer (some ⟨p, 0, none⟩), .pointer (some ⟨q, 0, none⟩)]) ∧ (w.heap.size ≤ p ∧ w.heap.size ≤ b ∧ w.heap.size ≤ q ∧ w.heap.size ≤ d) ∧ Two w' p b q d ((S.clr 2 false).acts ex15) ∧ Keep [] w w' := by
    have hA : Acts (w.alloc (.cells (acts11 ex15).toArray 67)) (some ⟨w.heap.size, 0, none⟩) ex15 := acts_blk (Blk.new w (acts11 ex15) 67) ex15_fine ex15_tx
    refine (lay73 (w := w.alloc (.cells (acts11 ex15).toArray 67)) 0 (by decide) _ 3 ex15 hA (by decide)).mono ?_
    rintro e w' ⟨p, b, q, d, he, hge, hT, hk⟩
    rw [World.size_alloc] at hge
    exact ⟨p, b, q, d, he, by omega, hT, ((Keep.refl [] w).alloc _).trans hk (by simp)⟩
  have hok : ((S.clr 2 false).acts ex15).ok := S.ok.acts ex15 (S.clr_ok 2 false (by decide)) (by show 2 ≤ (2 : Int) ∧ (2 : Int) ≤ 5; decide) ex15_fine
  have htb := ex15_tab
  generalize (S.clr 2 false).acts ex15 = X at *
  have HT := Aside0.mk htb
  have HO := Aside0.mk hok
  clear htb hok
  go_enter Try.func72, Try.ntmps72
  go_wp2_with (first
    | (go_at_call 73; (with_reducible refine hlay.mono ?_); rintro e w1 ⟨p, b, q, d, rfl, hge, hT, hk⟩
       have htab := tab_calls hT.1 HO.out
       rw [HT.out] at htab
       have HK := Aside0.mk (And.intro hge hk)
       clear hge hk hT)
    | (go_at_call 96; (with_reducible refine htab.mono ?_); rintro e w2 ⟨rfl, hs2, hk2⟩
       have hcu := cursor_calls hs2)
    | (go_at_call 64; (with_reducible refine hcu.mono ?_); rintro e w3 ⟨rfl, rfl⟩))
  go_ret
  exact ⟨rfl, (HK.out.2.trans hk2 (fun x hx => by right; simp at hx; have := HK.out.1; omega)).below⟩


end Go.Proofs.Ytangandfgbnomaa.V
