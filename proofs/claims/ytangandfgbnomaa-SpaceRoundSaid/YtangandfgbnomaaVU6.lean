/- The walk of the reference's Do at a row of characters. -/
import Derived.Test.YtangandfgbnomaaVU5
namespace Go.Proofs.Ytangandfgbnomaa.V
open Go.RowKit Go.Proofs.YtangandfgbnomaaW.PrintWords Go.Proofs.YtangandfgbnomaaW.PrintLast Go.Proofs.YtangandfgbnomaaW.PrintMore
set_option linter.unusedVariables false
set_option linter.unusedSimpArgs false


theorem S.txt_take (s : S) (n : Int) (l : List Int) (i : Nat) (hi : i < l.length) : s.txt n 0 (l.take (i + 1)) = if (i : Int) < 200 then (s.txt n 0 (l.take i)).put (wrp s.r s.c n + i) (l.getD i 0) else s.txt n 0 (l.take i) := by
  have e : l.take (i + 1) = l.take i ++ [l.getD i 0] := by
    rw [List.take_add_one, List.getElem?_eq_getElem hi]
    simp [List.getD_eq_getElem?_getD, List.getElem?_eq_getElem hi]
  rw [e, S.txt_snoc]
  obtain ⟨h1, h2, _⟩ := S.txt_size n (l.take i) s 0
  have e2 : ((l.take i).length : Int) = (i : Int) := by rw [List.length_take]; omega
  simp only [h1, h2, e2, Int.zero_add]

set_option maxRecDepth 100000 in
set_option maxHeartbeats 2000000 in
theorem rdo5 {w : World} {p b : Nat} {s : S} (h : RSp w p b s) (ok : s.ok) (hm : 2 ≤ s.model ∧ s.model ≤ 5) (a : Ac) (hf : a.fine) (ta : Option Addr) (cap : Nat) (hd : a.d % 6 = 5) (T : ∀ W, Keep [p, b] w W → TxRow W ta a.tx) :
    Calls Try.prog 149 #[.pointer (some ⟨p, 0, none⟩), a.v ta cap] w fun e w' => e = .returned (.tuple #[]) ∧ ∃ b', (b' = b ∨ w.heap.size ≤ b') ∧ RSp w' p b' (s.act a) ∧ Keep [p, b] w w' := by
  have hs : s.act a = s.txt a.n 0 a.tx := by
    unfold S.act
    rw [hd]
    rfl
  have hdt : a.d.tmod 6 = 5 := by rw [Int.tmod_eq_emod_of_nonneg hf.1.1]; exact hd
  have HS := Aside0.mk hs
  clear hs hd
  obtain ⟨fd, fcode, fch, ffa, ftx, ftl⟩ := id hf
  have hne := h.ne
  have plt : p < w.heap.size := by obtain ⟨_, _, _, h1, _⟩ := id h; exact h1.lt
  have blt : b < w.heap.size := by obtain ⟨_, _, _, _, h2⟩ := id h; exact h2.lt
  have hsize : ∀ o, (w.alloc o).heap.size = w.heap.size + 1 := fun o => Array.size_push ..
  have hwr := in_place s.r s.c a.n ok.1
  have hlen : s.r * s.c ≤ 3564 := by have := vld_pos ok.1; omega
  have hwe : wrp s.r s.c a.n = a.n % (s.r * s.c) := by unfold wrp; rw [if_pos ok.1]
  have hw0 : 0 ≤ wrp s.r s.c a.n ∧ wrp s.r s.c a.n < 3564 := by omega
  clear hwr hlen hwe
  have HX := Aside0.mk hsize
  clear hsize
  unfold Ac.v
  go_enter Try.func149, Try.ntmps149
  go_wp2
  go_loopg [12] a.tx.length (fun kq v12 w' => ∃ i : Nat, v12 = .int .i64 i ∧ Aside0 (kq = a.tx.length - i ∧ i ≤ a.tx.length) ∧ Aside0 (RSp w' p b (s.txt a.n 0 (a.tx.take i))) ∧ Aside0 (Keep [b] w w') ∧
    Aside0 (Blk w' w.heap.size [.int .u8 a.d, .int .i64 a.n, .bool a.on, .int .u8 a.code, .int .u8 a.c.ch, .bool a.c.at_, .int .u8 a.c.fa, .int .u8 a.c.hi, .int .u8 a.c.co, .int .u8 a.c.se, .slice ta a.tx.length cap] 67))
  case atStart =>
    refine ⟨0, rfl, ⟨rfl, Nat.zero_le _⟩, ⟨?_⟩, ⟨(Keep.refl [b] w).alloc _⟩, ⟨Blk.new w _ 67⟩⟩
    simp only [List.take_zero, S.txt]
    exact h.alloc _
  case round =>
    obtain ⟨i, rfl, HI, HR, HK, HB⟩ := hrel
    obtain ⟨hi1, hi2⟩ := HI.out
    have hb := HB.out
    have blt2 := hb.lt
    have b1 := hb.cell 1
    have bf := hb.frozen
    have b10 := hb.cell 10
    simp at b1 b10
    by_cases hc : (i : Int) < (a.tx.length : Int)
    · have hcb : decide ((i : Int) < (a.tx.length : Int)) = true := decide_eq_true hc
      obtain ⟨x, rfl, hx⟩ := T _ (HK.out.mono (fun y hy => .inl (List.mem_cons_of_mem _ hy))) i (by omega) hc
      have hi0 : (0 : Int) ≤ (i : Int) := by omega
      simp only [Int.toNat_natCast] at hx
      have hstep := Aside0.mk (S.txt_take s a.n a.tx i (by omega))
      have hbyte : 0 ≤ a.tx.getD i 0 ∧ a.tx.getD i 0 < 256 := by
        rw [List.getD_eq_getElem?_getD, List.getElem?_eq_getElem (by omega)]; exact ftx _ (List.getElem_mem (by omega))
      have htok := Aside0.mk (S.ok.txt a.n (a.tx.take i) s 0 ok (fun y hy => ftx y (List.mem_of_mem_take hy)))
      have htsz := S.txt_size a.n (a.tx.take i) s 0
      generalize s.txt a.n 0 (List.take i a.tx) = t at *
      obtain ⟨ht1, ht2, _⟩ := htsz
      generalize a.tx.getD i 0 = y at *
      have hr := HR.out
      by_cases h2 : (i : Int) < 200
      · have h2b : decide ((i : Int) < 200) = true := decide_eq_true h2
        have hwr := rwrap_calls hr a.n
        rw [ht1, ht2] at hwr
        have we : wrap64 (wrp s.r s.c a.n + (i : Int)) = wrp s.r s.c a.n + (i : Int) := by unfold wrap64; omega
        have we1 : wrap64 ((i : Int) + 1) = ((i + 1 : Nat) : Int) := by unfold wrap64; omega
        have WE1 := Aside0.mk we1
        clear we1
        have hne1 : w.heap.size ≠ b := by omega
        go_wp2_with (first
          | (go_at_call 65; go_loud (with_reducible refine hwr.mono ?_); rintro e w1 ⟨rfl, hb1⟩
             have hr1 := hr.call hb1
             have hB1 := hb.call hb1)
          | (go_at_call 180; go_loud (with_reducible refine (rput_calls hr1 htok.out _ _).mono ?_); rintro e w2 ⟨rfl, hr2, hk2⟩))
        go_roundg (a.tx.length - (i + 1))
        case measure => omega
        case rel =>
          refine ⟨i + 1, by first | rfl | (rw [WE1.out]), ⟨rfl, by omega⟩, ⟨?_⟩, ⟨?_⟩, ⟨?_⟩⟩
          · rw [hstep.out, if_pos h2]; exact hr2
          · exact (HK.out.call hb1).trans hk2 (fun y hy => .inl hy)
          · exact hB1.keep hk2 (by simp; omega)
      · have h2b : decide ((i : Int) < 200) = false := decide_eq_false h2
        have we1 : wrap64 ((i : Int) + 1) = ((i + 1 : Nat) : Int) := by unfold wrap64; omega
        have WE1 := Aside0.mk we1
        clear we1
        go_wp2
        go_roundg (a.tx.length - (i + 1))
        case measure => omega
        case rel =>
          refine ⟨i + 1, by first | rfl | (rw [WE1.out]), ⟨rfl, by omega⟩, ⟨?_⟩, HK, HB⟩
          rw [hstep.out, if_neg (by omega)]; exact hr
    · have hcb : decide ((i : Int) < (a.tx.length : Int)) = false := decide_eq_false hc
      have hie : i = a.tx.length := by omega
      go_wp2
      go_end0
      rw [HS.out]
      have hr := HR.out
      rw [hie, List.take_length] at hr
      exact ⟨rfl, .inl ⟨hr, HK.out.mono (fun y hy => .inl (List.mem_cons_of_mem _ hy))⟩⟩

theorem rdo {w : World} {p b : Nat} {s : S} (h : RSp w p b s) (ok : s.ok) (hm : 2 ≤ s.model ∧ s.model ≤ 5) (a : Ac) (hf : a.fine) (ta : Option Addr) (cap : Nat) (T : ∀ W, Keep [p, b] w W → TxRow W ta a.tx) :
    Calls Try.prog 149 #[.pointer (some ⟨p, 0, none⟩), a.v ta cap] w fun e w' => e = .returned (.tuple #[]) ∧ ∃ b', (b' = b ∨ w.heap.size ≤ b') ∧ RSp w' p b' (s.act a) ∧ Keep [p, b] w w' := by
  obtain ⟨fd, _⟩ := id hf
  have : a.d % 6 = 0 ∨ a.d % 6 = 1 ∨ a.d % 6 = 2 ∨ a.d % 6 = 3 ∨ a.d % 6 = 4 ∨ a.d % 6 = 5 := by omega
  rcases this with e | e | e | e | e | e
  · exact rdo0 h ok hm a hf ta cap e
  · exact rdo1 h ok hm a hf ta cap e
  · exact rdo2 h ok hm a hf ta cap e
  · exact rdo3 h ok hm a hf ta cap e
  · exact rdo4 h ok hm a hf ta cap e
  · exact rdo5 h ok hm a hf ta cap e T

end Go.Proofs.Ytangandfgbnomaa.V
