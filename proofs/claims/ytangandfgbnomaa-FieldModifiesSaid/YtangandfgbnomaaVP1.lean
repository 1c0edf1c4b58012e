/- field.Places and Length. -/
import Derived.Test.YtangandfgbnomaaVP0
namespace Go.Proofs.Ytangandfgbnomaa.V
open Go.RowKit Go.Shelf
set_option linter.unusedVariables false
set_option linter.unusedSimpArgs false

attribute [local go_sem] Oper.semAt_some

theorem places_calls (w : World) (p : Nat) (n : Int) : Calls Try.prog 109 #[.pointer (some ⟨p, 0, none⟩), .int .i64 n] w fun e w' => e = .returned (.func (.func 164) #[] #[.pointer (some ⟨w.heap.size, 0, none⟩), .pointer (some ⟨w.heap.size + 1, 0, none⟩)]) ∧
    w' = (w.alloc (.cells #[.pointer (some ⟨p, 0, none⟩)] 61)).alloc (.cells #[.int .i64 n] 3) := by
  go_enter Try.func109, Try.ntmps109
  go_wp2
  go_ret
  exact ⟨rfl, rfl⟩

set_option maxRecDepth 100000 in
set_option maxHeartbeats 2000000 in
theorem length_calls {w : World} {p b : Nat} {s : S} (h : PSp w p b s) (ok : s.ok) {a : Nat} (ha : a < s.l.length) :
    Calls Try.prog 111 #[.pointer (some ⟨p, 0, none⟩), .int .i64 a] w fun e w' => e = .returned (.int .i64 ((rpl s.l a).length : Int)) ∧ Below w.heap.size w w' := by
  refine (callsIn_wide (n := 4)).1 ?_
  have hpb : p < w.heap.size ∧ b < w.heap.size := by obtain ⟨_, _, _, x1, x2⟩ := id h; exact ⟨x1.lt, x2.lt⟩
  have hpl := places_calls (w.alloc (.cells #[.int .i64 0] 3)) p a
  have hN := (ok.ix 0).2.2.1
  have hrl : (rpl s.l a).length ≤ 3564 := by
    unfold rpl; split
    · rename_i hta; rw [plc_length]; have := lenp_lt ha hta; omega
    · simp
  have HRL := Aside0.mk hrl
  rw [World.size_alloc] at hpl
  refine callsIn_of_wp_marks Try.func111 rfl trivial ?_ rfl
  simp only [Try.ntmps111, List.size_toArray, List.length_cons, List.length_nil, Nat.reduceAdd, Nat.reduceSub, Array.replicate_succ, Array.replicate_zero, List.push_toArray, List.append_toArray, List.nil_append, List.cons_append]
  gi_wp2_with (first
    | (refine ⟨trivial, ?_⟩; gi_at_call 109; (with_reducible refine (callsIn_wide.2 hpl).mono ?_); rintro e w1 ⟨rfl, rfl⟩))
  have b0 := Blk.new w [.int .i64 0] 3
  have k1 : Keep [] w (w.alloc (.cells #[.int .i64 0] 3)) := (Keep.refl [] w).alloc _
  have b1 := Blk.new (w.alloc (.cells #[.int .i64 0] 3)) [.pointer (some ⟨p, 0, none⟩)] 61
  rw [World.size_alloc] at b1
  have b2 := Blk.new ((w.alloc (.cells #[.int .i64 0] 3)).alloc (.cells #[.pointer (some ⟨p, 0, none⟩)] 61)) [.int .i64 a] 3
  rw [World.size_alloc, World.size_alloc] at b2
  have B0 := (b0.alloc (.cells #[.pointer (some ⟨p, 0, none⟩)] 61)).alloc (.cells #[.int .i64 a] 3)
  have B1 := b1.alloc (.cells #[.int .i64 a] 3)
  have K1 := (k1.alloc (.cells #[.pointer (some ⟨p, 0, none⟩)] 61)).alloc (.cells #[.int .i64 a] 3)
  have hs1 := h.keep K1 (by simp) (by simp)
  have hsz : (((w.alloc (.cells #[.int .i64 0] 3)).alloc (.cells #[.pointer (some ⟨p, 0, none⟩)] 61)).alloc (.cells #[.int .i64 a] 3)).heap.size = w.heap.size + 3 := by simp only [World.size_alloc]
  generalize hW : ((w.alloc (.cells #[.int .i64 0] 3)).alloc (.cells #[.pointer (some ⟨p, 0, none⟩)] 61)).alloc (.cells #[.int .i64 a] 3) = W at *
  have hst := plc_stops (serves_kc (R := [w.heap.size]) s W.heap.size (by simp; omega)) hs1 ok ha B1 b2 ⟨by omega, by omega⟩ (Nat.le_refl _) ⟨by simp, by simp; omega, by simp; omega⟩ 3 (by decide)
  refine wpIn_rangeFunc_ownG (F := Fence.wide) (n := 4) rfl (by decide) (gf := 164) (lb := #[.pointer (some ⟨w.heap.size + 1, 0, none⟩), .pointer (some ⟨w.heap.size + 1 + 1, 0, none⟩)]) rfl trivial (enters_of Try.func164 (by kernel_rfl) rfl)
    hst KC.trans (fun W l o o' hl ho hc hw => KC.put ho hc) (Below.refl _ _) (fun _ => rfl)
    (fun pre V => Blk V w.heap.size [.int .i64 (pre.length : Int)] 3 ∧ Keep [] w V) (fun _ _ _ => False)
    (OwnFrom.and (ownFrom_blk (f := fun pre : List Int => [Value.int .i64 (pre.length : Int)])) (ownFrom_keep (by omega))) (fun _ _ _ _ _ hs _ _ => hs) ⟨B0, K1⟩
    (fun x => { tmps := #[.pointer (some ⟨p, 0, none⟩), .int .i64 a, undef, undef, .int .i64 0, .pointer (some ⟨w.heap.size, 0, none⟩), .pointer (some ⟨p, 0, none⟩), .int .i64 a, .func (.func 164) #[] #[.pointer (some ⟨w.heap.size + 1, 0, none⟩), .pointer (some ⟨w.heap.size + 1 + 1, 0, none⟩)], .int .i64 x, undef, undef, undef], defers := [] }) ?assign ?body ?done ?stop
  case assign =>
    intro l x V K hK
    gi_wp2
    simpa using hK
  case body =>
    rintro l pre x V ⟨hB, hK⟩ hlen
    have c0 := hB.cell 0
    have cf := hB.frozen 0
    have cl := hB.lt
    simp only [List.getElem?_cons_zero] at c0
    have hp : (pre.length : Int) ≤ 3564 := by have := HRL.out; omega
    have hp0 : (0 : Int) ≤ (pre.length : Int) := by omega
    have HB := Aside0.mk hB
    have HK := Aside0.mk hK
    clear hB hK hlen
    gi_wp2
    have hk : Keep [w.heap.size] V (V.setCell ⟨w.heap.size, 0, none⟩ (.int .i64 ((pre.length : Int) + 1))) := (Keep.refl _ V).setCell (p := ⟨w.heap.size, 0, none⟩) (.inl (List.mem_cons_self ..)) _
    refine ⟨hk.keepsFrom _ (by simp; exact ⟨_, HB.out, rfl⟩), hk.kc, ?_, HK.out.setCell (p := ⟨w.heap.size, 0, none⟩) (.inr (Nat.le_refl _)) _⟩
    have := HB.out.set 0 (.int .i64 ((pre.length : Int) + 1))
    rw [List.length_append]
    exact this
  case done =>
    rintro D ys V hD rfl ⟨hB, hK⟩ hKD
    have c0 := hB.cell 0
    simp only [List.getElem?_cons_zero] at c0
    gi_wp2
    refine ⟨by simp, .inl ⟨_, _, rfl, run_takeDeferred hKD, ?_⟩⟩
    exact ⟨_, results_tmp rfl _ _ _, rfl, (hK.putObj (by omega)).below⟩
  case stop =>
    rintro D c pre V _ _ h _
    exact h.elim

end Go.Proofs.Ytangandfgbnomaa.V
