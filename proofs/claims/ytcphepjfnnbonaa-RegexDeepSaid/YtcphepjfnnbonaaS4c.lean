/- The walk of sieveref04.Not: all bytes that aren't in a set. No condition. -/
import Derived.Test.YtcphepjfnnbonaaS4b
namespace Go.Proofs.Ytcphepjfnnbonaa
set_option linter.unusedVariables false
set_option linter.unusedSimpArgs false
open Go Go.RowKit

theorem infoInt3 : (Try.prog.info? 3).map (fun i => (i.zero, i.size, i.bytes)) = some (some (.int .i64 0), 1, 8) := by kernel_rfl
theorem encI_append (l m : List Nat) : encI (l ++ m) = encI l ++ encI m := by simp [encI]
theorem fold_bit (j : Nat) : ∀ (l : List Nat) (s : Nat), (l.foldl (fun s b => s ||| 2 ^ b) s).testBit j = (s.testBit j || decide (j ∈ l))
  | [], s => by simp
  | a :: l, s => by
    rw [List.foldl_cons, fold_bit j l, Nat.testBit_or, Nat.testBit_two_pow]
    by_cases h : a = j
    · subst h; simp
    · have : ¬ j = a := fun h' => h h'.symm
      simp [h, this]
theorem bitsOf_bit (l : List Nat) (j : Nat) : (bitsOf l).testBit j = decide (j ∈ l) := by
  unfold bitsOf
  rw [fold_bit]
  simp
def notL (s j : Nat) : List Nat := (List.range j).filter fun b => !s.testBit b
theorem notL_succ (s j : Nat) : notL s (j + 1) = if s.testBit j then notL s j else notL s j ++ [j] := by
  unfold notL
  rw [List.range_succ, List.filter_append]
  cases h : s.testBit j <;> simp [h]
theorem notL_mem {s j b : Nat} (h : b ∈ notL s j) : b < j := by
  unfold notL at h
  simp at h
  omega
theorem notL_len (s j : Nat) : (notL s j).length ≤ j := by
  unfold notL
  have := List.length_filter_le (fun b => !s.testBit b) (List.range j)
  simpa using this
theorem notL_all (s : Nat) : bitsOf (notL s 256) = notS s := by
  apply Nat.eq_of_testBit_eq
  intro j
  rw [bitsOf_bit]
  unfold notS allS notL
  have h2 : s % 2 ^ 256 < 2 ^ 256 := Nat.mod_lt _ (by decide)
  rw [show 2 ^ 256 - 1 - s % 2 ^ 256 = 2 ^ 256 - (s % 2 ^ 256 + 1) by omega, Nat.testBit_two_pow_sub_succ h2, Nat.testBit_mod_two_pow]
  by_cases hj : j < 256
  · cases h : s.testBit j <;> simp [hj, h]
  · simp [hj]
set_option maxHeartbeats 1600000 in
theorem not04_c (s : Nat) (w : World) : Calls Try.prog 44 #[.agg (setA s)] w fun e w' => e = .returned (.agg (setA (notS s))) ∧ Fr No w w' := by
  have hB0 := (Blk.new w 25 (setA s)).alloc (.cells (setA 0) 25)
  have hB1 := Blk.new (w.alloc (.cells (setA s) 25)) 25 (setA 0)
  rw [World.size_alloc] at hB1
  have hF0 : Fr No w _ := ((Fr.refl No w).alloc (.cells (setA s) 25)).alloc (.cells (setA 0) 25)
  have hall := hid (notL_all s)
  go_enter Try.func44, Try.ntmps44
  go_wp2_with fail
  go_loopg [3, 4] 256 (fun g o i wr => ∃ j : Nat, j + g = 256 ∧ i = .int .i64 j ∧ Own wr (w.heap.size + 2) (fun k => w.heap.size < k) 3 1 o (notL s j).length (encI (notL s j)) ∧ Blk wr w.heap.size 25 (setA s) ∧ Blk wr (w.heap.size + 1) 25 (setA 0) ∧ Fr No w wr)
  case atStart => exact ⟨0, by omega, rfl, Own.nil _ _ _ _ _, hB0, hB1, hF0⟩
  case round =>
    obtain ⟨j, hj, rfl, hO, hBa, hBb, hF⟩ := hrel
    clear hB0 hB1 hF0
    cases gk with
    | zero =>
      obtain rfl : j = 256 := by omega
      have hN := hO.rep (fun k hk => by omega)
      have hset := fun (v : Value) (W : World) (h : IntsIn W (fun k => w.heap.size < k) v (notL s 256)) => set_c (notL s 256) v _ W (fun b hb => notL_mem hb) h
      rw [hall.out] at hset
      clear hj hO
      go_wp2_with (first | (go_at_call 47; refine (hset _ _ hN).mono ?_; rintro e w3 ⟨rfl, hf3⟩) |
        ((with_reducible refine at_store _ ?_); refine wpList_store_blk (cs := setA (notS s)) rfl rfl rfl rfl (hf3.blk hBb id) rfl infoSet (setA_one _) ?_; intro W hW hfW _))
      refine bodyPost_blk rfl rfl hW Try.underlying25 rfl infoSet rfl ?_
      exact ⟨rfl, (hF.no hf3).callAt hfW (by omega)⟩
    | succ g =>
      have hd : decide (j < 256) = true := decide_eq_true (by omega)
      have hd2 : (j : Int) < 256 := by omega
      have hsucc := hid (notL_succ s j)
      have hlen := notL_len s j
      have Hj := hid hj
      clear hj
      generalize hnl : notL s j = l at *
      have Hnl := hid hnl
      clear hnl
      go_wp2_with ((with_reducible refine at_load _ ?_); refine wpList_load_blk (cs := setA s) rfl rfl rfl hBa Try.underlying25 rfl infoSet ?_)
      refine (has_c s j _ (by omega)).mono ?_
      rintro e w2 ⟨rfl, hf2⟩
      have hO2 := hO.fr hf2 (fun k hk _ => id)
      have hBa2 := hf2.blk hBa id
      have hBb2 := hf2.blk hBb id
      have hF2 := hF.no hf2
      have hgt2 := hBb2.lt
      clear hO hBa hBb hF hf2
      cases hbit : s.testBit j with
      | true =>
        go_wp2_with fail
        go_roundg g
        case measure => omega
        case rel =>
          have hj1 : j + 1 + g = 256 := by have := Hj.out; omega
          have hsu := hsucc.out
          rw [hbit, if_pos rfl] at hsu
          exact ⟨j + 1, hj1, by simp, by rw [hsu]; exact hO2, hBa2, hBb2, hF2⟩
      | false =>
        obtain ⟨A0, cap0, rfl, hc1, hc2⟩ := hO2.form
        have hO3 := hO2.alloc (.cells #[.int .i64 j] 3)
        go_wp2_with (at_builtin; go_loud ((with_reducible refine at_call ?_); refine wpList_append_D (es := [.v (.int .i64 j)]) (m := 1) rfl (.tmp 13) (.tmp 15) 66 rfl _ 8 Try.underlying66 infoInt3 rfl (by decide) rfl hO3 rfl (news := [.int .i64 j]) rfl (Blk.new w2 3 #[.int .i64 j]).news (.cons (.v rfl) .nil) (by omega) (by omega) (by rw [World.size_alloc]; omega) ?_); intro v' w4 hO4 hg4 hat4)
        have hgw : ¬ (some w.heap.size = (Value.slice A0 l.length cap0).ownBlock) := fun h => by have := hO2.blk_lt _ h.symm; omega
        have hgw1 : ¬ (some (w.heap.size + 1) = (Value.slice A0 l.length cap0).ownBlock) := fun h => by have := hO2.blk_lt _ h.symm; omega
        have hFg := Fr.ofGrown hg4
        go_roundg g
        case measure => omega
        case rel =>
          have hj1 : j + 1 + g = 256 := by have := Hj.out; omega
          have hsu := hsucc.out
          rw [hbit, if_neg (by decide)] at hsu
          refine ⟨j + 1, hj1, by simp, ?_, hFg.blk (hBa2.alloc _) hgw, hFg.blk (hBb2.alloc _) hgw1, Fr.call (Fr.alloc hF2 _) hFg (fun k hk h => by have := hO2.blk_lt k h.symm; omega)⟩
          rw [hsu, List.length_append, encI_append]
          exact hO4
end Go.Proofs.Ytcphepjfnnbonaa
