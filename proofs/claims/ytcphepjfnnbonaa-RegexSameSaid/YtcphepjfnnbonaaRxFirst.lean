/- The walk of RegexFirst. -/
import Derived.Test.YtcphepjfnnbonaaRxW15
import Derived.Test.YtcphepjfnnbonaaRxCut4
namespace Go.Proofs.Ytcphepjfnnbonaa
set_option linter.unusedVariables false
set_option linter.unusedSimpArgs false
open Go Go.RowKit

theorem Fr.store_ {a w1 W : World} {o : Obj} (h : Fr No a w1) (hW : Fr (At w1.heap.size) (w1.alloc o) W) : Fr No a W := (h.alloc o).callAt hW h.size
set_option maxHeartbeats 1600000 in
theorem first_c (Haw : Hid (∀ w : World, Calls Try.prog 7 #[] w fun e w' => e = .returned (.bool true) ∧ Fr No w w')) (s : ByteArray) (w : World) :
    Calls Try.prog 3 #[.string s] w fun e w' => e = .returned (.bool true) ∧ Fr No w w' := by
  by_cases hs : 1500 < s.size
  · have hd : decide (1500 < s.size) = true := decide_eq_true hs
    go_enter Try.func3, Try.ntmps3
    go_wp2_with fail
    refine (Haw.out _).mono ?_
    rintro e w1 ⟨rfl, hf1⟩
    go_wp2_with fail
    refine (Haw.out _).mono ?_
    rintro e w2 ⟨rfl, hf2⟩
    go_wp2_with fail
    go_ret
    exact ⟨rfl, hf1.no hf2⟩
  · have hd : decide (1500 < s.size) = false := decide_eq_false hs
    have P1 := fun W : World => parse_c s W (by omega)
    cases hp : Rx.parse s with
    | out =>
      rw [hp] at P1
      go_enter Try.func3, Try.ntmps3
      go_wp2_with fail
      refine (Haw.out _).mono ?_
      rintro e w1 ⟨rfl, hf1⟩
      go_wp2_with fail
      refine (P1 _).mono ?_
      rintro e w2 h
      exact h.elim
    | ok nd j =>
      rw [hp] at P1
      go_enter Try.func3, Try.ntmps3
      go_wp2_with fail
      refine (Haw.out _).mono ?_
      rintro e w1 ⟨rfl, hf1⟩
      go_wp2_with fail
      refine (P1 _).mono ?_
      rintro e w2 ⟨⟨v, rfl, A, cap, rfl, hr⟩, hf2⟩
      go_wp2_with ((with_reducible refine at_store _ ?_); refine wpList_store_blk (w := w2.alloc _) (cs := nodeA nd A cap) rfl rfl rfl rfl (Blk.new _ _ _) rfl infoNode (nodeA_one _ _ _) ?_; intro W1 hW1 hfW1 _)
      go_ret
      exact ⟨rfl, (hf1.no hf2).store_ hfW1⟩
    | bad k =>
      rw [hp] at P1
      have hk := parse_in_text hp
      have hcut := parse_cut (Cut.extract s hk) hp
      have hsz : (s.extract 0 k).size = k := (Cut.extract s hk).size
      have P2 := fun W : World => parse_c (s.extract 0 k) W (by omega)
      have hk0 : (0 : Int) ≤ (k : Int) := by omega
      have hk1 : (k : Int) ≤ (s.size : Int) := by omega
      have P1 := hid P1
      clear hsz
      rcases hcut with ⟨nd, hcut⟩ | hcut
      · rw [hcut] at P2
        have P2 := hid P2
        clear hcut hp
        go_enter Try.func3, Try.ntmps3
        go_wp2_with fail
        refine (Haw.out _).mono ?_
        rintro e w1 ⟨rfl, hf1⟩
        go_wp2_with fail
        refine (P1.out _).mono ?_
        rintro e w2 ⟨rfl, hf2⟩
        go_wp2_with ((with_reducible refine at_store _ ?_); refine wpList_store_blk (w := w2.alloc _) (cs := #[.int .i64 0, .int .u64 0, .int .u64 0, .int .u64 0, .int .u64 0, .int .i64 0, .int .i64 0, .slice none 0 0]) rfl rfl rfl rfl (Blk.new _ _ _) rfl infoNode zn_one ?_; intro W1 hW1 hfW1 _)
        refine (P2.out _).mono ?_
        rintro e w3 ⟨⟨v, rfl, A, cap, rfl, hr⟩, hf3⟩
        go_wp2_with ((with_reducible refine at_store _ ?_); refine wpList_store_blk (w := w3.alloc _) (cs := nodeA nd A cap) rfl rfl rfl rfl (Blk.new _ _ _) rfl infoNode (nodeA_one _ _ _) ?_; intro W2 hW2 hfW2 _)
        go_ret
        exact ⟨rfl, (((hf1.no hf2).store_ hfW1).no hf3).store_ hfW2⟩
      · rw [hcut] at P2
        have P2 := hid P2
        clear hcut hp
        go_enter Try.func3, Try.ntmps3
        go_wp2_with fail
        refine (Haw.out _).mono ?_
        rintro e w1 ⟨rfl, hf1⟩
        go_wp2_with fail
        refine (P1.out _).mono ?_
        rintro e w2 ⟨rfl, hf2⟩
        go_wp2_with ((with_reducible refine at_store _ ?_); refine wpList_store_blk (w := w2.alloc _) (cs := #[.int .i64 0, .int .u64 0, .int .u64 0, .int .u64 0, .int .u64 0, .int .i64 0, .int .i64 0, .slice none 0 0]) rfl rfl rfl rfl (Blk.new _ _ _) rfl infoNode zn_one ?_; intro W1 hW1 hfW1 _)
        refine (P2.out _).mono ?_
        rintro e w3 ⟨rfl, hf3⟩
        go_wp2_with ((with_reducible refine at_store _ ?_); refine wpList_store_blk (w := w3.alloc _) (cs := #[.int .i64 0, .int .u64 0, .int .u64 0, .int .u64 0, .int .u64 0, .int .i64 0, .int .i64 0, .slice none 0 0]) rfl rfl rfl rfl (Blk.new _ _ _) rfl infoNode zn_one ?_; intro W2 hW2 hfW2 _)
        go_ret
        exact ⟨rfl, (((hf1.no hf2).store_ hfW1).no hf3).store_ hfW2⟩
end Go.Proofs.Ytcphepjfnnbonaa
