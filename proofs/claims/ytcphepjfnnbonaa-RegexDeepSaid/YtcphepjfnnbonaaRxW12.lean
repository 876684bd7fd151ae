/- The walks of the expression reader: of, ends. -/
import Derived.Test.YtcphepjfnnbonaaRxW11
import Derived.Test.YtcphepjfnnbonaaRxP
namespace Go.Proofs.Ytcphepjfnnbonaa
set_option linter.unusedVariables false
set_option linter.unusedSimpArgs false
open Go Go.RowKit

theorem NodeIn.ofList {w : World} {S : Nat → Prop} {A : Option Addr} {cap : Nat} {l : List Nd} (k : Int) (h : NodesIn w S (.slice A l.length cap) l) : NodeIn w S (.agg (nodeA (.mk k 0 0 0 l) A cap)) (.mk k 0 0 0 l) :=
  ⟨A, cap, rfl, h⟩
set_option maxHeartbeats 1600000 in
theorem of_c (k : Int) (l : List Nd) (A : Option Addr) (cap : Nat) (S : Nat → Prop) (w : World) (hl : l.length < 1099511627776) (h : NodesIn w S (.slice A l.length cap) l) (hS : ∀ k, S k → k < w.heap.size) :
    Calls Try.prog 25 #[.int .i64 k, .slice A l.length cap] w fun e w' => ∃ v, e = .returned v ∧ NodeIn w' S v (Rx.of k l) ∧ Fr No w w' := by
  have hB0 := Blk.new w 28 #[.int .i64 0, .int .u64 0, .int .u64 0, .int .u64 0, .int .u64 0, .int .i64 0, .int .i64 0, .slice none 0 0]
  have hF0 : Fr No w _ := (Fr.refl No w).alloc (.cells #[.int .i64 0, .int .u64 0, .int .u64 0, .int .u64 0, .int .u64 0, .int .i64 0, .int .i64 0, .slice none 0 0] 28)
  have h' := h.alloc (.cells #[.int .i64 0, .int .u64 0, .int .u64 0, .int .u64 0, .int .u64 0, .int .i64 0, .int .i64 0, .slice none 0 0] 28)
  cases l with
  | nil =>
    have hz : ((([] : List Nd).length : Int) == 0) = true := rfl
    go_enter Try.func25, Try.ntmps25
    go_wp2_with ((with_reducible refine at_store _ ?_); refine wpList_store_blk (cs := nodeA (.mk 1 0 0 0 []) none 0) rfl rfl rfl (by rw [nodeA_lit]; rfl) hB0 rfl infoNode (nodeA_one _ _ _) ?_; intro W hW hfW _)
    refine bodyPost_blk rfl rfl hW Try.underlying28 rfl infoNode rfl ?_
    exact ⟨_, rfl, NodeIn.leaf _ _ _ _ _ _, hF0.callAt hfW (Nat.le_refl _)⟩
  | cons n m =>
    cases m with
    | nil =>
      obtain ⟨b, off, A', cap', rfl, hSb, hlt, hrng, hrep⟩ := NodesIn.at_ (i := 0) h' rfl
      simp only [Nat.mul_zero, Nat.add_zero] at hrng
      have hc1 : 1 ≤ cap := by
        obtain ⟨A2, c2, heq, hcap, _⟩ := h.sl_inv
        injection heq with e1 e2 e3
        have h1 : [n].length = 1 := rfl
        omega
      have hz0 : (([n].length : Int) == 0) = false := rfl
      have hz1 : (([n].length : Int) == 1) = true := rfl
      go_enter Try.func25, Try.ntmps25
      go_wp2_with (first | ((with_reducible refine at_load _ ?_); refine wpList_load_rng (cs := nodeA n A' cap') rfl rfl rfl hrng Try.underlying28 rfl infoNode ?_) |
        ((with_reducible refine at_store _ ?_); refine wpList_store_blk (cs := nodeA n A' cap') rfl rfl rfl rfl hB0 rfl infoNode (nodeA_one _ _ _) ?_; intro W hW hfW _))
      refine bodyPost_blk rfl rfl hW Try.underlying28 rfl infoNode rfl ?_
      exact ⟨_, rfl, ⟨A', cap', rfl, hrep.fr hfW (fun k hk _ => ⟨by have := hS k hk; show ¬ k = w.heap.size; omega, hk⟩)⟩, hF0.callAt hfW (Nat.le_refl _)⟩
    | cons n2 m =>
      have hz0 : (((n :: n2 :: m).length : Int) == 0) = false := by simp; omega
      have hz1 : (((n :: n2 :: m).length : Int) == 1) = false := by simp; omega
      generalize hL : n :: n2 :: m = L at *
      go_enter Try.func25, Try.ntmps25
      go_wp2_with ((with_reducible refine at_store _ ?_); refine wpList_store_blk (cs := nodeA (.mk k 0 0 0 L) A cap) rfl rfl rfl (by rw [nodeA_lit]; rfl) hB0 rfl infoNode (nodeA_one _ _ _) ?_; intro W hW hfW _)
      refine bodyPost_blk rfl rfl hW Try.underlying28 rfl infoNode rfl ?_
      refine ⟨_, rfl, ?_, hF0.callAt hfW (Nat.le_refl _)⟩
      have e : Rx.of k L = .mk k 0 0 0 L := by rw [← hL]; rfl
      rw [e]
      exact NodeIn.ofList k (h'.fr hfW (fun k hk _ => ⟨by have := hS k hk; show ¬ k = w.heap.size; omega, hk⟩))
theorem ends_c (b : Nat) (s : ByteArray) (i op : Nat) (w : World) (hr : Rd w b s i op) :
    Calls Try.prog 29 #[.pointer (some ⟨b, 0, none⟩)] w fun e w' => e = .returned (.bool (Rx.ends s i)) ∧ ∃ n, w' = w.drewN n := by
  have hE : Rx.ends s i = (decide (nx s i < 0) || nx s i == 124 || nx s i == 41) := rfl
  have HE := hid hE
  clear hE
  generalize hx : nx s i = x at *
  have hnx := fun (W : World) (hW : Rd W b s i op) => next_c b s i op W hW
  rw [hx] at hnx
  have Hnx := hid hnx
  clear hnx hx
  cases h1 : decide (x < 0) <;> cases h2 : (x == 124) <;> cases h3 : (x == 41) <;> rw [h1, h2, h3] at HE
  all_goals
    go_enter Try.func29, Try.ntmps29
    go_wp2_with (go_at_call 31; refine (Hnx.out _ hr).mono ?_; rintro e w1 ⟨rfl, n, rfl⟩)
    go_ret
    exact ⟨by rw [HE.out]; rfl, n, rfl⟩
end Go.Proofs.Ytcphepjfnnbonaa
