/- The walk of sieveref13.IsPlain. -/
import Derived.Test.YtldmdlkjpdfonaaPl
namespace Go.Proofs.Ytldmdlkjpdfonaa
set_option linter.unusedVariables false
set_option linter.unusedSimpArgs false
open Go Go.RowKit

set_option maxRecDepth 100000 in
set_option maxHeartbeats 8000000 in
theorem rplain_s (k : Nat) (n : Nd) (v : Value) (S : Nat → Prop) (w : World) (hk : n.depth ≤ k + 1) (hn : NodeIn w S v n)
    (Hih : Hid (∀ (n : Nd) (v : Value) (w : World), n.depth ≤ k → NodeIn w S v n → Calls Try.prog 15 #[v] w fun e w' => e = .returned (.bool (isPlain n)) ∧ Fr No w w')) :
    Calls Try.prog 15 #[v] w fun e w' => e = .returned (.bool (isPlain n)) ∧ Fr No w w' := by
  obtain ⟨A, cap, rfl, hrep0⟩ := hn
  have hF0 : Fr No w _ := (Fr.refl No w).alloc (.cells (nodeA n A cap) 37)
  have hrep := hrep0.alloc (.cells (nodeA n A cap) 37)
  have hB0 := Blk.new w 37 (nodeA n A cap)
  have hcap : n.subs.length ≤ cap ∧ cap ≤ maxLen := by
    obtain ⟨A2, c2, heq, h1, h2⟩ := hrep.sl_inv
    injection heq with e1 e2 e3
    omega
  have hdp := n.depth_eq
  have hcell : ∀ W, Fr No (w.alloc (.cells (nodeA n A cap) 37)) W → Blk W w.heap.size 37 (nodeA n A cap) := fun W hW => hW.blk hB0 id
  have h70 : (w.alloc (.cells (nodeA n A cap) 37)).cell? ⟨w.heap.size, 7, none⟩ = some (.slice A n.subs.length cap) := hB0.cell 7
  have hpe := isPlain_eq n
  obtain ⟨t, htt⟩ : ∃ t, noneN n = t := ⟨_, rfl⟩
  have hse := fun W : World => eq_set (wd n.set 0) (wd n.set 1) (wd n.set 2) (wd n.set 3) 0 0 0 0 W
  have ht := htt
  unfold noneN at ht
  rw [ht] at hse
  have Ht := hid htt
  have Hpe := hid hpe
  clear htt ht hpe hB0 hrep0
  go_enter Try.func15, Try.ntmps15
  go_wp2_with fail
  go_loopg [3] n.subs.length (fun g i wr => ∃ j : Nat, j + g = n.subs.length ∧ i = .int .i64 j ∧ allPlain (n.subs.drop j) = allPlain n.subs ∧ Fr No (w.alloc (.cells (nodeA n A cap) 37)) wr)
  case atStart => exact ⟨0, by omega, rfl, rfl, Fr.refl _ _⟩
  case round =>
    obtain ⟨j, hj, rfl, hd, hF⟩ := hrel
    have hBr := hcell _ hF
    have h7 : wr.cell? ⟨w.heap.size, 7, none⟩ = some (.slice A n.subs.length cap) := hBr.cell 7
    clear h70
    cases gk with
    | zero =>
      have hd1 : decide (j < n.subs.length) = false := decide_eq_false (by omega)
      have hge : n.subs.length ≤ j := by omega
      have hall : allPlain n.subs = true := by rw [← hd, List.drop_eq_nil_of_le hge]; rfl
      have hset : wr.rangeAt w.heap.size 1 (setA n.set).toList := by
        have := node_set hBr.range
        exact this
      have h0 : wr.cell? ⟨w.heap.size, 0, none⟩ = some (.int .i64 n.kind) := hBr.cell 0
      have h5 : wr.cell? ⟨w.heap.size, 5, none⟩ = some (.int .i64 n.mn) := hBr.cell 5
      have h6 : wr.cell? ⟨w.heap.size, 6, none⟩ = some (.int .i64 n.mx) := hBr.cell 6
      have Hall := hid hall
      clear hd hall hge hj
      go_wp2_with ((with_reducible refine at_load _ ?_); refine wpList_load_rng (ty := 35) (cs := setA n.set) rfl rfl rfl hset Try.underlying35 rfl infoSet ?_; unfold setA)
      all_goals
        go_ret
        refine ⟨congrArg (fun x => Ending.returned (Value.bool x)) ?_, hF0.no hF⟩
        clear h0 h7 h5 h6 hset hse hBr
        rw [Hpe.out, Hall.out, Bool.and_true]
        unfold bareN
        rw [Ht.out]
        first | rfl | (simp_all; done) | (simp_all; omega) | (simp_all; rw [Bool.eq_iff_iff]; simp; done) | (simp_all; rw [Bool.eq_iff_iff]; simp; omega)
    | succ g =>
      obtain ⟨n', hn'⟩ : ∃ n', n.subs[j]? = some n' := ⟨_, List.getElem?_eq_getElem (by omega)⟩
      obtain ⟨b, off, A', cap', rfl, hSb, hltb, hrng, hrep'⟩ := NodesIn.at_ (l := n.subs) (A := A) (cap := cap) (w := wr) (S := S) (hrep.frNo hF) hn'
      rw [Nat.mul_comm 8 j] at hrng
      have hdr := allPlain_drop hn'
      rw [hd] at hdr
      have hd1 : decide (j < n.subs.length) = true := decide_eq_true (by omega)
      have hjL : (j : Int) < (n.subs.length : Int) := by omega
      have hdn := ndepths_get hn'
      have hcall := Hih.out n' (.agg (nodeA n' A' cap')) wr (by omega) ⟨A', cap', rfl, hrep'⟩
      have Hj := hid hj
      have Hdr := hid hdr
      clear hj hdr hn' hd hse
      generalize hip : isPlain n' = ip at *
      cases ip with
      | false =>
        go_wp2_with (first | ((with_reducible refine at_load _ ?_); refine wpList_load_rng (cs := nodeA n' A' cap') rfl rfl rfl hrng Try.underlying37 rfl infoNode ?_) |
          (go_at_call 15; refine hcall.mono ?_; rintro e w2 ⟨rfl, hf2⟩))
        go_ret
        refine ⟨?_, hF0.no (hF.no hf2)⟩
        rw [Hpe.out, Hdr.out]; simp
      | true =>
        go_wp2_with (first | ((with_reducible refine at_load _ ?_); refine wpList_load_rng (cs := nodeA n' A' cap') rfl rfl rfl hrng Try.underlying37 rfl infoNode ?_) |
          (go_at_call 15; refine hcall.mono ?_; rintro e w2 ⟨rfl, hf2⟩))
        go_roundg g
        case measure => omega
        case rel => exact ⟨j + 1, by have := Hj.out; omega, (by first | rfl | exact wrap_succ (by have := Hj.out; have := maxLen_eq; omega)), by rw [Hdr.out]; simp, hF.no hf2⟩
theorem rplain_c (S : Nat → Prop) : ∀ (k : Nat) (n : Nd) (v : Value) (w : World), n.depth ≤ k → NodeIn w S v n → Calls Try.prog 15 #[v] w fun e w' => e = .returned (.bool (isPlain n)) ∧ Fr No w w'
  | 0, n, v, w, hk, _ => by have := n.depth_eq; omega
  | k + 1, n, v, w, hk, hn => rplain_s k n v S w hk hn (hid fun n v w => rplain_c S k n v w)
end Go.Proofs.Ytldmdlkjpdfonaa
