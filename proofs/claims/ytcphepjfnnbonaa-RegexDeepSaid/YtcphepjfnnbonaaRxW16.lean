/- The walk of regex.Depth. -/
import Derived.Test.YtcphepjfnnbonaaRxW12
import Derived.Test.YtcphepjfnnbonaaNd
namespace Go.Proofs.Ytcphepjfnnbonaa
set_option linter.unusedVariables false
set_option linter.unusedSimpArgs false
open Go Go.RowKit

theorem maxLen_eq : maxLen = 9223372036854775807 := by decide
set_option maxHeartbeats 1600000 in
theorem depth_c : ∀ (k : Nat) (n : Nd) (v : Value) (S : Nat → Prop) (w : World), n.depth ≤ k → k < 1099511627776 → NodeIn w S v n →
    Calls Try.prog 12 #[v] w fun e w' => e = .returned (.int .i64 n.depth) ∧ Fr No w w'
  | 0, n, v, S, w, hk, _, _ => by have := n.depth_eq; omega
  | k + 1, n, v, S, w, hk, hb, hn => by
    obtain ⟨A, cap, rfl, hrep⟩ := hn
    have Hih := hid (fun (n' : Nd) (v' : Value) (w' : World) (h : n'.depth ≤ k) (hn' : NodeIn w' S v' n') => depth_c k n' v' S w' h (by omega) hn')
    have hde := n.depth_eq
    have hcap : n.subs.length ≤ cap ∧ cap ≤ maxLen := by
      obtain ⟨A2, c2, heq, h1, h2⟩ := hrep.sl_inv
      injection heq with e1 e2 e3
      omega
    have hB0 := Blk.new w 28 (nodeA n A cap)
    have hF0 : Fr No w _ := (Fr.refl No w).alloc (.cells (nodeA n A cap) 28)
    have hrep0 := hrep.alloc (.cells (nodeA n A cap) 28)
    have hz7 : (w.alloc (.cells (nodeA n A cap) 28)).cell? ⟨w.heap.size, 7, none⟩ = some (.slice A n.subs.length cap) := hB0.cell 7
    have hf7 := hB0.frozen 7
    generalize hL : n.subs.length = L at *
    have HL := hid hL
    have Hde := hid hde
    clear hL hde
    unfold nodeA at *
    go_enter Try.func12, Try.ntmps12
    go_wp2_with fail
    go_loopg [3, 9] L (fun g d i wr => ∃ j : Nat, j + g = L ∧ i = .int .i64 j ∧ d = .int .i64 (ndepths (n.subs.take j)) ∧ Rep wr S (.slice A L cap) (.sl 28 L (encNs n.subs)) ∧ Fr No w wr)
    case atStart => exact ⟨0, by omega, rfl, rfl, hrep0, hF0⟩
    case round =>
      obtain ⟨j, hj, rfl, rfl, hrepR, hFR⟩ := hrel
      clear hz7 hf7 hB0 hF0 hrep0 hrep
      cases gk with
      | zero =>
        have hd : decide (j < L) = false := decide_eq_false (by omega)
        have hge : L ≤ j := by omega
        have hj' : j = n.subs.length := by rw [HL.out]; omega
        have he : n.depth = ndepths (n.subs.take j) + 1 := by rw [hj', List.take_length]; exact Hde.out
        have hlt : ndepths (n.subs.take j) < 1099511627776 := by omega
        have He := hid he
        clear he hj' hj hrepR HL Hih Hde hcap hk
        clear hb
        generalize ndepths (n.subs.take j) = M at *
        go_wp2_with fail
        go_ret
        exact ⟨by rw [He.out]; rfl, hFR⟩
      | succ g =>
        have hd : decide (j < L) = true := decide_eq_true (by omega)
        obtain ⟨n', hn'⟩ : ∃ n', n.subs[j]? = some n' := ⟨_, List.getElem?_eq_getElem (by rw [HL.out]; omega)⟩
        have hgd := ndepths_get hn'
        have hdn : n'.depth ≤ k := by have := Hde.out; omega
        have hta := hid (ndepths_take hn')
        have hat := NodesIn.at_ (l := n.subs) (A := A) (cap := cap) (w := wr) (S := S) (by show Rep _ _ _ (.sl _ n.subs.length _); rw [HL.out]; exact hrepR) hn'
        obtain ⟨b, off, A', cap', rfl, hSb, hltb, hrng, hrep'⟩ := hat
        rw [Nat.mul_comm 8 j] at hrng
        have hjL : (j : Int) < (L : Int) := by omega
        have Hj := hid hj
        clear hj
        have hh := hid hn'
        clear hn'
        go_wp2_with (first | ((with_reducible refine at_load _ ?_); refine wpList_load_rng (cs := nodeA n' A' cap') rfl rfl rfl hrng Try.underlying28 rfl infoNode ?_) |
          ((with_reducible refine at_store _ ?_); refine wpList_store_blk (cs := nodeA n' A' cap') rfl rfl rfl rfl (Blk.new _ _ _) rfl infoNode (nodeA_one _ _ _) ?_; intro W hW hfW _) |
          ((with_reducible refine at_load _ ?_); refine wpList_load_blk (cs := nodeA n' A' cap') rfl rfl rfl hW Try.underlying28 rfl infoNode ?_) |
          (go_at_call 12; refine (Hih.out n' _ _ hdn ⟨A', cap', rfl, hrep'.fr (((Fr.refl (At wr.heap.size) wr).alloc _).trans hfW) (fun k hk hkl => ⟨Nat.ne_of_lt hkl, hk⟩)⟩).mono ?_; rintro e w2 ⟨rfl, hf2⟩))
        go_roundg g
        case measure => omega
        case rel =>
         
          have hj1 : j + 1 + g = L := by have := Hj.out; omega
          have hd1 : ((max (ndepths (n.subs.take j)) n'.depth : Nat) : Int) = max (ndepths (n.subs.take j) : Int) n'.depth := by omega
          have hws : w.heap.size ≤ wr.heap.size := hFR.size
          have hjm : wrap64 ((j : Int) + 1) = ((j + 1 : Nat) : Int) := by
            have hmx := maxLen_eq
            unfold wrap64; omega
          exact ⟨j + 1, hj1, by rw [hjm], by rw [hta.out, hd1], (hrepR.fr (((Fr.refl (At wr.heap.size) wr).alloc _).trans hfW) (fun k hk hkl => ⟨Nat.ne_of_lt hkl, hk⟩)).frNo hf2, ((hFR.alloc _).callAt hfW hws).no hf2⟩
end Go.Proofs.Ytcphepjfnnbonaa
