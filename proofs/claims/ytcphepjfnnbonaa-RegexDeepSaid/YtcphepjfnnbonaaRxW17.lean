/- The walk of regex.Same. -/
import Derived.Test.YtcphepjfnnbonaaRxW16
namespace Go.Proofs.Ytcphepjfnnbonaa
set_option linter.unusedVariables false
set_option linter.unusedSimpArgs false
open Go Go.RowKit

set_option maxHeartbeats 4000000 in
theorem eqf_c (k : Nat) (la lb : List Nd) (va vb : Value) (S : Nat → Prop) (w : World) (hk : ndepths la ≤ k) (ha : NodesIn w S va la) (hb : NodesIn w S vb lb)
    (Hih : Hid (∀ (a b : Nd) (va vb : Value) (w : World), a.depth ≤ k → NodeIn w S va a → NodeIn w S vb b → Calls Try.prog 10 #[va, vb] w fun e w' => e = .returned (.bool (a.same b)) ∧ Fr No w w')) :
    Calls Try.prog 20 #[va, vb, .func (.func 10) #[] #[]] w fun e w' => e = .returned (.bool (nsames la lb)) ∧ Fr No w w' := by
  obtain ⟨A, capa, rfl, hca, hma⟩ := ha.sl_inv
  obtain ⟨B, capb, rfl, hcb, hmb⟩ := hb.sl_inv
  by_cases hl : la.length = lb.length
  · have hd : ((la.length : Int) != (lb.length : Int)) = false := by simp [hl]
    have hd0 : (la.length != lb.length) = false := by simp [hl]
    have Hl := hid hl
    clear hl
    go_enter Try.func20, Try.ntmps20
    go_wp2_with fail
    go_loopg [17] la.length (fun g i wr => ∃ j : Nat, j + g = la.length ∧ i = .int .i64 j ∧ Aside (nsames la lb = nsames (la.drop j) (lb.drop j)) ∧ NodesIn wr S (.slice A la.length capa) la ∧ NodesIn wr S (.slice B lb.length capb) lb ∧ Fr No w wr)
    case atStart => exact ⟨0, by omega, rfl, hid rfl, ha, hb, Fr.refl _ _⟩
    case round =>
      obtain ⟨j, hj, rfl, HA, ra, rb, hF⟩ := hrel
      clear ha hb
      cases gk with
      | zero =>
        have hj' : j = la.length := by omega
        have he : nsames la lb = true := by
          have h1 := HA.out
          rw [List.drop_eq_nil_of_le (by omega), List.drop_eq_nil_of_le (by have := Hl.out; omega)] at h1
          exact h1
        have hd : decide (j < la.length) = false := decide_eq_false (by omega)
        have hge : la.length ≤ j := by omega
        have He := hid he
        clear he hj' hj HA
        go_wp2_with fail
        go_ret
        exact ⟨by rw [He.out]; rfl, hF⟩
      | succ g =>
        obtain ⟨x, hx⟩ : ∃ x, la[j]? = some x := ⟨_, List.getElem?_eq_getElem (by omega)⟩
        obtain ⟨y, hy⟩ : ∃ y, lb[j]? = some y := ⟨_, List.getElem?_eq_getElem (by have := Hl.out; omega)⟩
        have hdx : x.depth ≤ k := by have := ndepths_get hx; omega
        have hns := nsames_drop hx hy
        rw [← HA.out] at hns
        obtain ⟨ba, oa, A', ca', rfl, hSa, hla, hra, hrepa⟩ := NodesIn.at_ ra hx
        obtain ⟨bb, ob, B', cb', rfl, hSb, hlb, hrb, hrepb⟩ := NodesIn.at_ rb hy
        rw [Nat.mul_comm 8 j] at hra hrb
        generalize hpa : oa + j * 8 = pa at hra
        generalize hpb : ob + j * 8 = pb at hrb
        have hd : decide (j < la.length) = true := decide_eq_true (by omega)
        have hd2 : (j : Int) < (la.length : Int) := by omega
        have hd3 : (j : Int) < (lb.length : Int) := by have := Hl.out; omega
        have Hns := hid hns
        have Hj := hid hj
        clear hns hx hy HA hj
        generalize hxy : x.same y = t at *
        have Hxy := hid hxy
        clear hxy
        go_wp2_with (first | ((with_reducible refine at_load _ ?_); refine wpList_load_rng (cs := nodeA x A' ca') rfl rfl rfl hra Try.underlying28 rfl infoNode ?_) |
          ((with_reducible refine at_store _ ?_); refine wpList_store_blk (w := wr.alloc _) (cs := nodeA x A' ca') rfl rfl rfl rfl (Blk.new _ _ _) rfl infoNode (nodeA_one _ _ _) ?_; intro W hW hfW hszW; have hFW : Fr (At wr.heap.size) wr W := ((Fr.refl _ wr).alloc _).trans hfW; have hrb' : W.rangeAt bb pb (nodeA y B' cb').toList := (fun i v hv => hFW.cell (Nat.ne_of_lt hlb) (hrb i v hv)); have hBW := Blk.new W 28 #[.int .i64 0, .int .u64 0, .int .u64 0, .int .u64 0, .int .u64 0, .int .i64 0, .int .i64 0, .slice none 0 0]; have hszW' : W.heap.size = wr.heap.size + 1 := (by rw [hszW, World.size_alloc]); rw [hszW'] at hBW; clear hszW) |
          ((with_reducible refine at_load _ ?_); refine wpList_load_rng (cs := nodeA y B' cb') rfl rfl rfl hrb' Try.underlying28 rfl infoNode ?_) |
          ((with_reducible refine at_store _ ?_); refine wpList_store_blk (w := W.alloc _) (cs := nodeA y B' cb') rfl rfl rfl rfl hBW rfl infoNode (nodeA_one _ _ _) ?_; intro W2 hW2 hfW2 hszW2; have hW1 := hfW2.blk (hW.alloc _) (by show ¬ wr.heap.size = wr.heap.size + 1; omega); have hFW2 : Fr No wr W2 := ((hFW.alloc _).call hfW2 (fun k hk e => by have e : k = wr.heap.size + 1 := e; omega)).toNo (fun k hk => Nat.ne_of_lt hk)) |
          ((with_reducible refine at_load _ ?_); refine wpList_load_blk (cs := nodeA x A' ca') rfl rfl rfl hW1 Try.underlying28 rfl infoNode ?_) |
          ((with_reducible refine at_load _ ?_); refine wpList_load_blk (cs := nodeA y B' cb') rfl rfl rfl hW2 Try.underlying28 rfl infoNode ?_))
        refine (Hih.out x y _ _ W2 hdx ⟨A', ca', rfl, hrepa.fr hFW2 (fun _ hk _ => ⟨id, hk⟩)⟩ ⟨B', cb', rfl, hrepb.fr hFW2 (fun _ hk _ => ⟨id, hk⟩)⟩).mono ?_
        rintro e w3 ⟨rfl, hf3⟩
        have hxy := Hxy.out
        have hF3 : Fr No w w3 := (hF.no hFW2).no hf3
        have ra3 := (Rep.frNo ra hFW2).frNo hf3
        have rb3 := (Rep.frNo rb hFW2).frNo hf3
        clear hFW2 hf3 hFW hfW hfW2 hW hW1 hW2 hBW hrb' hra hrb hrepa hrepb hpa hpb hF ra rb hszW' hszW2
        cases t with
        | false =>
          rw [hxy]; clear hxy
          go_wp2_with fail
          go_ret
          exact ⟨by rw [Hns.out]; rfl, hF3⟩
        | true =>
          rw [hxy]; clear hxy
          go_wp2_with fail
          go_roundg g
          case measure => omega
          case rel =>
            have hj1 : j + 1 + g = la.length := by have := Hj.out; omega
            have hjm : wrap64 ((j : Int) + 1) = ((j + 1 : Nat) : Int) := by
              have hmx := maxLen_eq
              unfold wrap64; omega
            refine ⟨j + 1, hj1, by rw [hjm], hid ?_, ra3, rb3, hF3⟩
            rw [Hns.out]; rfl
  · have hd : ((la.length : Int) != (lb.length : Int)) = true := by simp; omega
    have hd0 : (la.length != lb.length) = true := by simp; omega
    have Hl := hid (nsames_len hl)
    clear hl
    go_enter Try.func20, Try.ntmps20
    go_wp2_with fail
    go_ret
    exact ⟨by rw [Hl.out]; rfl, Fr.refl _ _⟩
end Go.Proofs.Ytcphepjfnnbonaa
