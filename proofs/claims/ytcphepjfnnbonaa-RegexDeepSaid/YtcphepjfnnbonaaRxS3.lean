/- The walk of sieveref07.Same. -/
import Derived.Test.YtcphepjfnnbonaaRxW16
import Derived.Test.YtcphepjfnnbonaaSetEq
namespace Go.Proofs.Ytcphepjfnnbonaa
set_option linter.unusedVariables false
set_option linter.unusedSimpArgs false
open Go Go.RowKit

theorem nodeA_set (n : Nd) (A : Option Addr) (cap g : Nat) {W : World} (hb : Blk W g 28 (nodeA n A cap)) : W.rangeAt g 1 (setA n.set).toList := fun j v hv => by
  refine (hb.cell (1 + j)).trans ?_
  rcases j with _ | _ | _ | _ | j
  all_goals first | exact hv | (simp [setA] at hv)
set_option maxHeartbeats 4000000 in
theorem rsame_s (k : Nat) (a b : Nd) (va vb : Value) (S : Nat → Prop) (w : World) (hk : a.depth ≤ k + 1) (ha : NodeIn w S va a) (hb : NodeIn w S vb b)
    (Hih : Hid (∀ (a b : Nd) (va vb : Value) (w : World), a.depth ≤ k → NodeIn w S va a → NodeIn w S vb b → Calls Try.prog 11 #[va, vb] w fun e w' => e = .returned (.bool (a.same b)) ∧ Fr No w w')) :
    Calls Try.prog 11 #[va, vb] w fun e w' => e = .returned (.bool (a.same b)) ∧ Fr No w w' := by
  obtain ⟨A, capa, rfl, ra⟩ := ha
  obtain ⟨B, capb, rfl, rb⟩ := hb
  have hcapa : a.subs.length ≤ capa ∧ capa ≤ maxLen := by
    obtain ⟨A2, c2, heq, h1, h2⟩ := ra.sl_inv
    injection heq with e1 e2 e3
    omega
  have hcapb : b.subs.length ≤ capb ∧ capb ≤ maxLen := by
    obtain ⟨A2, c2, heq, h1, h2⟩ := rb.sl_inv
    injection heq with e1 e2 e3
    omega
  have b0 := (Blk.new w 28 (nodeA a A capa)).alloc (.cells (nodeA b B capb) 28)
  have b1 := Blk.new (w.alloc (.cells (nodeA a A capa) 28)) 28 (nodeA b B capb)
  have ra1 := (ra.alloc (.cells (nodeA a A capa) 28)).alloc (.cells (nodeA b B capb) 28)
  have rb1 := (rb.alloc (.cells (nodeA a A capa) 28)).alloc (.cells (nodeA b B capb) 28)
  have hF1 : Fr No w _ := ((Fr.refl No w).alloc (.cells (nodeA a A capa) 28)).alloc (.cells (nodeA b B capb) 28)
  rw [World.size_alloc] at b1
  have sa := nodeA_set _ _ _ _ b0
  have sb := nodeA_set _ _ _ _ b1
  have hsame := a.same_eq b
  have hdep := a.depth_eq
  have hse := fun W : World => eq_set (wd a.set 0) (wd a.set 1) (wd a.set 2) (wd a.set 3) (wd b.set 0) (wd b.set 1) (wd b.set 2) (wd b.set 3) W
  generalize hRes : a.same b = res at *
  have hl5 : (a.subs.length == b.subs.length) = false → nsames a.subs b.subs = false := fun h => nsames_len (by simpa using h)
  have hl6 : (a.subs.length == b.subs.length) = true → a.subs.length = b.subs.length := fun h => by simpa using h
  unfold nodeA at *
  generalize hLa : a.subs.length = La at *
  generalize hLb : b.subs.length = Lb at *
  have HLa := hid hLa
  have HLb := hid hLb
  clear hLa hLb hRes
  unfold sameHead at hsame
  generalize h1 : (a.kind == b.kind) = t1 at *
  generalize h2 : (wd a.set 0 == wd b.set 0 && wd a.set 1 == wd b.set 1 && wd a.set 2 == wd b.set 2 && wd a.set 3 == wd b.set 3) = t2 at *
  generalize h3 : (a.mn == b.mn) = t3 at *
  generalize h4 : (a.mx == b.mx) = t4 at *
  generalize h5 : (La == Lb) = t5 at *
  have g1 : (a.kind != b.kind) = !t1 := by rw [← h1]; rfl
  have g3 : (a.mn != b.mn) = !t3 := by rw [← h3]; rfl
  have g4 : (a.mx != b.mx) = !t4 := by rw [← h4]; rfl
  have g5 : (La != Lb) = !t5 := by rw [← h5]; rfl
  have g5' : ((La : Int) != (Lb : Int)) = !t5 := by rw [← h5, bne, Bool.not_inj_iff, Bool.eq_iff_iff]; simp; omega
  have Hdep := hid hdep
  have Hk := hid hk
  have Hl5 := hid hl5
  have Hl6 := hid hl6
  have Hsame := hid hsame
  clear hsame hdep hk hl5 hl6
  have a0 := b0.cell 0
  have a5 := b0.cell 5
  have a6 := b0.cell 6
  have a7 := b0.cell 7
  have c0 := b1.cell 0
  have c5 := b1.cell 5
  have c6 := b1.cell 6
  have c7 := b1.cell 7
  have za := fun i => b0.frozen i
  have zb := fun i => b1.frozen i
  have B0 := hid b0
  have B1 := hid b1
  clear b0 b1
  have Ra := hid ra1
  have Rb := hid rb1
  clear ra rb ra1 rb1
  cases t1 with
  | false =>
    have hres : res = false := by rw [Hsame.out]; simp
    have Hres := hid hres
    clear hres
    go_enter Try.func11, Try.ntmps11
    go_wp2_with (first | ((with_reducible refine at_load _ ?_); refine wpList_load_rng (ty := 25) (cs := setA a.set) rfl rfl rfl sa Try.underlying25 rfl infoSet ?_; unfold setA) | ((with_reducible refine at_load _ ?_); refine wpList_load_rng (ty := 25) (cs := setA b.set) rfl rfl rfl sb Try.underlying25 rfl infoSet ?_; unfold setA))
    go_ret
    exact ⟨by rw [Hres.out]; rfl, hF1⟩
  | true =>
    cases t2 with
    | false =>
      have hres : res = false := by rw [Hsame.out]; simp
      have Hres := hid hres
      clear hres
      go_enter Try.func11, Try.ntmps11
      go_wp2_with (first | ((with_reducible refine at_load _ ?_); refine wpList_load_rng (ty := 25) (cs := setA a.set) rfl rfl rfl sa Try.underlying25 rfl infoSet ?_; unfold setA) | ((with_reducible refine at_load _ ?_); refine wpList_load_rng (ty := 25) (cs := setA b.set) rfl rfl rfl sb Try.underlying25 rfl infoSet ?_; unfold setA))
      go_ret
      exact ⟨by rw [Hres.out]; rfl, hF1⟩
    | true =>
      cases t3 with
      | false =>
        have hres : res = false := by rw [Hsame.out]; simp
        have Hres := hid hres
        clear hres
        go_enter Try.func11, Try.ntmps11
        go_wp2_with (first | ((with_reducible refine at_load _ ?_); refine wpList_load_rng (ty := 25) (cs := setA a.set) rfl rfl rfl sa Try.underlying25 rfl infoSet ?_; unfold setA) | ((with_reducible refine at_load _ ?_); refine wpList_load_rng (ty := 25) (cs := setA b.set) rfl rfl rfl sb Try.underlying25 rfl infoSet ?_; unfold setA))
        go_ret
        exact ⟨by rw [Hres.out]; rfl, hF1⟩
      | true =>
        cases t4 with
        | false =>
          have hres : res = false := by rw [Hsame.out]; simp
          have Hres := hid hres
          clear hres
          go_enter Try.func11, Try.ntmps11
          go_wp2_with (first | ((with_reducible refine at_load _ ?_); refine wpList_load_rng (ty := 25) (cs := setA a.set) rfl rfl rfl sa Try.underlying25 rfl infoSet ?_; unfold setA) | ((with_reducible refine at_load _ ?_); refine wpList_load_rng (ty := 25) (cs := setA b.set) rfl rfl rfl sb Try.underlying25 rfl infoSet ?_; unfold setA))
          go_ret
          exact ⟨by rw [Hres.out]; rfl, hF1⟩
        | true =>
          cases t5 with
          | false =>
            have hres : res = false := by rw [Hsame.out, Hl5.out rfl]; simp
            have Hres := hid hres
            clear hres
            go_enter Try.func11, Try.ntmps11
            go_wp2_with (first | ((with_reducible refine at_load _ ?_); refine wpList_load_rng (ty := 25) (cs := setA a.set) rfl rfl rfl sa Try.underlying25 rfl infoSet ?_; unfold setA) | ((with_reducible refine at_load _ ?_); refine wpList_load_rng (ty := 25) (cs := setA b.set) rfl rfl rfl sb Try.underlying25 rfl infoSet ?_; unfold setA))
            go_ret
            exact ⟨by rw [Hres.out]; rfl, hF1⟩
          | true =>
            have hres : res = nsames a.subs b.subs := by rw [Hsame.out]; simp
            have Hres := hid hres
            have hLe := Hl6.out rfl
            subst hLe
            clear hres
            go_enter Try.func11, Try.ntmps11
            go_wp2_with (first | ((with_reducible refine at_load _ ?_); refine wpList_load_rng (ty := 25) (cs := setA a.set) rfl rfl rfl sa Try.underlying25 rfl infoSet ?_; unfold setA) | ((with_reducible refine at_load _ ?_); refine wpList_load_rng (ty := 25) (cs := setA b.set) rfl rfl rfl sb Try.underlying25 rfl infoSet ?_; unfold setA))
            clear a0 a5 a6 c0 c5 c6 za zb sa sb hse
            go_loopg [5] La (fun g i wr => ∃ j : Nat, j + g = La ∧ i = .int .i64 j ∧ Aside (res = nsames (a.subs.drop j) (b.subs.drop j)) ∧ wr.cell? ⟨w.heap.size, 7, none⟩ = some (.slice A La capa) ∧ wr.cell? ⟨w.heap.size + 1, 7, none⟩ = some (.slice B La capb) ∧ Rep wr S (.slice A La capa) (.sl 28 La (encNs a.subs)) ∧ Rep wr S (.slice B La capb) (.sl 28 La (encNs b.subs)) ∧ Fr No w wr)
            case atStart => exact ⟨0, by omega, rfl, hid Hres.out, a7, c7, Ra.out, Rb.out, hF1⟩
            case round =>
              obtain ⟨j, hj, rfl, HA, ca7, cb7, ra, rb, hF⟩ := hrel
              clear a7 c7 hF1
              cases gk with
              | zero =>
                have hd : decide (j < La) = false := decide_eq_false (by omega)
                have hge : La ≤ j := by omega
                have he : res = true := by
                  have h1 := HA.out
                  rw [List.drop_eq_nil_of_le (by rw [HLa.out]; omega), List.drop_eq_nil_of_le (by rw [HLb.out]; omega)] at h1
                  exact h1
                have He := hid he
                clear he hj HA
                go_wp2_with fail
                go_ret
                exact ⟨by rw [He.out]; rfl, hF⟩
              | succ g =>
                obtain ⟨x, hx⟩ : ∃ x, a.subs[j]? = some x := ⟨_, List.getElem?_eq_getElem (by rw [HLa.out]; omega)⟩
                obtain ⟨y, hy⟩ : ∃ y, b.subs[j]? = some y := ⟨_, List.getElem?_eq_getElem (by rw [HLb.out]; omega)⟩
                have hdx : x.depth ≤ k := by have := ndepths_get hx; have := Hdep.out; have := Hk.out; omega
                have hns := nsames_drop hx hy
                rw [← HA.out] at hns
                obtain ⟨ba, oa, A', ca', rfl, hSa, hla, hra, hrepa⟩ := NodesIn.at_ (l := a.subs) (A := A) (cap := capa) (w := wr) (S := S) (by show Rep _ _ _ (.sl _ a.subs.length _); rw [HLa.out]; exact ra) hx
                obtain ⟨bb, ob, B', cb', rfl, hSb, hlb, hrb, hrepb⟩ := NodesIn.at_ (l := b.subs) (A := B) (cap := capb) (w := wr) (S := S) (by show Rep _ _ _ (.sl _ b.subs.length _); rw [HLb.out]; exact rb) hy
                rw [Nat.mul_comm 8 j] at hra hrb
                generalize hpa : oa + j * 8 = pa at hra
                generalize hpb : ob + j * 8 = pb at hrb
                have hd : decide (j < La) = true := decide_eq_true (by omega)
                have hd2 : (j : Int) < (La : Int) := by omega
                have Hns := hid hns
                have Hj := hid hj
                clear hns hx hy HA hj
                generalize hxy : x.same y = t at *
                have Hxy := hid hxy
                clear hxy
                go_wp2_with fail
                refine wp_region_tail 10 (fun W => W.cell? ⟨w.heap.size, 7, none⟩ = some (.slice (some ⟨ba, oa, none⟩) La capa) ∧ W.cell? ⟨w.heap.size + 1, 7, none⟩ = some (.slice (some ⟨bb, ob, none⟩) La capb) ∧ W.rangeAt ba pa (nodeA x A' ca').toList ∧ W.rangeAt bb pb (nodeA y B' cb').toList) (by kernel_rfl) (by kernel_rfl) ?_
                simp only [List.take_succ_cons, List.take_zero, List.drop_succ_cons, List.drop_zero]
                have hS : (fun W : World => W.cell? ⟨w.heap.size, 7, none⟩ = some (.slice (some ⟨ba, oa, none⟩) La capa) ∧ W.cell? ⟨w.heap.size + 1, 7, none⟩ = some (.slice (some ⟨bb, ob, none⟩) La capb) ∧ W.rangeAt ba pa (nodeA x A' ca').toList ∧ W.rangeAt bb pb (nodeA y B' cb').toList) wr.drew := ⟨ca7, cb7, hra, hrb⟩
                refine Rt.take (i := 0) (v := (.pointer (some ⟨w.heap.size, 7, none⟩))) rfl (by kernel_rfl) (fun _ _ _ h => h) (.inl ⟨rfl, fun w hSw => by (try dsimp only at hSw); go_simp⟩) (by assumption) ?_
                try simp only [Act.put, List.getElem_toArray, List.getElem_cons_succ, List.getElem_cons_zero, List.setIfInBounds_toArray, List.set_cons_zero, List.set_cons_succ]
                refine Rt.take (i := 1) (v := (.slice (some ⟨ba, oa, none⟩) La capa)) rfl (by kernel_rfl) (fun _ _ _ h => h) (.inl ⟨rfl, fun w hSw => by (try dsimp only at hSw); go_simp⟩) (by assumption) ?_
                try simp only [Act.put, List.getElem_toArray, List.getElem_cons_succ, List.getElem_cons_zero, List.setIfInBounds_toArray, List.set_cons_zero, List.set_cons_succ]
                refine Rt.take (i := 2) (v := (.int .i64 j)) rfl (by kernel_rfl) (fun _ _ _ h => h) (.inl ⟨rfl, fun w hSw => by (try dsimp only at hSw); go_simp⟩) (by assumption) ?_
                try simp only [Act.put, List.getElem_toArray, List.getElem_cons_succ, List.getElem_cons_zero, List.setIfInBounds_toArray, List.set_cons_zero, List.set_cons_succ]
                refine Rt.take (i := 3) (v := (.pointer (some ⟨ba, pa, none⟩))) rfl (by kernel_rfl) (fun _ _ _ h => h) (.inl ⟨rfl, fun w hSw => by (try dsimp only at hSw); go_simp⟩) (by assumption) ?_
                try simp only [Act.put, List.getElem_toArray, List.getElem_cons_succ, List.getElem_cons_zero, List.setIfInBounds_toArray, List.set_cons_zero, List.set_cons_succ]
                refine Rt.take (i := 4) rfl (by kernel_rfl) (fun _ _ _ h => h) (YieldsIf.load rfl rfl rfl (fun W hW => hW.2.2.1) Try.underlying28 rfl infoNode) (by assumption) ?_
                try simp only [Act.put, List.getElem_toArray, List.getElem_cons_succ, List.getElem_cons_zero, List.setIfInBounds_toArray, List.set_cons_zero, List.set_cons_succ]
                refine Rt.take (i := 5) (v := (.pointer (some ⟨w.heap.size + 1, 7, none⟩))) rfl (by kernel_rfl) (fun _ _ _ h => h) (.inl ⟨rfl, fun w hSw => by (try dsimp only at hSw); go_simp⟩) (by assumption) ?_
                try simp only [Act.put, List.getElem_toArray, List.getElem_cons_succ, List.getElem_cons_zero, List.setIfInBounds_toArray, List.set_cons_zero, List.set_cons_succ]
                refine Rt.take (i := 6) (v := (.slice (some ⟨bb, ob, none⟩) La capb)) rfl (by kernel_rfl) (fun _ _ _ h => h) (.inl ⟨rfl, fun w hSw => by (try dsimp only at hSw); go_simp⟩) (by assumption) ?_
                try simp only [Act.put, List.getElem_toArray, List.getElem_cons_succ, List.getElem_cons_zero, List.setIfInBounds_toArray, List.set_cons_zero, List.set_cons_succ]
                refine Rt.take (i := 7) (v := (.int .i64 j)) rfl (by kernel_rfl) (fun _ _ _ h => h) (.inl ⟨rfl, fun w hSw => by (try dsimp only at hSw); go_simp⟩) (by assumption) ?_
                try simp only [Act.put, List.getElem_toArray, List.getElem_cons_succ, List.getElem_cons_zero, List.setIfInBounds_toArray, List.set_cons_zero, List.set_cons_succ]
                refine Rt.take (i := 8) (v := (.pointer (some ⟨bb, pb, none⟩))) rfl (by kernel_rfl) (fun _ _ _ h => h) (.inl ⟨rfl, fun w hSw => by (try dsimp only at hSw); go_simp⟩) (by assumption) ?_
                try simp only [Act.put, List.getElem_toArray, List.getElem_cons_succ, List.getElem_cons_zero, List.setIfInBounds_toArray, List.set_cons_zero, List.set_cons_succ]
                refine Rt.take (i := 9) rfl (by kernel_rfl) (fun _ _ _ h => h) (YieldsIf.load rfl rfl rfl (fun W hW => hW.2.2.2) Try.underlying28 rfl infoNode) (by assumption) ?_
                try simp only [Act.put, List.getElem_toArray, List.getElem_cons_succ, List.getElem_cons_zero, List.setIfInBounds_toArray, List.set_cons_zero, List.set_cons_succ]
                refine Rt.done (by kernel_rfl) ?_
                go_wp2_with fail
                refine (Hih.out x y _ _ wr.drew hdx ⟨A', ca', rfl, hrepa.drew⟩ ⟨B', cb', rfl, hrepb.drew⟩).mono ?_
                rintro e w3 ⟨rfl, hf3⟩
                have hxy := Hxy.out
                have hF3 : Fr No w w3 := hF.drew.no hf3
                have ra3 := ra.drew.frNo hf3
                have rb3 := rb.drew.frNo hf3
                have ca3 := hf3.cell id (p := ⟨w.heap.size, 7, none⟩) ca7
                have cb3 := hf3.cell id (p := ⟨w.heap.size + 1, 7, none⟩) cb7
                clear hf3 hra hrb hrepa hrepb hpa hpb hF ra rb ca7 cb7 hS
                cases t with
                | false =>
                  rw [hxy]; clear hxy
                  go_wp2_with fail
                  go_ret
                  exact ⟨by rw [Hns.out]; rfl, hF3⟩
                | true =>
                  rw [hxy]; clear hxy
                  go_wp2_with fail
                  go_roundg g
                  case measure => omega
                  case rel =>
                    have hj1 : j + 1 + g = La := by have := Hj.out; omega
                    have hjm : wrap64 ((j : Int) + 1) = ((j + 1 : Nat) : Int) := by
                      have hmx := maxLen_eq
                      unfold wrap64; omega
                    refine ⟨j + 1, hj1, by rw [hjm], hid ?_, ca3, cb3, ra3, rb3, hF3⟩
                    rw [Hns.out]; rfl
theorem rsame_c (S : Nat → Prop) : ∀ (k : Nat) (a b : Nd) (va vb : Value) (w : World), a.depth ≤ k → NodeIn w S va a → NodeIn w S vb b → Calls Try.prog 11 #[va, vb] w fun e w' => e = .returned (.bool (a.same b)) ∧ Fr No w w'
  | 0, a, b, va, vb, w, hk, _, _ => by have := a.depth_eq; omega
  | k + 1, a, b, va, vb, w, hk, ha, hb => rsame_s k a b va vb S w hk ha hb (hid fun a b va vb w => rsame_c S k a b va vb w)
end Go.Proofs.Ytcphepjfnnbonaa
