/- An argument of type api.Node, read in any world, is an expression in the sense of NodeIn. No condition. -/
import Derived.Test.YtldmdlkjpdfonaaNode
import Derived.DataReads
import Derived.OpenShut
import GoSem.ClaimChange
namespace Go.Proofs.Ytldmdlkjpdfonaa
set_option linter.unusedVariables false
set_option linter.unusedSimpArgs false
open Go Go.RowKit

theorem wd_four (z0 z1 z2 z3 : Nat) (h0 : z0 < 18446744073709551616) (h1 : z1 < 18446744073709551616) (h2 : z2 < 18446744073709551616) (h3 : z3 < 18446744073709551616) :
    ∃ s : Nat, wd s 0 = z0 ∧ wd s 1 = z1 ∧ wd s 2 = z2 ∧ wd s 3 = z3 := by
  refine ⟨z0 + 18446744073709551616 * (z1 + 18446744073709551616 * (z2 + 18446744073709551616 * z3)), ?_, ?_, ?_, ?_⟩
  all_goals
    unfold wd
    congr 1
    simp only [Nat.reduceMul, Nat.reducePow]
    omega
section
variable {H : Type} {enc : TypeId × Value → H} {W : World} {spare : Nat → Bool} {held : Bool}

theorem u64_nat {z : Int} (h : (Lit.int .u64 z).wf = true) : ∃ n : Nat, z = n ∧ n < 18446744073709551616 := by
  have := bounds_u64 h
  exact ⟨z.toNat, by omega, by omega⟩
theorem eight {cs : List Value} (h : cs.length = 8) : ∃ c0 c1 c2 c3 c4 c5 c6 c7, cs = [c0, c1, c2, c3, c4, c5, c6, c7] := by
  match cs, h with
  | [c0, c1, c2, c3, c4, c5, c6, c7], _ => exact ⟨c0, c1, c2, c3, c4, c5, c6, c7, rfl⟩
theorem cells_heap {a : Addr} {v : Value} (h : W.cell? a = some v) : ∃ cur e fz, W.heap[a.block]? = some (.cells cur e fz) ∧ a.spot = none := by
  unfold World.cell? at h
  split at h
  · rename_i c e fz hc
    split at h
    · cases h
    · rename_i hs
      exact ⟨c, e, fz, hc, by simpa using hs⟩
  · cases h
theorem open_rows {f : Nat} (ih : ∀ (cs : List Value) (x : DataW H × List MemPlace), DataW.trod enc Try.prog W 0 spare held f 37 cs = some x → ∃ n A cap, cs = (nodeA n A cap).toList ∧ Rep W (fun k => k < W.heap.size) (.slice A n.subs.length cap) (.sl 37 n.subs.length (encNs n.subs)))
    {b off : Nat} {cur : Array Value} {e : TypeId} {fz : Nat × Nat} (hb : W.heap[b]? = some (.cells cur e fz)) :
    ∀ len : Nat, (∀ i, i < len → ∃ cs x, W.cells? 0 ⟨b, off + i * 8, none⟩ 8 = some cs ∧ DataW.trod enc Try.prog W 0 spare held f 37 cs = some x) →
      ∃ l : List Nd, l.length = len ∧ Reps W (fun k => k < W.heap.size) ((cur.toList.drop off).take (8 * len)) (encNs l)
  | 0, _ => ⟨[], rfl, by simp only [Nat.mul_zero, List.take_zero, encNs]; exact .nil⟩
  | len + 1, h => by
    obtain ⟨l, hl, hr⟩ := open_rows ih hb len fun i hi => h i (by omega)
    obtain ⟨cs, x, hcs, hx⟩ := h len (by omega)
    obtain ⟨n, A, cap, rfl, hrep⟩ := ih _ _ hx
    obtain ⟨_, hlen, hget⟩ := World.cells?_some hcs
    refine ⟨l ++ [n], by simp [hl], ?_⟩
    rw [show 8 * (len + 1) = 8 * len + 8 by omega, List.take_add, encNs_append, encNs_one]
    refine hr.append ?_
    have he : (((cur.toList.drop off).drop (8 * len)).take 8) = (nodeA n A cap).toList := by
      apply List.ext_getElem?
      intro j
      rcases Nat.lt_or_ge j 8 with hj | hj
      · have h1 := hget j hj
        rw [show (⟨b, off + len * 8, none⟩ : Addr).add j = ⟨b, off + len * 8 + j, none⟩ from Addr.add_mid _ _ _, cell_of_row W b _ cur _ fz hb] at h1
        rw [List.getElem?_take_of_lt hj, List.getElem?_drop, List.getElem?_drop, ← h1, Array.getElem?_toList]
        congr 1
        omega
      · rw [List.getElem?_eq_none (by simp; omega), List.getElem?_eq_none (by rw [hlen]; exact hj)]
    rw [he]
    exact NodeIn.cells hrep
set_option maxRecDepth 100000 in
theorem open_node : ∀ (k fuel : Nat), fuel ≤ k → ∀ (cs : List Value) (x : DataW H × List MemPlace), DataW.trod enc Try.prog W 0 spare held fuel 37 cs = some x →
    ∃ n A cap, cs = (nodeA n A cap).toList ∧ Rep W (fun k => k < W.heap.size) (.slice A n.subs.length cap) (.sl 37 n.subs.length (encNs n.subs))
  | 0, fuel, hk, cs, x, h => by
    obtain ⟨xs, m, hm, _⟩ := DataW.trod_struct Try.underlying37 h
    omega
  | k + 1, fuel, hk, cs, x, h => by
    obtain ⟨xs, m, rfl, rfl, hlen, hxs, hf⟩ := DataW.trod_struct Try.underlying37 h
    have hlen' : cs.length = 8 := hlen.trans (by kernel_rfl)
    have hxs' : xs.length = 5 := hxs
    obtain ⟨c0, c1, c2, c3, c4, c5, c6, c7, rfl⟩ := eight hlen'
    have c3' : Try.prog.cellsOf 3 = 1 := by kernel_rfl
    have c25' : Try.prog.cellsOf 35 = 4 := by kernel_rfl
    have c1' : Try.prog.cellsOf 33 = 1 := by kernel_rfl
    have c26' : Try.prog.cellsOf 22 = 1 := by kernel_rfl
    have c28' : Try.prog.cellsOf 37 = 8 := by kernel_rfl
    have f0 : DataW.trod enc Try.prog W 0 spare held m 3 (([c0, c1, c2, c3, c4, c5, c6, c7].drop 0).take (Try.prog.cellsOf 3)) = xs[0]? := hf 0 _ rfl
    have f1 : DataW.trod enc Try.prog W 0 spare held m 35 (([c0, c1, c2, c3, c4, c5, c6, c7].drop 1).take (Try.prog.cellsOf 35)) = xs[1]? := hf 1 _ rfl
    have f2 : DataW.trod enc Try.prog W 0 spare held m 3 (([c0, c1, c2, c3, c4, c5, c6, c7].drop 5).take (Try.prog.cellsOf 3)) = xs[2]? := hf 2 _ rfl
    have f3 : DataW.trod enc Try.prog W 0 spare held m 3 (([c0, c1, c2, c3, c4, c5, c6, c7].drop 6).take (Try.prog.cellsOf 3)) = xs[3]? := hf 3 _ rfl
    have f4 : DataW.trod enc Try.prog W 0 spare held m 22 (([c0, c1, c2, c3, c4, c5, c6, c7].drop 7).take (Try.prog.cellsOf 22)) = xs[4]? := hf 4 _ rfl
    clear hf
    rw [c3'] at f0 f2 f3
    rw [c25'] at f1
    rw [c26'] at f4
    simp only [List.drop_succ_cons, List.drop_zero, List.take_succ_cons, List.take_zero] at f0 f1 f2 f3 f4
    rw [List.getElem?_eq_getElem (by omega)] at f0 f1 f2 f3 f4
    obtain ⟨k0, e0, _, _⟩ := DataW.trod_int Try.underlying3 f0
    obtain ⟨k2, e2, _, _⟩ := DataW.trod_int Try.underlying3 f2
    obtain ⟨k3, e3, _, _⟩ := DataW.trod_int Try.underlying3 f3
    obtain ⟨ys, m1, rfl, _, _, hys, hg⟩ := DataW.trod_array Try.underlying35 f1
    have g0 := hg 0 (by omega)
    have g1 := hg 1 (by omega)
    have g2 := hg 2 (by omega)
    have g3 := hg 3 (by omega)
    clear hg
    simp only [c1', Nat.zero_mul, Nat.one_mul, Nat.mul_one, List.drop_succ_cons, List.drop_zero, List.take_succ_cons, List.take_zero] at g0 g1 g2 g3
    rw [List.getElem?_eq_getElem (by omega)] at g0 g1 g2 g3
    obtain ⟨z0, i0, _, w0⟩ := DataW.trod_int Try.underlying33 g0
    obtain ⟨z1, i1, _, w1⟩ := DataW.trod_int Try.underlying33 g1
    obtain ⟨z2, i2, _, w2⟩ := DataW.trod_int Try.underlying33 g2
    obtain ⟨z3, i3, _, w3⟩ := DataW.trod_int Try.underlying33 g3
    injection e0 with e0; injection e2 with e2; injection e3 with e3; injection i0 with i0; injection i1 with i1; injection i2 with i2; injection i3 with i3
    subst e0 e2 e3 i0 i1 i2 i3
    obtain ⟨n0, rfl, l0⟩ := u64_nat w0
    obtain ⟨n1, rfl, l1⟩ := u64_nat w1
    obtain ⟨n2, rfl, l2⟩ := u64_nat w2
    obtain ⟨n3, rfl, l3⟩ := u64_nat w3
    obtain ⟨s, s0, s1, s2, s3⟩ := wd_four n0 n1 n2 n3 l0 l1 l2 l3
    rcases DataW.trod_slice Try.underlying22 f4 with ⟨h0, _⟩ | ⟨a, len, cap, elems, rest, m2, hm2, h0, _, hb, hle, hmx, hel, hat, _, _⟩
    · injection h0 with h0
      subst h0
      refine ⟨.mk k0 s k2 k3 [], none, 0, ?_, ?_⟩
      · simp only [nodeA, Nd.kind, Nd.set, Nd.mn, Nd.mx, Nd.subs, s0, s1, s2, s3, List.length_nil]
      · simp only [Nd.subs, List.length_nil, encNs]
        exact .nil0 (Nat.zero_le _)
    · injection h0 with h0
      subst h0
      rcases Nat.eq_zero_or_pos len with rfl | hpos
      · refine ⟨.mk k0 s k2 k3 [], some a, cap, ?_, ?_⟩
        · simp only [nodeA, Nd.kind, Nd.set, Nd.mn, Nd.mx, Nd.subs, s0, s1, s2, s3, List.length_nil]
        · simp only [Nd.subs, List.length_nil, encNs]
          exact .nil0 hmx
      · have hall : ∀ i, i < len → ∃ cs x, W.cells? 0 (a.add (i * 8)) 8 = some cs ∧ DataW.trod enc Try.prog W 0 spare held m2 37 cs = some x := fun i hi => by
          have h1 := hat i hi
          rw [c28', List.getElem?_eq_getElem (by omega)] at h1
          obtain ⟨cs, h2, h3⟩ := Option.bind_eq_some_iff.1 h1
          exact ⟨cs, _, h2, h3⟩
        obtain ⟨cs0, x0, hcs0, _⟩ := hall 0 hpos
        obtain ⟨_, hl0, hget0⟩ := World.cells?_some hcs0
        have hc0 := hget0 0 (by omega)
        rw [List.getElem?_eq_getElem (by omega)] at hc0
        obtain ⟨b, off, sp⟩ := a
        obtain ⟨cur, e, fz, hbk, hsp⟩ := cells_heap hc0
        have hsp' : sp = none := by
          cases sp with
          | none => rfl
          | some q => simp [Addr.add] at hsp
        subst hsp'
        have hbk' : W.heap[b]? = some (.cells cur e fz) := hbk
        obtain ⟨l, hl, hr⟩ := open_rows (f := m2) (fun cs x hx => open_node k m2 (by omega) cs x hx) hbk' len (fun i hi => by
          have := hall i hi
          rwa [show (⟨b, off, none⟩ : Addr).add (i * 8) = ⟨b, off + i * 8, none⟩ from Addr.add_mid _ _ _] at this)
        refine ⟨.mk k0 s k2 k3 l, some ⟨b, off, none⟩, cap, ?_, ?_⟩
        · simp only [nodeA, Nd.kind, Nd.set, Nd.mn, Nd.mx, Nd.subs, s0, s1, s2, s3, hl]
        · show Rep W _ (.slice _ l.length cap) (.sl _ l.length (encNs l))
          rw [hl]
          refine .row hle hmx (lt_of_heap hbk') hbk' ?_ hr
          rw [encNs_len, hl]
/-- The value of an argument. -/
theorem open_arg {v : Value} {d : DataW H} {ps : List MemPlace} (h : DataW.Trod enc Try.prog W 0 spare held 37 v d ps) : ∃ n, NodeIn W (fun k => k < W.heap.size) v n := by
  obtain ⟨fuel, h⟩ := h
  obtain ⟨n, A, cap, hcs, hr⟩ := open_node fuel fuel (Nat.le_refl _) _ _ h
  refine ⟨n, A, cap, ?_, hr⟩
  have hcs' : v.cells = nodeA n A cap := by
    apply Array.toList_inj.1; exact hcs
  cases v
  case agg cs => exact congrArg Value.agg hcs'
  all_goals
    exfalso
    have h2 := congrArg Array.size hcs'
    simp [Value.cells, nodeA] at h2
end
end Go.Proofs.Ytldmdlkjpdfonaa
