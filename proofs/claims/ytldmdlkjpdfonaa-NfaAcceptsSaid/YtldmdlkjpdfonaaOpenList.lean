/- An argument of type []api.Node, read in any world, is expressions in the sense of NodesIn. No condition. -/
import Derived.Test.YtldmdlkjpdfonaaOpenNode
import Derived.WideShapes
namespace Go.Proofs.Ytldmdlkjpdfonaa
set_option linter.unusedVariables false
set_option linter.unusedSimpArgs false
open Go Go.RowKit

section
variable {H : Type} {enc : TypeId × Value → H} {W : World} {spare : Nat → Bool} {held : Bool}
set_option maxRecDepth 100000 in
theorem open_nodes {a0 : Option Addr} {len cap : Nat} {d : DataW H} {ps : List MemPlace} (h : DataW.Trod enc Try.prog W 0 spare held 22 (.slice a0 len cap) d ps) : ∃ l : List Nd, l.length = len ∧ NodesIn W (fun k => k < W.heap.size) (.slice a0 l.length cap) l := by
  obtain ⟨fuel, h⟩ := h
  have c28' : Try.prog.cellsOf 37 = 8 := by kernel_rfl
  rcases DataW.trod_slice Try.underlying22 h with ⟨h0, _⟩ | ⟨a, len', cap', elems, rest, m2, hm2, h0, _, hb, hle, hmx, hel, hat, _, _⟩
  · have h0' : ([.slice a0 len cap] : List Value) = [.slice none 0 0] := h0
    injection h0' with h0'
    injection h0' with e1 e2 e3
    subst e1; subst e2; subst e3
    exact ⟨[], rfl, .nil0 (Nat.zero_le _)⟩
  · have h0' : ([.slice a0 len cap] : List Value) = [.slice (some a) len' cap'] := h0
    injection h0' with h0'
    injection h0' with e1 e2 e3
    subst e1; subst e2; subst e3
    rcases Nat.eq_zero_or_pos len with rfl | hpos
    · exact ⟨[], rfl, .nil0 hmx⟩
    · have hall : ∀ i, i < len → ∃ cs x, W.cells? 0 (a.add (i * 8)) 8 = some cs ∧ DataW.trod enc Try.prog W 0 spare held m2 37 cs = some x := fun i hi => by
        have h1 := hat i hi
        rw [c28', List.getElem?_eq_getElem (by omega)] at h1
        obtain ⟨cs, h2, h3⟩ := Option.bind_eq_some_iff.1 h1
        exact ⟨cs, _, h2, h3⟩
      obtain ⟨cs0, x0, hcs0, _⟩ := hall 0 hpos
      obtain ⟨_, hl0, hget0⟩ := World.cells?_some hcs0
      have hc0 := hget0 0 (by omega)
      rw [List.getElem?_eq_getElem (by omega)] at hc0
      obtain ⟨b, off, sp⟩ := a
      obtain ⟨cur, e, fz, hbk, hsp⟩ := cells_heap hc0
      have hsp' : sp = none := by
        cases sp with
        | none => rfl
        | some q => simp [Addr.add] at hsp
      subst hsp'
      have hbk' : W.heap[b]? = some (.cells cur e fz) := hbk
      obtain ⟨l, hl, hr⟩ := open_rows (f := m2) (fun cs x hx => open_node m2 m2 (Nat.le_refl _) cs x hx) hbk' len (fun i hi => by
        have := hall i hi
        rwa [show (⟨b, off, none⟩ : Addr).add (i * 8) = ⟨b, off + i * 8, none⟩ from Addr.add_mid _ _ _] at this)
      refine ⟨l, hl, ?_⟩
      show Rep W _ (.slice _ l.length cap) (.sl _ l.length (encNs l))
      rw [hl]
      refine .row hle hmx (lt_of_heap hbk') hbk' ?_ hr
      rw [encNs_len, hl]
theorem nil_cap {a0 : Option Addr} {len cap : Nat} {d : DataW H} {ps : List MemPlace} (h : DataW.Trod enc Try.prog W 0 spare held 22 (.slice a0 len cap) d ps) : a0 = none → cap = 0 := by
  intro ha
  subst ha
  obtain ⟨fuel, h⟩ := h
  rcases DataW.trod_slice Try.underlying22 h with ⟨h0, _⟩ | ⟨a, len', cap', elems, rest, m2, hm2, h0, _⟩
  · have h0' : ([.slice none len cap] : List Value) = [.slice none 0 0] := h0
    injection h0' with h0'
    injection h0'
  · have h0' : ([.slice none len cap] : List Value) = [.slice (some a) len' cap'] := h0
    injection h0' with h0'
    injection h0' with e1
    cases e1
end
end Go.Proofs.Ytldmdlkjpdfonaa
