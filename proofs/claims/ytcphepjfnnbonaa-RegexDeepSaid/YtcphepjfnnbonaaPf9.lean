/- The walk of sieveref07's parser: item, its states. No condition. -/
import Derived.Test.YtcphepjfnnbonaaPf8
namespace Go.Proofs.Ytcphepjfnnbonaa
set_option linter.unusedVariables false
set_option linter.unusedSimpArgs false
open Go Go.RowKit

def lit5 (g : Nat) (mn mx : Int) : Array Value := #[.int .i64 5, .int .u64 0, .int .u64 0, .int .u64 0, .int .u64 0, .int .i64 mn, .int .i64 mx, .slice (some ⟨g, 0, none⟩) 1 1]
theorem lit5_node (g : Nat) (mn mx : Int) (a : Nd) : lit5 g mn mx = nodeA (.mk 5 0 mn mx [a]) (some ⟨g, 0, none⟩) 1 := by simp [lit5, nodeA, wd_zero, Nd.kind, Nd.set, Nd.mn, Nd.mx, Nd.subs]
theorem lit5_one (g : Nat) (mn mx : Int) : (lit5 g mn mx).all (·.oneCell') = true := by simp [lit5, Value.oneCell']
theorem rep_one {W : World} {S : Nat → Prop} {g cap : Nat} {A : Option Addr} {a : Nd} (hS : S g) (hb : Blk W g 28 (nodeA a A cap)) (hr : Rep W S (.slice A a.subs.length cap) (.sl 28 a.subs.length (encNs a.subs))) :
    Rep W S (.slice (some ⟨g, 0, none⟩) 1 1) (.sl 28 1 (encNs [a])) := by
  refine .row (Nat.le_refl _) (by decide) hS hb ?_ (xs := (nodeA a A cap).toList) ?_
  · rw [encNs_one, encN_len, List.drop_zero]; rfl
  · rw [encNs_one]; exact NodeIn.cells hr
/-- The state behind the making of the node. -/
structure It (w W : World) (b : Nat) (s : ByteArray) (x bad : Int) (op : Nat) (a : Nd) (A : Option Addr) (cap gs g5 : Nat) (mn mx : Int) : Prop where
  ps : Ps W b s x bad op
  hb : Blk W w.heap.size 28 #[.int .i64 0, .int .u64 0, .int .u64 0, .int .u64 0, .int .u64 0, .int .i64 0, .int .i64 0, .slice none 0 0]
  h5 : Blk W g5 28 (lit5 gs mn mx)
  hg : Blk W gs 28 (nodeA a A cap)
  hr : Rep W (fun k => w.heap.size < k ∧ k < gs) (.slice A a.subs.length cap) (.sl 28 a.subs.length (encNs a.subs))
  hf : Fr (At b) w W
  l1 : w.heap.size < gs
  l2 : gs < g5
  l3 : b < w.heap.size
section
variable {w W W' : World} {b : Nat} {s : ByteArray} {x bad : Int} {op : Nat} {a : Nd} {A : Option Addr} {cap gs g5 : Nat} {mn mx : Int}
theorem It.call (h : It w W b s x bad op a A cap gs g5 mn mx) (hf : Fr (At b) W W') {x' bad' : Int} (hp : Ps W' b s x' bad' op) : It w W' b s x' bad' op a A cap gs g5 mn mx where
  ps := hp
  hb := hf.blk h.hb (by have := h.l3; show ¬ w.heap.size = b; omega)
  h5 := hf.blk h.h5 (by have := h.l3; have := h.l1; have := h.l2; show ¬ g5 = b; omega)
  hg := hf.blk h.hg (by have := h.l3; have := h.l1; show ¬ gs = b; omega)
  hr := h.hr.fr hf (fun k hk _ => ⟨by have := h.l3; show ¬ k = b; omega, hk⟩)
  hf := Fr.trans h.hf hf
  l1 := h.l1
  l2 := h.l2
  l3 := h.l3
theorem It.drewN (h : It w W b s x bad op a A cap gs g5 mn mx) (n : Nat) : It w (W.drewN n) b s x bad op a A cap gs g5 mn mx := h.call ((Fr.refl (At b) W).drewN n) (h.ps.drewN n)
theorem It.setAt (h : It w W b s x bad op a A cap gs g5 mn mx) {y z : Int} (hx : y = z) : It w (W.setCell ⟨b, 1, none⟩ (.int .i64 y)) b s z bad op a A cap gs g5 mn mx := h.call ((Fr.refl (At b) W).setB 1 _) (h.ps.setAt hx)
theorem It.set5 (h : It w W b s x bad op a A cap gs g5 mn mx) (i : Nat) (v : Int) {mn' mx' : Int} (he : (lit5 gs mn mx).setIfInBounds i (.int .i64 v) = lit5 gs mn' mx') : It w (W.setCell ⟨g5, i, none⟩ (.int .i64 v)) b s x bad op a A cap gs g5 mn' mx' where
  ps := Blk.far h.ps (by have := h.l3; have := h.l1; have := h.l2; show b ≠ g5; omega) _
  hb := Blk.far h.hb (by have := h.l1; have := h.l2; show w.heap.size ≠ g5; omega) _
  h5 := by rw [← he]; exact Blk.set_ h.h5 i _
  hg := Blk.far h.hg (by have := h.l2; show gs ≠ g5; omega) _
  hr := h.hr.set (p := ⟨g5, i, none⟩) (fun k hk => by have := h.l2; show k ≠ g5; omega) _
  hf := h.hf.setNew (p := ⟨g5, i, none⟩) (by have := h.l1; have := h.l2; show w.heap.size ≤ g5; omega) _
  l1 := h.l1
  l2 := h.l2
  l3 := h.l3
theorem It.setMn (h : It w W b s x bad op a A cap gs g5 mn mx) (v : Int) : It w (W.setCell ⟨g5, 5, none⟩ (.int .i64 v)) b s x bad op a A cap gs g5 v mx := h.set5 5 v rfl
theorem It.setMx (h : It w W b s x bad op a A cap gs g5 mn mx) (v : Int) : It w (W.setCell ⟨g5, 6, none⟩ (.int .i64 v)) b s x bad op a A cap gs g5 mn v := h.set5 6 v rfl
/-- The cells that the walk reads. -/
theorem It.cells (h : It w W b s x bad op a A cap gs g5 mn mx) : W.cell? ⟨b, 0, none⟩ = some (.string s) ∧ W.cell? ⟨b, 1, none⟩ = some (.int .i64 x) ∧ W.cell? ⟨b, 2, none⟩ = some (.int .i64 bad) ∧ W.frozen? ⟨b, 1, none⟩ = false ∧
    W.cell? ⟨g5, 5, none⟩ = some (.int .i64 mn) ∧ W.cell? ⟨g5, 6, none⟩ = some (.int .i64 mx) ∧ W.frozen? ⟨g5, 5, none⟩ = false ∧ W.frozen? ⟨g5, 6, none⟩ = false :=
  ⟨h.ps.cell 0, h.ps.cell 1, h.ps.cell 2, h.ps.frozen 1, h.h5.cell 5, h.h5.cell 6, h.h5.frozen 5, h.h5.frozen 6⟩
/-- The result is laid. -/
theorem It.fin (h : It w W b s x bad op a A cap gs g5 mn mx) (hf : Fr (At w.heap.size) W W') : NewN w W' (.agg (lit5 gs mn mx)) (.mk 5 0 mn mx [a]) ∧ Ps W' b s x bad op ∧ Fr (At b) w W' := by
  refine ⟨⟨some ⟨gs, 0, none⟩, 1, by rw [lit5_node gs mn mx a], ?_⟩, h.ps.fr hf (by have := h.l3; show ¬ b = w.heap.size; omega), h.hf.callAt hf (Nat.le_refl _)⟩
  have h1 : Rep W' (fun k => w.heap.size < k) (.slice A a.subs.length cap) (.sl 28 a.subs.length (encNs a.subs)) := h.hr.fr hf (fun k hk _ => ⟨by show ¬ k = w.heap.size; omega, hk.1⟩)
  exact (rep_one (S := fun k => w.heap.size < k) h.l1 (hf.blk h.hg (by have := h.l1; show ¬ gs = w.heap.size; omega)) h1).sub (fun k hk _ => Nat.le_of_lt hk)
end
end Go.Proofs.Ytcphepjfnnbonaa
