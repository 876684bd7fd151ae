/- The walks of the law's text, and words on a row of one expression. -/
import Derived.Test.YtldmdlkjpdfonaaRxW15
import Derived.Test.YtldmdlkjpdfonaaNb5
import Derived.Test.YtldmdlkjpdfonaaNa5
import Derived.Test.YtldmdlkjpdfonaaRl
namespace Go.Proofs.Ytldmdlkjpdfonaa
set_option linter.unusedVariables false
set_option linter.unusedSimpArgs false
open Go Go.RowKit

theorem at_build {P : Program} {ops : Array Oper} {Q : Exit → Act → World → Prop} {rest : List Oper} {a : Act} {w : World} {d : Option Tmp} {t ty : TypeId} {n : Nat} {xs : Array (Nat × Operand)} {p : String} {af : Array Edge} (h : wpList P ops Q (⟨d, .buildSlice ty n xs, t, p, af, none⟩ :: rest) a w) : wpList P ops Q (⟨d, .buildSlice ty n xs, t, p, af, none⟩ :: rest) a w := h
/-- A row of one expression is built. -/
theorem wp_oneNode {o : Oper} {a : Act} {K : Act → World → Prop} {Q : Exit → Act → World → Prop} {w : World} (k : Nat) (ho : o.op = .buildSlice 22 1 #[(0, .tmp k)]) {n : Nd} {A : Option Addr} {cap : Nat} (hx : a.eval (.tmp k) = .agg (nodeA n A cap))
    (h : K (a.put o.dst (.slice (some ⟨w.heap.size, 0, none⟩) 1 1)) (w.alloc (.cells (nodeA n A cap) 37))) : o.wp Try.prog a w K Q := by
  have hx' : a.tmps[k]?.getD undef = .agg (nodeA n A cap) := by simpa [Act.eval] using hx
  unfold Oper.wp
  unfold nodeA at *
  simp only [execOp, ho]
  go_simp
  cases hq : o.dst <;> (rw [hq] at h; exact h)
theorem wpList_oneNode {o : Oper} {ops : Array Oper} {rest : List Oper} {a : Act} {Q : Exit → Act → World → Prop} {w : World} (hgd : o.guard = none) (k : Nat) (ho : o.op = .buildSlice 22 1 #[(0, .tmp k)]) {n : Nd} {A : Option Addr} {cap : Nat} (hx : a.eval (.tmp k) = .agg (nodeA n A cap))
    (h : wpList Try.prog ops Q rest (a.put o.dst (.slice (some ⟨w.heap.size, 0, none⟩) 1 1)) (w.alloc (.cells (nodeA n A cap) 37))) : wpList Try.prog ops Q (o :: rest) a w := by
  refine wpList_plain hgd fun _ hK => ?_
  exact wp_oneNode k ho hx (hK _ _ h)
theorem one_nodes {w : World} {S : Nat → Prop} {n : Nd} {A : Option Addr} {cap : Nat} (h : Rep w S (.slice A n.subs.length cap) (.sl 37 n.subs.length (encNs n.subs))) :
    NodesIn (w.alloc (.cells (nodeA n A cap) 37)) (fun k => S k ∨ k = w.heap.size) (.slice (some ⟨w.heap.size, 0, none⟩) 1 1) [n] := by
  refine .row (Nat.le_refl 1) (by decide) (.inr rfl) (heap_alloc_new w _) rfl ?_
  have h2 := (NodeIn.cells (h.alloc (.cells (nodeA n A cap) 37))).mono (S' := fun k => S k ∨ k = w.heap.size) fun k hk _ => ⟨rfl, .inl hk⟩
  rw [encNs_one, encN_len]
  exact h2
set_option maxRecDepth 100000 in
set_option maxHeartbeats 1600000 in
theorem text_c (s : ByteArray) (n : Nd) (j : Nat) (w : World) (hs : s.size < 549755813888) (hp : Rx.parse s = .ok n j) :
    Calls Try.prog 31 #[.string s] w fun e w' => (∃ A cap, e = .returned (.agg (nodeA n A cap)) ∧ Rep w' (fun k => w.heap.size ≤ k) (.slice A n.subs.length cap) (.sl 37 n.subs.length (encNs n.subs))) ∧ Fr No w w' := by
  have hF0 : Fr No w _ := (Fr.refl No w).alloc (.cells #[.int .i64 0, .int .u64 0, .int .u64 0, .int .u64 0, .int .u64 0, .int .i64 0, .int .i64 0, .slice none 0 0] 37)
  have hG0 := Blk.new w 37 #[.int .i64 0, .int .u64 0, .int .u64 0, .int .u64 0, .int .u64 0, .int .i64 0, .int .i64 0, .slice none 0 0]
  have P := parse_c s (w.alloc (.cells #[.int .i64 0, .int .u64 0, .int .u64 0, .int .u64 0, .int .u64 0, .int .i64 0, .int .i64 0, .slice none 0 0] 37)) hs
  rw [hp] at P
  go_enter Try.func31, Try.ntmps31
  go_wp2_with fail
  refine P.mono ?_
  rintro e w1 ⟨⟨v, rfl, A, cap, rfl, hr⟩, hf1⟩
  have hG1 := (hf1.blk hG0 id).alloc (.cells #[.int .i64 0, .int .u64 0, .int .u64 0, .int .u64 0, .int .u64 0, .int .i64 0, .int .i64 0, .slice none 0 0] 37)
  have hN1 := Blk.new w1 37 #[.int .i64 0, .int .u64 0, .int .u64 0, .int .u64 0, .int .u64 0, .int .i64 0, .int .i64 0, .slice none 0 0]
  have hs1 := hf1.size
  rw [World.size_alloc] at hs1
  go_wp2_with (first | ((with_reducible refine at_store 37 ?_); refine wpList_store_blk (cs := nodeA n A cap) rfl rfl rfl rfl hN1 rfl infoNode (nodeA_one _ _ _) ?_; intro W hW hfW _; have hGW := hfW.blk hG1 (by show ¬ w.heap.size = w1.heap.size; omega)) |
    ((with_reducible refine at_load _ ?_); refine wpList_load_blk (cs := nodeA n A cap) rfl rfl rfl hW Try.underlying37 rfl infoNode ?_) |
    ((with_reducible refine at_store 37 ?_); refine wpList_store_blk (cs := nodeA n A cap) rfl rfl rfl rfl hGW rfl infoNode (nodeA_one _ _ _) ?_; intro W5 hW5 hfW5 _))
  refine bodyPost_blk rfl rfl hW5 Try.underlying37 rfl infoNode rfl ?_
  have hFa := ((hF0.no hf1).alloc (.cells #[.int .i64 0, .int .u64 0, .int .u64 0, .int .u64 0, .int .u64 0, .int .i64 0, .int .i64 0, .slice none 0 0] 37)).callAt hfW (by omega)
  refine ⟨⟨A, cap, rfl, ?_⟩, hFa.callAt hfW5 (Nat.le_refl _)⟩
  have h2 := (hr.sub (S' := fun k => w.heap.size + 1 ≤ k ∧ k < w1.heap.size) fun k hk hl => ⟨by rw [World.size_alloc] at hk; exact hk, hl⟩).alloc (.cells #[.int .i64 0, .int .u64 0, .int .u64 0, .int .u64 0, .int .u64 0, .int .i64 0, .int .i64 0, .slice none 0 0] 37)
  have h3 := h2.fr (S' := fun k => w.heap.size + 1 ≤ k) hfW fun k hk _ => ⟨fun e => by have e : k = w1.heap.size := e; omega, hk.1⟩
  exact h3.fr hfW5 fun k hk _ => ⟨fun e => by have e : k = w.heap.size := e; omega, by omega⟩
end Go.Proofs.Ytldmdlkjpdfonaa
