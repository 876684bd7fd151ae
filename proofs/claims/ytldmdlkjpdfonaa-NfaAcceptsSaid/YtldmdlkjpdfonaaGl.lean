/- Arms for guarded operations. No condition. -/
import Derived.Test.YtldmdlkjpdfonaaAw2
import Derived.Test.YtldmdlkjpdfonaaNe
import Derived.Deep.Cut
namespace Go.Proofs.Ytldmdlkjpdfonaa
set_option linter.unusedVariables false
set_option linter.unusedSimpArgs false
open Go Go.RowKit

theorem wp_load_blk {P : Program} {o : Oper} {a : Act} {w : World} {K : Act → World → Prop} {Q : Exit → Act → World → Prop} {ty : TypeId} {x : Operand} (ho : o.op = .load ty x) {g : Nat} (hx : a.eval x = .pointer (some ⟨g, 0, none⟩)) {t : TypeId} {cs : Array Value} (hb : Blk w g t cs)
    {d : TypeDesc} (hu : P.underlying ty = some d) (hd : d.isRow = true) (hi : (P.info? ty).map (·.size) = some cs.size) (h : K (a.put o.dst (.agg cs)) w) : o.wp P a w K Q :=
  wp_load_mid ty x ho g 0 hx cs.toList d hb.range hu hd (by simpa using hi) (by simpa using h)
theorem wpList_load_blk_g {P : Program} {ops : Array Oper} {rest : List Oper} {Q : Exit → Act → World → Prop} {o : Oper} {a : Act} {w : World} (hw : Region.wanted o (yielded ops a.tmps) = true) {ty : TypeId} {x : Operand} (ho : o.op = .load ty x) {g : Nat} (hx : a.eval x = .pointer (some ⟨g, 0, none⟩))
    {t : TypeId} {cs : Array Value} (hb : Blk w g t cs) {d : TypeDesc} (hu : P.underlying ty = some d) (hd : d.isRow = true) (hi : (P.info? ty).map (·.size) = some cs.size) (h : wpList P ops Q rest (a.put o.dst (.agg cs)) w) : wpList P ops Q (o :: rest) a w :=
  BigFrame.wpList_want hw fun _ hK => wp_load_blk ho hx hb hu hd hi (hK _ _ h)
theorem at_gload {P : Program} {ops : Array Oper} {rest : List Oper} {Q : Exit → Act → World → Prop} {a : Act} {w : World} {d : Option Tmp} {t : TypeId} {p : String} {af : Array Edge} {gd : Nat × Bool} {x : Operand} (ty : TypeId)
    (h : wpList P ops Q (⟨d, .load ty x, t, p, af, some gd⟩ :: rest) a w) : wpList P ops Q (⟨d, .load ty x, t, p, af, some gd⟩ :: rest) a w := h
theorem at_gbuild {P : Program} {ops : Array Oper} {Q : Exit → Act → World → Prop} {rest : List Oper} {a : Act} {w : World} {d : Option Tmp} {t ty : TypeId} {n : Nat} {xs : Array (Nat × Operand)} {p : String} {af : Array Edge} {gd : Nat × Bool} (h : wpList P ops Q (⟨d, .buildSlice ty n xs, t, p, af, some gd⟩ :: rest) a w) : wpList P ops Q (⟨d, .buildSlice ty n xs, t, p, af, some gd⟩ :: rest) a w := h
theorem wpList_oneNode_g {o : Oper} {ops : Array Oper} {rest : List Oper} {a : Act} {Q : Exit → Act → World → Prop} {w : World} (hw : Region.wanted o (yielded ops a.tmps) = true) (k : Nat) (ho : o.op = .buildSlice 22 1 #[(0, .tmp k)]) {n : Nd} {A : Option Addr} {cap : Nat} (hx : a.eval (.tmp k) = .agg (nodeA n A cap))
    (h : wpList Try.prog ops Q rest (a.put o.dst (.slice (some ⟨w.heap.size, 0, none⟩) 1 1)) (w.alloc (.cells (nodeA n A cap) 37))) : wpList Try.prog ops Q (o :: rest) a w :=
  BigFrame.wpList_want hw fun _ hK => wp_oneNode k ho hx (hK _ _ h)
end Go.Proofs.Ytldmdlkjpdfonaa
