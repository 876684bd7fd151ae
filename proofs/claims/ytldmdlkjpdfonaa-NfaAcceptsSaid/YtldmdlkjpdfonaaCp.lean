/- A copy of a list of expressions: append([]api.Node{}, list...). Condition: it has at most 2^32 expressions. -/
import Derived.Test.YtldmdlkjpdfonaaGl
import Derived.Laws.AppendOwnNone
namespace Go.Proofs.Ytldmdlkjpdfonaa
set_option linter.unusedVariables false
set_option linter.unusedSimpArgs false
open Go Go.RowKit

theorem nodes_cells {w : World} {S : Nat → Prop} {A : Option Addr} {l : List Nd} {cap : Nat} (h : NodesIn w S (.slice A l.length cap) l) (hp : 0 < l.length) :
    ∃ b off cs, A = some ⟨b, off, none⟩ ∧ w.rangeAt b off cs ∧ cs.length = l.length * 8 ∧ Reps w S cs (encNs l) := by
  obtain ⟨b, off, cs, rfl, hS, hlt, hr, hl, hreps⟩ := Rep.at_ h (o := 0) (n := 8 * l.length) (by omega) (by rw [encNs_len]; omega)
  rw [List.drop_zero, List.take_of_length_le (by rw [encNs_len]; exact Nat.le_refl _)] at hreps
  exact ⟨b, off, cs, rfl, hr, by omega, hreps⟩
theorem wpList_copy {ops : Array Oper} {rest : List Oper} {o : Oper} {a : Act} {Q : Exit → Act → World → Prop} {w0 : World} {S : Nat → Prop} {A : Option Addr} {l : List Nd} {cap : Nat} (hgd : o.guard = none) (s x : Operand)
    (ho : o.op = .call { callee := .builtin .append, args := #[s, x], argTypes := #[22, 22] }) (hs : a.eval s = .slice (some ⟨w0.heap.size, 0, none⟩) 0 0) (hx : a.eval x = .slice A l.length cap) (hA : A = none → cap = 0) (hlen : l.length < 4294967296)
    (hl : NodesIn w0 S (.slice A l.length cap) l) (hS : ∀ k, S k → k < w0.heap.size)
    (h : ∀ A' cap' w', NodesIn w' (fun k => S k ∨ w0.heap.size ≤ k) (.slice A' l.length cap') l → Fr No w0 w' → wpList Try.prog ops Q rest (a.put o.dst (.slice A' l.length cap')) w') : wpList Try.prog ops Q (o :: rest) a (w0.alloc (.cells #[] 37)) := by
  have hB := Blk.new w0 37 #[]
  have hF0 : Fr No w0 _ := (Fr.refl No w0).alloc (.cells #[] 37)
  have hsz : (w0.alloc (.cells #[] 37)).heap.size = w0.heap.size + 1 := World.size_alloc _ _
  have hO : Own (w0.alloc (.cells #[] 37)) w0.heap.size (fun k => S k ∨ w0.heap.size ≤ k) 37 8 (.slice (some ⟨w0.heap.size, 0, none⟩) 0 0) 0 [] := Own.made hB rfl (Nat.le_refl _) (by decide) .nil
  have hl1 := hl.alloc (.cells #[] 37)
  rcases Nat.eq_zero_or_pos l.length with h0 | hp
  · have : l = [] := List.eq_nil_of_length_eq_zero h0
    subst this
    cases A with
    | none =>
      obtain rfl := hA rfl
      obtain ⟨ti, t1, t2, t3, t4⟩ := info_parts infoNode3
      obtain ⟨xs, ho1, _⟩ := hO
      refine wpList_append_own_none hgd s x 22 ho w0.heap.size 37 ti 8 Try.underlying22 t1 _ 0 xs hs ho1 hx ?_
      exact h _ _ _ (.nil0 (Nat.zero_le _)) hF0
    | some ad =>
      refine wpList_append_D hgd s x 22 ho _ 80 Try.underlying22 infoNode3 rfl (by decide) hs hO hx (m := 0) (news := []) (es := []) rfl (fun j u hu => by simp at hu) .nil (by decide) (by decide) (by omega) ?_
      intro v' w' hO' hg' _
      obtain ⟨A', cap', rfl, _, _⟩ := hO'.form
      exact h A' cap' w' (hO'.rep fun k hk => .inr hk) (hF0.call (Fr.ofGrown hg') fun k hk e => by have := (hO.blk_lt k e.symm).1; omega)
  · obtain ⟨b, off, cs, rfl, hr, hcl, hreps⟩ := nodes_cells hl1 hp
    refine wpList_append_D hgd s x 22 ho _ 80 Try.underlying22 infoNode3 rfl (by decide) hs hO hx (news := cs) (es := encNs l) hcl (fun j u hu => ?_) (hreps.mono fun k hk _ => ⟨rfl, .inl hk, fun e => by have e : k = w0.heap.size := Option.some.inj e; have := hS k hk; omega⟩) (by omega) (by omega) (by omega) ?_
    · rw [Addr.add_mid]; exact hr j u hu
    · intro v' w' hO' hg' _
      rw [Nat.zero_add, List.nil_append] at hO'
      obtain ⟨A', cap', rfl, _, _⟩ := hO'.form
      exact h A' cap' w' (hO'.rep fun k hk => .inr hk) (hF0.call (Fr.ofGrown hg') fun k hk e => by have := (hO.blk_lt k e.symm).1; omega)
end Go.Proofs.Ytldmdlkjpdfonaa
