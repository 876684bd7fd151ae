/- A region that draws its order: its first n operations come in whatever order, behind each that is carried out a condition S on the world holds; the rest comes in the text's order. No condition. -/
import Derived.Deep.RegionHeld3
import Derived.StillTailTactics
namespace Go.Proofs.Ytldmdlkjpdfonaa
set_option linter.unusedVariables false
set_option linter.unusedSimpArgs false
open Go
variable {P : Program} {ops : Array Oper} {Q : Exit → Act → World → Prop} {md : Region.Mode} {S : World → Prop} {n : Nat} {l : List Oper}

def wpHT (P : Program) (md : Region.Mode) (ops : Array Oper) (Q : Exit → Act → World → Prop) (S : World → Prop) (n : Nat) (l : List Oper) : Nat → Array Bool → Act → World → Prop
  | 0, listed, a, w => Region.seqB md ops l.length n listed = true ∧ wpList P ops Q l a w
  | f + 1, listed, a, w => Region.ready md ops listed ≠ [] ∧ ∀ i ∈ Region.ready md ops listed, i < n ∧ wpOp P ops Q i (fun a' w' => S w' ∧ wpHT P md ops Q S n l f (listed.setIfInBounds i true) a' w') a w

theorem wpAny_of_HT (hl : ∀ j, l[j]? = ops[n + j]?) : ∀ (f : Nat) (listed : Array Bool) (a : Act) (w : World), wpHT P md ops Q S n l f listed a w → wpAny P md ops Q (f + l.length) listed a w
  | 0, listed, a, w, h => by rw [Nat.zero_add]; exact wpAny_of_seq l n listed a w hl h.1 h.2
  | f + 1, listed, a, w, h => by
    rw [show f + 1 + l.length = (f + l.length) + 1 by omega]
    exact ⟨fun h0 => absurd h0 h.1, fun i hi => wpOp_mono (fun a' w' h' => wpAny_of_HT hl f _ a' w' h'.2) (h.2 i hi).2⟩

structure HeadTail (md : Region.Mode) (ops : Array Oper) (n : Nat) : Prop where
  hs : Region.sinkB md ops n = true
  hc : Region.chainB md ops n = true
  hn : n < ops.size
  hsel : Region.noSelect ops = true

theorem wpHT_first (H0 : HeadTail md ops n) {i : Nat} {oi : Oper} {v : Value} (hi : ops[i]? = some oi) (hin : i < n)
    (hQ : ∀ c a w, Q (.panic c) (a.put oi.dst v) w → Q (.panic c) a w) :
    ∀ (f : Nat) (listed : Array Bool) (a : Act) (w : World), HeadInv md ops n listed →
      (∀ j oj, ops[j]? = some oj → j ≠ i → listed.getD j true = false → (∀ e ∈ oj.after, Region.binds md e = true → e.on ≠ i) → oi.apart ops oj = true) →
      i ∈ Region.ready md ops listed → YieldsIf P ops S oi v a → S w →
      wpHT P md ops Q S n l f (listed.setIfInBounds i true) (a.put oi.dst v) w → wpHT P md ops Q S n l (f + 1) listed a w := by
  intro f
  induction f with
  | zero =>
    intro listed a w inv _ hr hy hS H
    have hun := (mem_ready.1 hr).1
    refine ⟨fun h => (by rw [h] at hr; cases hr), fun j hj => ?_⟩
    have hjn : j < n := by
      rcases Nat.lt_or_ge j n with h | h
      · exact h
      · exact absurd hj (tail_waits H0.hs H0.hc H0.hn inv _ i rfl hin hun j h)
    refine ⟨hjn, ?_⟩
    by_cases hji : j = i
    · subst hji; exact hy.wpOp hi hS ⟨hS, H⟩
    · have := seqB_ready H.1 j (ready_mono hj hji)
      omega
  | succ f ih =>
    intro listed a w inv hfree hr hy hS H
    have hun := (mem_ready.1 hr).1
    refine ⟨fun h => (by rw [h] at hr; cases hr), fun j hj => ?_⟩
    have hjn : j < n := by
      rcases Nat.lt_or_ge j n with h | h
      · exact h
      · exact absurd hj (tail_waits H0.hs H0.hc H0.hn inv _ i rfl hin hun j h)
    refine ⟨hjn, ?_⟩
    by_cases hji : j = i
    · subst hji; exact hy.wpOp hi hS ⟨hS, H⟩
    · have h1 := (H.2 j (ready_mono hj hji)).2
      obtain ⟨hjun, oj, hoj, hall⟩ := mem_ready.1 hj
      have hnot : ∀ e ∈ oj.after, Region.binds md e = true → e.on ≠ i := fun e he hb heq => by
        have h1 := hall e he hb
        rw [heq, getD_both hun] at h1
        cases h1
      have h2 := wpOp_putIf hoj (hfree j oj hoj hji hjun hnot) (fun cs b => Region.noSelect_spec H0.hsel i oi cs b hi) (fun cs b => Region.noSelect_spec H0.hsel j oj cs b hoj) hQ hy h1
      have hfree' : ∀ k ok, ops[k]? = some ok → k ≠ i → (listed.setIfInBounds j true).getD k true = false →
          (∀ e ∈ ok.after, Region.binds md e = true → e.on ≠ i) → oi.apart ops ok = true := fun k ok hk hki hun hno => by
        refine hfree k ok hk hki ?_ hno
        by_cases hjk : j = k
        · subst hjk; exact hjun
        · rw [getD_set_ne true hjk] at hun; exact hun
      refine wpOp_mono (fun a' w' h3 => ⟨h3.2.1, ih (listed.setIfInBounds j true) a' w' (inv.set hj hjn) hfree' (ready_mono hr (Ne.symm hji)) h3.1 h3.2.1 ?_⟩) h2
      rw [Array.setIfInBounds_comm _ _ hji]
      exact h3.2.2

/-- The state of such a walk: f of the first n operations are still to come. -/
def Rt (P : Program) (md : Region.Mode) (ops : Array Oper) (Q : Exit → Act → World → Prop) (S : World → Prop) (n : Nat) (l : List Oper) (f : Nat) (listed : Array Bool) (a : Act) (w : World) : Prop :=
  HeadTail md ops n → HeadInv md ops n listed → wpHT P md ops Q S n l f listed a w

/-- THE BEGINNING. -/
theorem wp_region_tail {id : Nat} {a : Act} {w : World} {L : List Oper} (n : Nat) (S : World → Prop) (hm : P.follows .mixedOrders = true)
    (hB : (Region.sinkB .any L.toArray n && Region.chainB .any L.toArray n && decide (n < L.length) && Region.noSelect L.toArray) = true)
    (h : Rt P .any L.toArray Q S n (L.drop n) n (Array.replicate L.length false) a w.drew) : (Code.region id L.toArray true).wp P Q a w := by
  simp only [Bool.and_eq_true, decide_eq_true_eq] at hB
  obtain ⟨⟨⟨hs, hc⟩, hn⟩, hsel⟩ := hB
  refine wp_region_any hm ?_
  have inv0 : HeadInv .any L.toArray n (Array.replicate L.toArray.size false) :=
    ⟨by simp, fun j oj _ hl => (by rw [getD_replicate_false] at hl; cases hl), fun t _ ht => getD_in (by simpa using ht) (getD_replicate_false _ _)⟩
  have := wpAny_of_HT (fun j => by simp [List.getElem?_drop]) n _ a w.drew (h ⟨hs, hc, by simpa using hn, hsel⟩ (by simpa using inv0))
  rw [show n + (L.drop n).length = L.toArray.size by simp; omega] at this
  simpa using this

/-- Take number i first: it yields v in every world that meets S. -/
theorem Rt.take {i : Nat} {oi : Oper} {v : Value} {f : Nat} {listed : Array Bool} {a : Act} {w : World} (hi : ops[i]? = some oi)
    (hB : (decide (i < n) && Region.free md ops listed i && (Region.ready md ops listed).contains i) = true)
    (hQ : ∀ c a w, Q (.panic c) (a.put oi.dst v) w → Q (.panic c) a w) (hy : YieldsIf P ops S oi v a) (hS : S w)
    (h : Rt P md ops Q S n l f (listed.setIfInBounds i true) (a.put oi.dst v) w) : Rt P md ops Q S n l (f + 1) listed a w := fun H0 inv => by
  simp only [Bool.and_eq_true, decide_eq_true_eq] at hB
  have hr : i ∈ Region.ready md ops listed := by simpa using hB.2
  exact wpHT_first H0 hi hB.1.1 hQ f listed a w inv (Region.free_spec hi hB.1.2) hr hy hS (h H0 (inv.set hr hB.1.1))

/-- One alone may come up: it is carried out; behind it S is to be shown anew. -/
theorem Rt.one {i : Nat} {o : Oper} {f : Nat} {listed : Array Bool} {a : Act} {w : World} (ho : ops[i]? = some o) (hB : (decide (i < n) && (Region.ready md ops listed == [i])) = true)
    (h : ∀ K' : Act → World → Prop, Shut (∀ a w, S w → Rt P md ops Q S n l f (listed.setIfInBounds i true) a w → K' a w) → if Region.wanted o (yielded ops a.tmps) = true then Oper.wp P o a w K' Q else K' (a.put o.dst undef) w) :
    Rt P md ops Q S n l (f + 1) listed a w := fun H0 inv => by
  simp only [Bool.and_eq_true, decide_eq_true_eq, beq_iff_eq] at hB
  refine ⟨by rw [hB.2]; simp, fun j hj => ?_⟩
  have hj' := hj
  rw [hB.2] at hj
  obtain rfl : j = i := by simpa using hj
  exact ⟨hB.1, wpOp_step ho (fun K' hK => h K' (fun a w hS hW => hK a w ⟨hS, hW H0 (inv.set hj' hB.1)⟩))⟩

/-- The first n have come up: the rest in order. -/
theorem Rt.done {listed : Array Bool} {a : Act} {w : World} (hB : Region.seqB md ops l.length n listed = true) (h : wpList P ops Q l a w) : Rt P md ops Q S n l 0 listed a w := fun _ _ => ⟨hB, h⟩

/-- A load that S gives. -/
theorem YieldsIf.load {op : Oper} {a : Act} (hw : Region.wanted op (yielded ops a.tmps) = true) {ty : TypeId} {x : Operand} (ho : op.op = .load ty x)
    {b o : Nat} (hx : a.eval x = .pointer (some ⟨b, o, none⟩)) {cs : List Value} {d : TypeDesc} (hS : ∀ w, S w → w.rangeAt b o cs)
    (hu : P.underlying ty = some d) (hd : d.isRow = true) (hi : (P.info? ty).map (·.size) = some cs.length) : YieldsIf P ops S op (.agg cs.toArray) a := yieldsIf_load_mid hw ty x ho b o hx cs d hS hu hd hi
end Go.Proofs.Ytldmdlkjpdfonaa
