/- Words on memory that all walks of this seat use: known blocks (Blk), frames (Fr), nested data in memory (D, Rep). No condition. -/
import Derived.Test.YtldmdlkjpdfonaaProg
import Derived.Test.YtldmdlkjpdfonaaRegion
import Derived.WalkKit
import Derived.Deep.QuietTactic
import Derived.BigQuiet
import Derived.OneCell
import Derived.IntWalk
import Derived.Outline
import Derived.Deep.LoopGhost
import Derived.Deep.MidRow
import Derived.Deep.RegionHeld3
import Derived.Deep.RegionWith
import Derived.StillTailTactics
import Derived.Maps.AppendAt
import Derived.Deep.Draws
namespace Go.Proofs.Ytldmdlkjpdfonaa
set_option linter.unusedVariables false
set_option linter.unusedSimpArgs false
open Go Go.RowKit

/-- A fact kept from the walk. -/
theorem hid {p : Prop} (h : p) : Hid p := h

/-- The world is told by what is known of it. -/
theorem wp_world {P : Program} {c : Code} {Q : Exit → Act → World → Prop} {a : Act} {w : World} (F : World → Prop) (hF : F w) (h : ∀ W, F W → c.wp P Q a W) : c.wp P Q a w := h w hF
theorem calls_world {P : Program} {f : FuncId} {args : Array Value} {R : Ending → World → Prop} {w : World} (F : World → Prop) (hF : F w) (h : ∀ W, F W → Calls P f args W R) : Calls P f args w R := h w hF
theorem wpList_world {P : Program} {ops : Array Oper} {l : List Oper} {Q : Exit → Act → World → Prop} {a : Act} {w : World} (F : World → Prop) (hF : F w) (h : ∀ W, F W → wpList P ops Q l a W) : wpList P ops Q l a w := h w hF

/-! ### A block that is known whole -/
def Blk (w : World) (g : Nat) (t : TypeId) (cs : Array Value) : Prop := w.heap[g]? = some (.cells cs t (0, 0))

section
variable {w w' : World} {g : Nat} {t : TypeId} {cs : Array Value}
theorem lt_of_heap {o : Obj} (h : w.heap[g]? = some o) : g < w.heap.size := by
  rcases Nat.lt_or_ge g w.heap.size with hlt | hge
  · exact hlt
  · rw [Array.getElem?_eq_none hge] at h; cases h
theorem Blk.lt (h : Blk w g t cs) : g < w.heap.size := lt_of_heap h
theorem Blk.cell (h : Blk w g t cs) (i : Nat) : w.cell? ⟨g, i, none⟩ = cs[i]? := cell_of_row w g i cs t (0, 0) h
theorem Blk.frozen (h : Blk w g t cs) (i : Nat) : w.frozen? ⟨g, i, none⟩ = false := by
  unfold Blk at h
  simp [World.frozen?, h]
theorem Blk.new (w : World) (t : TypeId) (cs : Array Value) : Blk (w.alloc (.cells cs t)) w.heap.size t cs := heap_alloc_new w _
theorem Blk.drew (h : Blk w g t cs) : Blk w.drew g t cs := h
theorem Blk.drewN (h : Blk w g t cs) (n : Nat) : Blk (w.drewN n) g t cs := h
theorem Blk.alloc (h : Blk w g t cs) (o : Obj) : Blk (w.alloc o) g t cs := (Below.heap_alloc w o g h.lt).trans h
theorem Blk.set_ (h : Blk w g t cs) (i : Nat) (u : Value) : Blk (w.setCell ⟨g, i, none⟩ u) g t (cs.setIfInBounds i u) := by
  unfold Blk at h ⊢
  simp [World.setCell, Array.getElem?_modify, h]
theorem Blk.far (h : Blk w g t cs) {p : Addr} (hp : g ≠ p.block) (u : Value) : Blk (w.setCell p u) g t cs := (Below.heap_setCell w p u g hp).trans h
theorem Blk.ne_ {g' : Nat} {t' : TypeId} {cs' : Array Value} (h : Blk w g t cs) (h' : Blk w g' t' cs') (hne : t ≠ t') : g ≠ g' := by
  rintro rfl
  unfold Blk at h h'
  rw [h] at h'
  injection h' with h'
  injection h' with _ ht
  exact hne ht
end

/-! ### Frames: what of the blocks that were there is as it was -/
structure Fr (M : Nat → Prop) (w w' : World) : Prop where
  os : w'.os = w.os
  tape : w'.tape = w.tape
  output : w'.output = w.output
  size : w.heap.size ≤ w'.heap.size
  block : ∀ k, k < w.heap.size → ¬ M k → w'.heap[k]? = w.heap[k]?
/-- Nothing of what was there. -/
abbrev No : Nat → Prop := fun _ => False
/-- One block of what was there. -/
abbrev At (b : Nat) : Nat → Prop := fun k => k = b

section
variable {M M' : Nat → Prop} {a w w' : World}
theorem Fr.refl (M : Nat → Prop) (w : World) : Fr M w w := ⟨rfl, rfl, rfl, Nat.le_refl _, fun _ _ _ => rfl⟩
theorem Fr.call (h : Fr M a w) (h' : Fr M' w w') (hm : ∀ k, k < a.heap.size → M' k → M k) : Fr M a w' :=
  ⟨h'.os.trans h.os, h'.tape.trans h.tape, h'.output.trans h.output, Nat.le_trans h.size h'.size,
   fun k hk hn => (h'.block k (Nat.lt_of_lt_of_le hk h.size) fun hc => hn (hm k hk hc)).trans (h.block k hk hn)⟩
theorem Fr.callAt {g : Nat} (h : Fr M a w) (h' : Fr (At g) w w') (hg : a.heap.size ≤ g) : Fr M a w' := h.call h' fun k hk e => absurd hk (by have e : k = g := e; omega)
theorem Fr.trans (h : Fr M a w) (h' : Fr M w w') : Fr M a w' := h.call h' fun _ _ h => h
theorem Fr.no (h : Fr M a w) (h' : Fr No w w') : Fr M a w' := h.call h' fun _ _ h => h.elim
theorem Fr.mono (h : Fr M w w') (hm : ∀ k, k < w.heap.size → M k → M' k) : Fr M' w w' :=
  ⟨h.os, h.tape, h.output, h.size, fun k hk hn => h.block k hk fun hc => hn (hm k hk hc)⟩
theorem Fr.toNo (h : Fr M w w') (hm : ∀ k, k < w.heap.size → ¬ M k) : Fr No w w' := h.mono fun k hk h => hm k hk h
theorem Fr.drew (h : Fr M a w) : Fr M a w.drew := ⟨h.os, h.tape, h.output, h.size, h.block⟩
theorem Fr.drewN (h : Fr M a w) (n : Nat) : Fr M a (w.drewN n) := ⟨h.os, h.tape, h.output, h.size, h.block⟩
theorem Fr.undrew (h : Fr M w.drew w') : Fr M w w' := ⟨h.os, h.tape, h.output, h.size, h.block⟩
theorem Fr.undrewN {n : Nat} (h : Fr M (w.drewN n) w') : Fr M w w' := ⟨h.os, h.tape, h.output, h.size, h.block⟩
theorem Fr.alloc (h : Fr M a w) (o : Obj) : Fr M a (w.alloc o) :=
  ⟨h.os, h.tape, h.output, by have := h.size; simp; omega, fun k hk hn => (Below.heap_alloc w o k (Nat.lt_of_lt_of_le hk h.size)).trans (h.block k hk hn)⟩
theorem Fr.set (h : Fr M a w) {p : Addr} (hp : a.heap.size ≤ p.block ∨ M p.block) (u : Value) : Fr M a (w.setCell p u) :=
  ⟨h.os, h.tape, h.output, by have := h.size; simp only [World.setCell, Array.size_modify]; exact this, fun k hk hn => by
    refine (Below.heap_setCell w p u k ?_).trans (h.block k hk hn)
    rintro rfl
    rcases hp with hp | hp
    · omega
    · exact hn hp⟩
theorem Fr.setB {b : Nat} (h : Fr (At b) a w) (off : Nat) (u : Value) : Fr (At b) a (w.setCell ⟨b, off, none⟩ u) := h.set (p := ⟨b, off, none⟩) (.inr rfl) u
theorem Fr.setNew (h : Fr M a w) {p : Addr} (hp : a.heap.size ≤ p.block) (u : Value) : Fr M a (w.setCell p u) := h.set (.inl hp) u
theorem setCells_heap (b k : Nat) (hk : k ≠ b) : ∀ (vs : List Value) (o : Nat) (w : World), (w.setCells b o vs).heap[k]? = w.heap[k]? ∧ (w.setCells b o vs).heap.size = w.heap.size ∧
    (w.setCells b o vs).os = w.os ∧ (w.setCells b o vs).tape = w.tape ∧ (w.setCells b o vs).output = w.output
  | [], _, _ => ⟨rfl, rfl, rfl, rfl, rfl⟩
  | v :: r, o, w => by
    rw [World.setCells]
    obtain ⟨h1, h2, h3, h4, h5⟩ := setCells_heap b k hk r (o + 1) (w.setCell ⟨b, o, none⟩ v)
    exact ⟨h1.trans (Below.heap_setCell w ⟨b, o, none⟩ v k hk), h2.trans (by simp only [World.setCell, Array.size_modify]), h3, h4, h5⟩
theorem Fr.setCells (h : Fr M a w) {b : Nat} (hp : a.heap.size ≤ b ∨ M b) (o : Nat) (vs : List Value) : Fr M a (w.setCells b o vs) := by
  have hs := fun k (hk : k ≠ b) => setCells_heap b k hk vs o w
  have hq := hs (b + 1) (by omega)
  refine ⟨hq.2.2.1.trans h.os, hq.2.2.2.1.trans h.tape, hq.2.2.2.2.trans h.output, by rw [hq.2.1]; exact h.size, fun k hk hn => ?_⟩
  refine (hs k ?_).1.trans (h.block k hk hn)
  rintro rfl
  rcases hp with hp | hp
  · omega
  · exact hn hp
theorem Fr.grown {row : Option Nat} (h : Fr M a w) (hg : w.grownBy w' row) (hr : ∀ k, row = some k → a.heap.size ≤ k ∨ M k) : Fr M a w' :=
  ⟨hg.os.trans h.os, hg.tape.trans h.tape, hg.output.trans h.output, Nat.le_trans h.size hg.size, fun k hk hn =>
    (hg.block k (Nat.lt_of_lt_of_le hk h.size) fun e => by
      rcases hr k e.symm with hp | hp
      · omega
      · exact hn hp).trans (h.block k hk hn)⟩
theorem Fr.ofGrown {row : Option Nat} (hg : w.grownBy w' row) : Fr (fun k => some k = row) w w' := ⟨hg.os, hg.tape, hg.output, hg.size, fun k hk hn => hg.block k hk hn⟩
theorem Fr.below (h : Fr No w w') : Below w.heap.size w w' := ⟨h.os, h.tape, h.output, h.size, fun k hk => h.block k hk id⟩
theorem Fr.ofBelow (h : Below w.heap.size w w') : Fr No w w' := ⟨h.os, h.tape, h.output, h.size, fun k hk _ => h.block k hk⟩
theorem Fr.cell (h : Fr M w w') {p : Addr} (hk : ¬ M p.block) {v : Value} (hv : w.cell? p = some v) : w'.cell? p = some v :=
  (World.cell?_of_block (h.block p.block (World.block_lt_of_cell? w p hv) hk)).trans hv
theorem Fr.blk {g : Nat} {t : TypeId} {cs : Array Value} (h : Fr M w w') (hb : Blk w g t cs) (hn : ¬ M g) : Blk w' g t cs := (h.block g hb.lt hn).trans hb
end

/-! ### A struct or an array in a block of its own, as a whole -/
section
variable {P : Program} {ops : Array Oper} {rest : List Oper} {o : Oper} {a : Act} {Q : Exit → Act → World → Prop} {w : World}
theorem setCells_blk (g : Nat) (t : TypeId) : ∀ (vs : List Value) (i : Nat) (w : World) (cs : Array Value), Blk w g t cs → i + vs.length ≤ cs.size →
    Blk (w.setCells g i vs) g t (cs.toList.take i ++ vs ++ cs.toList.drop (i + vs.length)).toArray
  | [], i, w, cs, hb, _ => by
    have : (cs.toList.take i ++ [] ++ cs.toList.drop (i + ([] : List Value).length)).toArray = cs := by simp
    rw [this]; exact hb
  | v :: r, i, w, cs, hb, hl => by
    rw [World.setCells]
    have hl' : i + 1 + r.length ≤ cs.size := by simp at hl; omega
    have := setCells_blk g t r (i + 1) _ _ (hb.set_ i v) (by simp; omega)
    have e : ((cs.setIfInBounds i v).toList.take (i + 1) ++ r ++ (cs.setIfInBounds i v).toList.drop (i + 1 + r.length)).toArray = (cs.toList.take i ++ v :: r ++ cs.toList.drop (i + (v :: r).length)).toArray := by
      congr 1
      rw [Array.toList_setIfInBounds, List.take_set, List.drop_set, if_pos (by omega), List.set_eq_take_append_cons_drop]
      simp only [List.length_take, Array.length_toList, List.length_cons]
      rw [if_pos (by omega), List.take_take, List.drop_take]
      simp
      rw [show i + (r.length + 1) = i + 1 + r.length by omega]
    rw [e] at this
    exact this
theorem wpList_store_blk (hgd : o.guard = none) {ty : TypeId} {x y : Operand} (ho : o.op = .store ty x y) {g : Nat} {cs : Array Value} (hx : a.eval x = .pointer (some ⟨g, 0, none⟩)) (hy : a.eval y = .agg cs)
    {t : TypeId} {old : Array Value} (hb : Blk w g t old) (hsz : cs.size = old.size) (hi : (P.info? ty).map (·.size) = some cs.size) (h1 : cs.all (·.oneCell') = true)
    (h : ∀ W, Blk W g t cs → Fr (At g) w W → W.heap.size = w.heap.size → wpList P ops Q rest (a.put o.dst undef) W) : wpList P ops Q (o :: rest) a w := by
  refine wpList_store_mid hgd ty x y ho g 0 cs hx hy (fun j hj => ?_) hi h1 (h _ ?_ ((Fr.refl (At g) w).setCells (.inr rfl) 0 cs.toList) (setCells_heap g (g + 1) (by omega) cs.toList 0 w).2.1)
  · rw [Nat.zero_add, hb.cell j, hb.frozen j]
    exact ⟨by rw [Array.getElem?_eq_getElem (by omega)]; rfl, rfl⟩
  · have := setCells_blk g t cs.toList 0 w old hb (by simp; omega)
    have e : (old.toList.take 0 ++ cs.toList ++ old.toList.drop (0 + cs.toList.length)).toArray = cs := by
      rw [List.drop_eq_nil_of_le (by simp; omega)]; simp
    rw [e] at this
    exact this
theorem Blk.range {g : Nat} {t : TypeId} {cs : Array Value} (hb : Blk w g t cs) : w.rangeAt g 0 cs.toList := fun j v hv => by
  rw [Nat.zero_add, hb.cell j]; simpa using hv
theorem Blk.news {g : Nat} {t : TypeId} {cs : Array Value} (hb : Blk w g t cs) : ∀ j u, cs.toList[j]? = some u → w.cell? ((⟨g, 0, none⟩ : Addr).add j) = some u := fun j u hu => by
  rw [Addr.add_mid, Nat.zero_add, hb.cell j]; simpa using hu
theorem run_load_blk {g : Nat} {t ty : TypeId} {cs : Array Value} (hb : Blk w g t cs) {d : TypeDesc} (hu : P.underlying ty = some d) (hd : d.isRow = true) (hi : (P.info? ty).map (·.size) = some cs.size) :
    (loadVar ty ⟨g, 0, none⟩).run P w = .ok (.agg cs) w := by
  have := run_loadVar_mid (P := P) w g 0 ty cs.toList d hb.range hu hd (by simpa using hi)
  simpa using this
theorem wpList_load_blk (hgd : o.guard = none) {ty : TypeId} {x : Operand} (ho : o.op = .load ty x) {g : Nat} (hx : a.eval x = .pointer (some ⟨g, 0, none⟩)) {t : TypeId} {cs : Array Value} (hb : Blk w g t cs)
    {d : TypeDesc} (hu : P.underlying ty = some d) (hd : d.isRow = true) (hi : (P.info? ty).map (·.size) = some cs.size)
    (h : wpList P ops Q rest (a.put o.dst (.agg cs)) w) : wpList P ops Q (o :: rest) a w :=
  wpList_load_mid hgd ty x ho g 0 hx cs.toList d hb.range hu hd (by simpa using hi) (by simpa using h)
theorem wpList_load_rng (hgd : o.guard = none) {ty : TypeId} {x : Operand} (ho : o.op = .load ty x) {g off : Nat} (hx : a.eval x = .pointer (some ⟨g, off, none⟩)) {cs : Array Value} (hb : w.rangeAt g off cs.toList)
    {d : TypeDesc} (hu : P.underlying ty = some d) (hd : d.isRow = true) (hi : (P.info? ty).map (·.size) = some cs.size)
    (h : wpList P ops Q rest (a.put o.dst (.agg cs)) w) : wpList P ops Q (o :: rest) a w :=
  wpList_load_mid hgd ty x ho g off hx cs.toList d hb hu hd (by simpa using hi) (by simpa using h)
theorem bodyPost_blk {fn : Func} {p : Tmp} {ty : TypeId} {R : Ending → World → Prop} (hres : fn.results = #[.cell p ty]) {g : Nat} (hp : a.tmps.getD p undef = .pointer (some ⟨g, 0, none⟩)) {t : TypeId} {cs : Array Value} (hb : Blk w g t cs)
    {d : TypeDesc} (hu : P.underlying ty = some d) (hd : d.isRow = true) (hi : (P.info? ty).map (·.size) = some cs.size) (hdf : a.defers = []) (hR : R (.returned (.agg cs)) w) : bodyPost P fn R .ret a w :=
  bodyPost_ret (by
    have hp' : a.tmps[p]?.getD undef = .pointer (some ⟨g, 0, none⟩) := by simpa using hp
    simp [results, hres, hp', asAddr, run_load_blk hb hu hd hi]) hdf hR
end

/-! ### Guards for the arms of a walk: quick to fail (`with_reducible refine at_load _ ?_`) -/
section
variable {P : Program} {ops : Array Oper} {Q : Exit → Act → World → Prop} {rest : List Oper} {a : Act} {w : World} {d : Option Tmp} {t : TypeId} {p : String} {af : Array Edge}
theorem at_load {x : Operand} (ty : TypeId) (h : wpList P ops Q (⟨d, .load ty x, t, p, af, none⟩ :: rest) a w) : wpList P ops Q (⟨d, .load ty x, t, p, af, none⟩ :: rest) a w := h
theorem at_store {x y : Operand} (ty : TypeId) (h : wpList P ops Q (⟨d, .store ty x y, t, p, af, none⟩ :: rest) a w) : wpList P ops Q (⟨d, .store ty x y, t, p, af, none⟩ :: rest) a w := h
theorem at_call {c : Call} (h : wpList P ops Q (⟨d, .call c, t, p, af, none⟩ :: rest) a w) : wpList P ops Q (⟨d, .call c, t, p, af, none⟩ :: rest) a w := h
end

/-! ### Nested data in memory -/
/-- What a cell stands for: itself, or the cells of a slice's elements, one behind the other. -/
inductive D where
  | v (x : Value)
  | sl (e : TypeId) (len : Nat) (cells : List D)

mutual
/-- A cell's value is that data; what is read lies in blocks of S. -/
inductive Rep (w : World) (S : Nat → Prop) : Value → D → Prop
  | v {x : Value} (h : x.oneCell' = true) : Rep w S x (.v x)
  | nil0 {A : Option Addr} {cap : Nat} {e : TypeId} (hm : cap ≤ maxLen) : Rep w S (.slice A 0 cap) (.sl e 0 [])
  | row {b off len cap : Nat} {e e' : TypeId} {cur : Array Value} {fz : Nat × Nat} {xs : List Value} {ds : List D} (hl : len ≤ cap) (hm : cap ≤ maxLen) (hS : S b)
      (hb : w.heap[b]? = some (.cells cur e' fz)) (hx : (cur.toList.drop off).take ds.length = xs) (hr : Reps w S xs ds) : Rep w S (.slice (some ⟨b, off, none⟩) len cap) (.sl e len ds)
inductive Reps (w : World) (S : Nat → Prop) : List Value → List D → Prop
  | nil : Reps w S [] []
  | cons {x : Value} {d : D} {xs : List Value} {ds : List D} (h : Rep w S x d) (hr : Reps w S xs ds) : Reps w S (x :: xs) (d :: ds)
end

section
variable {w w' : World} {S S' : Nat → Prop}
mutual
theorem Rep.mono {x : Value} {d : D} (h : Rep w S x d) (hk : ∀ k, S k → k < w.heap.size → w'.heap[k]? = w.heap[k]? ∧ S' k) : Rep w' S' x d := by
  cases h with
  | v h => exact .v h
  | nil0 hm => exact .nil0 hm
  | row hl hm hS hb hx hr => exact .row hl hm (hk _ hS (lt_of_heap hb)).2 ((hk _ hS (lt_of_heap hb)).1.trans hb) hx (hr.mono hk)
theorem Reps.mono {xs : List Value} {ds : List D} (h : Reps w S xs ds) (hk : ∀ k, S k → k < w.heap.size → w'.heap[k]? = w.heap[k]? ∧ S' k) : Reps w' S' xs ds := by
  cases h with
  | nil => exact .nil
  | cons h hr => exact .cons (h.mono hk) (hr.mono hk)
end

theorem Rep.oneCell {x : Value} {d : D} (h : Rep w S x d) : x.oneCell' = true := by
  cases h with
  | v h => exact h
  | nil0 => rfl
  | row => rfl
theorem Rep.v_inv {x y : Value} (h : Rep w S x (.v y)) : x = y := by cases h; rfl
theorem Reps.length {xs : List Value} {ds : List D} (h : Reps w S xs ds) : xs.length = ds.length := by
  induction xs generalizing ds with
  | nil => cases h; rfl
  | cons x xs ih => cases h with | cons h hr => simp [ih hr]
theorem Reps.append {xs ys : List Value} {ds es : List D} (h : Reps w S xs ds) (h' : Reps w S ys es) : Reps w S (xs ++ ys) (ds ++ es) := by
  induction xs generalizing ds with
  | nil => cases h; exact h'
  | cons x xs ih => cases h with | cons h hr => exact .cons h (ih hr)
theorem Reps.drop {xs : List Value} {ds : List D} (h : Reps w S xs ds) (n : Nat) : Reps w S (xs.drop n) (ds.drop n) := by
  induction n generalizing xs ds with
  | zero => simpa using h
  | succ n ih => cases h with
    | nil => simp; exact .nil
    | cons h hr => simpa using ih hr
theorem Reps.take {xs : List Value} {ds : List D} (h : Reps w S xs ds) (n : Nat) : Reps w S (xs.take n) (ds.take n) := by
  induction n generalizing xs ds with
  | zero => simp; exact .nil
  | succ n ih => cases h with
    | nil => simp; exact .nil
    | cons h hr => simpa using .cons h (ih hr)
theorem Reps.oneCells {xs : List Value} {ds : List D} (h : Reps w S xs ds) : ∀ u ∈ xs, u.oneCell' = true := by
  induction xs generalizing ds with
  | nil => simp
  | cons x xs ih => cases h with
    | cons h hr =>
      intro u hu
      rcases List.mem_cons.1 hu with rfl | hu
      · exact h.oneCell
      · exact ih hr u hu
theorem Reps.get {xs : List Value} {ds : List D} (h : Reps w S xs ds) {i : Nat} {d : D} (hd : ds[i]? = some d) : ∃ x, xs[i]? = some x ∧ Rep w S x d := by
  induction xs generalizing ds i with
  | nil => cases h; simp at hd
  | cons x xs ih => cases h with
    | cons h hr => cases i with
      | zero => simp at hd; subst hd; exact ⟨x, rfl, h⟩
      | succ i => simpa using ih hr (by simpa using hd)
/-- Cells that are what they are. -/
theorem Reps.vs : ∀ {xs : List Value}, (∀ u ∈ xs, u.oneCell' = true) → Reps w S xs (xs.map .v)
  | [], _ => .nil
  | x :: xs, h => .cons (.v (h x (by simp))) (Reps.vs fun u hu => h u (by simp [hu]))
theorem Reps.vs_inv : ∀ {xs ys : List Value}, Reps w S xs (ys.map .v) → xs = ys
  | [], [], _ => rfl
  | [], y :: ys, h => by cases h
  | x :: xs, [], h => by cases h
  | x :: xs, y :: ys, h => by cases h with | cons h hr => rw [h.v_inv, Reps.vs_inv hr]

/-- Behind a frame. -/
theorem Rep.fr {M : Nat → Prop} {x : Value} {d : D} (h : Rep w S x d) (hf : Fr M w w') (hs : ∀ k, S k → k < w.heap.size → ¬ M k ∧ S' k) : Rep w' S' x d :=
  h.mono fun k hk hl => ⟨hf.block k hl (hs k hk hl).1, (hs k hk hl).2⟩
theorem Reps.fr {M : Nat → Prop} {xs : List Value} {ds : List D} (h : Reps w S xs ds) (hf : Fr M w w') (hs : ∀ k, S k → k < w.heap.size → ¬ M k ∧ S' k) : Reps w' S' xs ds :=
  h.mono fun k hk hl => ⟨hf.block k hl (hs k hk hl).1, (hs k hk hl).2⟩
theorem Rep.sub {x : Value} {d : D} (h : Rep w S x d) (hs : ∀ k, S k → k < w.heap.size → S' k) : Rep w S' x d := h.mono fun k hk hl => ⟨rfl, hs k hk hl⟩
theorem Rep.frNo {x : Value} {d : D} (h : Rep w S x d) (hf : Fr No w w') : Rep w' S x d := h.fr hf fun _ hk _ => ⟨id, hk⟩
theorem Rep.alloc {x : Value} {d : D} (h : Rep w S x d) (o : Obj) : Rep (w.alloc o) S x d := h.mono fun k hk hl => ⟨Below.heap_alloc w o k hl, hk⟩
theorem Rep.drewN {x : Value} {d : D} (h : Rep w S x d) (n : Nat) : Rep (w.drewN n) S x d := h.mono fun _ hk _ => ⟨rfl, hk⟩
theorem Rep.drew {x : Value} {d : D} (h : Rep w S x d) : Rep w.drew S x d := h.mono fun _ hk _ => ⟨rfl, hk⟩
theorem Rep.set {x : Value} {d : D} (h : Rep w S x d) {p : Addr} (hp : ∀ k, S k → k ≠ p.block) (u : Value) : Rep (w.setCell p u) S x d :=
  h.mono fun k hk _ => ⟨Below.heap_setCell w p u k (hp k hk), hk⟩
theorem Reps.alloc {xs : List Value} {ds : List D} (h : Reps w S xs ds) (o : Obj) : Reps (w.alloc o) S xs ds := h.mono fun k hk hl => ⟨Below.heap_alloc w o k hl, hk⟩
theorem Reps.drewN {xs : List Value} {ds : List D} (h : Reps w S xs ds) (n : Nat) : Reps (w.drewN n) S xs ds := h.mono fun _ hk _ => ⟨rfl, hk⟩

/-- A slice's data: its form. -/
theorem Rep.sl_inv {x : Value} {e : TypeId} {len : Nat} {ds : List D} (h : Rep w S x (.sl e len ds)) : ∃ A cap, x = .slice A len cap ∧ len ≤ cap ∧ cap ≤ maxLen := by
  cases h with
  | nil0 hm => exact ⟨_, _, rfl, Nat.zero_le _, hm⟩
  | row hl hm => exact ⟨_, _, rfl, hl, hm⟩
/-- A slice's element: where it lies, and that it reads as its data. n: the cells of an element. -/
theorem Rep.at_ {A : Option Addr} {len cap : Nat} {e : TypeId} {ds : List D} (h : Rep w S (.slice A len cap) (.sl e len ds)) {o n : Nat} (hn : 0 < n) (hi : o + n ≤ ds.length) :
    ∃ b off cs, A = some ⟨b, off, none⟩ ∧ S b ∧ b < w.heap.size ∧ w.rangeAt b (off + o) cs ∧ cs.length = n ∧ Reps w S cs ((ds.drop o).take n) := by
  generalize hv : Value.slice A len cap = x at h
  generalize hd : D.sl e len ds = d at h
  cases h with
  | v h => cases hd
  | nil0 hm => injection hd with h1 h2 h3; subst h3; simp at hi; omega
  | @row b off len' cap' e' e2 cur fz xs ds' hl hm hS hb hx hr =>
    injection hv with e1 e2 e3
    injection hd with e4 e5 e6
    subst e1; subst e6
    refine ⟨b, off, ((xs.drop o).take n), rfl, hS, lt_of_heap hb, ?_, ?_, (hr.drop o).take n⟩
    · intro j u hu
      rw [cell_of_row w b _ cur _ fz hb]
      have hjn : j < n := by
        have := (List.getElem?_eq_some_iff.1 hu).1
        simp at this; omega
      rw [List.getElem?_take_of_lt hjn, List.getElem?_drop, ← hx, List.getElem?_take_of_lt (by omega), List.getElem?_drop] at hu
      simpa [Nat.add_assoc] using hu
    · have := hr.length
      simp; omega
end

/-! ### A row of the call's own, and what its cells stand for -/
/-- v owns a row (from block B on) of n elements, whose cells stand for ds; what they lead to lies in S, and not in that row. -/
def Own (w : World) (B : Nat) (S : Nat → Prop) (e : TypeId) (size : Nat) (v : Value) (n : Nat) (ds : List D) : Prop :=
  ∃ xs, w.ownsRow B e size v n xs ∧ Reps w (fun k => S k ∧ some k ≠ v.ownBlock) xs ds

section
variable {w w' : World} {B : Nat} {S : Nat → Prop} {e : TypeId} {size : Nat} {v : Value} {n : Nat} {ds : List D}
theorem Own.nil (w : World) (B : Nat) (S : Nat → Prop) (e : TypeId) (size : Nat) : Own w B S e size (.slice none 0 0) 0 [] := ⟨[], w.ownsRow_nil B e size, .nil⟩
theorem Own.made {g : Nat} {cs : Array Value} (hb : Blk w g e cs) (hs : cs.size = n * size) (hB : B ≤ g) (hm : n ≤ maxLen) (hr : Reps w (fun k => S k ∧ k ≠ g) cs.toList ds) : Own w B S e size (.slice (some ⟨g, 0, none⟩) n n) n ds :=
  ⟨cs.toList, ⟨by simpa using hs, .inr ⟨g, n, cs, rfl, hB, hb, Nat.le_refl _, hm, hs, by rw [← hs, ← Array.length_toList, List.take_length]⟩⟩, hr.mono fun k hk _ => ⟨rfl, hk.1, fun h => hk.2 (Option.some.inj h)⟩⟩
theorem Own.blk_lt (h : Own w B S e size v n ds) : ∀ k, v.ownBlock = some k → B ≤ k ∧ k < w.heap.size := h.elim fun _ h => h.1.lt
theorem Own.len (h : Own w B S e size v n ds) : ds.length = n * size := by obtain ⟨xs, h1, h2⟩ := h; rw [← h2.length, h1.1]
theorem Own.kept (h : Own w B S e size v n ds) (hk : ∀ k, k < w.heap.size → (S k ∨ v.ownBlock = some k) → w'.heap[k]? = w.heap[k]?) : Own w' B S e size v n ds := by
  obtain ⟨xs, ⟨h1, h2⟩, h3⟩ := h
  refine ⟨xs, ⟨h1, ?_⟩, h3.mono fun k hS hl => ⟨hk k hl (.inl hS.1), hS⟩⟩
  rcases h2 with h2 | ⟨g, cap, cur, hv, hg, hh, r⟩
  · exact .inl h2
  · exact .inr ⟨g, cap, cur, hv, hg, (hk g (lt_of_heap hh) (.inr (by rw [hv]; rfl))).trans hh, r⟩
theorem Own.alloc (h : Own w B S e size v n ds) (o : Obj) : Own (w.alloc o) B S e size v n ds := h.kept fun k hl _ => Below.heap_alloc w o k hl
theorem Own.drewN (h : Own w B S e size v n ds) (m : Nat) : Own (w.drewN m) B S e size v n ds := h.kept fun _ _ _ => rfl
theorem Own.fr {M : Nat → Prop} (h : Own w B S e size v n ds) (hf : Fr M w w') (hs : ∀ k, k < w.heap.size → (S k ∨ v.ownBlock = some k) → ¬ M k) : Own w' B S e size v n ds :=
  h.kept fun k hl hk => hf.block k hl (hs k hl hk)
theorem Own.set (h : Own w B S e size v n ds) {p : Addr} (hp : ¬ S p.block) (hq : v.ownBlock ≠ some p.block) (u : Value) : Own (w.setCell p u) B S e size v n ds :=
  h.kept fun k _ hk => Below.heap_setCell w p u k fun hc => by subst hc; rcases hk with hk | hk; exact hp hk; exact hq hk
theorem Own.sub {S' : Nat → Prop} (h : Own w B S e size v n ds) (hs : ∀ k, S k → S' k) : Own w B S' e size v n ds :=
  h.elim fun xs ⟨h1, h2⟩ => ⟨xs, h1, h2.mono fun k hk _ => ⟨rfl, hs k hk.1, hk.2⟩⟩
theorem Own.form (h : Own w B S e size v n ds) : ∃ A cap, v = .slice A n cap ∧ n ≤ cap ∧ cap ≤ maxLen := by
  obtain ⟨xs, ⟨h1, h2⟩, h3⟩ := h
  rcases h2 with ⟨rfl, rfl⟩ | ⟨g, cap, cur, hv, hg, hh, hn, hc, r⟩
  · exact ⟨none, 0, rfl, Nat.le_refl _, Nat.zero_le _⟩
  · exact ⟨_, _, hv, hn, hc⟩
/-- Handed on: it is such data. -/
theorem Own.rep (h : Own w B S e size v n ds) (hs : ∀ k, B ≤ k → S k) : Rep w S v (.sl e n ds) := by
  obtain ⟨xs, ⟨h1, h2⟩, h3⟩ := h
  rcases h2 with ⟨rfl, rfl⟩ | ⟨g, cap, cur, rfl, hg, hh, hn, hc, hsz, ht⟩
  · have : xs = [] := List.eq_nil_of_length_eq_zero (by simpa using h1)
    subst this
    cases h3
    exact .nil0 (Nat.zero_le _)
  · refine .row hn hc (hs g hg) hh ?_ (h3.mono fun k hk _ => ⟨rfl, hk.1⟩)
    rw [List.drop_zero, ← h3.length, h1]; exact ht

variable {P : Program} {ops : Array Oper} {rest : List Oper} {o : Oper} {a : Act} {Q : Exit → Act → World → Prop}
theorem run_append_D (t ty : TypeId) (z : Value) (bytes : Nat) (ht : P.underlying t = some (.slice e)) (hi : (P.info? e).map (fun i => (i.zero, i.size, i.bytes)) = some (some z, size, bytes))
    (hzs : z.cells.size = size) (hsz : 0 < size) (hown : Own w B S e size v n ds)
    {ad : Addr} {m c : Nat} {news : List Value} {es : List D} (hl : news.length = m * size) (hnews : ∀ j u, news[j]? = some u → w.cell? (ad.add j) = some u)
    (hr : Reps w (fun k => S k ∧ some k ≠ v.ownBlock) news es) (hb : (n + m) * bytes ≤ 140737488355328) (h63 : n + m ≤ 140737488355328) (hbase : B ≤ w.heap.size) :
    ∃ v' w', (Builtin.append_ #[t, t] ty #[v, .slice (some ad) m c]).run P w = .ok v' w' ∧ Own w' B S e size v' (n + m) (ds ++ es) ∧ w.grownBy w' v.ownBlock ∧
      (v'.ownBlock = v.ownBlock ∨ v'.ownBlock = some w.heap.size) := by
  obtain ⟨xs, h1, h2⟩ := hown
  obtain ⟨i, hi1, hi2, hi3, hi4⟩ := info_parts hi
  obtain ⟨v', w', hrun, hown', hg, _, hat⟩ := run_append_own_at (P := P) w B t ty e i z size bytes ht hi1 hi2 hi3 hi4 hzs hsz v n xs h1 ad m c news hl hnews hr.oneCells (by simp only [maxLen]; omega) hb hbase
  refine ⟨v', w', hrun, ⟨xs ++ news, hown', (h2.append hr).mono fun k hk hlt => ⟨hg.block k hlt hk.2, hk.1, ?_⟩⟩, hg, hat⟩
  rcases hat with hat | hat
  · rw [hat]; exact hk.2
  · rw [hat]; intro hc; injection hc with hc; omega
theorem wpList_append_D (hgd : o.guard = none) (s x : Operand) (t : TypeId) (ho : o.op = .call { callee := .builtin .append, args := #[s, x], argTypes := #[t, t] })
    (z : Value) (bytes : Nat) (ht : P.underlying t = some (.slice e)) (hi : (P.info? e).map (fun i => (i.zero, i.size, i.bytes)) = some (some z, size, bytes))
    (hzs : z.cells.size = size) (hsz : 0 < size) (hs : a.eval s = v) (hown : Own w B S e size v n ds)
    {ad : Addr} {m c : Nat} {news : List Value} {es : List D} (hx : a.eval x = .slice (some ad) m c) (hl : news.length = m * size) (hnews : ∀ j u, news[j]? = some u → w.cell? (ad.add j) = some u)
    (hr : Reps w (fun k => S k ∧ some k ≠ v.ownBlock) news es) (hb : (n + m) * bytes ≤ 140737488355328) (h63 : n + m ≤ 140737488355328) (hbase : B ≤ w.heap.size)
    (h : ∀ v' w', Own w' B S e size v' (n + m) (ds ++ es) → w.grownBy w' v.ownBlock → (v'.ownBlock = v.ownBlock ∨ v'.ownBlock = some w.heap.size) → wpList P ops Q rest (a.put o.dst v') w') :
    wpList P ops Q (o :: rest) a w := by
  refine wpList_plain hgd fun _ hK => ?_
  obtain ⟨v', w', hrun, h2, h3, h4⟩ := run_append_D (P := P) t o.type z bytes ht hi hzs hsz hown (c := c) hl hnews hr hb h63 hbase
  unfold Oper.wp execOp
  simp only [ho, resolve, invoke, builtin, Sem.run_bind, Sem.run_pure, Result.andThen_ok, List.map_toArray, List.map_cons, List.map_nil, hs, hx, hrun]
  exact hK _ _ (h v' w' h2 h3 h4)
end
end Go.Proofs.Ytldmdlkjpdfonaa
