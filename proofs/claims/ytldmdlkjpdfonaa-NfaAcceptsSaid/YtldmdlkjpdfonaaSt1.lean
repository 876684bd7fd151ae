/- What sieveref11.Step makes of a set of places, told by matches; the rounds of its loops. No program in sight. The walk of sieveref11.Step, kind by kind. Condition: a plain expression; a text below 2^31 bytes. The walks of sieveref11.All and Longest: the greatest place to which a match leads. Conditions: a plain expression, a place of the text, a text below 2^31 bytes. The walk of sieveref14.Longest: the best match of an automaton. Conditions: each state leads to states that there are; a place of the text; a text below 2^31 bytes. -/
import Derived.Test.YtldmdlkjpdfonaaNfa7
import Derived.Test.YtldmdlkjpdfonaaEl
import Derived.Test.YtldmdlkjpdfonaaCl3
import Derived.Test.YtldmdlkjpdfonaaNb2
import Derived.Deep.DeepCutAuto
import Derived.Laws.IdiomCopy
import Derived.Test.YtldmdlkjpdfonaaRt
import Derived.Test.YtldmdlkjpdfonaaCl4
import Derived.Test.YtldmdlkjpdfonaaAp
namespace Go.Proofs.Ytldmdlkjpdfonaa
set_option linter.unusedVariables false
set_option linter.unusedSimpArgs false
section
/-- A set of places is those to which matches lead from another one. -/
def StepOf (s : ByteArray) (R : Nat → Nat → Prop) (f f' : Nat → Bool) : Prop := ∀ j, j < s.size + 1 → (f' j = true ↔ ∃ i, i < s.size + 1 ∧ f i = true ∧ R i j)
def Inn (s : ByteArray) (R : Nat → Nat → Prop) : Prop := ∀ i j, i < s.size + 1 → R i j → j < s.size + 1
theorem mt_inn {s : ByteArray} {n : Nd} (h : okN n = true) : Inn s (Mt s n) := (stepS_is s n h).1
variable {s : ByteArray} {l : List Nd} {f out out' now now' : Nat → Bool}
/-- One behind the other, so far. -/
def CatI (s : ByteArray) (l : List Nd) (f : Nat → Bool) (q : Nat) (out : Nat → Bool) : Prop := ∀ j, j < s.size + 1 → ((∃ i, i < s.size + 1 ∧ f i = true ∧ MtCat s l i j) ↔ ∃ i, i < s.size + 1 ∧ out i = true ∧ MtCat s (l.drop q) i j)
theorem CatI.start : CatI s l f 0 f := fun j _ => Iff.rfl
theorem CatI.next {q : Nat} {x : Nd} (h : CatI s l f q out) (hx : l[q]? = some x) (hi : Inn s (Mt s x)) (hs : StepOf s (Mt s x) out out') : CatI s l f (q + 1) out' := by
  intro j hj
  rw [h j hj]
  have hd : l.drop q = x :: l.drop (q + 1) := by
    obtain ⟨hq, rfl⟩ := List.getElem?_eq_some_iff.1 hx
    exact List.drop_eq_getElem_cons hq
  rw [hd, MtCat_cons]
  constructor
  · rintro ⟨i, h1, h2, m, h3, h4⟩
    have hm := hi i m h1 h3
    exact ⟨m, hm, (hs m hm).2 ⟨i, h1, h2, h3⟩, h4⟩
  · rintro ⟨m, h1, h2, h4⟩
    obtain ⟨i, g1, g2, g3⟩ := (hs m h1).1 h2
    exact ⟨i, g1, g2, m, g3, h4⟩
theorem CatI.done {q : Nat} (h : CatI s l f q out) (hq : l.length ≤ q) : StepOf s (MtCat s l) f out := by
  intro j hj
  rw [h j hj, List.drop_eq_nil_of_le hq, MtCat_nil]
  exact ⟨fun h => ⟨j, hj, h, rfl⟩, fun ⟨i, _, h2, e⟩ => e ▸ h2⟩
/-- One or another, so far. -/
def AltI (s : ByteArray) (l : List Nd) (f : Nat → Bool) (q : Nat) (out : Nat → Bool) : Prop := ∀ j, j < s.size + 1 → (out j = true ↔ ∃ p x, p < q ∧ l[p]? = some x ∧ ∃ i, i < s.size + 1 ∧ f i = true ∧ Mt s x i j)
theorem AltI.start : AltI s l f 0 (fun _ => false) := fun j _ => ⟨fun h => (by cases h), fun ⟨p, _, h, _⟩ => (by omega)⟩
theorem AltI.next {q : Nat} {x : Nd} (h : AltI s l f q out) (hx : l[q]? = some x) (hs : StepOf s (Mt s x) f out') : AltI s l f (q + 1) (orTo (s.size + 1) out out') := by
  intro j hj
  unfold orTo
  rw [if_pos hj, Bool.or_eq_true, h j hj, hs j hj]
  constructor
  · rintro (⟨p, y, h1, h2⟩ | h1)
    · exact ⟨p, y, by omega, h2⟩
    · exact ⟨q, x, by omega, hx, h1⟩
  · rintro ⟨p, y, h1, h2, h3⟩
    rcases Nat.lt_or_ge p q with h4 | h4
    · exact .inl ⟨p, y, h4, h2, h3⟩
    · obtain rfl : p = q := by omega
      rw [hx] at h2; injection h2 with h2; subst h2
      exact .inr h3
theorem mtAlt_iff {s : ByteArray} : ∀ (l : List Nd) (i j : Nat), MtAlt s l i j ↔ ∃ (p : Nat) (x : Nd), l[p]? = some x ∧ Mt s x i j
  | [], i, j => by rw [MtAlt_nil]; simp
  | a :: l, i, j => by
    rw [MtAlt_cons]
    show Mt s a i j ∨ MtAlt s l i j ↔ _
    rw [mtAlt_iff l i j]
    constructor
    · rintro (h | ⟨p, x, h1, h2⟩)
      · exact ⟨0, a, rfl, h⟩
      · exact ⟨p + 1, x, by simpa using h1, h2⟩
    · rintro ⟨p, x, h1, h2⟩
      cases p with
      | zero => simp at h1; subst h1; exact .inl h2
      | succ p => exact .inr ⟨p, x, by simpa using h1, h2⟩
theorem AltI.done {q : Nat} (h : AltI s l f q out) (hq : l.length ≤ q) : StepOf s (MtAlt s l) f out := by
  intro j hj
  rw [h j hj]
  constructor
  · rintro ⟨p, x, _, h2, i, h3, h4, h5⟩; exact ⟨i, h3, h4, (mtAlt_iff l i j).2 ⟨p, x, h2, h5⟩⟩
  · rintro ⟨i, h3, h4, h5⟩
    obtain ⟨p, x, h1, h2⟩ := (mtAlt_iff l i j).1 h5
    exact ⟨p, x, by have := (List.getElem?_eq_some_iff.1 h1).1; omega, h1, i, h3, h4, h2⟩
/-- Over and over, so far: k rounds are left. -/
structure RepI (s : ByteArray) (R : Nat → Nat → Prop) (f : Nat → Bool) (k : Nat) (out now : Nat → Bool) : Prop where
  left : s.size + 1 + 1 ≤ k + cnt (s.size + 1) out
  out_ : ∀ j, j < s.size + 1 → out j = true → ∃ i, i < s.size + 1 ∧ f i = true ∧ Star R i j
  now_ : ∀ j, j < s.size + 1 → now j = true → ∃ i, i < s.size + 1 ∧ f i = true ∧ Star R i j
  shut : ∀ i j, i < s.size + 1 → out i = true → R i j → out j = true ∨ now j = true
  all : ∀ i, i < s.size + 1 → f i = true → out i = true ∨ now i = true
variable {R : Nat → Nat → Prop} {k : Nat}
theorem RepI.start : RepI s R f (s.size + 2) (fun _ => false) f :=
  ⟨by omega, fun _ _ h => (by cases h), fun j hj h => ⟨j, hj, h, .nil⟩, fun _ _ _ h => (by cases h), fun _ _ h => .inr h⟩
theorem RepI.pos (h : RepI s R f k out now) : 0 < k := by
  have := h.left
  have := cnt_le (s.size + 1) out
  omega
theorem came_iff (n : Nat) (f g : Nat → Bool) : came n f g = true ↔ ∃ x, x < n ∧ g x = true ∧ f x = false := by
  unfold came
  rw [List.any_eq_true]
  simp
theorem orTo_or {n i : Nat} (hi : i < n) (f g : Nat → Bool) : orTo n f g i = (f i || g i) := if_pos hi
theorem RepI.next (h : RepI s R f (k + 1) out now) (hi : Inn s R) (hc : came (s.size + 1) out now = true) (hs : StepOf s R now now') : RepI s R f k (orTo (s.size + 1) out now) now' := by
  obtain ⟨h0, h1, h2, h3, h4⟩ := h
  obtain ⟨x, hx, hx1, hx2⟩ := (came_iff _ _ _).1 hc
  have hlt : cnt (s.size + 1) out < cnt (s.size + 1) (orTo (s.size + 1) out now) := countP_lt (fun y hy hp => by
    have hy : y < s.size + 1 := by simpa using hy
    rw [orTo_or hy, hp, Bool.true_or]) ⟨x, by simpa using hx, by rw [orTo_or hx, hx1, Bool.or_true], hx2⟩
  refine ⟨by omega, fun j hj ho => ?_, fun j hj hn => ?_, fun i j hi' ho hr => ?_, fun i hi' ha => ?_⟩
  · rw [orTo_or hj, Bool.or_eq_true] at ho
    rcases ho with ho | ho
    · exact h1 j hj ho
    · exact h2 j hj ho
  · obtain ⟨i, g1, g2, g3⟩ := (hs j hj).1 hn
    obtain ⟨i0, a, b, c⟩ := h2 i g1 g2
    exact ⟨i0, a, b, c.snoc g3⟩
  · have hj := hi i j hi' hr
    rw [orTo_or hi', Bool.or_eq_true] at ho
    rcases ho with ho | ho
    · left
      rw [orTo_or hj, Bool.or_eq_true]
      exact h3 i j hi' ho hr
    · exact .inr ((hs j hj).2 ⟨i, hi', ho, hr⟩)
  · left
    rw [orTo_or hi', Bool.or_eq_true]
    exact h4 i hi' ha
theorem RepI.done (h : RepI s R f k out now) (hi : Inn s R) (hc : came (s.size + 1) out now = false) : StepOf s (Star R) f (orTo (s.size + 1) out now) := by
  obtain ⟨h0, h1, h2, h3, h4⟩ := h
  have hsub : ∀ y, y < s.size + 1 → now y = true → out y = true := fun y hy hn => by
    cases ho : out y with
    | true => rfl
    | false =>
      have := (came_iff (s.size + 1) out now).2 ⟨y, hy, hn, ho⟩
      rw [hc] at this; cases this
  have hcl : ∀ i y, Star R i y → i < s.size + 1 → out i = true → out y = true ∧ y < s.size + 1 := fun i y h => by
    induction h with
    | nil => exact fun a b => ⟨b, a⟩
    | step hr _ ih =>
      intro hi' ho
      have hy := hi _ _ hi' hr
      refine ih hy ?_
      rcases h3 _ _ hi' ho hr with h' | h'
      · exact h'
      · exact hsub _ hy h'
  intro j hj
  rw [orTo_or hj, Bool.or_eq_true]
  constructor
  · rintro (h | h)
    · exact h1 j hj h
    · exact h2 j hj h
  · rintro ⟨i, g1, g2, g3⟩
    refine .inl (hcl i j g3 g1 ?_).1
    rcases h4 i g1 g2 with h' | h'
    · exact h'
    · exact hsub i g1 h'
/-- A byte of a set, from place to place. -/
def setI (s : ByteArray) (set : Nat) (f : Nat → Bool) (q : Nat) (out : Nat → Bool) : Prop := ∀ j, j < s.size + 1 → out j = (match j with | 0 => false | i + 1 => if i < q then f i && inB_ s set i else false)
theorem setI.start {set : Nat} : setI s set f 0 (fun _ => false) := fun j _ => by cases j <;> simp
theorem setI.next {set q : Nat} {b : Bool} (h : setI s set f q out) (hb : b = (f q && inB_ s set q)) : setI s set f (q + 1) (fun i => if i = q + 1 then b else out i) := by
  intro j hj
  by_cases he : j = q + 1
  · subst he; simp [hb]
  · show (if j = q + 1 then b else out j) = _
    rw [if_neg he, h j hj]
    cases j with
    | zero => rfl
    | succ i =>
      show (if i < q then _ else _) = (if i < q + 1 then _ else _)
      by_cases h1 : i < q
      · rw [if_pos h1, if_pos (by omega)]
      · rw [if_neg h1, if_neg (by omega)]
theorem setI.done {set : Nat} (h : setI s set f s.size out) : StepOf s (fun i j => inS s set i ∧ j = i + 1) f out := by
  intro j hj
  rw [h j hj]
  cases j with
  | zero => exact ⟨fun h => (by cases h), fun ⟨i, _, _, _, e⟩ => (by omega)⟩
  | succ i =>
    show (if i < s.size then f i && inB_ s set i else false) = true ↔ _
    rw [if_pos (by omega), Bool.and_eq_true, inB_is]
    constructor
    · rintro ⟨h1, h2⟩; exact ⟨i, by omega, h1, h2, rfl⟩
    · rintro ⟨p, _, h1, h2, e⟩
      obtain rfl : i = p := by omega
      exact ⟨h1, h2⟩
theorem step_same {f' : Nat → Bool} (h : ∀ i, i < s.size + 1 → f' i = f i) : StepOf s (fun i j => i = j) f f' := by
  intro j hj
  rw [h j hj]
  exact ⟨fun h => ⟨j, hj, h, rfl⟩, fun ⟨i, _, h2, e⟩ => e ▸ h2⟩
end
section
section
open Go Go.RowKit

theorem mt_kind (s : ByteArray) (n : Nd) : Mt s n = fun i j => if n.kind = 1 then i = j else if n.kind = 2 then inS s n.set i ∧ j = i + 1 else if n.kind = 3 then MtCat s n.subs i j else if n.kind = 4 then MtAlt s n.subs i j else if n.kind = 5 then Star (MtHead s n.subs) i j else False := by
  cases n; exact Mt_eq ..
/-- A row is copied over another one. -/
theorem copy_row {w : World} {B G n cap cap2 : Nat} {f0 f : Nat → Bool} {A2 : Option Addr} {S : Nat → Prop} (h : RowB w B (.slice (some ⟨G, 0, none⟩) n cap) n f0) (hg : BoolsIn w S (.slice A2 n cap2) n f) (hn : 0 < n) :
    ∃ w', (∀ ty, (Builtin.copy_ #[48, 48] ty #[.slice (some ⟨G, 0, none⟩) n cap, .slice A2 n cap2]).run Try.prog w = .ok (goInt n) w') ∧ RowB w' B (.slice (some ⟨G, 0, none⟩) n cap) n f ∧ Fr (At G) w w' := by
  obtain ⟨b2, off2, rfl, hS2, hr2⟩ := bools_cells hg hn
  have hlen : (rowB n f).length = n := rowV_len _ _
  have hcl : ∀ j, j < n → (w.cell? ⟨G, 0 + j, none⟩).isSome = true := fun j hj => by
    rw [Nat.zero_add, h.cell hj]; rfl
  have hfz : ∀ j, j < n → w.frozen? ⟨G, 0 + j, none⟩ = false := fun j _ => by
    rw [Nat.zero_add]; exact World.ownsRow.frozenAt h j
  refine ⟨w.setCells G 0 (rowB n f), fun ty => ?_, ?_, (Fr.refl (At G) w).setCells (.inr rfl) 0 _⟩
  · have hrun := run_copy_cells (P := Try.prog) w 48 48 ty 4 G 0 n cap ⟨b2, off2, none⟩ n cap2 (rowB n f) Try.underlying48 (by kernel_rfl) (by rw [hlen]; exact (Nat.min_self n).symm) (fun j v hv => by rw [Addr.add_mid]; exact hr2 j v hv) (fun j hj => hcl j (by omega)) (fun j hj => hfz j (by omega)) (rowB_one n f)
    rw [hlen] at hrun
    exact hrun
  · obtain ⟨h3, h4⟩ := h
    refine ⟨by rw [hlen, Nat.mul_one], ?_⟩
    rcases h4 with ⟨h, _⟩ | ⟨g, c, cur, he, hg', hh, hnc, hcm, hsz, ht⟩
    · cases h
    · have e2 := he
      injection he with e1 _ e3
      injection e1 with e1
      injection e1 with e1
      subst e1
      subst e3
      rw [Nat.mul_one] at hsz
      have hb := setCells_blk G 4 (rowB n f) 0 w cur hh (by omega)
      refine .inr ⟨G, cap, _, rfl, hg', hb, hnc, hcm, ?_, ?_⟩
      · simp [hlen, hsz]; omega
      · simp [hlen]
def SPost (s : ByteArray) (R : Nat → Nat → Prop) (f : Nat → Bool) (N : Nat) (w : World) (e : Ending) (w' : World) : Prop :=
  (∃ G c f', e = .returned (.slice (some ⟨G, 0, none⟩) N c) ∧ RowB w' w.heap.size (.slice (some ⟨G, 0, none⟩) N c) N f' ∧ StepOf s R f f') ∧ Fr No w w'
/-- What Step makes of an expression, wherever it lies. -/
def SSpec (s : ByteArray) (N : Nat) (n : Nd) : Prop := ∀ (A : Option Addr) (cap : Nat) (A2 : Option Addr) (cap2 : Nat) (f : Nat → Bool) (w : World), Rep w (fun k => k < w.heap.size) (.slice A n.subs.length cap) (.sl 37 n.subs.length (encNs n.subs)) → BoolsIn w (fun k => k < w.heap.size) (.slice A2 N cap2) N f →
  Calls Try.prog 57 #[.agg (nodeA n A cap), .string s, .slice A2 N cap2] w (SPost s (Mt s n) f N w)
/-- What stands behind the first lines of Step. -/
structure StS (n : Nd) (A : Option Addr) (cap N : Nat) (A2 : Option Addr) (cap2 : Nat) (f : Nat → Bool) (w W : World) : Prop where
  box : Blk W w.heap.size 37 (nodeA n A cap)
  rep : Rep W (fun k => k < w.heap.size) (.slice A n.subs.length cap) (.sl 37 n.subs.length (encNs n.subs))
  at_ : BoolsIn W (fun k => k < w.heap.size) (.slice A2 N cap2) N f
  fr : Fr No w W
theorem StS.go {n : Nd} {A A2 : Option Addr} {cap N cap2 : Nat} {f : Nat → Bool} {w W W' : World} (h : StS n A cap N A2 cap2 f w W) (hf : Fr No W W') : StS n A cap N A2 cap2 f w W' :=
  ⟨hf.blk h.box id, h.rep.frNo hf, Rep.frNo h.at_ hf, h.fr.no hf⟩
theorem StS.goAt {n : Nd} {A A2 : Option Addr} {cap N cap2 G : Nat} {f : Nat → Bool} {w W W' : World} (h : StS n A cap N A2 cap2 f w W) (hf : Fr (At G) W W') (hG : w.heap.size < G) : StS n A cap N A2 cap2 f w W' :=
  ⟨hf.blk h.box (fun e => by have e : w.heap.size = G := e; omega), h.rep.fr hf fun k hk _ => ⟨fun e => by have e : k = G := e; omega, hk⟩, Rep.fr h.at_ hf fun k hk _ => ⟨fun e => by have e : k = G := e; omega, hk⟩, h.fr.callAt hf (by omega)⟩
theorem StS.kind {n : Nd} {A A2 : Option Addr} {cap N cap2 : Nat} {f : Nat → Bool} {w W : World} (h : StS n A cap N A2 cap2 f w W) : W.cell? ⟨w.heap.size, 0, none⟩ = some (.int .i64 n.kind) := h.box.cell 0
theorem StS.subs {n : Nd} {A A2 : Option Addr} {cap N cap2 : Nat} {f : Nat → Bool} {w W : World} (h : StS n A cap N A2 cap2 f w W) : W.cell? ⟨w.heap.size, 7, none⟩ = some (.slice A n.subs.length cap) := h.box.cell 7
theorem stStart {n : Nd} {A A2 : Option Addr} {cap N cap2 : Nat} {f : Nat → Bool} {w w3 : World} (hrep : Rep w (fun k => k < w.heap.size) (.slice A n.subs.length cap) (.sl 37 n.subs.length (encNs n.subs))) (hat : BoolsIn w (fun k => k < w.heap.size) (.slice A2 N cap2) N f)
    (ho : w3.ownsRow (w.heap.size + 1) 4 1 (.slice (some ⟨(w.alloc (.cells (nodeA n A cap) 37)).heap.size, 0, none⟩) N N) N (madeCells (Value.bool false).cells (N * 1)).toList) (hg : (w.alloc (.cells (nodeA n A cap) 37)).grownBy w3 none) :
    StS n A cap N A2 cap2 f w w3 ∧ RowB w3 (w.heap.size + 1) (.slice (some ⟨w.heap.size + 1, 0, none⟩) N N) N (fun _ => false) := by
  have hsz1 : (w.alloc (.cells (nodeA n A cap) 37)).heap.size = w.heap.size + 1 := World.size_alloc _ _
  have hF1 : Fr No w _ := (Fr.refl No w).alloc (.cells (nodeA n A cap) 37)
  have hf : Fr No (w.alloc (.cells (nodeA n A cap) 37)) w3 := (Fr.ofGrown hg).mono fun _ _ h => by cases h
  have hz : (Value.bool false).cells = #[.bool false] := rfl
  rw [hz, Nat.mul_one, toList_madeCells_one, rowV_rep, hsz1] at ho
  exact ⟨⟨hf.blk (Blk.new w 37 (nodeA n A cap)) id, (hrep.frNo hF1).frNo hf, (Rep.frNo hat hF1).frNo hf, hF1.no hf⟩, ho⟩
theorem SPost.mk' {s : ByteArray} {R : Nat → Nat → Prop} {f f' : Nat → Bool} {N G c B : Nat} {w w' : World} {e : Ending} (he : e = .returned (.slice (some ⟨G, 0, none⟩) N c)) (hr : RowB w' B (.slice (some ⟨G, 0, none⟩) N c) N f') (hB : w.heap.size ≤ B) (hs : StepOf s R f f') (hf : Fr No w w') : SPost s R f N w e w' :=
  ⟨⟨G, c, f', he, hr.base hB, hs⟩, hf⟩
section
variable (s : ByteArray) (N : Nat) (n : Nd)
set_option maxRecDepth 100000 in
set_option maxHeartbeats 8000000 in
theorem step1 (hN : Hid (s.size + 1 = N)) (hN31 : s.size < 2147483648) (hk : n.kind = 1) : SSpec s N n := by
  intro A cap A2 cap2 f w hrep hat
  have hR : Mt s n = fun i j => i = j := by rw [mt_kind, hk]; rfl
  rw [hR]
  have hF1 : Fr No w _ := (Fr.refl No w).alloc (.cells (nodeA n A cap) 37); have hB1 := Blk.new w 37 (nodeA n A cap); have hrep1 := hrep.frNo hF1; have hat1 := Rep.frNo hat hF1; obtain ⟨ti, ti1, ti2, ti3, ti4⟩ := info_parts infoBool3; have hNpos : 0 < N := (by have := hN.out; omega); have hN32 : N < 4294967296 := (by have := hN.out; omega); have hwN : (s.size : Int) + 1 = (N : Int) := (by have := hN.out; omega); have hsz1 : (w.alloc (.cells (nodeA n A cap) 37)).heap.size = w.heap.size + 1 := World.size_alloc _ _
  go_enter Try.func57, Try.ntmps57
  go_upto_region 4 with (at_make; go_loud (refine wpList_make_full (w.alloc (.cells (nodeA n A cap) 37)) rfl (.tmp 16) (.tmp 16) 48 rfl (w.heap.size + 1) 4 ti _ 1 Try.underlying48 ti1 ti2 ti3 .i64 .i64 (N : Int) (N : Int) N rfl rfl rfl rfl (by rw [ti4]; omega) (by simp only [maxLen]; omega) (by rw [hsz1]; exact Nat.le_refl _) ?_); intro w3 ho3 hg3; obtain ⟨hK0, hr0⟩ := stStart hrep hat ho3 hg3; have hkd := hK0.kind; rw [hk] at hkd; clear ho3 hg3)
  obtain ⟨w4, hrun, hr4, hf4⟩ := copy_row hr0 hK0.at_ hNpos
  have hF := (hK0.goAt hf4 (Nat.lt_succ_self _)).fr
  go_wp2_with fail
  go_ret
  exact SPost.mk' rfl hr4 (Nat.le_succ _) (step_same fun _ _ => rfl) hF
set_option maxRecDepth 100000 in
set_option maxHeartbeats 16000000 in
theorem step3 (hN : Hid (s.size + 1 = N)) (hN31 : s.size < 2147483648) (hk : n.kind = 3) (Hin : Hid (∀ x ∈ n.subs, Inn s (Mt s x))) (Hih : Hid (∀ x ∈ n.subs, SSpec s N x)) : SSpec s N n := by
  intro A cap A2 cap2 f w hrep hat
  have hR : Mt s n = MtCat s n.subs := by rw [mt_kind, hk]; rfl
  rw [hR]
  have hF1 : Fr No w _ := (Fr.refl No w).alloc (.cells (nodeA n A cap) 37); have hB1 := Blk.new w 37 (nodeA n A cap); have hrep1 := hrep.frNo hF1; have hat1 := Rep.frNo hat hF1; obtain ⟨ti, ti1, ti2, ti3, ti4⟩ := info_parts infoBool3; have hNpos : 0 < N := (by have := hN.out; omega); have hN32 : N < 4294967296 := (by have := hN.out; omega); have hwN : (s.size : Int) + 1 = (N : Int) := (by have := hN.out; omega); have hsz1 : (w.alloc (.cells (nodeA n A cap) 37)).heap.size = w.heap.size + 1 := World.size_alloc _ _
  have hcap : n.subs.length ≤ cap ∧ cap ≤ maxLen := by
    obtain ⟨A2, c2, heq, h1, h2⟩ := hrep.sl_inv
    injection heq with e1 e2 e3
    omega
  have hmx := maxLen_eq
  have hs63 : n.subs.length ≤ 9223372036854775807 := by omega
  clear hR
  go_enter Try.func57, Try.ntmps57
  go_upto_region 11 with (at_make; go_loud (refine wpList_make_full (w.alloc (.cells (nodeA n A cap) 37)) rfl (.tmp 16) (.tmp 16) 48 rfl (w.heap.size + 1) 4 ti _ 1 Try.underlying48 ti1 ti2 ti3 .i64 .i64 (N : Int) (N : Int) N rfl rfl rfl rfl (by rw [ti4]; omega) (by simp only [maxLen]; omega) (by rw [hsz1]; exact Nat.le_refl _) ?_); intro w3 ho3 hg3; obtain ⟨hK0, hr0⟩ := stStart hrep hat ho3 hg3; have hkd := hK0.kind; rw [hk] at hkd; clear ho3 hg3)
  obtain ⟨w4, hrun, hr4, hf4⟩ := copy_row hr0 hK0.at_ hNpos
  have hK4 := hK0.goAt hf4 (Nat.lt_succ_self _)
  have hkd4 := hK4.kind
  rw [hk] at hkd4
  have hsb4 := hK4.subs
  clear hkd hr0 hf4 hK0 hrep hat hF1 hB1 hrep1 hat1 hcap hmx ti1 ti2 ti3 ti4
  go_upto_region 12 with fail
  clear hrun
  go_wp2_with fail
  go_loopg [7, 9] n.subs.length (fun g x i wr => ∃ (q G c : Nat) (out : Nat → Bool), q + g = n.subs.length ∧ i = .int .i64 q ∧ x = .slice (some ⟨G, 0, none⟩) N c ∧ StS n A cap N A2 cap2 f w wr ∧ RowB wr (w.heap.size + 1) (.slice (some ⟨G, 0, none⟩) N c) N out ∧ CatI s n.subs f q out)
  case atStart => exact ⟨0, _, _, f, by omega, rfl, rfl, hK4, hr4, CatI.start⟩
  case round =>
    obtain ⟨q, G, c, out, hq, rfl, rfl, hK, hr, hC⟩ := hrel
    have hsb := hK.subs
    clear hK4 hr4 hkd4 hsb4
    cases gk with
    | zero =>
      have hd1 : decide (q < n.subs.length) = false := decide_eq_false (by omega)
      have hge : n.subs.length ≤ q := by omega
      have HC := hid hC
      have HK := hid hK
      clear hC hK
      go_wp2_with fail
      go_ret
      exact SPost.mk' rfl hr (Nat.le_succ _) (HC.out.done hge) HK.out.fr
    | succ g =>
      obtain ⟨x, hx⟩ : ∃ x, n.subs[q]? = some x := ⟨_, List.getElem?_eq_getElem (by omega)⟩
      obtain ⟨bs, os, A', cap', rfl, hSs, hlts, hrng, hrep'⟩ := NodesIn.at_ (l := n.subs) (A := A) (cap := cap) (w := wr) (S := fun k => k < w.heap.size) hK.rep hx
      rw [Nat.mul_comm 8 q] at hrng
      have hd1 : decide (q < n.subs.length) = true := decide_eq_true (by omega)
      have hqL : (q : Int) < (n.subs.length : Int) := by omega
      have hmem := List.mem_of_getElem? hx
      have hbo : BoolsIn wr (fun k => k < wr.heap.size) (.slice (some ⟨G, 0, none⟩) N c) N out := (hr.bools (S := fun _ => True) fun _ _ => trivial).sub fun _ _ h => h
      have hcall := Hih.out x hmem A' cap' (some ⟨G, 0, none⟩) c out wr (hrep'.sub fun _ _ h => h) hbo
      have Hx := hid hx
      have Hq := hid hq
      have HC := hid hC
      have hle := hK.fr.size
      clear hx hq hC hbo hrep' hmem
      go_wp2_with (first | ((with_reducible refine at_load _ ?_); refine wpList_load_rng (cs := nodeA x A' cap') rfl rfl rfl hrng Try.underlying37 rfl infoNode ?_) | (go_at_call 57; refine hcall.mono ?_; rintro e w5 ⟨⟨G', c', f', rfl, hr5, hs5⟩, hf5⟩))
      have hb5 : w.heap.size + 1 ≤ wr.heap.size := by have := hr.lt; omega
      go_roundg g
      case measure => omega
      case rel => exact ⟨q + 1, G', c', f', by have := Hq.out; omega, (by first | rfl | exact wrap_succ (by have := Hq.out; omega)), rfl, hK.go hf5, hr5.base hb5, HC.out.next Hx.out (Hin.out x (List.mem_of_getElem? Hx.out)) hs5⟩
set_option maxRecDepth 100000 in
set_option maxHeartbeats 16000000 in
theorem step4 (hN : Hid (s.size + 1 = N)) (hN31 : s.size < 2147483648) (hk : n.kind = 4) (Hih : Hid (∀ x ∈ n.subs, SSpec s N x)) : SSpec s N n := by
  intro A cap A2 cap2 f w hrep hat
  have hR : Mt s n = MtAlt s n.subs := by rw [mt_kind, hk]; rfl
  rw [hR]
  have hF1 : Fr No w _ := (Fr.refl No w).alloc (.cells (nodeA n A cap) 37); have hB1 := Blk.new w 37 (nodeA n A cap); have hrep1 := hrep.frNo hF1; have hat1 := Rep.frNo hat hF1; obtain ⟨ti, ti1, ti2, ti3, ti4⟩ := info_parts infoBool3; have hNpos : 0 < N := (by have := hN.out; omega); have hN32 : N < 4294967296 := (by have := hN.out; omega); have hwN : (s.size : Int) + 1 = (N : Int) := (by have := hN.out; omega); have hsz1 : (w.alloc (.cells (nodeA n A cap) 37)).heap.size = w.heap.size + 1 := World.size_alloc _ _
  have hcap : n.subs.length ≤ cap ∧ cap ≤ maxLen := by
    obtain ⟨A2, c2, heq, h1, h2⟩ := hrep.sl_inv
    injection heq with e1 e2 e3
    omega
  have hmx := maxLen_eq
  have hs63 : n.subs.length ≤ 9223372036854775807 := by omega
  clear hR
  go_enter Try.func57, Try.ntmps57
  go_upto_region 17 with (at_make; go_loud (refine wpList_make_full (w.alloc (.cells (nodeA n A cap) 37)) rfl (.tmp 16) (.tmp 16) 48 rfl (w.heap.size + 1) 4 ti _ 1 Try.underlying48 ti1 ti2 ti3 .i64 .i64 (N : Int) (N : Int) N rfl rfl rfl rfl (by rw [ti4]; omega) (by simp only [maxLen]; omega) (by rw [hsz1]; exact Nat.le_refl _) ?_); intro w3 ho3 hg3; obtain ⟨hK0, hr0⟩ := stStart hrep hat ho3 hg3; have hkd := hK0.kind; rw [hk] at hkd; clear ho3 hg3)
  clear hkd hrep hat hF1 hB1 hrep1 hat1 hcap hmx ti1 ti2 ti3 ti4
  go_wp2_with fail
  go_loopg [10] n.subs.length (fun g i wr => ∃ (q : Nat) (out : Nat → Bool), q + g = n.subs.length ∧ i = .int .i64 q ∧ StS n A cap N A2 cap2 f w wr ∧ RowB wr (w.heap.size + 1) (.slice (some ⟨w.heap.size + 1, 0, none⟩) N N) N out ∧ AltI s n.subs f q out)
  case atStart => exact ⟨0, _, by omega, rfl, hK0, hr0, AltI.start⟩
  case round =>
    obtain ⟨q, out, hq, rfl, hK, hr, hC⟩ := hrel
    have hsb := hK.subs
    clear hK0 hr0
    cases gk with
    | zero =>
      have hd1 : decide (q < n.subs.length) = false := decide_eq_false (by omega)
      have hge : n.subs.length ≤ q := by omega
      have HC := hid hC
      have HK := hid hK
      clear hC hK
      go_wp2_with fail
      go_ret
      exact SPost.mk' rfl hr (Nat.le_succ _) (HC.out.done hge) HK.out.fr
    | succ g =>
      obtain ⟨x, hx⟩ : ∃ x, n.subs[q]? = some x := ⟨_, List.getElem?_eq_getElem (by omega)⟩
      obtain ⟨bs, os, A', cap', rfl, hSs, hlts, hrng, hrep'⟩ := NodesIn.at_ (l := n.subs) (A := A) (cap := cap) (w := wr) (S := fun k => k < w.heap.size) hK.rep hx
      rw [Nat.mul_comm 8 q] at hrng
      have hd1 : decide (q < n.subs.length) = true := decide_eq_true (by omega)
      have hqL : (q : Int) < (n.subs.length : Int) := by omega
      have hcall := Hih.out x (List.mem_of_getElem? hx) A' cap' A2 cap2 f wr (hrep'.sub fun _ _ h => h) (Rep.sub hK.at_ fun _ _ h => h)
      have Hx := hid hx
      have Hq := hid hq
      have HC := hid hC
      have hlt := hr.lt.2
      have HN := hN
      clear hx hq hC hrep'
      go_wp2_with (first | ((with_reducible refine at_load _ ?_); refine wpList_load_rng (cs := nodeA x A' cap') rfl rfl rfl hrng Try.underlying37 rfl infoNode ?_) | (go_at_call 57; refine hcall.mono ?_; rintro e w5 ⟨⟨G', c', f', rfl, hr5, hs5⟩, hf5⟩))
      have hG5 := hr5.lt.1
      have hb5 : BoolsIn w5 (fun k => k ≠ w.heap.size + 1) (.slice (some ⟨G', 0, none⟩) N c') N f' := hr5.bools fun k hk e => by omega
      have hor := or_c (w.heap.size + 1) N N (w.heap.size + 1) out f' _ c' w5 (hr.fr hf5 id) hb5 hNpos hN32
      refine hor.mono ?_
      rintro e w6 ⟨rfl, hr6, hf6⟩
      have hA6 := HC.out.next Hx.out hs5
      rw [HN.out] at hA6
      have hK6 := (hK.go hf5).goAt hf6 (Nat.lt_succ_self _)
      clear hor hb5 hr5 hs5 hf5 hf6
      go_wp2_with fail
      go_roundg g
      case measure => omega
      case rel => exact ⟨q + 1, _, by have := Hq.out; omega, (by first | rfl | exact wrap_succ (by have := Hq.out; omega)), hK6, hr6, hA6⟩
set_option maxRecDepth 100000 in
set_option maxHeartbeats 16000000 in
theorem step2 (hN : Hid (s.size + 1 = N)) (hN31 : s.size < 2147483648) (hk : n.kind = 2) : SSpec s N n := by
  intro A cap A2 cap2 f w hrep hat
  have hR : Mt s n = fun i j => inS s n.set i ∧ j = i + 1 := by rw [mt_kind, hk]; rfl
  rw [hR]
  have hF1 : Fr No w _ := (Fr.refl No w).alloc (.cells (nodeA n A cap) 37); have hB1 := Blk.new w 37 (nodeA n A cap); have hrep1 := hrep.frNo hF1; have hat1 := Rep.frNo hat hF1; obtain ⟨ti, ti1, ti2, ti3, ti4⟩ := info_parts infoBool3; have hNpos : 0 < N := (by have := hN.out; omega); have hN32 : N < 4294967296 := (by have := hN.out; omega); have hwN : (s.size : Int) + 1 = (N : Int) := (by have := hN.out; omega); have hsz1 : (w.alloc (.cells (nodeA n A cap) 37)).heap.size = w.heap.size + 1 := World.size_alloc _ _
  clear hR
  go_enter Try.func57, Try.ntmps57
  go_upto_region 6 with (at_make; go_loud (refine wpList_make_full (w.alloc (.cells (nodeA n A cap) 37)) rfl (.tmp 16) (.tmp 16) 48 rfl (w.heap.size + 1) 4 ti _ 1 Try.underlying48 ti1 ti2 ti3 .i64 .i64 (N : Int) (N : Int) N rfl rfl rfl rfl (by rw [ti4]; omega) (by simp only [maxLen]; omega) (by rw [hsz1]; exact Nat.le_refl _) ?_); intro w3 ho3 hg3; obtain ⟨hK0, hr0⟩ := stStart hrep hat ho3 hg3; have hkd := hK0.kind; rw [hk] at hkd; clear ho3 hg3)
  clear hkd hrep hat hF1 hB1 hrep1 hat1 ti1 ti2 ti3 ti4
  go_wp2_with fail
  go_loopg [8] s.size (fun g i wr => ∃ (q : Nat) (out : Nat → Bool), q + g = s.size ∧ i = .int .i64 q ∧ StS n A cap N A2 cap2 f w wr ∧ RowB wr (w.heap.size + 1) (.slice (some ⟨w.heap.size + 1, 0, none⟩) N N) N out ∧ setI s n.set f q out)
  case atStart => exact ⟨0, _, by omega, rfl, hK0, hr0, setI.start⟩
  case round =>
    obtain ⟨q, out, hq, rfl, hK, hr, hC⟩ := hrel
    clear hK0 hr0
    cases gk with
    | zero =>
      have hd1 : decide (q < s.size) = false := decide_eq_false (by omega)
      have hge : s.size ≤ q := by omega
      have hqe : q = s.size := by omega
      rw [hqe] at hC
      have HC := hid hC
      have HK := hid hK
      clear hC hK hqe
      go_wp2_with fail
      go_ret
      exact SPost.mk' rfl hr (Nat.le_succ _) HC.out.done HK.out.fr
    | succ g =>
      have hqs : q < s.size := by omega
      have hqN : q < N := by have := hN.out; omega
      have hqN1 : q + 1 < N := by have := hN.out; omega
      have hqI : (q : Int) < (N : Int) := by omega
      have hqI1 : (q : Int) + 1 < (N : Int) := by omega
      have hd1 : decide (q < s.size) = true := decide_eq_true hqs
      obtain ⟨b2, off2, rfl, hS2, hr2⟩ := bools_cells hK.at_ hNpos
      have hcA : wr.cell? ⟨b2, off2 + q, none⟩ = some (.bool (f q)) := hr2 q _ (rowV_get _ hqN)
      have hset : wr.rangeAt w.heap.size 1 (setA n.set).toList := fun j v hv => by
        have h4 : j < 4 := by
          have := (List.getElem?_eq_some_iff.1 hv).1
          simpa [setA] using this
        have hc := hK.box.cell (1 + j)
        rw [hc, ← hv]
        have hj : j = 0 ∨ j = 1 ∨ j = 2 ∨ j = 3 := by omega
        rcases hj with rfl | rfl | rfl | rfl <;> rfl
      have hbt : s[q].toNat < 256 := s[q].toNat_lt
      have hnx : (nx s q).toNat = s[q].toNat := by unfold nx; simp [hqs]
      have Hnx := hid hnx
      have Hq := hid hq
      have HC := hid hC
      have hin := in11_c n.set s[q].toNat wr.drew hbt
      clear hq hC hnx
      go_wp2_with fail
      cases hfq : f q with
      | false =>
        rw [hfq] at hcA
        have Hfq := hid hfq
        clear hfq hin
        refine wp_region_tail 16 (fun W => W.cell? ⟨b2, off2 + q, none⟩ = some (.bool false)) (by kernel_rfl) (by kernel_rfl) ?_
        simp only [List.take_succ_cons, List.take_zero, List.drop_succ_cons, List.drop_zero]
        have hS0 : (fun W : World => W.cell? ⟨b2, off2 + q, none⟩ = some (.bool false)) wr.drew := hcA
        have hw1 : IntKind.i64.wrap ((q : Int) + 1) = (q : Int) + 1 := by rw [IntKind.wrap_i64]; omega
        have hnn : ¬ ((q : Int) + 1 < 0) := by omega
        have ht1 : ((q : Int) + 1).toNat = q + 1 := by omega
        refine Rt.take (i := 0) (v := (.slice (some ⟨w.heap.size + 1, 0, none⟩) N N)) rfl (by kernel_rfl) (fun _ _ _ h => h) (.inl ⟨rfl, fun w hSw => by (try dsimp only at hSw); go_simp⟩) (by assumption) ?_
        try simp only [Act.put, List.getElem_toArray, List.getElem_cons_succ, List.getElem_cons_zero, List.setIfInBounds_toArray, List.set_cons_zero, List.set_cons_succ]
        refine Rt.take (i := 1) (v := (.int .i64 q)) rfl (by kernel_rfl) (fun _ _ _ h => h) (.inl ⟨rfl, fun w hSw => by (try dsimp only at hSw); go_simp⟩) (by assumption) ?_
        try simp only [Act.put, List.getElem_toArray, List.getElem_cons_succ, List.getElem_cons_zero, List.setIfInBounds_toArray, List.set_cons_zero, List.set_cons_succ]
        refine Rt.take (i := 2) (v := (.int .i64 (q + 1))) rfl (by kernel_rfl) (fun _ _ _ h => h) (.inl ⟨rfl, fun w hSw => by (try dsimp only at hSw); go_simp⟩) (by assumption) ?_
        try simp only [Act.put, List.getElem_toArray, List.getElem_cons_succ, List.getElem_cons_zero, List.setIfInBounds_toArray, List.set_cons_zero, List.set_cons_succ]
        refine Rt.take (i := 3) (v := (.slice (some ⟨b2, off2, none⟩) N cap2)) rfl (by kernel_rfl) (fun _ _ _ h => h) (.inl ⟨rfl, fun w hSw => by (try dsimp only at hSw); go_simp⟩) (by assumption) ?_
        try simp only [Act.put, List.getElem_toArray, List.getElem_cons_succ, List.getElem_cons_zero, List.setIfInBounds_toArray, List.set_cons_zero, List.set_cons_succ]
        refine Rt.take (i := 4) (v := (.int .i64 q)) rfl (by kernel_rfl) (fun _ _ _ h => h) (.inl ⟨rfl, fun w hSw => by (try dsimp only at hSw); go_simp⟩) (by assumption) ?_
        try simp only [Act.put, List.getElem_toArray, List.getElem_cons_succ, List.getElem_cons_zero, List.setIfInBounds_toArray, List.set_cons_zero, List.set_cons_succ]
        refine Rt.take (i := 5) (v := (.pointer (some ⟨b2, off2 + q, none⟩))) rfl (by kernel_rfl) (fun _ _ _ h => h) (.inl ⟨rfl, fun w hSw => by (try dsimp only at hSw); go_simp⟩) (by assumption) ?_
        try simp only [Act.put, List.getElem_toArray, List.getElem_cons_succ, List.getElem_cons_zero, List.setIfInBounds_toArray, List.set_cons_zero, List.set_cons_succ]
        refine Rt.take (i := 6) (v := (.bool false)) rfl (by kernel_rfl) (fun _ _ _ h => h) (.inl ⟨rfl, fun w hSw => by (try dsimp only at hSw); go_simp⟩) (by assumption) ?_
        try simp only [Act.put, List.getElem_toArray, List.getElem_cons_succ, List.getElem_cons_zero, List.setIfInBounds_toArray, List.set_cons_zero, List.set_cons_succ]
        refine Rt.take (i := 7) (v := (.bool false)) rfl (by kernel_rfl) (fun _ _ _ h => h) (.inl ⟨rfl, fun w hSw => by (try dsimp only at hSw); go_simp⟩) (by assumption) ?_
        try simp only [Act.put, List.getElem_toArray, List.getElem_cons_succ, List.getElem_cons_zero, List.setIfInBounds_toArray, List.set_cons_zero, List.set_cons_succ]
        refine Rt.take (i := 8) (v := undef) rfl (by kernel_rfl) (fun _ _ _ h => h) (.inr ⟨rfl, rfl⟩) (by assumption) ?_
        try simp only [Act.put, List.getElem_toArray, List.getElem_cons_succ, List.getElem_cons_zero, List.setIfInBounds_toArray, List.set_cons_zero, List.set_cons_succ]
        refine Rt.take (i := 9) (v := undef) rfl (by kernel_rfl) (fun _ _ _ h => h) (.inr ⟨rfl, rfl⟩) (by assumption) ?_
        try simp only [Act.put, List.getElem_toArray, List.getElem_cons_succ, List.getElem_cons_zero, List.setIfInBounds_toArray, List.set_cons_zero, List.set_cons_succ]
        refine Rt.take (i := 10) (v := undef) rfl (by kernel_rfl) (fun _ _ _ h => h) (.inr ⟨rfl, rfl⟩) (by assumption) ?_
        try simp only [Act.put, List.getElem_toArray, List.getElem_cons_succ, List.getElem_cons_zero, List.setIfInBounds_toArray, List.set_cons_zero, List.set_cons_succ]
        refine Rt.take (i := 11) (v := undef) rfl (by kernel_rfl) (fun _ _ _ h => h) (.inr ⟨rfl, rfl⟩) (by assumption) ?_
        try simp only [Act.put, List.getElem_toArray, List.getElem_cons_succ, List.getElem_cons_zero, List.setIfInBounds_toArray, List.set_cons_zero, List.set_cons_succ]
        refine Rt.take (i := 12) (v := undef) rfl (by kernel_rfl) (fun _ _ _ h => h) (.inr ⟨rfl, rfl⟩) (by assumption) ?_
        try simp only [Act.put, List.getElem_toArray, List.getElem_cons_succ, List.getElem_cons_zero, List.setIfInBounds_toArray, List.set_cons_zero, List.set_cons_succ]
        refine Rt.take (i := 13) (v := undef) rfl (by kernel_rfl) (fun _ _ _ h => h) (.inr ⟨rfl, rfl⟩) (by assumption) ?_
        try simp only [Act.put, List.getElem_toArray, List.getElem_cons_succ, List.getElem_cons_zero, List.setIfInBounds_toArray, List.set_cons_zero, List.set_cons_succ]
        refine Rt.take (i := 14) (v := (.bool false)) rfl (by kernel_rfl) (fun _ _ _ h => h) (.inl ⟨rfl, fun w hSw => by (try dsimp only at hSw); go_simp⟩) (by assumption) ?_
        try simp only [Act.put, List.getElem_toArray, List.getElem_cons_succ, List.getElem_cons_zero, List.setIfInBounds_toArray, List.set_cons_zero, List.set_cons_succ]
        refine Rt.take (i := 15) (v := (.pointer (some ⟨w.heap.size + 1, q + 1, none⟩))) rfl (by kernel_rfl) (fun _ _ _ h => h) (.inl ⟨rfl, fun w hSw => by (try dsimp only at hSw); go_simp⟩) (by assumption) ?_
        try simp only [Act.put, List.getElem_toArray, List.getElem_cons_succ, List.getElem_cons_zero, List.setIfInBounds_toArray, List.set_cons_zero, List.set_cons_succ]
        refine Rt.done (by kernel_rfl) ?_
        have hcr := hr.cell hqN1
        have hfz := World.ownsRow.frozenAt hr (q + 1)
        have hst := hid (hr.put (q + 1) false)
        have hfs := hid ((Fr.refl (At (w.heap.size + 1)) wr).setB (q + 1) (.bool false))
        have HN2 := hid hN.out
        go_wp2_with fail
        go_roundg g
        case measure => omega
        case rel => exact ⟨q + 1, _, by have := Hq.out; omega, (by first | rfl | exact wrap_succ (by have := Hq.out; omega)), hK.goAt hfs.out.drew (Nat.lt_succ_self _), hst.out, HC.out.next (by rw [Hfq.out]; rfl)⟩
      | true =>
        rw [hfq] at hcA
        have Hfq := hid hfq
        clear hfq
        have Hb : Hid (n.set.testBit s[q].toNat = inB_ s n.set q) := hid (by unfold inB_; rw [Hnx.out, decide_eq_true hqs, Bool.true_and])
        refine wp_region_tail 16 (fun W => W.cell? ⟨b2, off2 + q, none⟩ = some (.bool true) ∧ W.rangeAt w.heap.size 1 (setA n.set).toList) (by kernel_rfl) (by kernel_rfl) ?_
        simp only [List.take_succ_cons, List.take_zero, List.drop_succ_cons, List.drop_zero]
        have hS0 : (fun W : World => W.cell? ⟨b2, off2 + q, none⟩ = some (.bool true) ∧ W.rangeAt w.heap.size 1 (setA n.set).toList) wr.drew := ⟨hcA, hset⟩
        have hw1 : IntKind.i64.wrap ((q : Int) + 1) = (q : Int) + 1 := by rw [IntKind.wrap_i64]; omega
        have hnn : ¬ ((q : Int) + 1 < 0) := by omega
        have ht1 : ((q : Int) + 1).toNat = q + 1 := by omega
        refine Rt.take (i := 0) (v := (.slice (some ⟨w.heap.size + 1, 0, none⟩) N N)) rfl (by kernel_rfl) (fun _ _ _ h => h) (.inl ⟨rfl, fun w hSw => by (try dsimp only at hSw); go_simp⟩) (by assumption) ?_
        try simp only [Act.put, List.getElem_toArray, List.getElem_cons_succ, List.getElem_cons_zero, List.setIfInBounds_toArray, List.set_cons_zero, List.set_cons_succ]
        refine Rt.take (i := 1) (v := (.int .i64 q)) rfl (by kernel_rfl) (fun _ _ _ h => h) (.inl ⟨rfl, fun w hSw => by (try dsimp only at hSw); go_simp⟩) (by assumption) ?_
        try simp only [Act.put, List.getElem_toArray, List.getElem_cons_succ, List.getElem_cons_zero, List.setIfInBounds_toArray, List.set_cons_zero, List.set_cons_succ]
        refine Rt.take (i := 2) (v := (.int .i64 (q + 1))) rfl (by kernel_rfl) (fun _ _ _ h => h) (.inl ⟨rfl, fun w hSw => by (try dsimp only at hSw); go_simp⟩) (by assumption) ?_
        try simp only [Act.put, List.getElem_toArray, List.getElem_cons_succ, List.getElem_cons_zero, List.setIfInBounds_toArray, List.set_cons_zero, List.set_cons_succ]
        refine Rt.take (i := 3) (v := (.slice (some ⟨b2, off2, none⟩) N cap2)) rfl (by kernel_rfl) (fun _ _ _ h => h) (.inl ⟨rfl, fun w hSw => by (try dsimp only at hSw); go_simp⟩) (by assumption) ?_
        try simp only [Act.put, List.getElem_toArray, List.getElem_cons_succ, List.getElem_cons_zero, List.setIfInBounds_toArray, List.set_cons_zero, List.set_cons_succ]
        refine Rt.take (i := 4) (v := (.int .i64 q)) rfl (by kernel_rfl) (fun _ _ _ h => h) (.inl ⟨rfl, fun w hSw => by (try dsimp only at hSw); go_simp⟩) (by assumption) ?_
        try simp only [Act.put, List.getElem_toArray, List.getElem_cons_succ, List.getElem_cons_zero, List.setIfInBounds_toArray, List.set_cons_zero, List.set_cons_succ]
        refine Rt.take (i := 5) (v := (.pointer (some ⟨b2, off2 + q, none⟩))) rfl (by kernel_rfl) (fun _ _ _ h => h) (.inl ⟨rfl, fun w hSw => by (try dsimp only at hSw); go_simp⟩) (by assumption) ?_
        try simp only [Act.put, List.getElem_toArray, List.getElem_cons_succ, List.getElem_cons_zero, List.setIfInBounds_toArray, List.set_cons_zero, List.set_cons_succ]
        refine Rt.take (i := 6) (v := (.bool true)) rfl (by kernel_rfl) (fun _ _ _ h => h) (.inl ⟨rfl, fun w hSw => by obtain ⟨hS1, hS2⟩ := hSw; (try dsimp only at hS1); go_simp⟩) (by assumption) ?_
        try simp only [Act.put, List.getElem_toArray, List.getElem_cons_succ, List.getElem_cons_zero, List.setIfInBounds_toArray, List.set_cons_zero, List.set_cons_succ]
        refine Rt.take (i := 7) (v := (.bool true)) rfl (by kernel_rfl) (fun _ _ _ h => h) (.inl ⟨rfl, fun w hSw => by (try dsimp only at hSw); go_simp⟩) (by assumption) ?_
        try simp only [Act.put, List.getElem_toArray, List.getElem_cons_succ, List.getElem_cons_zero, List.setIfInBounds_toArray, List.set_cons_zero, List.set_cons_succ]
        refine Rt.take (i := 8) (v := (.pointer (some ⟨w.heap.size, 1, none⟩))) rfl (by kernel_rfl) (fun _ _ _ h => h) (.inl ⟨rfl, fun w hSw => by (try dsimp only at hSw); go_simp⟩) (by assumption) ?_
        try simp only [Act.put, List.getElem_toArray, List.getElem_cons_succ, List.getElem_cons_zero, List.setIfInBounds_toArray, List.set_cons_zero, List.set_cons_succ]
        refine Rt.take (i := 9) rfl (by kernel_rfl) (fun _ _ _ h => h) (YieldsIf.load rfl rfl rfl (fun W hW => hW.2) Try.underlying35 rfl infoSet) (by assumption) ?_
        try simp only [Act.put, List.getElem_toArray, List.getElem_cons_succ, List.getElem_cons_zero, List.setIfInBounds_toArray, List.set_cons_zero, List.set_cons_succ]
        refine Rt.take (i := 10) (v := (.string s)) rfl (by kernel_rfl) (fun _ _ _ h => h) (.inl ⟨rfl, fun w hSw => by (try dsimp only at hSw); go_simp⟩) (by assumption) ?_
        try simp only [Act.put, List.getElem_toArray, List.getElem_cons_succ, List.getElem_cons_zero, List.setIfInBounds_toArray, List.set_cons_zero, List.set_cons_succ]
        refine Rt.take (i := 11) (v := (.int .i64 q)) rfl (by kernel_rfl) (fun _ _ _ h => h) (.inl ⟨rfl, fun w hSw => by (try dsimp only at hSw); go_simp⟩) (by assumption) ?_
        try simp only [Act.put, List.getElem_toArray, List.getElem_cons_succ, List.getElem_cons_zero, List.setIfInBounds_toArray, List.set_cons_zero, List.set_cons_succ]
        refine Rt.take (i := 12) (v := (.int .u8 (s[q].toNat : Int))) rfl (by kernel_rfl) (fun _ _ _ h => h) (.inl ⟨rfl, fun w hSw => by (try dsimp only at hSw); go_simp⟩) (by assumption) ?_
        try simp only [Act.put, List.getElem_toArray, List.getElem_cons_succ, List.getElem_cons_zero, List.setIfInBounds_toArray, List.set_cons_zero, List.set_cons_succ]
        refine Rt.one (i := 13) rfl (by kernel_rfl) (fun K hK' => ?_)
        rw [if_pos (by kernel_rfl)]
        go_simp
        have hst := hid fun w6 (hf6 : Fr No wr w6) => (hr.fr hf6 id).put (q + 1) (n.set.testBit s[q].toNat)
        refine hin.mono ?_
        rintro e w6 ⟨rfl, hf6⟩
        have hf6 : Fr No wr w6 := hf6.undrew
        have hS6 : (fun W : World => W.cell? ⟨b2, off2 + q, none⟩ = some (.bool true) ∧ W.rangeAt w.heap.size 1 (setA n.set).toList) w6 := ⟨by rw [hf6.cell (p := ⟨b2, off2 + q, none⟩) id hcA], range_fr hset hf6 id⟩
        have hK6 := hK.go hf6
        have hr6 := hr.fr hf6 id
        have hst := hr6.put (q + 1) (n.set.testBit s[q].toNat)
        have hfs := (Fr.refl (At (w.heap.size + 1)) w6).setB (q + 1) (.bool (n.set.testBit s[q].toNat))
        have hKs := hid (hK6.goAt hfs (Nat.lt_succ_self _))
        have Hst := hid hst
        have hN6 := hid (HC.out.next (b := n.set.testBit s[q].toNat) (by rw [Hfq.out, Hb.out]; rfl))
        refine hK'.out _ _ hS6 ?_
        clear hK' K hin hst hfs hset hcA
        generalize n.set.testBit s[q].toNat = tb at *
        refine Rt.take (i := 14) (v := (.bool tb)) rfl (by kernel_rfl) (fun _ _ _ h => h) (.inl ⟨rfl, fun w hSw => by obtain ⟨hS1, hS2⟩ := hSw; (try dsimp only at hS1); go_simp⟩) (by assumption) ?_
        try simp only [Act.put, List.getElem_toArray, List.getElem_cons_succ, List.getElem_cons_zero, List.setIfInBounds_toArray, List.set_cons_zero, List.set_cons_succ]
        refine Rt.take (i := 15) (v := (.pointer (some ⟨w.heap.size + 1, q + 1, none⟩))) rfl (by kernel_rfl) (fun _ _ _ h => h) (.inl ⟨rfl, fun w hSw => by obtain ⟨hS1, hS2⟩ := hSw; (try dsimp only at hS1); go_simp⟩) (by assumption) ?_
        try simp only [Act.put, List.getElem_toArray, List.getElem_cons_succ, List.getElem_cons_zero, List.setIfInBounds_toArray, List.set_cons_zero, List.set_cons_succ]
        refine Rt.done (by kernel_rfl) ?_
        have hcr := hr6.cell hqN1
        have hfz := World.ownsRow.frozenAt hr6 (q + 1)
        go_wp2_with fail
        go_roundg g
        case measure => omega
        case rel => exact ⟨q + 1, _, by have := Hq.out; omega, (by first | rfl | exact wrap_succ (by have := Hq.out; omega)), hKs.out, Hst.out, hN6.out⟩
theorem stCopy {N : Nat} {f : Nat → Bool} {w3 w4 : World} {v : Value} (hN : 0 < N) (hO4 : Own w4 w3.heap.size (fun _ => False) 4 1 v (0 + N) (encB N f)) (hg4 : (w3.alloc (.cells #[] 4)).grownBy w4 (Value.slice (some ⟨w3.heap.size, 0, none⟩) 0 0).ownBlock) :
    ∃ G c, v = .slice (some ⟨G, 0, none⟩) N c ∧ RowB w4 w3.heap.size (.slice (some ⟨G, 0, none⟩) N c) N f ∧ Fr No w3 w4 := by
  rw [Nat.zero_add] at hO4
  obtain ⟨xs3, ho3, hx3⟩ := hO4
  have hx3' := Reps.vs_inv hx3
  subst hx3'
  obtain ⟨G, capG, rfl, hGB, hGl⟩ := World.ownsRow.form ho3 hN
  refine ⟨G, capG, rfl, ho3, ((Fr.refl No w3).alloc (.cells #[] 4)).call (Fr.ofGrown hg4) fun k hk e => ?_⟩
  have e : k = w3.heap.size := by injection e
  omega
set_option maxRecDepth 100000 in
set_option maxHeartbeats 16000000 in
theorem step5 (x : Nd) (hN : Hid (s.size + 1 = N)) (hN31 : s.size < 2147483648) (hk : n.kind = 5) (hx : n.subs = [x]) (hmn : n.mn = 0) (hmx : n.mx = -1) (Hin : Inn s (Mt s x)) (Hih : Hid (SSpec s N x)) : SSpec s N n := by
  intro A cap A2 cap2 f w hrep hat
  have hR : Mt s n = Star (Mt s x) := by rw [mt_kind, hk, hx, MtHead_cons]; rfl
  rw [hR]
  have hF1 : Fr No w _ := (Fr.refl No w).alloc (.cells (nodeA n A cap) 37); have hB1 := Blk.new w 37 (nodeA n A cap); have hrep1 := hrep.frNo hF1; have hat1 := Rep.frNo hat hF1; obtain ⟨ti, ti1, ti2, ti3, ti4⟩ := info_parts infoBool3; have hNpos : 0 < N := (by have := hN.out; omega); have hN32 : N < 4294967296 := (by have := hN.out; omega); have hwN : (s.size : Int) + 1 = (N : Int) := (by have := hN.out; omega); have hsz1 : (w.alloc (.cells (nodeA n A cap) 37)).heap.size = w.heap.size + 1 := World.size_alloc _ _
  have hl1 : n.subs.length = 1 := by rw [hx]; rfl
  obtain ⟨b2, off2, rfl, hS2, hr2⟩ := bools_cells hat hNpos
  clear hR
  go_enter Try.func57, Try.ntmps57
  go_upto_region 22 with (at_make; go_loud (refine wpList_make_full (w.alloc (.cells (nodeA n A cap) 37)) rfl (.tmp 16) (.tmp 16) 48 rfl (w.heap.size + 1) 4 ti _ 1 Try.underlying48 ti1 ti2 ti3 .i64 .i64 (N : Int) (N : Int) N rfl rfl rfl rfl (by rw [ti4]; omega) (by simp only [maxLen]; omega) (by rw [hsz1]; exact Nat.le_refl _) ?_); intro w3 ho3 hg3; obtain ⟨hK0, hr0⟩ := stStart hrep hat ho3 hg3; have hkd := hK0.kind; rw [hk] at hkd; clear ho3 hg3)
  have hO : Own (w3.alloc (.cells #[] 4)) w3.heap.size (fun _ => False) 4 1 (.slice (some ⟨w3.heap.size, 0, none⟩) 0 0) 0 [] := Own.made (Blk.new w3 4 #[]) rfl (Nat.le_refl _) (by decide) .nil
  have hr2' := range_fr (range_fr hr2 hK0.fr id) ((Fr.refl No w3).alloc (.cells #[] 4)) id
  have hnews : Reps (w3.alloc (.cells #[] 4)) (fun k => False ∧ some k ≠ (Value.slice (some ⟨w3.heap.size, 0, none⟩) 0 0).ownBlock) (rowB N f) (encB N f) := Reps.vs (rowB_one _ _)
  have hrl : (rowB N f).length = N := rowV_len _ _
  have HK0 := hid hK0
  have Hr0 := hid hr0
  clear hkd hrep hat hF1 hB1 hrep1 hat1 ti1 ti2 ti3 ti4 hr2 hK0 hr0
  go_upto_region 23 with (at_builtin; go_loud ((with_reducible refine at_call ?_); refine wpList_append_D (m := N) rfl (.tmp 90) (.tmp 91) 48 rfl _ 1 Try.underlying48 infoBool3 rfl (by decide) rfl hO rfl (news := rowB N f) (by rw [hrl, Nat.mul_one]) (fun j u hu => by rw [Addr.add_mid]; exact hr2' j u hu) hnews (by omega) (by omega) (by rw [World.size_alloc]; omega) ?_); intro v4 w4 hO4 hg4 hat4)
  clear hO hr2' hnews hrl
  obtain ⟨G0, c0, rfl, hr4, hf4⟩ := stCopy hNpos hO4 hg4
  have hK4 := HK0.out.go hf4
  have hr04 := Hr0.out.fr hf4 id
  have hb4 : w.heap.size + 2 ≤ w3.heap.size := by have := Hr0.out.lt.2; omega
  have hr4 := hr4.base hb4
  have hm5 : w4.cell? ⟨w.heap.size, 5, none⟩ = some (.int .i64 n.mn) := hK4.box.cell 5
  have hm6 : w4.cell? ⟨w.heap.size, 6, none⟩ = some (.int .i64 n.mx) := hK4.box.cell 6
  rw [hmn] at hm5
  rw [hmx] at hm6
  clear hO4 hg4 hat4 hf4 HK0 Hr0
  go_wp2_with fail
  go_loopg [11, 13] (N + 1) (fun g x11 i wr => ∃ (q G c : Nat) (out nw : Nat → Bool), q + g = N + 1 ∧ i = .int .i64 q ∧ x11 = .slice (some ⟨G, 0, none⟩) N c ∧ StS n A cap N (some ⟨b2, off2, none⟩) cap2 f w wr ∧ RowB wr (w.heap.size + 1) (.slice (some ⟨w.heap.size + 1, 0, none⟩) N N) N out ∧ RowB wr (w.heap.size + 2) (.slice (some ⟨G, 0, none⟩) N c) N nw ∧ RepI s (Mt s x) f g out nw)
  case atStart => exact ⟨0, _, _, _, f, by omega, rfl, rfl, hK4, hr04, hr4, hN.out ▸ RepI.start⟩
  case round =>
    obtain ⟨q, G, c, out, nw, hq, rfl, rfl, hK, hr, hrn, hC⟩ := hrel
    clear hK4 hr04 hr4 hm5 hm6
    obtain ⟨g, rfl⟩ : ∃ g, gk = g + 1 := ⟨gk - 1, by have := hC.pos; omega⟩
    have hx0 : n.subs[0]? = some x := by rw [hx]; rfl
    obtain ⟨bs, os, A', cap', rfl, hSs, hlts, hrng, hrep'⟩ := NodesIn.at_ (l := n.subs) (A := A) (cap := cap) (w := wr) (S := fun k => k < w.heap.size) hK.rep hx0
    rw [Nat.mul_zero, Nat.add_zero] at hrng
    have hm5 : wr.cell? ⟨w.heap.size, 5, none⟩ = some (.int .i64 n.mn) := hK.box.cell 5
    rw [hmn] at hm5
    have d1 : decide (q ≤ N) = true := decide_eq_true (by omega)
    have d2 : decide ((q : Int) ≤ (N : Int)) = true := decide_eq_true (by omega)
    have hqN : (q : Int) ≤ (N : Int) := by omega
    have hnow : BoolsIn wr (fun k => k ≠ w.heap.size + 1) (.slice (some ⟨G, 0, none⟩) N c) N nw := hrn.bools fun k hk e => by omega
    have hor := or_c (w.heap.size + 1) N N (w.heap.size + 1) out nw _ c wr hr hnow hNpos hN32
    have Hq := hid hq
    have HC := hid hC
    have hG := hrn.lt
    clear hq hC hnow
    cases hc : came N out nw with
    | false =>
      rw [hc] at hor
      have Hc := hid hc
      clear hc hrng hrep'
      have HK := hid hK
      clear hK
      go_wp2_with (go_at_call 64; refine hor.mono ?_; rintro e w5 ⟨rfl, hr5, hf5⟩)
      go_ret
      exact SPost.mk' rfl hr5 (Nat.le_succ _) (hN.out ▸ HC.out.done Hin (hN.out.symm ▸ Hc.out)) (HK.out.goAt hf5 (Nat.lt_succ_self _)).fr
    | true =>
      rw [hc] at hor
      have Hc := hid hc
      have Hrep := hid hrep'
      have HK := hid hK
      have Hrn := hid hrn
      clear hc hrep' hK hr hrn
      have hSs : bs < w.heap.size := hSs
      go_wp2_with (first | (go_at_call 64; refine hor.mono ?_; rintro e w5 ⟨rfl, hr5, hf5⟩; have hK5 := hid (HK.out.goAt hf5 (Nat.lt_succ_self _)); have hsb5 := hK5.out.subs; rw [hl1] at hsb5; have hrng5 := range_fr hrng hf5 (fun e => by have e : bs = w.heap.size + 1 := e; omega)) |
        ((with_reducible refine at_load _ ?_); refine wpList_load_rng (cs := nodeA x A' cap') rfl rfl rfl hrng5 Try.underlying37 rfl infoNode ?_) |
        (go_at_call 57; refine (Hih.out A' cap' (some ⟨G, 0, none⟩) c nw w5 ((Hrep.out.fr hf5 fun k hk _ => ⟨fun e => by have hk : k < w.heap.size := hk; have e : k = w.heap.size + 1 := e; omega, hk⟩).sub fun _ _ h => h) (((Hrn.out.fr hf5 (fun e => by have e : G = w.heap.size + 1 := e; omega)).bools (S := fun _ => True) fun _ _ => trivial).sub fun _ _ h => h)).mono ?_; rintro e w6 ⟨⟨G', c', f', rfl, hr6, hs6⟩, hf6⟩))
      go_roundg g
      case measure => omega
      case rel =>
        have hb6 : w.heap.size + 2 ≤ w5.heap.size := by have := hf5.size; omega
        exact ⟨q + 1, G', c', _, f', by have := Hq.out; omega, (by first | rfl | exact wrap_succ (by have := Hq.out; omega)), rfl, hK5.out.go hf6, hr5.fr hf6 id, hr6.base hb6, hN.out ▸ HC.out.next Hin (hN.out.symm ▸ Hc.out) hs6⟩
end
end
section
open Go Go.RowKit

theorem allPlain_mem : ∀ {l : List Nd} {a : Nd}, a ∈ l → allPlain l = true → isPlain a = true
  | [], _, h, _ => by cases h
  | x :: l, a, h, hk => by
    unfold allPlain at hk
    rw [Bool.and_eq_true] at hk
    rcases List.mem_cons.1 h with rfl | h
    · exact hk.1
    · exact allPlain_mem h hk.2
theorem ndepths_mem {l : List Nd} {a : Nd} (h : a ∈ l) : a.depth ≤ ndepths l := by
  obtain ⟨i, hi⟩ := List.getElem?_of_mem h
  exact ndepths_get hi
/-- Step, of any plain expression. -/
theorem stepAll_c (s : ByteArray) (hN31 : s.size < 2147483648) : ∀ (k : Nat) (n : Nd), n.depth ≤ k → isPlain n = true → SSpec s (s.size + 1) n
  | 0, n, hk, _ => by have := n.depth_eq; omega
  | k + 1, n, hk, hp => by
    have hd := n.depth_eq
    rw [isPlain_eq, Bool.and_eq_true] at hp
    obtain ⟨hb, ha⟩ := hp
    have hih : ∀ x ∈ n.subs, SSpec s (s.size + 1) x := fun x hx => stepAll_c s hN31 k x (by have := ndepths_mem hx; omega) (allPlain_mem hx ha)
    have hin : ∀ x ∈ n.subs, Inn s (Mt s x) := fun x hx => mt_inn (okN_plain x (allPlain_mem hx ha))
    rcases bareN_kind hb with h | h | h | h | ⟨h, hl⟩
    · exact step1 s _ n (hid rfl) hN31 h
    · exact step2 s _ n (hid rfl) hN31 h
    · exact step3 s _ n (hid rfl) hN31 h (hid hin) (hid hih)
    · exact step4 s _ n (hid rfl) hN31 h (hid hih)
    · obtain ⟨x, hx⟩ : ∃ x, n.subs = [x] := by
        cases hs : n.subs with
        | nil => rw [hs] at hl; cases hl
        | cons x l => rw [hs] at hl; cases l with
          | nil => exact ⟨x, rfl⟩
          | cons y l => simp at hl
      unfold bareN at hb
      rw [if_neg (by omega), if_neg (by omega), if_neg (by omega), if_pos h] at hb
      simp only [Bool.and_eq_true, beq_iff_eq] at hb
      exact step5 s _ n x (hid rfl) hN31 h hx hb.1.1.2 hb.1.2 (hin x (by rw [hx]; exact List.mem_cons_self ..)) (hid (hih x (by rw [hx]; exact List.mem_cons_self ..)))
theorem madeB {w w3 : World} {g N : Nat} (hg : g = w.heap.size) (ho : w3.ownsRow g 4 1 (.slice (some ⟨w.heap.size, 0, none⟩) N N) N (madeCells (Value.bool false).cells (N * 1)).toList) (hgr : w.grownBy w3 none) :
    RowB w3 g (.slice (some ⟨g, 0, none⟩) N N) N (fun _ => false) ∧ Fr No w w3 := by
  have hz : (Value.bool false).cells = #[.bool false] := rfl
  rw [hz, Nat.mul_one, toList_madeCells_one, rowV_rep, ← hg] at ho
  exact ⟨ho, (Fr.ofGrown hgr).mono fun _ _ h => by cases h⟩
theorem Own.base {w : World} {B B' : Nat} {S : Nat → Prop} {e : TypeId} {size n : Nat} {v : Value} {ds : List D} (h : Own w B S e size v n ds) (hb : B' ≤ B) : Own w B' S e size v n ds := by
  obtain ⟨xs, ⟨h3, h4⟩, h2⟩ := h
  refine ⟨xs, ⟨h3, h4.imp id ?_⟩, h2⟩
  rintro ⟨g, c, cur, he, hg, hr⟩
  exact ⟨g, c, cur, he, by omega, hr⟩
/-- The places of a set, in order. -/
def lsN (f : Nat → Bool) (k : Nat) : List Nat := (List.range k).filter f
theorem lsN_succ (f : Nat → Bool) (k : Nat) : lsN f (k + 1) = lsN f k ++ (if f k = true then [k] else []) := by
  unfold lsN
  rw [List.range_succ, List.filter_append]
  cases h : f k <;> simp [List.filter, h]
theorem lsN_len (f : Nat → Bool) (k : Nat) : (lsN f k).length ≤ k := by
  have := List.length_filter_le f (List.range k)
  simpa [lsN] using this
def encLs (l : List Nat) : List D := l.map fun i : Nat => .v (.int .i64 (i : Int))
theorem encLs_len (l : List Nat) : (encLs l).length = l.length := by simp [encLs]
theorem encLs_append (l m : List Nat) : encLs (l ++ m) = encLs l ++ encLs m := by simp [encLs]
/-- The greatest place to which a match leads; -1: none. -/
def LongOf (s : ByteArray) (R : Nat → Nat → Prop) (st : Nat) (z : Int) : Prop :=
  (z = -1 ∧ ∀ j, j < s.size + 1 → ¬ R st j) ∨ ∃ j : Nat, z = (j : Int) ∧ j < s.size + 1 ∧ R st j ∧ ∀ j', j' < s.size + 1 → R st j' → j' ≤ j
theorem longOf_nil {s : ByteArray} {R : Nat → Nat → Prop} {st : Nat} {f : Nat → Bool} (hs : StepOf s R (fun i => if i = st then true else false) f) (h : (lsN f (s.size + 1)).length = 0) (hst : st < s.size + 1) : LongOf s R st (-1) := by
  refine .inl ⟨rfl, fun j hj hr => ?_⟩
  have hf : f j = true := (hs j hj).2 ⟨st, hst, by simp, hr⟩
  have hm : j ∈ lsN f (s.size + 1) := by unfold lsN; rw [List.mem_filter]; exact ⟨by simpa using hj, hf⟩
  rw [List.eq_nil_of_length_eq_zero h] at hm
  cases hm
theorem longOf_last {s : ByteArray} {R : Nat → Nat → Prop} {st m e : Nat} {f : Nat → Bool} (hs : StepOf s R (fun i => if i = st then true else false) f) (hm : (lsN f (s.size + 1)).length = m + 1) (he : (lsN f (s.size + 1))[m]? = some e) (hst : st < s.size + 1) : LongOf s R st (e : Int) := by
  have hto : ∀ j, j < s.size + 1 → (f j = true ↔ R st j) := fun j hj => by
    rw [hs j hj]
    constructor
    · rintro ⟨i, _, h1, h2⟩
      dsimp only at h1
      by_cases h : i = st
      · subst h; exact h2
      · rw [if_neg h] at h1; cases h1
    · intro h
      exact ⟨st, hst, by simp, h⟩
  have hmem : ∀ j, j ∈ lsN f (s.size + 1) ↔ j < s.size + 1 ∧ f j = true := fun j => by unfold lsN; rw [List.mem_filter]; simp
  have hsort : (lsN f (s.size + 1)).Pairwise (· < ·) := List.Pairwise.filter _ List.pairwise_lt_range
  obtain ⟨h1, h2⟩ := (hmem e).1 (List.mem_of_getElem? he)
  refine .inr ⟨e, rfl, h1, (hto e h1).1 h2, fun j' hj' hr => ?_⟩
  obtain ⟨i, hi⟩ := List.getElem?_of_mem ((hmem j').2 ⟨hj', (hto j' hj').2 hr⟩)
  obtain ⟨hil, hie⟩ := List.getElem?_eq_some_iff.1 hi
  obtain ⟨hml, hme⟩ := List.getElem?_eq_some_iff.1 he
  rcases Nat.lt_or_ge i m with h3 | h3
  · have := List.pairwise_iff_getElem.1 hsort i m hil hml h3
    omega
  · obtain rfl : i = m := by omega
    omega
theorem Rep.here {w w' : World} {S : Nat → Prop} {x : Value} {d : D} (h : Rep w S x d) (hf : Fr No w w') : Rep w' (fun k => k < w'.heap.size) x d := (h.frNo hf).sub fun _ _ h => h
section
variable (s : ByteArray) (N : Nat) (n : Nd) (st : Nat)
set_option maxRecDepth 100000 in
set_option maxHeartbeats 16000000 in
theorem all_c (hN : Hid (s.size + 1 = N)) (hN31 : s.size < 2147483648) (hp : isPlain n = true) (hst : st < N) (A : Option Addr) (cap : Nat) (w : World) (hrep : Rep w (fun k => k < w.heap.size) (.slice A n.subs.length cap) (.sl 37 n.subs.length (encNs n.subs))) :
    Calls Try.prog 41 #[.agg (nodeA n A cap), .string s, .int .i64 st] w fun e w' => (∃ v f, e = .returned v ∧ Own w' w.heap.size (fun _ => False) 3 1 v (lsN f N).length (encLs (lsN f N)) ∧ StepOf s (Mt s n) (fun i => if i = st then true else false) f) ∧ Fr No w w' := by
  have hstep : Hid (SSpec s N n) := hid (hN.out ▸ stepAll_c s hN31 n.depth n (Nat.le_refl _) hp)
  have hF1 : Fr No w _ := (Fr.refl No w).alloc (.cells (nodeA n A cap) 37)
  have hB1 := Blk.new w 37 (nodeA n A cap)
  have hrep1 := hrep.frNo hF1
  obtain ⟨ti, ti1, ti2, ti3, ti4⟩ := info_parts infoBool3
  have hNpos : 0 < N := by omega
  have hN32 : N < 4294967296 := by have := hN.out; omega
  have hwN : (s.size : Int) + 1 = (N : Int) := by have := hN.out; omega
  have hsz1 : (w.alloc (.cells (nodeA n A cap) 37)).heap.size = w.heap.size + 1 := World.size_alloc _ _
  have hstI : (st : Int) < (N : Int) := by omega
  go_enter Try.func41, Try.ntmps41
  go_upto_region 2 with (at_make; go_loud (refine wpList_make_full (w.alloc (.cells (nodeA n A cap) 37)) rfl (.tmp 12) (.tmp 12) 48 rfl (w.heap.size + 1) 4 ti _ 1 Try.underlying48 ti1 ti2 ti3 .i64 .i64 (N : Int) (N : Int) N rfl rfl rfl rfl (by rw [ti4]; omega) (by simp only [maxLen]; omega) (by rw [hsz1]; exact Nat.le_refl _) ?_); intro w3 ho3 hg3)
  obtain ⟨hr3, hf3⟩ := madeB hsz1.symm ho3 hg3
  have hf03 := hF1.no hf3
  have hb3 := hf3.blk hB1 id
  have hrep3 := hrep1.frNo hf3
  have hfz := World.ownsRow.frozenAt hr3 st
  have hcl := hr3.cell hst
  have hr4 := hr3.put st true
  have hfs := (Fr.refl (At (w.heap.size + 1)) w3).setB st (.bool true)
  have hb4 := hfs.blk hb3 (fun e => by have e : w.heap.size = w.heap.size + 1 := e; omega)
  have hrep4 := hrep3.fr hfs fun k hk _ => ⟨fun e => by have hk : k < w.heap.size := hk; have e : k = w.heap.size + 1 := e; omega, hk⟩
  have hF4 := hf03.callAt hfs (Nat.le_succ _)
  have hbx := hb4.range
  have hcall := hstep.out A cap (some ⟨w.heap.size + 1, 0, none⟩) N _ _ (hrep4.sub fun _ _ h => h) ((hr4.bools (S := fun _ => True) fun _ _ => trivial).sub fun _ _ h => h)
  have HF4 := hid hF4
  clear hF1 hB1 hrep1 ti1 ti2 ti3 ti4 ho3 hg3 hr3 hf03 hb3 hrep3 hr4 hfs hb4 hrep4 hf3 hF4 hstep hrep
  go_wp2_with (first | ((with_reducible refine at_load _ ?_); refine wpList_load_rng (cs := nodeA n A cap) rfl rfl rfl hbx Try.underlying37 rfl infoNode ?_) |
    (go_at_call 57; refine hcall.mono ?_; rintro e w5 ⟨⟨G', c', f', rfl, hr5, hs5⟩, hf5⟩))
  have hG5 := hr5.lt
  have hF5 := HF4.out.no hf5
  have hsz5 := hF5.size
  have hsz4 := HF4.out.size
  clear hcall hbx hfz hcl HF4 hf5
  go_loopg [8, 9] N (fun g v i wr => ∃ q : Nat, q + g = N ∧ i = .int .i64 q ∧ Own wr w5.heap.size (fun _ => False) 3 1 v (lsN f' q).length (encLs (lsN f' q)) ∧ RowB wr w.heap.size (.slice (some ⟨G', 0, none⟩) N c') N f' ∧ Fr No w wr ∧ w5.heap.size ≤ wr.heap.size)
  case atStart => exact ⟨0, by omega, rfl, Own.nil .., hr5.base hsz4, hF5, Nat.le_refl _⟩
  case round =>
    obtain ⟨q, hq, rfl, hO, hr, hF, hle⟩ := hrel
    clear hr5 hF5
    cases gk with
    | zero =>
      have hqN : q = N := by omega
      rw [hqN] at hO
      have HO := hid hO
      have HF := hid hF
      have hd1 : decide (q < N) = false := decide_eq_false (by omega)
      have hge : N ≤ q := by omega
      clear hO hF hqN hq
      go_wp2_with fail
      go_ret
      exact ⟨⟨_, f', rfl, HO.out.base hsz5, hs5⟩, HF.out⟩
    | succ g =>
      have hqN : q < N := by omega
      have hqI : (q : Int) < (N : Int) := by omega
      have hd1 : decide (q < N) = true := decide_eq_true hqN
      have hc1 := hr.cell hqN
      have Hq := hid hq
      have hln := lsN_len f' q
      have hls := hid (lsN_succ f' q)
      have HF := hid hF
      have Hr := hid hr
      have HO := hid hO
      clear hq hF hr hO
      cases hfq : f' q with
      | false =>
        rw [hfq] at hc1
        rw [hfq, if_neg (by decide), List.append_nil] at hls
        clear hfq
        go_wp2_with fail
        go_roundg g
        case measure => omega
        case rel => exact ⟨q + 1, by have := Hq.out; omega, (by first | rfl | exact wrap_succ (by have := Hq.out; omega)), hls.out.symm ▸ HO.out, Hr.out, HF.out, hle⟩
      | true =>
        rw [hfq] at hc1
        rw [hfq, if_pos rfl] at hls
        clear hfq
        go_wp2_with (at_builtin; go_loud ((with_reducible refine at_call ?_); refine wpList_append_D (es := [.v (.int .i64 q)]) (m := 1) rfl (.tmp 31) (.tmp 33) 42 rfl _ 8 Try.underlying42 infoInt3 rfl (by decide) rfl (HO.out.alloc _) rfl (news := [.int .i64 q]) rfl (Blk.new _ 3 #[.int .i64 q]).news (.cons (.v rfl) .nil) (by omega) (by omega) (by rw [World.size_alloc]; omega) ?_); intro v6 w6 hO6 hg6 hat6)
        have hfa : Fr No wr _ := (Fr.refl No wr).alloc (.cells #[.int .i64 (q : Int)] 3)
        have hf6 := Fr.ofGrown hg6
        have hbl := HO.out.blk_lt
        have hF6 : Fr No w w6 := (HF.out.no hfa).call hf6 fun k hk e => by have := hbl k e.symm; omega
        have hr6 := (Hr.out.fr hfa id).fr hf6 (fun e => by have := hbl _ e.symm; have := hG5.2; omega)
        have hle6 : w5.heap.size ≤ w6.heap.size := by have := hf6.size; rw [World.size_alloc] at this; omega
        have hO7 : Own w6 w5.heap.size (fun _ => False) 3 1 v6 (lsN f' (q + 1)).length (encLs (lsN f' (q + 1))) := by
          rw [hls.out, encLs_append, List.length_append]
          exact hO6
        clear hO6 hg6 hat6 hfa hf6 hbl
        go_roundg g
        case measure => omega
        case rel => exact ⟨q + 1, by have := Hq.out; omega, (by first | rfl | exact wrap_succ (by have := Hq.out; omega)), hO7, hr6, hF6, hle6⟩
set_option maxRecDepth 100000 in
set_option maxHeartbeats 8000000 in
theorem long11_c (hN31 : s.size < 2147483648) (hp : isPlain n = true) (hst : st ≤ s.size) (A : Option Addr) (cap : Nat) (w : World) (hrep : Rep w (fun k => k < w.heap.size) (.slice A n.subs.length cap) (.sl 37 n.subs.length (encNs n.subs))) :
    Calls Try.prog 14 #[.agg (nodeA n A cap), .string s, .int .i64 st] w fun e w' => (∃ z : Int, e = .returned (.int .i64 z) ∧ LongOf s (Mt s n) st z) ∧ Fr No w w' := by
  have hF1 : Fr No w _ := (Fr.refl No w).alloc (.cells (nodeA n A cap) 37)
  have hB1 := Blk.new w 37 (nodeA n A cap)
  have hbx := hB1.range
  have hrep1 := hrep.here hF1
  have hcall := all_c s (s.size + 1) n st (hid rfl) hN31 hp (by omega) A cap _ hrep1
  clear hB1 hrep1 hrep
  go_enter Try.func14, Try.ntmps14
  go_upto_region 2 with (first | ((with_reducible refine at_load _ ?_); refine wpList_load_rng (cs := nodeA n A cap) rfl rfl rfl hbx Try.underlying37 rfl infoNode ?_) |
    (go_at_call 41; refine hcall.mono ?_; rintro e w5 ⟨⟨v, f, rfl, hO, hs⟩, hf5⟩))
  obtain ⟨Av, cv, rfl, h1, h2⟩ := hO.form
  have hF := hid (hF1.no hf5)
  have hrv := (hO.sub (S' := fun _ => True) fun _ h => h.elim).rep fun _ _ => trivial
  have hln := lsN_len f (s.size + 1)
  have Hs := hid hs
  clear hO hcall hbx hF1 hf5 hs
  cases hm : (lsN f (s.size + 1)).length with
  | zero =>
    have Hm := hid hm
    clear hrv hm hln
    go_wp2_with fail
    go_ret
    exact ⟨⟨-1, rfl, longOf_nil Hs.out Hm.out (by omega)⟩, hF.out⟩
  | succ m =>
    obtain ⟨e, he⟩ : ∃ e, (lsN f (s.size + 1))[m]? = some e := ⟨_, List.getElem?_eq_getElem (by omega)⟩
    obtain ⟨bl, ol, rfl, -, -, hcl⟩ := ints_at (l := lsN f (s.size + 1)) hrv he
    have Hm := hid hm
    have He := hid he
    have hmm : IntKind.i64.wrap (((m + 1 : Nat) : Int) - 1) = (m : Int) := by rw [IntKind.wrap_i64]; omega
    have hm0 : (((m + 1 : Nat) : Int) == 0) = false := beq_eq_false_iff_ne.2 (by omega)
    have hm1 : (m : Int) < ((m + 1 : Nat) : Int) := by omega
    clear hrv he
    rw [hm] at hln h1
    clear hm
    go_wp2_with fail
    go_ret
    exact ⟨⟨e, rfl, longOf_last Hs.out Hm.out He.out (by omega)⟩, hF.out⟩
end
end
section
open Go Go.RowKit

/-- The rule that is accepted at a place is the first that matches up to there. -/
theorem accM {L : List NS} {s : ByteArray} {st j len : Nat} {f : Nat → Bool} {z : Int} {M : Nat → Nat → Bool} (hM : ∀ k : Nat, (∃ q x, Reach L s 0 st q j ∧ L[q]? = some x ∧ x.acc = (k : Int)) ↔ (k < len ∧ M k j = true)) (hi : InOf L s 0 st j f) (hz : AccOf L f z) :
    (z = -1 ∧ ∀ k, k < len → M k j = false) ∨ ∃ k : Nat, z = (k : Int) ∧ k < len ∧ M k j = true ∧ ∀ k', k' < k → M k' j = false := by
  have key : ∀ k, k < len → M k j = true → ∃ p x, L[p]? = some x ∧ f p = true ∧ x.acc = (k : Int) := fun k hk hm => by
    obtain ⟨q, x, h1, h2, h3⟩ := (hM k).2 ⟨hk, hm⟩
    exact ⟨q, x, h2, (hi q (List.getElem?_eq_some_iff.1 h2).1).2 h1, h3⟩
  rcases hz with ⟨rfl, hz⟩ | ⟨hz, ⟨p, x, hx, hp, ha⟩, hmin⟩
  · refine .inl ⟨rfl, fun k hk => ?_⟩
    cases hm : M k j with
    | false => rfl
    | true =>
      obtain ⟨p, x, hx, hp, ha⟩ := key k hk hm
      have := hz p x hx hp
      omega
  · obtain ⟨k, rfl⟩ : ∃ k : Nat, z = (k : Int) := ⟨z.toNat, by omega⟩
    obtain ⟨h1, h2⟩ := (hM k).1 ⟨p, x, (hi p (List.getElem?_eq_some_iff.1 hx).1).1 hp, hx, ha⟩
    refine .inr ⟨k, rfl, h1, h2, fun k' hk' => ?_⟩
    cases hm : M k' j with
    | false => rfl
    | true =>
      obtain ⟨p, x, hx, hp, ha⟩ := key k' (by omega) hm
      have := hmin p x hx hp (by omega)
      omega
set_option maxRecDepth 100000 in
set_option maxHeartbeats 16000000 in
theorem long14_c (s : ByteArray) (L : List NS) (ty : TypeId) (A : Option Addr) (cap : Nat) (st len : Nat) (M : Nat → Nat → Bool) (w : World) (hN31 : s.size < 2147483648) (hst : st ≤ s.size)
    (hL : Rep w (fun k => k < w.heap.size) (.slice A L.length cap) (.sl ty L.length (encSs L))) (hpos : 0 < L.length) (hb : L.length < 4294967296) (Hr : Hid (∀ x ∈ L, -1 ≤ x.to ∧ x.to < L.length ∧ ∀ e ∈ x.eps, e < L.length))
    (HM : Hid (∀ j, st ≤ j → j ≤ s.size → ∀ k : Nat, (∃ q x, Reach L s 0 st q j ∧ L[q]? = some x ∧ x.acc = (k : Int)) ↔ (k < len ∧ M k j = true))) :
    Calls Try.prog 12 #[.slice A L.length cap, .string s, .int .i64 st] w fun e w' => (∃ z t : Int, e = .returned (.tuple #[.int .i64 z, .int .i64 t]) ∧ Best M len st s.size (z, t)) ∧ Fr No w w' := by
  have hcap : L.length ≤ cap ∧ cap ≤ maxLen := by
    obtain ⟨A2, c2, heq, h1, h2⟩ := hL.sl_inv
    injection heq with e1 e2 e3
    omega
  obtain ⟨ti, ti1, ti2, ti3, ti4⟩ := info_parts infoBool3
  have hposI : (0 : Int) < (L.length : Int) := by omega
  go_enter Try.func12, Try.ntmps12
  go_upto_region 2 with (at_make; go_loud (refine wpList_make_full w rfl (.tmp 14) (.tmp 14) 48 rfl w.heap.size 4 ti _ 1 Try.underlying48 ti1 ti2 ti3 .i64 .i64 (L.length : Int) (L.length : Int) L.length rfl rfl rfl rfl (by rw [ti4]; omega) (by simp only [maxLen]; omega) (Nat.le_refl _) ?_); intro w3 ho3 hg3)
  obtain ⟨hr3, hf3⟩ := madeB rfl ho3 hg3
  have hL3 := hL.frNo hf3
  have hfz := World.ownsRow.frozenAt hr3 0
  have hcl := hr3.cell hpos
  have hr4 := hr3.put 0 true
  have hfs := (Fr.refl (At w.heap.size) w3).setB 0 (.bool true)
  have hL4 := hL3.fr hfs fun k hk _ => ⟨fun e => by have hk : k < w.heap.size := hk; have e : k = w.heap.size := e; omega, hk⟩
  have hF4 := hf3.callAt hfs (Nat.le_refl _)
  have hbs4 : BoolsIn (w3.setCell ⟨w.heap.size, 0, none⟩ (.bool true)) (fun k => k < (w3.setCell ⟨w.heap.size, 0, none⟩ (.bool true)).heap.size) (.slice (some ⟨w.heap.size, 0, none⟩) L.length L.length) L.length (fun i => if i = 0 then true else false) := (hr4.bools (S := fun _ => True) fun _ _ => trivial).sub fun _ _ h => h
  have hL4' := hL4.sub (S' := fun k => k < (w3.setCell ⟨w.heap.size, 0, none⟩ (.bool true)).heap.size) fun _ _ h => h
  have hcall := close_c L ty A cap _ _ _ _ _ hL4' (fun _ h => h) hbs4 hpos hb (fun x hx => (Hr.out x hx).2.2)
  have HF4 := hid hF4
  clear ti1 ti2 ti3 ti4 ho3 hg3 hr3 hf3 hL3 hr4 hfs hL4 hbs4 hF4
  go_wp2_with (go_at_call 20; refine hcall.mono ?_; rintro e w5 ⟨⟨A5, c5, f5, rfl, hb5, hc5⟩, hf5⟩)
  have hI5 := inOf_start (s := s) (i0 := st) (q0 := 0) hpos (fun q hq => by by_cases h : q = 0 <;> simp [h]) hc5
  have hbs5 := hb5.here (Fr.refl No w5)
  have hL5 := hL4'.here hf5
  have hF5 := HF4.out.no hf5
  clear hcall hfz hcl HF4 hf5 hL4' hc5 hb5 hL
  go_loopg [8, 9, 10, 11] (s.size - st) (fun g x8 x9 x10 x11 wr => ∃ (j : Nat) (A8 : Option Addr) (c8 : Nat) (f : Nat → Bool) (z t : Int), j + g = s.size ∧ st ≤ j ∧ x8 = .slice A8 L.length c8 ∧ x9 = .int .i64 z ∧ x10 = .int .i64 t ∧ x11 = .int .i64 j ∧ BoolsIn wr (fun k => k < wr.heap.size) (.slice A8 L.length c8) L.length f ∧
    Rep wr (fun k => k < wr.heap.size) (.slice A L.length cap) (.sl ty L.length (encSs L)) ∧ Fr No w wr ∧ InOf L s 0 st j f ∧ Best M len st j (z, t))
  case atStart => exact ⟨st, A5, c5, f5, -1, -1, by omega, Nat.le_refl _, rfl, rfl, rfl, rfl, hbs5, hL5, hF5, hI5, Best.start_⟩
  case round =>
    obtain ⟨j, A8, c8, f, z, t, hj, hsj, rfl, rfl, rfl, rfl, hbs, hL, hF, hI, hB⟩ := hrel
    clear hbs5 hL5 hF5 hI5
    have HI := hid hI
    have HB := hid hB
    have HF := hid hF
    clear hI hB hF
    cases gk with
    | zero =>
      have hjs : j = s.size := by omega
      have hd1 : decide (j < s.size) = false := decide_eq_false (by omega)
      have hge : s.size ≤ j := by omega
      have HB := hid (hjs ▸ HB.out)
      clear hjs hj
      go_wp2_with fail
      go_ret2
      exact ⟨⟨z, t, rfl, HB.out⟩, HF.out⟩
    | succ g =>
      have hjs : j < s.size := by omega
      have hd1 : decide (j < s.size) = true := decide_eq_true hjs
      have hwc : IntKind.i64.wrap (s[j].toNat : Int) = (s[j].toNat : Int) := by have := s[j].toNat_lt; rw [IntKind.wrap_i64]; omega
      have hm := move_c L ty A cap _ A8 c8 f s[j].toNat s[j].toNat_lt wr hL (fun _ h => h) hbs hpos hb (fun x hx => ⟨(Hr.out x hx).1, (Hr.out x hx).2.1⟩)
      have Hj := hid hj
      have HL := hid hL
      clear hj hL hbs
      go_upto_region 10 with (first | (go_at_call 21; refine hm.mono ?_; rintro e w6 ⟨⟨A6, c6, f6, rfl, hb6, hm6⟩, hf6⟩) |
        (go_at_call 20; refine (close_c L ty A cap _ A6 c6 f6 w6 (HL.out.here hf6) (fun _ h => h) (hb6.here (Fr.refl No w6)) hpos hb (fun x hx => (Hr.out x hx).2.2)).mono ?_; rintro e w7 ⟨⟨A7, c7, f7, rfl, hb7, hc7⟩, hf7⟩) |
        (go_at_call 22; refine (accept_c L ty A cap _ A7 c7 f7 w7 ((HL.out.here hf6).here hf7) (hb7.here (Fr.refl No w7)) hpos hb).mono ?_; rintro e w8 ⟨⟨z8, rfl, hz8⟩, hw8⟩))
      replace hw8 := hw8.symm
      subst hw8
      have hI7 := hid (inOf_step (fun x hx => (Hr.out x hx).2.1) HI.out hjs hsj hm6 hc7)
      have hac := accM (HM.out (j + 1) (by omega) (by omega)) hI7.out hz8
      have hbs7 := hid (hb7.here (Fr.refl No w7))
      have hL7 := hid ((HL.out.here hf6).here hf7)
      have hF7 := hid ((HF.out.no hf6).no hf7)
      clear hm hb6 hm6 hb7 hc7 hf6 hf7 hz8
      rcases hac with ⟨rfl, hn⟩ | ⟨k, rfl, hk1, hk2, hk3⟩
      · have hB7 := hid (HB.out.none_ hn)
        clear hn
        go_wp2_with fail
        go_roundg g
        case measure => omega
        case rel => exact ⟨j + 1, A7, c7, f7, z, t, by have := Hj.out; omega, by omega, rfl, rfl, rfl, (by first | rfl | exact wrap_succ (by omega)), hbs7.out, hL7.out, hF7.out, hI7.out, hB7.out⟩
      · have hB7 := hid (Best.some_ (M := M) hsj hk1 hk2 hk3)
        have hk0 : decide ((0 : Int) ≤ (k : Int)) = true := decide_eq_true (by omega)
        clear hk2 hk3
        go_wp2_with fail
        go_roundg g
        case measure => omega
        case rel => exact ⟨j + 1, A7, c7, f7, (k : Int), ((j + 1 : Nat) : Int), by have := Hj.out; omega, by omega, rfl, rfl, (by first | rfl | exact wrap_succ (by omega)), (by first | rfl | exact wrap_succ (by omega)), hbs7.out, hL7.out, hF7.out, hI7.out, hB7.out⟩
end
end
end Go.Proofs.Ytldmdlkjpdfonaa
