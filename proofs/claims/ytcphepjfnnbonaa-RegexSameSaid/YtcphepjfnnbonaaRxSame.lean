/- The walk of RegexSame. -/
import Derived.Test.YtcphepjfnnbonaaRxW16
import Derived.Test.YtcphepjfnnbonaaRxW18
import Derived.Test.YtcphepjfnnbonaaRxS1
import Derived.Test.YtcphepjfnnbonaaRxS2
import Derived.Test.YtcphepjfnnbonaaRxS3
import Derived.Test.YtcphepjfnnbonaaRxFirst
namespace Go.Proofs.Ytcphepjfnnbonaa
set_option linter.unusedVariables false
set_option linter.unusedSimpArgs false
open Go Go.RowKit

theorem same_all (S : Nat → Prop) : ∀ (k : Nat) (a b : Nd) (va vb : Value) (w : World), a.depth ≤ k → NodeIn w S va a → NodeIn w S vb b → Calls Try.prog 10 #[va, vb] w fun e w' => e = .returned (.bool (a.same b)) ∧ Fr No w w'
  | 0, a, b, va, vb, w, hk, _, _ => by have := a.depth_eq; omega
  | k + 1, a, b, va, vb, w, hk, ha, hb => same_s k a b va vb S w hk ha hb (hid fun a b va vb w => same_all S k a b va vb w)
abbrev SmS (g1 g2 : Nat) (a b : Nd) (A B : Option Addr) (capa capb : Nat) (S : Nat → Prop) (w : World) : World → Prop := (fun w' => w'.cell? ⟨g1, 0, none⟩ = some (.int .i64 a.kind) ∧ w'.cell? ⟨g1, 1, none⟩ = some (.int .u64 (wd a.set 0)) ∧ w'.cell? ⟨g1, 2, none⟩ = some (.int .u64 (wd a.set 1)) ∧ w'.cell? ⟨g1, 3, none⟩ = some (.int .u64 (wd a.set 2)) ∧ w'.cell? ⟨g1, 4, none⟩ = some (.int .u64 (wd a.set 3)) ∧ w'.cell? ⟨g1, 5, none⟩ = some (.int .i64 a.mn) ∧ w'.cell? ⟨g1, 6, none⟩ = some (.int .i64 a.mx) ∧ w'.cell? ⟨g1, 7, none⟩ = some (.slice A a.subs.length capa) ∧ w'.cell? ⟨g2, 0, none⟩ = some (.int .i64 b.kind) ∧ w'.cell? ⟨g2, 1, none⟩ = some (.int .u64 (wd b.set 0)) ∧ w'.cell? ⟨g2, 2, none⟩ = some (.int .u64 (wd b.set 1)) ∧ w'.cell? ⟨g2, 3, none⟩ = some (.int .u64 (wd b.set 2)) ∧ w'.cell? ⟨g2, 4, none⟩ = some (.int .u64 (wd b.set 3)) ∧ w'.cell? ⟨g2, 5, none⟩ = some (.int .i64 b.mn) ∧ w'.cell? ⟨g2, 6, none⟩ = some (.int .i64 b.mx) ∧ w'.cell? ⟨g2, 7, none⟩ = some (.slice B b.subs.length capb) ∧ Rep w' S (.slice A a.subs.length capa) (.sl 28 a.subs.length (encNs a.subs)) ∧ Rep w' S (.slice B b.subs.length capb) (.sl 28 b.subs.length (encNs b.subs)) ∧ Fr No w w')
section
variable {g1 g2 : Nat} {a b : Nd} {A B : Option Addr} {capa capb : Nat} {S : Nat → Prop} {w w1 w2 : World}
theorem SmS.keep (h : SmS g1 g2 a b A B capa capb S w w1) (hf : Fr No w1 w2) : SmS g1 g2 a b A B capa capb S w w2 := by
  obtain ⟨h1, h2, h3, h4, h5, h6, h7, h8, h9, h10, h11, h12, h13, h14, h15, h16, ra, rb, hF⟩ := h
  have c : ∀ {p : Addr} {v : Value}, w1.cell? p = some v → w2.cell? p = some v := fun h => hf.cell id h
  exact ⟨c h1, c h2, c h3, c h4, c h5, c h6, c h7, c h8, c h9, c h10, c h11, c h12, c h13, c h14, c h15, c h16, ra.frNo hf, rb.frNo hf, hF.no hf⟩
theorem SmS.start (h1 : Blk w1 g1 28 (nodeA a A capa)) (h2 : Blk w1 g2 28 (nodeA b B capb)) (ra : Rep w1 S (.slice A a.subs.length capa) (.sl 28 a.subs.length (encNs a.subs))) (rb : Rep w1 S (.slice B b.subs.length capb) (.sl 28 b.subs.length (encNs b.subs))) (hF : Fr No w w1) :
    SmS g1 g2 a b A B capa capb S w w1 :=
  ⟨(h1.cell 0).trans rfl, (h1.cell 1).trans rfl, (h1.cell 2).trans rfl, (h1.cell 3).trans rfl, (h1.cell 4).trans rfl, (h1.cell 5).trans rfl, (h1.cell 6).trans rfl, (h1.cell 7).trans rfl, (h2.cell 0).trans rfl, (h2.cell 1).trans rfl, (h2.cell 2).trans rfl, (h2.cell 3).trans rfl, (h2.cell 4).trans rfl, (h2.cell 5).trans rfl, (h2.cell 6).trans rfl, (h2.cell 7).trans rfl, ra, rb, hF⟩
theorem SmS.na (h : SmS g1 g2 a b A B capa capb S w w1) : NodeIn w1 S (.agg #[.int .i64 a.kind, .int .u64 (wd a.set 0), .int .u64 (wd a.set 1), .int .u64 (wd a.set 2), .int .u64 (wd a.set 3), .int .i64 a.mn, .int .i64 a.mx, .slice A a.subs.length capa]) a := by
  obtain ⟨h1, h2, h3, h4, h5, h6, h7, h8, h9, h10, h11, h12, h13, h14, h15, h16, ra, rb, hF⟩ := h
  exact ⟨_, _, rfl, ra⟩
theorem SmS.nb (h : SmS g1 g2 a b A B capa capb S w w1) : NodeIn w1 S (.agg #[.int .i64 b.kind, .int .u64 (wd b.set 0), .int .u64 (wd b.set 1), .int .u64 (wd b.set 2), .int .u64 (wd b.set 3), .int .i64 b.mn, .int .i64 b.mx, .slice B b.subs.length capb]) b := by
  obtain ⟨h1, h2, h3, h4, h5, h6, h7, h8, h9, h10, h11, h12, h13, h14, h15, h16, ra, rb, hF⟩ := h
  exact ⟨_, _, rfl, rb⟩
theorem SmS.f (h : SmS g1 g2 a b A B capa capb S w w1) : Fr No w w1 := by
  obtain ⟨h1, h2, h3, h4, h5, h6, h7, h8, h9, h10, h11, h12, h13, h14, h15, h16, ra, rb, hF⟩ := h
  exact hF
inductive SmV (a b : Nd) (A B : Option Addr) (capa capb : Nat) : Value → Bool → Prop
  | a : SmV a b A B capa capb (.agg #[.int .i64 a.kind, .int .u64 (wd a.set 0), .int .u64 (wd a.set 1), .int .u64 (wd a.set 2), .int .u64 (wd a.set 3), .int .i64 a.mn, .int .i64 a.mx, .slice A a.subs.length capa]) true
  | b : SmV a b A B capa capb (.agg #[.int .i64 b.kind, .int .u64 (wd b.set 0), .int .u64 (wd b.set 1), .int .u64 (wd b.set 2), .int .u64 (wd b.set 3), .int .i64 b.mn, .int .i64 b.mx, .slice B b.subs.length capb]) (a.same b)
theorem SmS.same {v : Value} {r : Bool} (h : SmS g1 g2 a b A B capa capb S w w1) (hv : SmV a b A B capa capb v r) : Calls Try.prog 10 #[.agg #[.int .i64 a.kind, .int .u64 (wd a.set 0), .int .u64 (wd a.set 1), .int .u64 (wd a.set 2), .int .u64 (wd a.set 3), .int .i64 a.mn, .int .i64 a.mx, .slice A a.subs.length capa], v] w1 fun e w' => e = .returned (.bool r) ∧ Fr No w1 w' := by
  cases hv
  · have h2 := same_all S a.depth a a _ _ w1 (Nat.le_refl _) h.na h.na
    rwa [Nd.same_self] at h2
  · exact same_all S a.depth a b _ _ w1 (Nat.le_refl _) h.na h.nb
theorem SmS.rsame (h : SmS g1 g2 a b A B capa capb S w w1) : Calls Try.prog 11 #[.agg #[.int .i64 a.kind, .int .u64 (wd a.set 0), .int .u64 (wd a.set 1), .int .u64 (wd a.set 2), .int .u64 (wd a.set 3), .int .i64 a.mn, .int .i64 a.mx, .slice A a.subs.length capa], .agg #[.int .i64 b.kind, .int .u64 (wd b.set 0), .int .u64 (wd b.set 1), .int .u64 (wd b.set 2), .int .u64 (wd b.set 3), .int .i64 b.mn, .int .i64 b.mx, .slice B b.subs.length capb]] w1 fun e w' => e = .returned (.bool (a.same b)) ∧ Fr No w1 w' :=
  rsame_c S a.depth a b _ _ w1 (Nat.le_refl _) h.na h.nb
theorem SmS.deep (hd : a.depth ≤ 200) (h : SmS g1 g2 a b A B capa capb S w w1) : Calls Try.prog 12 #[.agg #[.int .i64 a.kind, .int .u64 (wd a.set 0), .int .u64 (wd a.set 1), .int .u64 (wd a.set 2), .int .u64 (wd a.set 3), .int .i64 a.mn, .int .i64 a.mx, .slice A a.subs.length capa]] w1 fun e w' => e = .returned (.int .i64 a.depth) ∧ Fr No w1 w' :=
  depth_c 200 a _ _ w1 hd (by omega) h.na
theorem SmS.rdeep (hd : a.depth ≤ 200) (h : SmS g1 g2 a b A B capa capb S w w1) : Calls Try.prog 13 #[.agg #[.int .i64 a.kind, .int .u64 (wd a.set 0), .int .u64 (wd a.set 1), .int .u64 (wd a.set 2), .int .u64 (wd a.set 3), .int .i64 a.mn, .int .i64 a.mx, .slice A a.subs.length capa]] w1 fun e w' => e = .returned (.int .i64 a.depth) ∧ Fr No w1 w' :=
  rdepth_c 200 a _ _ w1 hd (by omega) h.na
end
set_option maxHeartbeats 4000000 in
theorem lawSame_c (Haw : Hid (∀ w : World, Calls Try.prog 7 #[] w fun e w' => e = .returned (.bool true) ∧ Fr No w w')) (a b : Nd) (va vb : Value) (S : Nat → Prop) (w : World) (ha : NodeIn w S va a) (hb : NodeIn w S vb b) :
    Calls Try.prog 4 #[va, vb] w fun e w' => e = .returned (.bool true) ∧ Fr No w w' := by
  obtain ⟨A, capa, rfl, ra⟩ := ha
  obtain ⟨B, capb, rfl, rb⟩ := hb
  have b0 := (Blk.new w 28 (nodeA a A capa)).alloc (.cells (nodeA b B capb) 28)
  have b1 := Blk.new (w.alloc (.cells (nodeA a A capa) 28)) 28 (nodeA b B capb)
  have ra1 := (ra.alloc (.cells (nodeA a A capa) 28)).alloc (.cells (nodeA b B capb) 28)
  have rb1 := (rb.alloc (.cells (nodeA a A capa) 28)).alloc (.cells (nodeA b B capb) 28)
  have hF1 : Fr No w _ := ((Fr.refl No w).alloc (.cells (nodeA a A capa) 28)).alloc (.cells (nodeA b B capb) 28)
  rw [World.size_alloc] at b1
  have HA := hid (SmS.start b0 b1 ra1 rb1 hF1)
  have hFa := fun (W : World) (h : SmS w.heap.size (w.heap.size + 1) a b A B capa capb S w W) => few_c a _ S W h.na
  have hFb := fun (W : World) (h : SmS w.heap.size (w.heap.size + 1) a b A B capa capb S w W) => few_c b _ S W h.nb
  have hda : nsize a 601 ≤ 200 → a.depth ≤ 200 := fun h => by have := nsize_depth a 601 (by omega); omega
  generalize hfa : decide (nsize a 601 ≤ 200) = fa at hFa
  generalize hfb : decide (nsize b 601 ≤ 200) = fb at hFb
  have Hfa := hid hfa
  have Hda := hid hda
  have A0 := hid b0
  have B0 := hid b1
  clear b0 b1 ra1 rb1 hF1 ra rb hfa hfb hda
  unfold nodeA at *
  go_enter Try.func4, Try.ntmps4
  go_wp2_with fail
  refine (Haw.out _).mono ?_
  rintro e w1 ⟨rfl, hf1⟩
  have H1 := HA.out.keep hf1
  have A1 := hf1.blk A0.out id
  have B1 := hf1.blk B0.out id
  clear HA A0 B0
  go_wp2_with ((with_reducible refine at_load _ ?_); refine wpList_load_blk (cs := #[.int .i64 a.kind, .int .u64 (wd a.set 0), .int .u64 (wd a.set 1), .int .u64 (wd a.set 2), .int .u64 (wd a.set 3), .int .i64 a.mn, .int .i64 a.mx, .slice A a.subs.length capa]) rfl rfl rfl A1 Try.underlying28 rfl infoNode ?_)
  refine (hFa _ H1).mono ?_
  rintro e w2 ⟨rfl, hf2⟩
  have H2 := H1.keep hf2
  have A2 := hf2.blk A1 id
  have B2 := hf2.blk B1 id
  clear H1 A1 B1 hf1 hf2
  cases fa with
  | false =>
    have hf := H2.f
    clear H2 A2 B2
    go_wp2_with fail
    refine (Haw.out _).mono ?_
    rintro e w3 ⟨rfl, hf3⟩
    go_wp2_with fail
    go_ret
    exact ⟨rfl, hf.no hf3⟩
  | true =>
    go_wp2_with ((with_reducible refine at_load _ ?_); refine wpList_load_blk (cs := #[.int .i64 b.kind, .int .u64 (wd b.set 0), .int .u64 (wd b.set 1), .int .u64 (wd b.set 2), .int .u64 (wd b.set 3), .int .i64 b.mn, .int .i64 b.mx, .slice B b.subs.length capb]) rfl rfl rfl B2 Try.underlying28 rfl infoNode ?_)
    refine (hFb _ H2).mono ?_
    rintro e w3 ⟨rfl, hf3⟩
    have H3 := H2.keep hf3
    clear H2 A2 B2 hf3
    cases fb with
    | false =>
      have hf := H3.f
      clear H3
      go_wp2_with fail
      refine (Haw.out _).mono ?_
      rintro e w4 ⟨rfl, hf4⟩
      go_wp2_with fail
      go_ret
      exact ⟨rfl, hf.no hf4⟩
    | true =>
      have hd : a.depth ≤ 200 := Hda.out (of_decide_eq_true Hfa.out)
      clear hFa hFb Haw
      replace H3 := hid H3
      have HV1 : SmV a b A B capa capb _ _ := SmV.a
      have HV2 : SmV a b A B capa capb _ _ := SmV.b
      have HR := hid (fun (W : World) (h : SmS w.heap.size (w.heap.size + 1) a b A B capa capb S w W) => h.rsame)
      have HD := hid (fun (W : World) (h : SmS w.heap.size (w.heap.size + 1) a b A B capa capb S w W) => h.deep hd)
      have HE := hid (fun (W : World) (h : SmS w.heap.size (w.heap.size + 1) a b A B capa capb S w W) => h.rdeep hd)
      have HS := hid (fun (W : World) (v : Value) (r : Bool) (h : SmS w.heap.size (w.heap.size + 1) a b A B capa capb S w W) (hv : SmV a b A B capa capb v r) => h.same hv)
      replace HV1 := hid HV1
      replace HV2 := hid HV2
      clear hd Hda
      generalize a.same b = r at *
      generalize a.depth = d at *
      go_wp2_with fail
      cases r
      all_goals
        go_region_held3 (fun w' => w'.cell? ⟨w.heap.size, 0, none⟩ = some (.int .i64 a.kind) ∧ w'.cell? ⟨w.heap.size, 1, none⟩ = some (.int .u64 (wd a.set 0)) ∧ w'.cell? ⟨w.heap.size, 2, none⟩ = some (.int .u64 (wd a.set 1)) ∧ w'.cell? ⟨w.heap.size, 3, none⟩ = some (.int .u64 (wd a.set 2)) ∧ w'.cell? ⟨w.heap.size, 4, none⟩ = some (.int .u64 (wd a.set 3)) ∧ w'.cell? ⟨w.heap.size, 5, none⟩ = some (.int .i64 a.mn) ∧ w'.cell? ⟨w.heap.size, 6, none⟩ = some (.int .i64 a.mx) ∧ w'.cell? ⟨w.heap.size, 7, none⟩ = some (.slice A a.subs.length capa) ∧ w'.cell? ⟨w.heap.size + 1, 0, none⟩ = some (.int .i64 b.kind) ∧ w'.cell? ⟨w.heap.size + 1, 1, none⟩ = some (.int .u64 (wd b.set 0)) ∧ w'.cell? ⟨w.heap.size + 1, 2, none⟩ = some (.int .u64 (wd b.set 1)) ∧ w'.cell? ⟨w.heap.size + 1, 3, none⟩ = some (.int .u64 (wd b.set 2)) ∧ w'.cell? ⟨w.heap.size + 1, 4, none⟩ = some (.int .u64 (wd b.set 3)) ∧ w'.cell? ⟨w.heap.size + 1, 5, none⟩ = some (.int .i64 b.mn) ∧ w'.cell? ⟨w.heap.size + 1, 6, none⟩ = some (.int .i64 b.mx) ∧ w'.cell? ⟨w.heap.size + 1, 7, none⟩ = some (.slice B b.subs.length capb) ∧ Rep w' S (.slice A a.subs.length capa) (.sl 28 a.subs.length (encNs a.subs)) ∧ Rep w' S (.slice B b.subs.length capb) (.sl 28 b.subs.length (encNs b.subs)) ∧ Fr No w w') (first | exact SmS.keep (g1 := w.heap.size) (g2 := w.heap.size + 1) (a := a) (b := b) (A := A) (B := B) (capa := capa) (capb := capb) (S := S) (w := w) (by assumption) hf4 | exact H3.out.keep ((Fr.refl No _).drew))
          (first | (go_at_call 10; refine (HS.out _ _ _ (by assumption) (by first | exact HV1.out | exact HV2.out)).mono ?_; rintro e w4 ⟨rfl, hf4⟩) | (go_at_call 11; refine (HR.out _ (by assumption)).mono ?_; rintro e w4 ⟨rfl, hf4⟩) |
            (go_at_call 12; refine (HD.out _ (by assumption)).mono ?_; rintro e w4 ⟨rfl, hf4⟩) | (go_at_call 13; refine (HE.out _ (by assumption)).mono ?_; rintro e w4 ⟨rfl, hf4⟩))
      all_goals
        have hF := SmS.f (g1 := w.heap.size) (g2 := w.heap.size + 1) (a := a) (b := b) (A := A) (B := B) (capa := capa) (capb := capb) (S := S) (w := w) (by assumption)
        go_wp2_with fail
        go_ret
        exact ⟨rfl, hF⟩
end Go.Proofs.Ytcphepjfnnbonaa
