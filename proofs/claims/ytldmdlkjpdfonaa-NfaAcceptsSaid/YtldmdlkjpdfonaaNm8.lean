/- The walk of the builder's rep, over the contract of node. The walk of the builder's node: whatever expression. -/
import Derived.Test.YtldmdlkjpdfonaaNm6
namespace Go.Proofs.Ytldmdlkjpdfonaa
set_option linter.unusedVariables false
set_option linter.unusedSimpArgs false
section
open Go Go.RowKit

theorem add_alive {b : Bst} {x : NS} (hf : Fits b.m) (h : (b.add x).1.e = 0) : ∃ m', b.add x = (⟨m', b.st ++ [x], 0⟩, b.st.length) := by
  by_cases he : b.e = 0
  · rcases Bst.add_run b x he hf with ⟨m', hr, _⟩ | hF
    · exact ⟨m', hr⟩
    · exact absurd h hF.dead
  · rw [Bst.add_dead _ _ he] at h; exact absurd h he
theorem node_alive {n : Nd} {next : Nat} {b : Bst} (h : (nodeB n next b).1.e = 0) : b.e = 0 := by
  by_cases he : b.e = 0
  · exact he
  · rw [nodeB_dead _ _ _ he] at h; exact absurd h he
theorem set_mid {α : Type} (xs : List α) (y y' : α) (zs ws : List α) (k : Nat) (h : k = xs.length + zs.length) : (xs ++ (zs ++ y :: ws)).set k y' = xs ++ (zs ++ y' :: ws) := by
  subst h
  rw [List.set_append_right _ _ (by omega), Nat.add_sub_cancel_left, List.set_append_right _ _ (by omega)]
  simp
theorem row_some {w : World} {B : Nat} {e : TypeId} {size g n cap : Nat} {xs : List Value} (h : w.ownsRow B e size (.slice (some ⟨g, 0, none⟩) n cap) n xs) {j : Nat} (hj : j < n * size) : ∃ u, w.cell? ⟨g, j, none⟩ = some u := by
  rw [h.cellAt j hj]
  exact ⟨_, List.getElem?_eq_getElem (by rw [h.1]; exact hj)⟩
set_option maxRecDepth 100000 in
set_option maxHeartbeats 4000000 in
theorem rep_b (S : Nat → Prop) (w : World) (B bb gm : Nat) (b : Bst) (xs : List Value) (v : Value) (A : Option Addr) (cap lo k : Nat) (n x : Nd) (next blk off : Nat) (hS : ∀ k, S k → k < B ∧ k ≠ bb ∧ k ≠ gm)
    (h : Bd w B bb gm b xs v) (hl : b.st.length + x.count + 1 < 4294967296) (hB : B ≤ w.heap.size) (hlo : bb < lo ∧ gm < lo) (hlw : lo ≤ w.heap.size) (hx : n.subs = [x])
    (hn : w.rangeAt blk off (nodeA n A cap).toList) (hSb : S blk) (hrep : Rep w S (.slice A n.subs.length cap) (.sl 37 n.subs.length (encNs n.subs))) (hk : ndepths n.subs ≤ k) (hok : okNs n.subs = true) (Hih : Hid (NSpec S B bb gm k)) :
    Calls Try.prog 56 #[.pointer (some ⟨bb, 0, none⟩), .pointer (some ⟨blk, off, none⟩), .int .i64 next] w fun r w' => r = .returned (.int .i64 (b.add (over [])).2) ∧
      Aft w w' lo B bb gm b (if (nodeB x (b.add (over [])).2 (b.add (over [])).1).1.e = 0 then { (nodeB x (b.add (over [])).2 (b.add (over [])).1).1 with st := (nodeB x (b.add (over [])).2 (b.add (over [])).1).1.st.set (b.add (over [])).2 (over [(nodeB x (b.add (over [])).2 (b.add (over [])).1).2, next]) } else (nodeB x (b.add (over [])).2 (b.add (over [])).1).1) xs v := by
  have hov := over_c [] none 0 w
  have hadd := fun W (hf : Fr No w W) => add_x W B bb gm b (over []) xs v none 0 (h.no hf) (by omega) (by have := hf.size; omega)
  have hfar := Mv.far hS h
  have hx0 : n.subs[0]? = some x := by rw [hx]; rfl
  have hL : n.subs.length = 1 := by rw [hx]; rfl
  have hdx : x.depth ≤ k := by have := ndepths_get hx0; omega
  have hox := okNs_get hx0 hok
  have hfits := h.fits
  obtain ⟨bs, os, A', cap', rfl, hSs, hlts, hrng, hrep'⟩ := NodesIn.at_ (l := n.subs) (A := A) (cap := cap) (w := w) (S := S) hrep hx0
  rw [Nat.mul_zero, Nat.add_zero] at hrng
  have hsub := fun W (hf : Fr (Mv bb gm v) w W) => node_subs (range_fr hn hf (hfar blk hSb))
  rw [hL] at hsub
  have hadl : (b.add (over [])).1.st.length ≤ b.st.length + 1 := by
    by_cases he : b.e = 0
    · rcases Bst.add_run b (over []) he hfits with ⟨m', hr, _⟩ | ⟨_, _, kk, _, _, h1, h2, _⟩
      · rw [hr]; simp
      · omega
    · rw [Bst.add_dead _ _ he]; exact Nat.le_add_right _ _
  have hcall := fun W xs1 v1 (hb1 : Bd W B bb gm (b.add (over [])).1 xs1 v1) (hf : Fr (Mv bb gm v) w W) =>
    Hih.out lo x (b.add (over [])).2 bs os A' cap' (b.add (over [])).1 xs1 v1 W hdx hb1 hox (by omega) (by have := hf.size; omega) hlo.1 hlo.2 (by have := hf.size; omega) (range_fr hrng hf (hfar bs hSs)) hSs (hrep'.fr hf fun k hk _ => ⟨hfar k hk, hk⟩)
  clear hrep hrep' hrng hx hx0 hadl hn
  unfold Added at hadd
  generalize hA : b.add (over []) = a at *
  generalize hR : nodeB x a.2 a.1 = r at *
  by_cases he : r.1.e = 0
  · rw [if_pos he]
    have ha0 : a.1.e = 0 := node_alive (by rw [hR]; exact he)
    obtain ⟨m', hadd0⟩ := add_alive (x := over []) hfits (by rw [hA]; exact ha0)
    rw [hA] at hadd0
    subst hadd0
    simp only [] at hadd hcall ha0
    have hslt : b.st.length < 4294967296 := by omega
    have Hr := hid hR
    clear hR hA
    go_enter Try.func56, Try.ntmps56
    go_wp2_with (first | (go_at_call 38; refine hov.mono ?_; rintro e w1 ⟨rfl, hf1⟩) |
      (go_at_call 37; go_loud (refine (hadd _ hf1).mono ?_); rintro e w2 ⟨rfl, v2, ys, hb2, hc2, hf2, ho2⟩; have hsub2 := hsub _ ((hf1.mono fun _ _ h => h.elim).trans hf2)))
    refine (hcall _ _ _ hb2 ((hf1.mono fun _ _ h => h.elim).trans hf2)).mono ?_
    rintro e w3 ⟨rfl, v3, ys3, nw3, hb3, hs3, hr3, hf3, ho3⟩
    have hl3 : r.1.st.length = b.st.length + 1 + nw3.length := by rw [hs3]; simp only [List.length_append, List.length_cons, List.length_nil]
    obtain ⟨g, cap3, rfl, hg1, hg2⟩ := hb3.row.form (by omega)
    obtain ⟨mo3, hbk3, hmo3⟩ := hb3.blk
    have h3e := hbk3.cell 2
    have h3v := hbk3.cell 1
    have hlt3 : b.st.length < r.1.st.length := by omega
    have hlt3' : (b.st.length : Int) < (r.1.st.length : Int) := by omega
    obtain ⟨u6, hu6⟩ : ∃ u, w3.cell? ⟨g, b.st.length * 7 + 6, none⟩ = some u := row_some hb3.row (by omega)
    have hz6 := hb3.row.frozenAt (b.st.length * 7 + 6)
    clear hcall hadd
    go_wp2
    go_ret
    refine ⟨rfl, Aft.ahead hf1 ?_ h⟩
    have hys : ys = (stA (over []) none 0).toList := by
      rcases hc2 with ⟨_, _, h3⟩ | ⟨_, h2, _⟩
      · exact absurd rfl h3
      · exact h2
    subst hys
    clear hc2 hsub2 hu6 hz6 h3e h3v hov hsub
    have hbA := hbk3.alloc (.cells #[.int .i64 r.2, .int .i64 next] 3)
    have hNA := Blk.new w3 3 #[.int .i64 r.2, .int .i64 next]
    have hrA := hb3.row.alloc (.cells #[.int .i64 r.2, .int .i64 next] 3)
    have hxl : xs.length = b.st.length * 7 := h.row.1
    obtain ⟨hrS, _⟩ := hrA.stored (b.st.length * 7 + 6) (.slice (some ⟨w3.heap.size, 0, none⟩) 2 2)
    have hf23 := hf2.call hf3 (Mv.step ho2)
    have hgv : w1.heap.size ≤ g ∨ Mv bb gm v g := by
      rcases ho3 g rfl with h1 | h1
      · rcases ho2 g h1 with h2 | h2
        · exact .inr (.inr (.inr h2))
        · exact .inl h2
      · exact .inl (Nat.le_trans hf2.size h1)
    have hgb : bb ≠ g := fun e => hb3.apart.1 (by rw [e]; rfl)
    have hgm : gm ≠ g := fun e => hb3.apart.2 (by rw [e]; rfl)
    have hset : (xs ++ (stA (over []) none 0).toList ++ ys3).set (b.st.length * 7 + 6) (.slice (some ⟨w3.heap.size, 0, none⟩) 2 2) = xs ++ ((stA (over [r.2, next]) (some ⟨w3.heap.size, 0, none⟩) 2).toList ++ ys3) := by
      rw [List.append_assoc, stA_over, stA_over]
      exact set_mid xs _ _ [.int .u64 0, .int .u64 0, .int .u64 0, .int .u64 0, .int .i64 (-1), .int .i64 (-1)] ys3 _ (by rw [hxl]; rfl)
    have hst : r.1.st.set b.st.length (over [r.2, next]) = b.st ++ ([over [r.2, next]] ++ nw3) := by
      rw [hs3, List.append_assoc]
      exact set_mid b.st _ _ [] nw3 _ (by simp)
    rw [hset] at hrS
    rw [← World.setCell_alloc_past _ g _ _ hg2]
    refine ⟨.slice (some ⟨g, 0, none⟩) r.1.st.length cap3, (stA (over [r.2, next]) (some ⟨w3.heap.size, 0, none⟩) 2).toList ++ ys3, [over [r.2, next]] ++ nw3, ⟨⟨mo3, hbA.far (p := ⟨g, b.st.length * 7 + 6, none⟩) hgb _, ?_⟩, ?_, hb3.fits, hb3.apart, ?_⟩, hst, ?_, (hf23.alloc _).set (p := ⟨g, b.st.length * 7 + 6, none⟩) hgv _, ?_⟩
    · exact hmo3.fr (M := At g) (((Fr.refl (At g) w3).alloc _).setB _ _) hgm
    · rw [List.length_set]; exact hrS
    · have h1 := hb3.lt
      have h2 := (((Fr.refl (At g) w3).alloc (.cells #[.int .i64 r.2, .int .i64 next] 3)).setB (b.st.length * 7 + 6) (.slice (some ⟨w3.heap.size, 0, none⟩) 2 2)).size
      omega
    · rw [encSs_append, encSs_one]
      have h1 : w.heap.size ≤ w1.heap.size := hf1.size
      have h2 := hf23.size
      refine Reps.append (stA_reps ?_) ?_
      · exact .row (Nat.le_refl 2) (by decide) ⟨by omega, fun hc => by have hc : g = w3.heap.size := Option.some.inj hc; omega⟩ (hNA.far (p := ⟨g, b.st.length * 7 + 6, none⟩) (by show w3.heap.size ≠ g; omega) _) rfl (.cons (.v rfl) (.cons (.v rfl) .nil))
      · exact hr3.fr (M := At g) (((Fr.refl (At g) w3).alloc _).setB _ _) fun k hk _ => ⟨fun e => hk.2 (by rw [e]; rfl), hk⟩
    · intro k hk
      obtain rfl : g = k := Option.some.inj hk
      rcases ho3 g rfl with h1 | h1
      · exact ho2 g h1
      · exact .inr (Nat.le_trans hf2.size h1)
  · rw [if_neg he]
    have Hr := hid hR
    have Ha := hid hA
    clear hR hA
    have hde : (r.1.e == 0) = false := by simpa using he
    go_enter Try.func56, Try.ntmps56
    go_wp2_with (first | (go_at_call 38; refine hov.mono ?_; rintro e w1 ⟨rfl, hf1⟩) |
      (go_at_call 37; go_loud (refine (hadd _ hf1).mono ?_); rintro e w2 ⟨rfl, v2, ys, hb2, hc2, hf2, ho2⟩; have hsub2 := hsub _ ((hf1.mono fun _ _ h => h.elim).trans hf2)) |
      (go_at_call 39; go_loud (refine (hcall _ _ _ hb2 ((hf1.mono fun _ _ h => h.elim).trans hf2)).mono ?_); rintro e w3 ⟨rfl, ha3⟩; obtain ⟨v3, xs3, hb3, hf3, ho3, hgo⟩ := ha3.opens hlo; obtain ⟨mo3, hbk3, hmo3⟩ := hb3.blk; have h3e := hbk3.cell 2))
    go_ret
    refine ⟨rfl, ?_⟩
    refine Aft.ahead hf1 ?_ h
    rcases hc2 with ⟨h1, rfl, _⟩ | ⟨h1, rfl, _⟩
    · exact Aft.glue (nw := []) (by rw [h1, List.append_nil]) .nil hf2 ho2 hlo ha3
    · refine Aft.glue (nw := [over []]) h1 ?_ hf2 ho2 hlo ha3
      rw [encSs_one]
      exact stA_reps (.nil0 (Nat.zero_le _))
end
section
open Go Go.RowKit

set_option maxRecDepth 100000 in
set_option maxHeartbeats 800000 in
theorem empty_b (w : World) (p q : Value) (next : Nat) : Calls Try.prog 52 #[p, q, .int .i64 next] w fun r w' => r = .returned (.int .i64 next) ∧ w' = w := by
  go_enter Try.func52, Try.ntmps52
  go_wp2
  go_ret
  exact ⟨rfl, rfl⟩
set_option maxRecDepth 100000 in
set_option maxHeartbeats 1600000 in
theorem node_dead (w : World) (B bb gm : Nat) (b : Bst) (xs : List Value) (v : Value) (lo : Nat) (n : Nd) (q : Value) (next : Nat) (h : Bd w B bb gm b xs v) (he : b.e ≠ 0) :
    Calls Try.prog 39 #[.pointer (some ⟨bb, 0, none⟩), q, .int .i64 next] w fun r w' => r = .returned (.int .i64 (nodeB n next b).2) ∧ Aft w w' lo B bb gm b (nodeB n next b).1 xs v := by
  have hd := nodeB_dead n next b he
  obtain ⟨mo, hb, hm⟩ := h.blk
  have h2 := hb.cell 2
  have ht : (b.e == 0) = false := by simpa using he
  go_enter Try.func39, Try.ntmps39
  go_wp2
  go_ret
  rw [hd]
  exact ⟨rfl, Aft.refl h lo⟩
set_option maxRecDepth 100000 in
set_option maxHeartbeats 4000000 in
theorem node_empty (w : World) (B bb gm : Nat) (b : Bst) (xs : List Value) (v : Value) (A : Option Addr) (cap lo : Nat) (n : Nd) (blk off next : Nat) (h : Bd w B bb gm b xs v) (he : b.e = 0) (hn : w.rangeAt blk off (nodeA n A cap).toList) (hk : n.kind = 1) :
    Calls Try.prog 39 #[.pointer (some ⟨bb, 0, none⟩), .pointer (some ⟨blk, off, none⟩), .int .i64 next] w fun r w' => r = .returned (.int .i64 (nodeB n next b).2) ∧ Aft w w' lo B bb gm b (nodeB n next b).1 xs v := by
  have hnb : nodeB n next b = (b, next) := by
    cases n; simp only [Nd.kind] at hk; subst hk; unfold nodeB; rw [if_pos he, if_neg (by decide), if_neg (by decide), if_neg (by decide), if_neg (by decide)]
  obtain ⟨mo, hb, hm⟩ := h.blk
  have h2 := hb.cell 2
  have ht : (b.e == 0) = true := by simpa using he
  have hlt : blk < w.heap.size := by
    have := node_kind hn
    exact World.block_lt_of_cell? w ⟨blk, off, none⟩ this
  have hbl := h.lt
  have hZ := Blk.new w 88 #[.nilFunc, .nilFunc, .nilFunc, .nilFunc, .nilFunc, .nilFunc]
  have hfs : ∀ W, Fr (At w.heap.size) (w.alloc (.cells #[.nilFunc, .nilFunc, .nilFunc, .nilFunc, .nilFunc, .nilFunc] 88)) W → Fr No w W := fun W hW => ((Fr.refl No w).alloc _).callAt hW (Nat.le_refl _)
  have hkd := fun W (hW : Fr No w W) => node_kind (range_fr hn hW id)
  rw [hk] at hkd
  clear hb hm
  go_enter Try.func39, Try.ntmps39
  go_wp2_with (first | ((with_reducible refine at_store _ ?_); go_loud (refine wpList_store_blk (cs := #[Value.nilFunc, .func (.func 52) #[.pointer (some ⟨bb, 0, none⟩)] #[], .func (.func 53) #[.pointer (some ⟨bb, 0, none⟩)] #[], .func (.func 54) #[.pointer (some ⟨bb, 0, none⟩)] #[], .func (.func 55) #[.pointer (some ⟨bb, 0, none⟩)] #[], .func (.func 56) #[.pointer (some ⟨bb, 0, none⟩)] #[]]) rfl rfl rfl rfl hZ rfl (by kernel_rfl) (by simp [Value.oneCell']) ?_); intro W hW hfW _; have hkW := hkd _ (hfs _ hfW); have htW := hW.cell 1) |
    (go_at_call 52; refine (empty_b _ _ _ _).mono ?_; rintro e w2 ⟨rfl, hw2⟩; replace hw2 := hw2.symm; subst hw2))
  go_ret
  rw [hnb]
  exact ⟨rfl, (Aft.refl h lo).behind (hfs _ hfW)⟩
set_option maxRecDepth 100000 in
set_option maxHeartbeats 4000000 in
theorem node_class (w : World) (B bb gm : Nat) (b : Bst) (xs : List Value) (v : Value) (A : Option Addr) (cap lo : Nat) (n : Nd) (blk off next : Nat) (h : Bd w B bb gm b xs v) (he : b.e = 0) (hn : w.rangeAt blk off (nodeA n A cap).toList) (hlw : lo ≤ w.heap.size) (hB : B ≤ w.heap.size) (hlo : bb < lo ∧ gm < lo) (hl : b.st.length < 4294967296) (hk : n.kind = 2) :
    Calls Try.prog 39 #[.pointer (some ⟨bb, 0, none⟩), .pointer (some ⟨blk, off, none⟩), .int .i64 next] w fun r w' => r = .returned (.int .i64 (nodeB n next b).2) ∧ Aft w w' lo B bb gm b (nodeB n next b).1 xs v := by
  have hnb : nodeB n next b = b.add ⟨n.set, (next : Int), -1, []⟩ := by
    cases n; simp only [Nd.kind] at hk; subst hk; unfold nodeB; rw [if_pos he, if_pos rfl]; rfl
  obtain ⟨mo, hb, hm⟩ := h.blk
  have h2 := hb.cell 2
  have ht : (b.e == 0) = true := by simpa using he
  have hlt : blk < w.heap.size := by
    have := node_kind hn
    exact World.block_lt_of_cell? w ⟨blk, off, none⟩ this
  have hbl := h.lt
  have hZ := Blk.new w 88 #[.nilFunc, .nilFunc, .nilFunc, .nilFunc, .nilFunc, .nilFunc]
  have hfs : ∀ W, Fr (At w.heap.size) (w.alloc (.cells #[.nilFunc, .nilFunc, .nilFunc, .nilFunc, .nilFunc, .nilFunc] 88)) W → Fr No w W := fun W hW => ((Fr.refl No w).alloc _).callAt hW (Nat.le_refl _)
  have hkd := fun W (hW : Fr No w W) => node_kind (range_fr hn hW id)
  rw [hk] at hkd
  have hcall := fun W (hW : Fr No w W) => class_b W B bb gm b xs v A cap lo n next blk off (h.no hW) hl (by have := hW.size; omega) ⟨hlo.1, hlo.2, by have := hW.size; omega⟩ (range_fr hn hW id)
  clear hb hm
  go_enter Try.func39, Try.ntmps39
  go_wp2_with (first | ((with_reducible refine at_store _ ?_); go_loud (refine wpList_store_blk (cs := #[Value.nilFunc, .func (.func 52) #[.pointer (some ⟨bb, 0, none⟩)] #[], .func (.func 53) #[.pointer (some ⟨bb, 0, none⟩)] #[], .func (.func 54) #[.pointer (some ⟨bb, 0, none⟩)] #[], .func (.func 55) #[.pointer (some ⟨bb, 0, none⟩)] #[], .func (.func 56) #[.pointer (some ⟨bb, 0, none⟩)] #[]]) rfl rfl rfl rfl hZ rfl (by kernel_rfl) (by simp [Value.oneCell']) ?_); intro W hW hfW _; have hkW := hkd _ (hfs _ hfW); have htW := hW.cell 2) |
    (go_at_call 53; go_loud (refine (hcall _ (hfs _ hfW)).mono ?_); rintro e w2 ⟨rfl, ha2⟩))
  go_ret
  rw [hnb]
  exact ⟨rfl, Aft.ahead (hfs _ hfW) ha2 h⟩
set_option maxRecDepth 100000 in
set_option maxHeartbeats 4000000 in
theorem node_cat (w : World) (B bb gm : Nat) (b : Bst) (xs : List Value) (v : Value) (A : Option Addr) (cap lo : Nat) (n : Nd) (blk off next : Nat) (h : Bd w B bb gm b xs v) (he : b.e = 0) (hn : w.rangeAt blk off (nodeA n A cap).toList) (hlw : lo ≤ w.heap.size) (hB : B ≤ w.heap.size) (hlo : bb < lo ∧ gm < lo) (S : Nat → Prop) (k : Nat) (hS : ∀ k, S k → k < B ∧ k ≠ bb ∧ k ≠ gm) (hSb : S blk) (hrep : Rep w S (.slice A n.subs.length cap) (.sl 37 n.subs.length (encNs n.subs))) (hkd_ : ndepths n.subs ≤ k) (hok : okNs n.subs = true) (Hih : Hid (NSpec S B bb gm k)) (hl : b.st.length + ncounts n.subs < 4294967296) (hk : n.kind = 3) :
    Calls Try.prog 39 #[.pointer (some ⟨bb, 0, none⟩), .pointer (some ⟨blk, off, none⟩), .int .i64 next] w fun r w' => r = .returned (.int .i64 (nodeB n next b).2) ∧ Aft w w' lo B bb gm b (nodeB n next b).1 xs v := by
  have hnb : nodeB n next b = catB n.subs next b := by
    cases n; simp only [Nd.kind] at hk; subst hk; unfold nodeB; rw [if_pos he, if_neg (by decide), if_pos rfl]; rfl
  obtain ⟨mo, hb, hm⟩ := h.blk
  have h2 := hb.cell 2
  have ht : (b.e == 0) = true := by simpa using he
  have hlt : blk < w.heap.size := by
    have := node_kind hn
    exact World.block_lt_of_cell? w ⟨blk, off, none⟩ this
  have hbl := h.lt
  have hZ := Blk.new w 88 #[.nilFunc, .nilFunc, .nilFunc, .nilFunc, .nilFunc, .nilFunc]
  have hfs : ∀ W, Fr (At w.heap.size) (w.alloc (.cells #[.nilFunc, .nilFunc, .nilFunc, .nilFunc, .nilFunc, .nilFunc] 88)) W → Fr No w W := fun W hW => ((Fr.refl No w).alloc _).callAt hW (Nat.le_refl _)
  have hkd := fun W (hW : Fr No w W) => node_kind (range_fr hn hW id)
  rw [hk] at hkd
  have hcall := fun W (hW : Fr No w W) => cat_b S W B bb gm b xs v A cap lo k n next blk off hS (h.no hW) hl (by have := hW.size; omega) hlo (by have := hW.size; omega) (range_fr hn hW id) hSb (hrep.frNo hW) hkd_ hok Hih
  clear hb hm
  go_enter Try.func39, Try.ntmps39
  go_wp2_with (first | ((with_reducible refine at_store _ ?_); go_loud (refine wpList_store_blk (cs := #[Value.nilFunc, .func (.func 52) #[.pointer (some ⟨bb, 0, none⟩)] #[], .func (.func 53) #[.pointer (some ⟨bb, 0, none⟩)] #[], .func (.func 54) #[.pointer (some ⟨bb, 0, none⟩)] #[], .func (.func 55) #[.pointer (some ⟨bb, 0, none⟩)] #[], .func (.func 56) #[.pointer (some ⟨bb, 0, none⟩)] #[]]) rfl rfl rfl rfl hZ rfl (by kernel_rfl) (by simp [Value.oneCell']) ?_); intro W hW hfW _; have hkW := hkd _ (hfs _ hfW); have htW := hW.cell 3) |
    (go_at_call 54; go_loud (refine (hcall _ (hfs _ hfW)).mono ?_); rintro e w2 ⟨rfl, ha2⟩))
  go_ret
  rw [hnb]
  exact ⟨rfl, Aft.ahead (hfs _ hfW) ha2 h⟩
set_option maxRecDepth 100000 in
set_option maxHeartbeats 4000000 in
theorem node_alt (w : World) (B bb gm : Nat) (b : Bst) (xs : List Value) (v : Value) (A : Option Addr) (cap lo : Nat) (n : Nd) (blk off next : Nat) (h : Bd w B bb gm b xs v) (he : b.e = 0) (hn : w.rangeAt blk off (nodeA n A cap).toList) (hlw : lo ≤ w.heap.size) (hB : B ≤ w.heap.size) (hlo : bb < lo ∧ gm < lo) (S : Nat → Prop) (k : Nat) (hS : ∀ k, S k → k < B ∧ k ≠ bb ∧ k ≠ gm) (hSb : S blk) (hrep : Rep w S (.slice A n.subs.length cap) (.sl 37 n.subs.length (encNs n.subs))) (hkd_ : ndepths n.subs ≤ k) (hok : okNs n.subs = true) (Hih : Hid (NSpec S B bb gm k)) (hl : b.st.length + ncounts n.subs + 1 < 4294967296) (hk : n.kind = 4) :
    Calls Try.prog 39 #[.pointer (some ⟨bb, 0, none⟩), .pointer (some ⟨blk, off, none⟩), .int .i64 next] w fun r w' => r = .returned (.int .i64 (nodeB n next b).2) ∧ Aft w w' lo B bb gm b (nodeB n next b).1 xs v := by
  have hnb : nodeB n next b = (altB n.subs next b).1.add (over (altB n.subs next b).2) := by
    cases n; simp only [Nd.kind] at hk; subst hk; unfold nodeB; rw [if_pos he, if_neg (by decide), if_neg (by decide), if_pos rfl]; rfl
  obtain ⟨mo, hb, hm⟩ := h.blk
  have h2 := hb.cell 2
  have ht : (b.e == 0) = true := by simpa using he
  have hlt : blk < w.heap.size := by
    have := node_kind hn
    exact World.block_lt_of_cell? w ⟨blk, off, none⟩ this
  have hbl := h.lt
  have hZ := Blk.new w 88 #[.nilFunc, .nilFunc, .nilFunc, .nilFunc, .nilFunc, .nilFunc]
  have hfs : ∀ W, Fr (At w.heap.size) (w.alloc (.cells #[.nilFunc, .nilFunc, .nilFunc, .nilFunc, .nilFunc, .nilFunc] 88)) W → Fr No w W := fun W hW => ((Fr.refl No w).alloc _).callAt hW (Nat.le_refl _)
  have hkd := fun W (hW : Fr No w W) => node_kind (range_fr hn hW id)
  rw [hk] at hkd
  have hcall := fun W (hW : Fr No w W) => alt_b S W B bb gm b xs v A cap lo k n next blk off hS (h.no hW) hl (by have := hW.size; omega) hlo (by have := hW.size; omega) (range_fr hn hW id) hSb (hrep.frNo hW) hkd_ hok Hih
  clear hb hm
  go_enter Try.func39, Try.ntmps39
  go_wp2_with (first | ((with_reducible refine at_store _ ?_); go_loud (refine wpList_store_blk (cs := #[Value.nilFunc, .func (.func 52) #[.pointer (some ⟨bb, 0, none⟩)] #[], .func (.func 53) #[.pointer (some ⟨bb, 0, none⟩)] #[], .func (.func 54) #[.pointer (some ⟨bb, 0, none⟩)] #[], .func (.func 55) #[.pointer (some ⟨bb, 0, none⟩)] #[], .func (.func 56) #[.pointer (some ⟨bb, 0, none⟩)] #[]]) rfl rfl rfl rfl hZ rfl (by kernel_rfl) (by simp [Value.oneCell']) ?_); intro W hW hfW _; have hkW := hkd _ (hfs _ hfW); have htW := hW.cell 4) |
    (go_at_call 55; go_loud (refine (hcall _ (hfs _ hfW)).mono ?_); rintro e w2 ⟨rfl, ha2⟩))
  go_ret
  rw [hnb]
  exact ⟨rfl, Aft.ahead (hfs _ hfW) ha2 h⟩
set_option maxRecDepth 100000 in
set_option maxHeartbeats 4000000 in
theorem node_rep (w : World) (B bb gm : Nat) (b : Bst) (xs : List Value) (v : Value) (A : Option Addr) (cap lo : Nat) (n : Nd) (blk off next : Nat) (h : Bd w B bb gm b xs v) (he : b.e = 0) (hn : w.rangeAt blk off (nodeA n A cap).toList) (hlw : lo ≤ w.heap.size) (hB : B ≤ w.heap.size) (hlo : bb < lo ∧ gm < lo) (S : Nat → Prop) (k : Nat) (hS : ∀ k, S k → k < B ∧ k ≠ bb ∧ k ≠ gm) (hSb : S blk) (hrep : Rep w S (.slice A n.subs.length cap) (.sl 37 n.subs.length (encNs n.subs))) (hkd_ : ndepths n.subs ≤ k) (hok : okNs n.subs = true) (Hih : Hid (NSpec S B bb gm k)) (x : Nd) (hx : n.subs = [x]) (hl : b.st.length + x.count + 1 < 4294967296) (hk : n.kind = 5) :
    Calls Try.prog 39 #[.pointer (some ⟨bb, 0, none⟩), .pointer (some ⟨blk, off, none⟩), .int .i64 next] w fun r w' => r = .returned (.int .i64 (nodeB n next b).2) ∧ Aft w w' lo B bb gm b (nodeB n next b).1 xs v := by
  have hnb : nodeB n next b = (if (nodeB x (b.add (over [])).2 (b.add (over [])).1).1.e = 0 then { (nodeB x (b.add (over [])).2 (b.add (over [])).1).1 with st := (nodeB x (b.add (over [])).2 (b.add (over [])).1).1.st.set (b.add (over [])).2 (over [(nodeB x (b.add (over [])).2 (b.add (over [])).1).2, next]) } else (nodeB x (b.add (over [])).2 (b.add (over [])).1).1, (b.add (over [])).2) := by
    cases n; simp only [Nd.kind, Nd.subs] at hk hx; subst hk; subst hx; rw [nodeB, if_pos he, if_neg (by decide), if_neg (by decide), if_neg (by decide), if_pos rfl]; rfl
  obtain ⟨mo, hb, hm⟩ := h.blk
  have h2 := hb.cell 2
  have ht : (b.e == 0) = true := by simpa using he
  have hlt : blk < w.heap.size := by
    have := node_kind hn
    exact World.block_lt_of_cell? w ⟨blk, off, none⟩ this
  have hbl := h.lt
  have hZ := Blk.new w 88 #[.nilFunc, .nilFunc, .nilFunc, .nilFunc, .nilFunc, .nilFunc]
  have hfs : ∀ W, Fr (At w.heap.size) (w.alloc (.cells #[.nilFunc, .nilFunc, .nilFunc, .nilFunc, .nilFunc, .nilFunc] 88)) W → Fr No w W := fun W hW => ((Fr.refl No w).alloc _).callAt hW (Nat.le_refl _)
  have hkd := fun W (hW : Fr No w W) => node_kind (range_fr hn hW id)
  rw [hk] at hkd
  have hcall := fun W (hW : Fr No w W) => rep_b S W B bb gm b xs v A cap lo k n x next blk off hS (h.no hW) hl (by have := hW.size; omega) hlo (by have := hW.size; omega) hx (range_fr hn hW id) hSb (hrep.frNo hW) hkd_ hok Hih
  clear hb hm
  go_enter Try.func39, Try.ntmps39
  go_wp2_with (first | ((with_reducible refine at_store _ ?_); go_loud (refine wpList_store_blk (cs := #[Value.nilFunc, .func (.func 52) #[.pointer (some ⟨bb, 0, none⟩)] #[], .func (.func 53) #[.pointer (some ⟨bb, 0, none⟩)] #[], .func (.func 54) #[.pointer (some ⟨bb, 0, none⟩)] #[], .func (.func 55) #[.pointer (some ⟨bb, 0, none⟩)] #[], .func (.func 56) #[.pointer (some ⟨bb, 0, none⟩)] #[]]) rfl rfl rfl rfl hZ rfl (by kernel_rfl) (by simp [Value.oneCell']) ?_); intro W hW hfW _; have hkW := hkd _ (hfs _ hfW); have htW := hW.cell 5) |
    (go_at_call 56; go_loud (refine (hcall _ (hfs _ hfW)).mono ?_); rintro e w2 ⟨rfl, ha2⟩))
  go_ret
  rw [hnb]
  exact ⟨rfl, Aft.ahead (hfs _ hfW) ha2 h⟩
theorem okN_cases {n : Nd} (h : okN n = true) : (n.kind = 1 ∨ n.kind = 2 ∨ n.kind = 3 ∨ n.kind = 4 ∨ (n.kind = 5 ∧ ∃ x, n.subs = [x])) ∧ okNs n.subs = true := by
  cases n with
  | mk k s mn mx l =>
    unfold okN at h
    simp only [Bool.and_eq_true, Bool.or_eq_true, beq_iff_eq] at h
    obtain ⟨h, h2⟩ := h
    refine ⟨?_, h2⟩
    simp only [Nd.kind, Nd.subs]
    rcases h with (((h | h) | h) | h) | ⟨h, h3⟩
    · exact .inl h
    · exact .inr (.inl h)
    · exact .inr (.inr (.inl h))
    · exact .inr (.inr (.inr (.inl h)))
    · exact .inr (.inr (.inr (.inr ⟨h, List.length_eq_one_iff.1 h3⟩)))
theorem nspec_step {S : Nat → Prop} {B bb gm k : Nat} (hS : ∀ k, S k → k < B ∧ k ≠ bb ∧ k ≠ gm) (hih : NSpec S B bb gm k) : NSpec S B bb gm (k + 1) := by
  intro lo n next blk off A cap b xs v w hd h hok hl hB hbl hgl hlw hn hSb hrep
  by_cases he : b.e = 0
  · obtain ⟨hc, hoks⟩ := okN_cases hok
    have hcn := n.count_eq
    have hkd : ndepths n.subs ≤ k := by have := n.depth_eq; omega
    rcases hc with hk | hk | hk | hk | ⟨hk, x, hx⟩
    · exact node_empty w B bb gm b xs v A cap lo n blk off next h he hn hk
    · exact node_class w B bb gm b xs v A cap lo n blk off next h he hn hlw hB ⟨hbl, hgl⟩ (by omega) hk
    · exact node_cat w B bb gm b xs v A cap lo n blk off next h he hn hlw hB ⟨hbl, hgl⟩ S k hS hSb hrep hkd hoks (hid hih) (by omega) hk
    · exact node_alt w B bb gm b xs v A cap lo n blk off next h he hn hlw hB ⟨hbl, hgl⟩ S k hS hSb hrep hkd hoks (hid hih) (by omega) hk
    · exact node_rep w B bb gm b xs v A cap lo n blk off next h he hn hlw hB ⟨hbl, hgl⟩ S k hS hSb hrep hkd hoks (hid hih) x hx (by rw [hx] at hcn; simp only [ncounts] at hcn; omega) hk
  · exact node_dead w B bb gm b xs v lo n _ next h he
theorem nspec {S : Nat → Prop} {B bb gm : Nat} (hS : ∀ k, S k → k < B ∧ k ≠ bb ∧ k ≠ gm) : ∀ k, NSpec S B bb gm k
  | 0 => fun lo n next blk off A cap b xs v w hd => by have := n.depth_eq; omega
  | k + 1 => nspec_step hS (nspec hS k)
end
end Go.Proofs.Ytldmdlkjpdfonaa
