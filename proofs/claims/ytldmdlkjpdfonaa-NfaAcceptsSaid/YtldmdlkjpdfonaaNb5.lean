/- The walk of nfa.Build: plain rules. The walk of nfa.Build without a meter. What nfa.Build comes to, in the words of the plain automaton: with a meter, and without. -/
import Derived.Test.YtldmdlkjpdfonaaNb2
namespace Go.Proofs.Ytldmdlkjpdfonaa
set_option linter.unusedVariables false
set_option linter.unusedSimpArgs false
section
open Go Go.RowKit

/-- The states as they are told, at a round. -/
def Told (w wr : World) (B bb : Nat) (st : List NS) (eps : List Nat) (xs : List Value) (v : Value) : Prop :=
  ∃ zs rest v0, xs = [.int .u64 0, .int .u64 0, .int .u64 0, .int .u64 0, .int .i64 (-1), .int .i64 (-1), v0] ++ zs ∧ st = over [] :: rest ∧
    Reps wr (fun k => (bb < k ∧ v.ownBlock ≠ some k) ∧ v0.ownBlock ≠ some k) zs (encSs rest) ∧ Own wr B (fun _ => False) 3 1 v0 eps.length (encI eps) ∧ (∀ k, v0.ownBlock = some k → v.ownBlock ≠ some k ∧ k ≠ bb)
theorem add_none_iff (b : Bst) (x : NS) : (b.add x).1.m = none ↔ b.m = none := by
  obtain ⟨m, st, e⟩ := b
  unfold Bst.add
  cases m with
  | none => simp only []; split <;> simp
  | some m =>
    simp only []
    split
    · split
      · split <;> simp
      · simp
    · simp
theorem rules_none_iff (l : List Nd) (i : Nat) (b : Bst) (eps : List Nat) (hf : Fits b.m) : (rulesB l i b eps).1.m = none ↔ b.m = none := by
  by_cases he : b.e = 0
  · rcases rulesB_run l i b eps he hf with ⟨m', hr, ha⟩ | ⟨m1, m2, k, h1, h2, _⟩
    · rw [hr]
      cases hb : b.m with
      | none => rw [hb] at ha; cases m' with
        | none => simp
        | some _ => exact ha.elim
      | some _ => rw [hb] at ha; cases m' with
        | none => exact ha.elim
        | some _ => simp
    · rw [h1, h2]; simp
  · rw [rulesB_dead _ _ _ _ he]
theorem mo_same {w w' : World} {gm : Nat} {mo mo1 : Option Addr} : ∀ {m m1 : Option Mtr}, MeO w gm mo m → MeO w' gm mo1 m1 → (m1 = none ↔ m = none) → mo1 = mo
  | none, none, h, h', _ => h'.trans (Eq.symm h)
  | some _, some _, h, h', _ => h'.1.trans h.1.symm
  | none, some _, _, _, hi => by simp at hi
  | some _, none, _, _, hi => by simp at hi
theorem rulesB_eps : ∀ (l : List Nd) (i : Nat) (b : Bst) (eps : List Nat), (rulesB l i b eps).2.length ≤ eps.length + l.length
  | [], _, _, eps => Nat.le_refl _
  | a :: l, i, b, eps => by
    simp only [rulesB]
    refine Nat.le_trans (rulesB_eps l (i + 1) _ _) ?_
    split <;> simp only [List.length_append, List.length_cons, List.length_nil] <;> omega
set_option maxRecDepth 100000 in
set_option maxHeartbeats 8000000 in
theorem build_main (mo : Option Addr) (gm : Nat) (m : Option Mtr) (l : List Nd) (A : Option Addr) (cap : Nat) (S : Nat → Prop) (w : World) (hl : NodesIn w S (.slice A l.length cap) l) (hn1 : 1 ≤ l.length) (hn8 : l.length ≤ 8) (hap : allPlain l = true)
    (hm : MeO w gm mo m) (hfit : Fits m) (hgm : gm < w.heap.size) (hS : ∀ k, S k → k < w.heap.size ∧ k ≠ gm) (hc : ncounts l < 2147483648) :
    Calls Try.prog 11 #[.pointer mo, .slice A l.length cap] w fun e w' => Built w w' gm mo l.length (rulesB l 0 ((Bst.mk m [] 0).add (over [])).1 []) e := by
  have hcon := contains_n l A cap S w hl (hid fun n v w _ hn => build1_c S n v w hn)
  rw [hap] at hcon
  have hok := okNs_plain l hap
  have hd : decide (l.length < 1) = false := decide_eq_false (by omega)
  have hd' : decide ((l.length : Int) < 1) = false := decide_eq_false (by omega)
  have he : decide (8 < l.length) = false := decide_eq_false (by omega)
  have he' : decide ((8 : Int) < l.length) = false := decide_eq_false (by omega)
  have hov := fun W => over_c [] none 0 W
  -- the builder, new
  have hBd : ∀ W, Fr No w W → Bd (W.alloc (.cells #[.pointer mo, .slice none 0 0, .int .i64 0] 71)) w.heap.size W.heap.size gm ⟨m, [], 0⟩ [] (.slice none 0 0) := fun W hW =>
    ⟨⟨mo, Blk.new _ _ _, hm.fr ((hW.alloc _)) id⟩, World.ownsRow_nil _ _ _ _, hfit, ⟨fun h => (by cases h), fun h => (by cases h)⟩, by rw [World.size_alloc]; have := hW.size; omega⟩
  have hadd := fun W W' (hW : Fr No w W) (hf : Fr No (W.alloc (.cells #[.pointer mo, .slice none 0 0, .int .i64 0] 71)) W') => add_x W' w.heap.size W.heap.size gm ⟨m, [], 0⟩ (over []) [] (.slice none 0 0) none 0 ((hBd W hW).no hf) (by simp) (by have := hW.size; have := hf.size; rw [World.size_alloc] at this; omega)
  go_enter Try.func11, Try.ntmps11
  go_wp2_with (first | (go_at_call 34; refine hcon.mono ?_; rintro e w1 ⟨rfl, hf1⟩) |
    (go_at_call 38; refine (hov _).mono ?_; rintro e w2 ⟨rfl, hf2⟩) |
    (go_at_call 37; go_loud (refine (hadd _ _ hf1 hf2).mono ?_); rintro e w3 ⟨rfl, v3, ys3, hb3, hc3, hf3, ho3⟩))
  have hbw : w.heap.size ≤ w1.heap.size := hf1.size
  have hA3 : Fr (At gm) w w3 := ((((Fr.refl (At gm) w).no hf1).alloc (.cells #[.pointer mo, .slice none 0 0, .int .i64 0] 71)).no hf2).call hf3 fun k hk h => by
    rcases h with h | h | h
    · omega
    · exact h
    · cases h
  have hfits3 := hb3.fits
  have h00 : ((Bst.mk m [] 0).add (over [])).2 = 0 := by
    by_cases h0 : ((Bst.mk m [] 0).add (over [])).1.e = 0
    · obtain ⟨m', h⟩ := add_alive (b := ⟨m, [], 0⟩) hfit h0; rw [h]; rfl
    · rcases Bst.add_run ⟨m, [], 0⟩ (over []) rfl hfit with ⟨m', h, _⟩ | ⟨mm, m', kk, h1, h2, h3, h4, h5, h6, _⟩
      · rw [h] at h0; exact absurd rfl h0
      · have h4' := h4
        simp only [] at h1
        subst h1
        unfold Bst.add at h4' ⊢
        simp only [if_true] at h4' ⊢
        split
        · split
          · rfl
          · rfl
        · rfl
  have htold : ((Bst.mk m [] 0).add (over [])).1.e = 0 → Told w w3 w.heap.size w1.heap.size ((Bst.mk m [] 0).add (over [])).1.st [] ([] ++ ys3) v3 := fun h0 => by
    rcases hc3 with ⟨_, _, h⟩ | ⟨h1, h2, _⟩
    · exact absurd h0 h
    · exact ⟨[], [], .slice none 0 0, by rw [h2, stA_over]; rfl, h1, .nil, Own.nil _ _ _ _ _, fun k hk => by cases hk⟩
  rw [h00]
  clear hc3 ho3 hadd hBd hcon hov h00
  have hb3' := hb3
  generalize hst3 : ((Bst.mk m [] 0).add (over [])).1 = a0 at *
  generalize hbb : w1.heap.size = bb at *
  generalize ([] ++ ys3) = xs3 at *
  have hl3 : a0.st.length ≤ 1 := by rw [← hst3]; exact add_len ⟨m, [], 0⟩ (over []) hfit
  have Hst3 := hid hst3
  clear hb3' hst3
  have Hl := hid hl
  have hlw : NodesIn w3 S (.slice A l.length cap) l := Rep.fr hl hA3 fun k hk _ => ⟨fun h => (hS k hk).2 h, hk⟩
  clear hl
  go_loopg [31] l.length (fun g i wr => ∃ (j : Nat) (xs1 : List Value) (v1 : Value), j + g = l.length ∧ i = .int .i64 j ∧ Bd wr w.heap.size bb gm (rulesB (l.take j) 0 a0 []).1 xs1 v1 ∧ Fr (At gm) w wr ∧
    ((rulesB (l.take j) 0 a0 []).1.e = 0 → Told w wr w.heap.size bb (rulesB (l.take j) 0 a0 []).1.st (rulesB (l.take j) 0 a0 []).2 xs1 v1))
  case atStart => exact ⟨0, xs3, v3, by omega, rfl, hb3, hA3, htold⟩
  case round =>
    obtain ⟨j, xs1, v1, hj, rfl, hb1, hF1, htl⟩ := hrel
    clear hb3 htold hlw hA3
    cases gk with
    | zero =>
      obtain rfl : j = l.length := by omega
      rw [List.take_length] at *
      have hd1 : decide (l.length < l.length) = false := decide_eq_false (by omega)
      have hlen := rulesB_len l 0 a0 [] hfits3
      have hrl := rulesLen_le l
      have hr0 : ∃ r, rulesB l 0 a0 [] = r := ⟨_, rfl⟩
      obtain ⟨r, hr⟩ := hr0
      rw [hr] at hb1 htl hlen
      have Hr := hid hr
      clear hr
      obtain ⟨mo1, hbk1, hmo1⟩ := hb1.blk
      obtain rfl : mo1 = mo := mo_same hm hmo1 (by rw [← Hr.out, rules_none_iff l 0 a0 [] hfits3, ← Hst3.out, add_none_iff])
      have h1e := hbk1.cell 2
      have h1v := hbk1.cell 1
      by_cases hre : r.1.e = 0
      · obtain ⟨zs, rest, v0, hxs, hst, hzr, hv0, hv0a⟩ := htl hre
        have hde : (r.1.e == 0) = true := by simpa using hre
        have Hst := hid hst
        have Hxs := hid hxs
        have hrow := hb1.row
        have hvf : ∃ g cap, v1 = .slice (some ⟨g, 0, none⟩) r.1.st.length cap := by
          obtain ⟨g, c, h, _⟩ := hb1.row.form (by rw [hst]; simp)
          exact ⟨g, c, h⟩
        obtain ⟨gg, cap1, rfl⟩ := hvf
        clear hst hxs htl hj
        go_wp2_with fail
        go_ret2
        rw [Hst3.out, Hr.out]
        unfold Built
        rw [if_pos hre]
        have hst := Hst.out
        have hxs := Hxs.out
        have hsl : (r.1.st.set 0 (over r.2)) = over r.2 :: rest := by rw [hst]; rfl
        obtain ⟨A0, cap0, rfl, _, _⟩ := hv0.form
        have hF2 : Fr No wr _ := (Fr.refl No wr).alloc (.cells #[.slice (some ⟨gg, 0, none⟩) r.1.st.length cap1, .int .i64 l.length] 77)
        refine ⟨hF1.alloc _, ⟨wr.heap.size, rfl, ⟨hF1.size, _, Blk.new _ _ _, ?_⟩⟩, hmo1.fr hF2 id⟩
        have hrow2 := own_fr hrow hF2 fun _ _ h => h
        rw [hsl]
        have hlr : r.1.st.length = (over r.2 :: rest).length := by rw [hst]; rfl
        have hrow4 : (wr.alloc (.cells #[.slice (some ⟨gg, 0, none⟩) r.1.st.length cap1, .int .i64 l.length] 77)).ownsRow w.heap.size 54 7 (.slice (some ⟨gg, 0, none⟩) r.1.st.length cap1) (over r.2 :: rest).length xs1 := by
          rw [← hlr]; exact hrow2
        refine row_rep hrow4 ?_ fun k hk => (hrow4.lt k hk).1
        rw [hxs]
        show Reps _ _ (_ ++ zs) (encS (over r.2) ++ encSs rest)
        refine Reps.append ?_ (hzr.fr hF2 fun k hk _ => ⟨id, by have := hk.1.1; omega⟩)
        have h2 := hv0.fr hF2 (fun _ _ _ => id)
        have := stA_reps (x := over r.2) (A := A0) (cap := cap0) (own_repI (S' := fun k => w.heap.size ≤ k) h2 fun k hk => (h2.blk_lt k hk).1)
        rw [stA_over] at this
        exact this
      · have hde : (r.1.e == 0) = false := by simpa using hre
        have hrow := hb1.row
        obtain ⟨A1, cap1, rfl⟩ : ∃ A cap, v1 = .slice A r.1.st.length cap := by
          rcases hb1.row.2 with ⟨h, h0⟩ | ⟨g, c, _, h, _⟩
          · exact ⟨none, 0, by rw [h, h0]⟩
          · exact ⟨_, _, h⟩
        have hlr : r.1.st.length < 1099511627776 := by omega
        have hfr := hb1.fits
        clear htl hj
        cases hmr : r.1.m with
        | none =>
          rw [hmr] at hmo1
          obtain rfl : mo1 = none := hmo1
          go_wp2_with (go_at_call 40; refine (giveNil_c _ _).mono ?_; rintro e w8 ⟨rfl, hw8⟩; replace hw8 := hw8.symm; subst hw8)
          go_quiet (fail)
          go_wp2
          go_ret2
          rw [Hst3.out, Hr.out]
          unfold Built
          rw [if_neg hre, hmr]
          exact ⟨hF1.drewN _, rfl, rfl⟩
        | some mm =>
          rw [hmr] at hmo1 hfr
          obtain ⟨rfl, hme⟩ := hmo1
          have hgne : gm ≠ bb := Blk.ne_ hme hbk1 (by decide)
          have hgv := give_c gm mm wr r.1.st.length hme hfr (by omega)
          go_wp2_with (go_at_call 40; refine hgv.mono ?_; rintro e w8 ⟨rfl, hm8, hf8⟩; have hb8 := hf8.blk hbk1 (Ne.symm hgne); have h8e := hb8.cell 2)
          go_quiet (fail)
          go_wp2
          go_ret2
          rw [Hst3.out, Hr.out]
          unfold Built
          rw [if_neg hre, hmr]
          exact ⟨(hF1.trans hf8).drewN _, rfl, rfl, hm8.drewN _⟩
    | succ g =>
      obtain ⟨n', hn'⟩ : ∃ n', l[j]? = some n' := ⟨_, List.getElem?_eq_getElem (by omega)⟩
      have hlr : NodesIn wr S (.slice A l.length cap) l := Rep.fr Hl.out hF1 fun k hk _ => ⟨fun h => (hS k hk).2 h, hk⟩
      obtain ⟨bs, os, A', cap', rfl, hSs, hlts, hrng, hrep'⟩ := NodesIn.at_ hlr hn'
      rw [Nat.mul_comm 8 j] at hrng
      have hS' : ∀ k, S k → k < w.heap.size ∧ k ≠ bb ∧ k ≠ gm := fun k hk => ⟨(hS k hk).1, by have := (hS k hk).1; omega, (hS k hk).2⟩
      have hfar := Mv.far hS' hb1
      have hws : w.heap.size ≤ wr.heap.size := hF1.size
      have hlen := rulesB_len (l.take j) 0 a0 [] hfits3
      have hrl := rulesLen_take hn'
      have hel := rulesB_eps (l.take j) 0 a0 []
      rw [List.length_take, Nat.min_eq_left (by omega), List.length_nil, Nat.zero_add] at hel
      have Htk := hid (rulesB_take hn' a0 [])
      have hokn := okNs_get hn' hok
      have hjL : (j : Int) < (l.length : Int) := by omega
      have hd1 : decide (j < l.length) = true := decide_eq_true (by omega)
      generalize rulesB (l.take j) 0 a0 [] = r at *
      have hal := add_len r.1 ⟨0, -1, (j : Int), []⟩ hb1.fits
      have hadd := add_c wr w.heap.size bb gm r.1 ⟨0, -1, (j : Int), []⟩ xs1 v1 none 0 wr.heap.size hb1 (by omega) hws ⟨hb1.lt.1, hb1.lt.2, Nat.le_refl _⟩ (.nil0 (Nat.zero_le _))
      rw [stA_end] at hadd
      have hnode := fun W xs2 v2 (hb2 : Bd W w.heap.size bb gm (r.1.add ⟨0, -1, (j : Int), []⟩).1 xs2 v2) (hf : Fr (Mv bb gm v1) wr W) =>
        nspec hS' n'.depth wr.heap.size n' (r.1.add ⟨0, -1, (j : Int), []⟩).2 bs (os + j * 8) A' cap' (r.1.add ⟨0, -1, (j : Int), []⟩).1 xs2 v2 W (Nat.le_refl _) hb2 hokn (by omega) (by have := hf.size; omega) hb1.lt.1 hb1.lt.2 hf.size (range_fr hrng hf (hfar bs hSs)) hSs (hrep'.fr hf fun k hk _ => ⟨hfar k hk, hk⟩)
      have hq0 : (nodeB n' (r.1.add ⟨0, -1, (j : Int), []⟩).2 (r.1.add ⟨0, -1, (j : Int), []⟩).1).1.e = 0 → r.1.e = 0 := fun h => by
        have h1 := node_alive h
        by_cases h2 : r.1.e = 0
        · exact h2
        · rw [Bst.add_dead _ _ h2] at h1; exact h1
      have Hj := hid hj
      have Hlr := hid hlr
      clear hlr hrng hrep' hlen hrl hal hn' hj hokn
      unfold stepR at Htk
      generalize r.1.add ⟨0, -1, (j : Int), []⟩ = x1 at *
      generalize nodeB n' x1.2 x1.1 = q at *
      by_cases hqe : q.1.e = 0
      · rw [if_pos hqe] at Htk
        obtain ⟨zs, rest, v0, hxs, hst, hzr, hv0, hv0a⟩ := htl (hq0 hqe)
        have hde : (q.1.e == 0) = true := by simpa using hqe
        go_wp2_with (go_at_call 37; refine hadd.mono ?_; rintro e w4 ⟨rfl, ha4⟩; obtain ⟨v4, xs4, hb4, hf4, ho4, hgo⟩ := ha4.opens hb1.lt)
        refine (hnode _ _ _ hb4 hf4).mono ?_
        rintro e w5 ⟨rfl, ha5⟩
        obtain ⟨v5, ys5, nw5, hb5, hs5, hr5, hf5, ho5⟩ := hgo _ _ ha5
        have hl5 : q.1.st.length = 1 + rest.length + nw5.length := by rw [hs5, hst]; simp only [List.length_append, List.length_cons]; omega
        obtain ⟨gg, cap5, rfl, hg1, hg2⟩ := hb5.row.form (by omega)
        obtain ⟨mo5, hbk5, hmo5⟩ := hb5.blk
        have h5e := hbk5.cell 2
        have h5v := hbk5.cell 1
        have h0n : 0 < q.1.st.length := by omega
        have h0n' : (0 : Int) < (q.1.st.length : Int) := by omega
        have hc6 : w5.cell? ⟨gg, 6, none⟩ = some v0 := by rw [hb5.row.cellAt 6 (by omega), hxs]; rfl
        have Hl5 := hid hl5
        have Hs5 := hid hs5
        have Hst := hid hst
        have Hxs := hid hxs
        clear hl5 hs5 hst hxs
        have hz6 := hb5.row.frozenAt 6
        have hv5 := hv0.fr hf5 (fun k _ hk => by
          rcases hk with hk | hk
          · exact hk.elim
          · have := (hv0.blk_lt k hk).1
            rintro (h1 | h1 | h1)
            · exact (hv0a k hk).2 h1
            · omega
            · exact (hv0a k hk).1 h1)
        have hv0lt := hv0.blk_lt
        have hta5 : ∀ k, v0.ownBlock = some k → gg ≠ k := fun k hk hc => by
          rcases ho5 gg rfl with h1 | h1
          · exact (hv0a k hk).1 (by rw [h1, hc])
          · have := (hv0lt k hk).2; omega
        have hF5 : Fr (At gm) w w5 := hF1.call hf5 fun k hk h => by
          rcases h with h | h | h
          · omega
          · exact h
          · have := (hb1.row.lt k h).1; omega
        clear hadd hnode ha5 ha4 hgo hf4 ho4 hb4 hv0 htl hq0 hfar
        go_wp2
        refine wp_region_tail 16 (fun W => W.cell? ⟨bb, 1, none⟩ = some (.slice (some ⟨gg, 0, none⟩) q.1.st.length cap5) ∧ W.cell? ⟨gg, 6, none⟩ = some v0) (by kernel_rfl) (by kernel_rfl) ?_
        simp only [List.take_succ_cons, List.take_zero, List.drop_succ_cons, List.drop_zero]
        have hS5 : (fun W : World => W.cell? ⟨bb, 1, none⟩ = some (.slice (some ⟨gg, 0, none⟩) q.1.st.length cap5) ∧ W.cell? ⟨gg, 6, none⟩ = some v0) w5.drew := ⟨h5v, hc6⟩
        refine Rt.take (i := 0) (v := (.pointer (some ⟨bb, 0, none⟩))) rfl (by kernel_rfl) (fun _ _ _ h => h) (.inl ⟨rfl, fun w hSw => by (try dsimp only at hSw); go_simp⟩) (by assumption) ?_
        try simp only [Act.put, List.getElem_toArray, List.getElem_cons_succ, List.getElem_cons_zero, List.setIfInBounds_toArray, List.set_cons_zero, List.set_cons_succ]
        refine Rt.take (i := 1) (v := (.pointer (some ⟨bb, 0, none⟩))) rfl (by kernel_rfl) (fun _ _ _ h => h) (.inl ⟨rfl, fun w hSw => by (try dsimp only at hSw); go_simp⟩) (by assumption) ?_
        try simp only [Act.put, List.getElem_toArray, List.getElem_cons_succ, List.getElem_cons_zero, List.setIfInBounds_toArray, List.set_cons_zero, List.set_cons_succ]
        refine Rt.take (i := 2) (v := (.pointer (some ⟨bb, 1, none⟩))) rfl (by kernel_rfl) (fun _ _ _ h => h) (.inl ⟨rfl, fun w hSw => by (try dsimp only at hSw); go_simp⟩) (by assumption) ?_
        try simp only [Act.put, List.getElem_toArray, List.getElem_cons_succ, List.getElem_cons_zero, List.setIfInBounds_toArray, List.set_cons_zero, List.set_cons_succ]
        refine Rt.take (i := 3) (v := (.slice (some ⟨gg, 0, none⟩) q.1.st.length cap5)) rfl (by kernel_rfl) (fun _ _ _ h => h) (.inl ⟨rfl, fun w hSw => by (try dsimp only at hSw); go_simp⟩) (by assumption) ?_
        try simp only [Act.put, List.getElem_toArray, List.getElem_cons_succ, List.getElem_cons_zero, List.setIfInBounds_toArray, List.set_cons_zero, List.set_cons_succ]
        refine Rt.take (i := 4) (v := (.int .i64 0)) rfl (by kernel_rfl) (fun _ _ _ h => h) (.inl ⟨rfl, fun w hSw => by (try dsimp only at hSw); go_simp⟩) (by assumption) ?_
        try simp only [Act.put, List.getElem_toArray, List.getElem_cons_succ, List.getElem_cons_zero, List.setIfInBounds_toArray, List.set_cons_zero, List.set_cons_succ]
        refine Rt.take (i := 5) (v := (.pointer (some ⟨bb, 0, none⟩))) rfl (by kernel_rfl) (fun _ _ _ h => h) (.inl ⟨rfl, fun w hSw => by (try dsimp only at hSw); go_simp⟩) (by assumption) ?_
        try simp only [Act.put, List.getElem_toArray, List.getElem_cons_succ, List.getElem_cons_zero, List.setIfInBounds_toArray, List.set_cons_zero, List.set_cons_succ]
        refine Rt.take (i := 6) (v := (.pointer (some ⟨bb, 0, none⟩))) rfl (by kernel_rfl) (fun _ _ _ h => h) (.inl ⟨rfl, fun w hSw => by (try dsimp only at hSw); go_simp⟩) (by assumption) ?_
        try simp only [Act.put, List.getElem_toArray, List.getElem_cons_succ, List.getElem_cons_zero, List.setIfInBounds_toArray, List.set_cons_zero, List.set_cons_succ]
        refine Rt.take (i := 7) (v := (.pointer (some ⟨bb, 1, none⟩))) rfl (by kernel_rfl) (fun _ _ _ h => h) (.inl ⟨rfl, fun w hSw => by (try dsimp only at hSw); go_simp⟩) (by assumption) ?_
        try simp only [Act.put, List.getElem_toArray, List.getElem_cons_succ, List.getElem_cons_zero, List.setIfInBounds_toArray, List.set_cons_zero, List.set_cons_succ]
        refine Rt.take (i := 8) (v := (.slice (some ⟨gg, 0, none⟩) q.1.st.length cap5)) rfl (by kernel_rfl) (fun _ _ _ h => h) (.inl ⟨rfl, fun w hSw => by (try dsimp only at hSw); go_simp⟩) (by assumption) ?_
        try simp only [Act.put, List.getElem_toArray, List.getElem_cons_succ, List.getElem_cons_zero, List.setIfInBounds_toArray, List.set_cons_zero, List.set_cons_succ]
        refine Rt.take (i := 9) (v := (.int .i64 0)) rfl (by kernel_rfl) (fun _ _ _ h => h) (.inl ⟨rfl, fun w hSw => by (try dsimp only at hSw); go_simp⟩) (by assumption) ?_
        try simp only [Act.put, List.getElem_toArray, List.getElem_cons_succ, List.getElem_cons_zero, List.setIfInBounds_toArray, List.set_cons_zero, List.set_cons_succ]
        refine Rt.take (i := 10) (v := (.pointer (some ⟨gg, 0, none⟩))) rfl (by kernel_rfl) (fun _ _ _ h => h) (.inl ⟨rfl, fun w hSw => by (try dsimp only at hSw); go_simp⟩) (by assumption) ?_
        try simp only [Act.put, List.getElem_toArray, List.getElem_cons_succ, List.getElem_cons_zero, List.setIfInBounds_toArray, List.set_cons_zero, List.set_cons_succ]
        refine Rt.take (i := 11) (v := (.pointer (some ⟨gg, 6, none⟩))) rfl (by kernel_rfl) (fun _ _ _ h => h) (.inl ⟨rfl, fun w hSw => by (try dsimp only at hSw); go_simp⟩) (by assumption) ?_
        try simp only [Act.put, List.getElem_toArray, List.getElem_cons_succ, List.getElem_cons_zero, List.setIfInBounds_toArray, List.set_cons_zero, List.set_cons_succ]
        refine Rt.take (i := 12) (v := v0) rfl (by kernel_rfl) (fun _ _ _ h => h) (.inl ⟨rfl, fun w hSw => by (try dsimp only at hSw); go_simp⟩) (by assumption) ?_
        try simp only [Act.put, List.getElem_toArray, List.getElem_cons_succ, List.getElem_cons_zero, List.setIfInBounds_toArray, List.set_cons_zero, List.set_cons_succ]
        refine Rt.take (i := 13) (v := (.int .i64 q.2)) rfl (by kernel_rfl) (fun _ _ _ h => h) (.inl ⟨rfl, fun w hSw => by (try dsimp only at hSw); go_simp⟩) (by assumption) ?_
        try simp only [Act.put, List.getElem_toArray, List.getElem_cons_succ, List.getElem_cons_zero, List.setIfInBounds_toArray, List.set_cons_zero, List.set_cons_succ]
        refine Rt.one (i := 14) rfl (by kernel_rfl) (fun K hK => ?_)
        rw [if_pos (by kernel_rfl)]
        refine wp_oneInt 62 rfl rfl ?_
        have hfa : Fr No w5 _ := (Fr.refl No w5).drew.alloc (.cells #[.int .i64 (q.2 : Int)] 3)
        have hbA := hfa.blk hbk5 id
        have hrA := own_fr hb5.row hfa fun _ _ h => h
        have hvA := hv5.fr hfa fun _ _ _ => id
        refine hK.out _ _ ⟨hbA.cell 1, hfa.cell (p := ⟨gg, 6, none⟩) id hc6⟩ (Rt.one (i := 15) rfl (by kernel_rfl) (fun K2 hK2 => ?_))
        clear hK K hS5
        rw [if_pos (by kernel_rfl)]
        have hszA : (w5.drew.alloc (.cells #[.int .i64 (q.2 : Int)] 3)).heap.size = w5.heap.size + 1 := World.size_alloc _ _
        have hw5 := hF5.size
        refine wp_append_D (es := [.v (.int .i64 q.2)]) (m := 1) (.tmp 61) (.tmp 63) 42 rfl _ 8 Try.underlying42 infoInt3 rfl (by decide) rfl hvA rfl (news := [.int .i64 q.2]) rfl (Blk.new w5.drew 3 #[.int .i64 (q.2 : Int)]).news (.cons (.v rfl) .nil) (by omega) (by omega) (by omega) ?_
        intro v6 w6 hv6 hg6 hat6
        have hf6 := Fr.ofGrown hg6
        rw [hszA] at hat6
        have hb6 := hf6.blk hbA (fun h => (hv0a _ h.symm).2 rfl)
        have hc66 := hf6.cell (p := ⟨gg, 6, none⟩) (fun h => hta5 _ h.symm rfl) (hfa.cell (p := ⟨gg, 6, none⟩) id hc6)
        refine hK2.out _ _ ⟨hb6.cell 1, hc66⟩ (Rt.done (by kernel_rfl) ?_)
        clear hK2 K2
        have hr6 := own_fr hrA hf6 fun k hk h => hta5 k h.symm (by injection hk)
        have hz66 := hr6.frozenAt 6
        clear h5e h5v hc6 hz6 hbk5
        obtain ⟨A6, cap6, rfl, _, _⟩ := hv6.form
        go_wp2
        go_roundg g
        case measure => omega
        case rel =>
          have hv6own : ∀ k, (Value.slice A6 (r.2.length + 1) cap6).ownBlock = some k → gg ≠ k ∧ k ≠ bb := fun k hk => by
            rcases hat6 with h | h
            · rw [h] at hk; exact ⟨hta5 k hk, (hv0a k hk).2⟩
            · rw [h] at hk; injection hk with hk
              have := hb5.lt.1
              exact ⟨by omega, by omega⟩
          have hgb : bb ≠ gg := fun e => hb5.apart.1 (by rw [e]; rfl)
          have hgm2 : gm ≠ gg := fun e => hb5.apart.2 (by rw [e]; rfl)
          have hset : (xs1 ++ ys5).set 6 (.slice A6 (r.2.length + 1) cap6) = [.int .u64 0, .int .u64 0, .int .u64 0, .int .u64 0, .int .i64 (-1), .int .i64 (-1), .slice A6 (r.2.length + 1) cap6] ++ (zs ++ ys5) := by
            rw [Hxs.out]; rfl
          obtain ⟨hrS, _⟩ := hr6.stored 6 (.slice A6 (r.2.length + 1) cap6)
          rw [hset] at hrS
          have hF6 : Fr (At gm) w w6 := (hF5.no hfa).call hf6 fun k hk h => by have := (hv0lt k h.symm).1; omega
          have hzA := hf5.size
          refine ⟨j + 1, [.int .u64 0, .int .u64 0, .int .u64 0, .int .u64 0, .int .i64 (-1), .int .i64 (-1), .slice A6 (r.2.length + 1) cap6] ++ (zs ++ ys5), .slice (some ⟨gg, 0, none⟩) q.1.st.length cap5, by have := Hj.out; omega, (by first | rfl | exact wrap_succ (by omega)), ?_, hF6.set (p := ⟨gg, 6, none⟩) (.inl hg1) _, fun _ => ?_⟩
          · rw [Htk.out]
            refine ⟨⟨mo5, hb6.far (p := ⟨gg, 6, none⟩) hgb _, ?_⟩, hrS, hb5.fits, hb5.apart, ?_⟩
            · exact MeO.fr (M := At gg) (MeO.fr (MeO.fr hmo5 hfa id) hf6 (fun h => by have := (hv0lt gm h.symm).1; omega)) ((Fr.refl (At gg) w6).setB 6 _) hgm2
            · have h1 := hb5.lt
              have h2 := (((Fr.refl (fun _ => True) w5).mono fun _ _ h => h).no hfa).size
              have h3 := hf6.size
              have h4 := ((Fr.refl (At gg) w6).setB 6 (.slice A6 (r.2.length + 1) cap6)).size
              omega
          · rw [Htk.out]
            refine ⟨zs ++ ys5, rest ++ nw5, .slice A6 (r.2.length + 1) cap6, rfl, by show q.1.st = _; rw [Hs5.out, Hst.out]; rfl, ?_, ?_, fun k hk => ⟨fun h => (hv6own k hk).1 (by injection h), (hv6own k hk).2⟩⟩
            · have hnot6 : ∀ k, k < w5.heap.size → v0.ownBlock ≠ some k → (Value.slice A6 (r.2.length + 1) cap6).ownBlock ≠ some k := fun k hk hne hc => by
                rcases hat6 with h | h
                · rw [h] at hc; exact hne hc
                · rw [h] at hc; injection hc with hc; omega
              have hkeep : ∀ {ys : List Value} {ds : List D}, Reps w5 (fun k => (bb < k ∧ gg ≠ k) ∧ v0.ownBlock ≠ some k) ys ds → Reps (w6.setCell ⟨gg, 6, none⟩ (.slice A6 (r.2.length + 1) cap6)) (fun k => (bb < k ∧ (Value.slice (some ⟨gg, 0, none⟩) q.1.st.length cap5).ownBlock ≠ some k) ∧ (Value.slice A6 (r.2.length + 1) cap6).ownBlock ≠ some k) ys ds := fun h => by
                have h1 := h.mono (S' := fun k => ((bb < k ∧ gg ≠ k) ∧ v0.ownBlock ≠ some k) ∧ k < w5.heap.size) (fun k hk hl => ⟨hfa.block k hl id, hk, hl⟩)
                have h2 := h1.fr (S' := fun k => ((bb < k ∧ gg ≠ k) ∧ v0.ownBlock ≠ some k) ∧ k < w5.heap.size) hf6 (fun k hk _ => ⟨fun e => hk.1.2 e.symm, hk⟩)
                exact h2.fr (M := At gg) ((Fr.refl (At gg) w6).setB 6 _) (fun k hk _ => ⟨fun e => hk.1.1.2 e.symm, ⟨hk.1.1.1, fun e => hk.1.1.2 (by injection e)⟩, hnot6 k hk.2 hk.1.2⟩)
              rw [encSs_append]
              refine (hkeep ?_).append (hkeep ?_)
              · refine hzr.fr hf5 fun k hk hl => ⟨?_, ⟨hk.1.1, fun e => ?_⟩, hk.2⟩
                · rintro (h1 | h1 | h1)
                  · have := hk.1.1; omega
                  · have := hk.1.1; omega
                  · exact hk.1.2 h1
                · rcases ho5 gg rfl with h1 | h1
                  · exact hk.1.2 (by rw [h1, e])
                  · omega
              · refine hr5.mono fun k hk hl => ⟨rfl, ⟨by have := hb1.lt.1; omega, fun e => hk.2 (by rw [e]; rfl)⟩, fun e => ?_⟩
                have := (hv0lt k e).2
                have := hk.1
                omega
            · show Own _ _ _ _ _ _ (r.2 ++ [q.2]).length (encI (r.2 ++ [q.2]))
              rw [show encI (r.2 ++ [q.2]) = encI r.2 ++ [.v (.int .i64 q.2)] by simp [encI], List.length_append]
              exact hv6.set (p := ⟨gg, 6, none⟩) id (fun h => (hv6own gg h).1 rfl) _
      · rw [if_neg hqe] at Htk
        have hde : (q.1.e == 0) = false := by simpa using hqe
        go_wp2_with (go_at_call 37; refine hadd.mono ?_; rintro e w4 ⟨rfl, ha4⟩; obtain ⟨v4, xs4, hb4, hf4, ho4, hgo⟩ := ha4.opens hb1.lt)
        refine (hnode _ _ _ hb4 hf4).mono ?_
        rintro e w5 ⟨rfl, ha5⟩
        obtain ⟨v5, ys5, nw5, hb5, hs5, hr5, hf5, ho5⟩ := hgo _ _ ha5
        obtain ⟨mo5, hbk5, hmo5⟩ := hb5.blk
        have h5e := hbk5.cell 2
        clear hadd hnode
        go_wp2
        go_roundg g
        case measure => omega
        case rel =>
          refine ⟨j + 1, _, v5, by have := Hj.out; omega, (by first | rfl | exact wrap_succ (by omega)), by rw [Htk.out]; exact hb5, hF1.call hf5 fun k hk h => ?_, fun h => absurd (by rw [Htk.out] at h; exact h) hqe⟩
          rcases h with h | h | h
          · omega
          · exact h
          · have := (hb1.row.lt k h).1; omega
end
section
open Go Go.RowKit

/-- What a build of plain rules comes to, without a meter. -/
def BuiltN (w w' : World) (n : Nat) (r : Bst × List Nat) (e : Ending) : Prop :=
  Fr No w w' ∧
  if r.1.e = 0 then ∃ a, e = .returned (.tuple #[.pointer (some ⟨a, 0, none⟩), .int .i64 0]) ∧ AutoIn w' (fun k => w.heap.size ≤ k) a (r.1.st.set 0 (over r.2)) n
  else e = .returned (.tuple #[.pointer none, .int .i64 r.1.e])
set_option maxRecDepth 100000 in
set_option maxHeartbeats 8000000 in
theorem build_nil (l : List Nd) (A : Option Addr) (cap : Nat) (S : Nat → Prop) (w : World) (hl : NodesIn w S (.slice A l.length cap) l) (hn1 : 1 ≤ l.length) (hn8 : l.length ≤ 8) (hap : allPlain l = true)
    (hS : ∀ k, S k → k < w.heap.size) (hc : ncounts l < 2147483648) :
    Calls Try.prog 11 #[.pointer none, .slice A l.length cap] w fun e w' => BuiltN w w' l.length (rulesB l 0 ((Bst.mk none [] 0).add (over [])).1 []) e := by
  have hcon := contains_n l A cap S w hl (hid fun n v w _ hn => build1_c S n v w hn)
  rw [hap] at hcon
  have hok := okNs_plain l hap
  have hd : decide (l.length < 1) = false := decide_eq_false (by omega)
  have hd' : decide ((l.length : Int) < 1) = false := decide_eq_false (by omega)
  have he : decide (8 < l.length) = false := decide_eq_false (by omega)
  have he' : decide ((8 : Int) < l.length) = false := decide_eq_false (by omega)
  have hov := fun W => over_c [] none 0 W
  -- the builder, new
  have hBd : ∀ W, Fr No w W → Bd (W.alloc (.cells #[(.pointer none), .slice none 0 0, .int .i64 0] 71)) w.heap.size W.heap.size W.heap.size ⟨none, [], 0⟩ [] (.slice none 0 0) := fun W hW =>
    ⟨⟨none, Blk.new _ _ _, rfl⟩, World.ownsRow_nil _ _ _ _, trivial, ⟨fun h => (by cases h), fun h => (by cases h)⟩, by rw [World.size_alloc]; have := hW.size; omega⟩
  have hadd := fun W W' (hW : Fr No w W) (hf : Fr No (W.alloc (.cells #[(.pointer none), .slice none 0 0, .int .i64 0] 71)) W') => add_x W' w.heap.size W.heap.size W.heap.size ⟨none, [], 0⟩ (over []) [] (.slice none 0 0) none 0 ((hBd W hW).no hf) (by simp) (by have := hW.size; have := hf.size; rw [World.size_alloc] at this; omega)
  go_enter Try.func11, Try.ntmps11
  go_wp2_with (first | (go_at_call 34; refine hcon.mono ?_; rintro e w1 ⟨rfl, hf1⟩) |
    (go_at_call 38; refine (hov _).mono ?_; rintro e w2 ⟨rfl, hf2⟩) |
    (go_at_call 37; go_loud (refine (hadd _ _ hf1 hf2).mono ?_); rintro e w3 ⟨rfl, v3, ys3, hb3, hc3, hf3, ho3⟩))
  have hbw : w.heap.size ≤ w1.heap.size := hf1.size
  have hA3 : Fr No w w3 := ((((Fr.refl No w).no hf1).alloc (.cells #[(.pointer none), .slice none 0 0, .int .i64 0] 71)).no hf2).call hf3 fun k hk h => by
    rcases h with h | h | h
    · omega
    · omega
    · cases h
  have hfits3 := hb3.fits
  have h00 : ((Bst.mk none [] 0).add (over [])).2 = 0 := by unfold Bst.add; rfl
  have htold : ((Bst.mk none [] 0).add (over [])).1.e = 0 → Told w w3 w.heap.size w1.heap.size ((Bst.mk none [] 0).add (over [])).1.st [] ([] ++ ys3) v3 := fun h0 => by
    rcases hc3 with ⟨_, _, h⟩ | ⟨h1, h2, _⟩
    · exact absurd h0 h
    · exact ⟨[], [], .slice none 0 0, by rw [h2, stA_over]; rfl, h1, .nil, Own.nil _ _ _ _ _, fun k hk => by cases hk⟩
  rw [h00]
  clear hc3 ho3 hadd hBd hcon hov h00
  have hb3' := hb3
  generalize hst3 : ((Bst.mk none [] 0).add (over [])).1 = a0 at *
  generalize hbb : w1.heap.size = bb at *
  generalize ([] ++ ys3) = xs3 at *
  have hl3 : a0.st.length ≤ 1 := by rw [← hst3]; exact add_len ⟨none, [], 0⟩ (over []) trivial
  have Hst3 := hid hst3
  clear hb3' hst3
  have Hl := hid hl
  have hlw : NodesIn w3 S (.slice A l.length cap) l := Rep.fr hl hA3 fun k hk _ => ⟨id, hk⟩
  clear hl
  go_loopg [31] l.length (fun g i wr => ∃ (j : Nat) (xs1 : List Value) (v1 : Value), j + g = l.length ∧ i = .int .i64 j ∧ Bd wr w.heap.size bb bb (rulesB (l.take j) 0 a0 []).1 xs1 v1 ∧ Fr No w wr ∧
    ((rulesB (l.take j) 0 a0 []).1.e = 0 → Told w wr w.heap.size bb (rulesB (l.take j) 0 a0 []).1.st (rulesB (l.take j) 0 a0 []).2 xs1 v1))
  case atStart => exact ⟨0, xs3, v3, by omega, rfl, hb3, hA3, htold⟩
  case round =>
    obtain ⟨j, xs1, v1, hj, rfl, hb1, hF1, htl⟩ := hrel
    clear hb3 htold hlw hA3
    cases gk with
    | zero =>
      obtain rfl : j = l.length := by omega
      rw [List.take_length] at *
      have hd1 : decide (l.length < l.length) = false := decide_eq_false (by omega)
      have hlen := rulesB_len l 0 a0 [] hfits3
      have hrl := rulesLen_le l
      have hr0 : ∃ r, rulesB l 0 a0 [] = r := ⟨_, rfl⟩
      obtain ⟨r, hr⟩ := hr0
      rw [hr] at hb1 htl hlen
      have Hr := hid hr
      clear hr
      obtain ⟨mo1, hbk1, hmo1⟩ := hb1.blk
      have hrn : r.1.m = none := by rw [← Hr.out, rules_none_iff l 0 a0 [] hfits3, ← Hst3.out, add_none_iff]
      rw [hrn] at hmo1
      obtain rfl : mo1 = none := hmo1
      have h1e := hbk1.cell 2
      have h1v := hbk1.cell 1
      by_cases hre : r.1.e = 0
      · obtain ⟨zs, rest, v0, hxs, hst, hzr, hv0, hv0a⟩ := htl hre
        have hde : (r.1.e == 0) = true := by simpa using hre
        have Hst := hid hst
        have Hxs := hid hxs
        have hrow := hb1.row
        have hvf : ∃ g cap, v1 = .slice (some ⟨g, 0, none⟩) r.1.st.length cap := by
          obtain ⟨g, c, h, _⟩ := hb1.row.form (by rw [hst]; simp)
          exact ⟨g, c, h⟩
        obtain ⟨gg, cap1, rfl⟩ := hvf
        clear hst hxs htl hj
        go_wp2_with fail
        go_ret2
        rw [Hst3.out, Hr.out]
        unfold BuiltN
        rw [if_pos hre]
        have hst := Hst.out
        have hxs := Hxs.out
        have hsl : (r.1.st.set 0 (over r.2)) = over r.2 :: rest := by rw [hst]; rfl
        obtain ⟨A0, cap0, rfl, _, _⟩ := hv0.form
        have hF2 : Fr No wr _ := (Fr.refl No wr).alloc (.cells #[.slice (some ⟨gg, 0, none⟩) r.1.st.length cap1, .int .i64 l.length] 77)
        refine ⟨hF1.alloc _, ⟨wr.heap.size, rfl, ⟨hF1.size, _, Blk.new _ _ _, ?_⟩⟩⟩
        have hrow2 := own_fr hrow hF2 fun _ _ h => h
        rw [hsl]
        have hlr : r.1.st.length = (over r.2 :: rest).length := by rw [hst]; rfl
        have hrow4 : (wr.alloc (.cells #[.slice (some ⟨gg, 0, none⟩) r.1.st.length cap1, .int .i64 l.length] 77)).ownsRow w.heap.size 54 7 (.slice (some ⟨gg, 0, none⟩) r.1.st.length cap1) (over r.2 :: rest).length xs1 := by
          rw [← hlr]; exact hrow2
        refine row_rep hrow4 ?_ fun k hk => (hrow4.lt k hk).1
        rw [hxs]
        show Reps _ _ (_ ++ zs) (encS (over r.2) ++ encSs rest)
        refine Reps.append ?_ (hzr.fr hF2 fun k hk _ => ⟨id, by have := hk.1.1; omega⟩)
        have h2 := hv0.fr hF2 (fun _ _ _ => id)
        have := stA_reps (x := over r.2) (A := A0) (cap := cap0) (own_repI (S' := fun k => w.heap.size ≤ k) h2 fun k hk => (h2.blk_lt k hk).1)
        rw [stA_over] at this
        exact this
      · have hde : (r.1.e == 0) = false := by simpa using hre
        have hrow := hb1.row
        obtain ⟨A1, cap1, rfl⟩ : ∃ A cap, v1 = .slice A r.1.st.length cap := by
          rcases hb1.row.2 with ⟨h, h0⟩ | ⟨g, c, _, h, _⟩
          · exact ⟨none, 0, by rw [h, h0]⟩
          · exact ⟨_, _, h⟩
        have hlr : r.1.st.length < 1099511627776 := by omega
        clear htl hj
        go_wp2_with (go_at_call 40; refine (giveNil_c _ _).mono ?_; rintro e w8 ⟨rfl, hw8⟩; replace hw8 := hw8.symm; subst hw8)
        go_quiet (fail)
        go_wp2
        go_ret2
        rw [Hst3.out, Hr.out]
        unfold BuiltN
        rw [if_neg hre]
        exact ⟨hF1.drewN _, rfl⟩
    | succ g =>
      obtain ⟨n', hn'⟩ : ∃ n', l[j]? = some n' := ⟨_, List.getElem?_eq_getElem (by omega)⟩
      have hlr : NodesIn wr S (.slice A l.length cap) l := Rep.fr Hl.out hF1 fun k hk _ => ⟨id, hk⟩
      obtain ⟨bs, os, A', cap', rfl, hSs, hlts, hrng, hrep'⟩ := NodesIn.at_ hlr hn'
      rw [Nat.mul_comm 8 j] at hrng
      have hS' : ∀ k, S k → k < w.heap.size ∧ k ≠ bb ∧ k ≠ bb := fun k hk => ⟨hS k hk, by have := hS k hk; omega, by have := hS k hk; omega⟩
      have hfar := Mv.far hS' hb1
      have hws : w.heap.size ≤ wr.heap.size := hF1.size
      have hlen := rulesB_len (l.take j) 0 a0 [] hfits3
      have hrl := rulesLen_take hn'
      have hel := rulesB_eps (l.take j) 0 a0 []
      rw [List.length_take, Nat.min_eq_left (by omega), List.length_nil, Nat.zero_add] at hel
      have Htk := hid (rulesB_take hn' a0 [])
      have hokn := okNs_get hn' hok
      have hjL : (j : Int) < (l.length : Int) := by omega
      have hd1 : decide (j < l.length) = true := decide_eq_true (by omega)
      generalize rulesB (l.take j) 0 a0 [] = r at *
      have hal := add_len r.1 ⟨0, -1, (j : Int), []⟩ hb1.fits
      have hadd := add_c wr w.heap.size bb bb r.1 ⟨0, -1, (j : Int), []⟩ xs1 v1 none 0 wr.heap.size hb1 (by omega) hws ⟨hb1.lt.1, hb1.lt.2, Nat.le_refl _⟩ (.nil0 (Nat.zero_le _))
      rw [stA_end] at hadd
      have hnode := fun W xs2 v2 (hb2 : Bd W w.heap.size bb bb (r.1.add ⟨0, -1, (j : Int), []⟩).1 xs2 v2) (hf : Fr (Mv bb bb v1) wr W) =>
        nspec hS' n'.depth wr.heap.size n' (r.1.add ⟨0, -1, (j : Int), []⟩).2 bs (os + j * 8) A' cap' (r.1.add ⟨0, -1, (j : Int), []⟩).1 xs2 v2 W (Nat.le_refl _) hb2 hokn (by omega) (by have := hf.size; omega) hb1.lt.1 hb1.lt.2 hf.size (range_fr hrng hf (hfar bs hSs)) hSs (hrep'.fr hf fun k hk _ => ⟨hfar k hk, hk⟩)
      have hq0 : (nodeB n' (r.1.add ⟨0, -1, (j : Int), []⟩).2 (r.1.add ⟨0, -1, (j : Int), []⟩).1).1.e = 0 → r.1.e = 0 := fun h => by
        have h1 := node_alive h
        by_cases h2 : r.1.e = 0
        · exact h2
        · rw [Bst.add_dead _ _ h2] at h1; exact h1
      have Hj := hid hj
      have Hlr := hid hlr
      clear hlr hrng hrep' hlen hrl hal hn' hj hokn
      unfold stepR at Htk
      generalize r.1.add ⟨0, -1, (j : Int), []⟩ = x1 at *
      generalize nodeB n' x1.2 x1.1 = q at *
      by_cases hqe : q.1.e = 0
      · rw [if_pos hqe] at Htk
        obtain ⟨zs, rest, v0, hxs, hst, hzr, hv0, hv0a⟩ := htl (hq0 hqe)
        have hde : (q.1.e == 0) = true := by simpa using hqe
        go_wp2_with (go_at_call 37; refine hadd.mono ?_; rintro e w4 ⟨rfl, ha4⟩; obtain ⟨v4, xs4, hb4, hf4, ho4, hgo⟩ := ha4.opens hb1.lt)
        refine (hnode _ _ _ hb4 hf4).mono ?_
        rintro e w5 ⟨rfl, ha5⟩
        obtain ⟨v5, ys5, nw5, hb5, hs5, hr5, hf5, ho5⟩ := hgo _ _ ha5
        have hl5 : q.1.st.length = 1 + rest.length + nw5.length := by rw [hs5, hst]; simp only [List.length_append, List.length_cons]; omega
        obtain ⟨gg, cap5, rfl, hg1, hg2⟩ := hb5.row.form (by omega)
        obtain ⟨mo5, hbk5, hmo5⟩ := hb5.blk
        have h5e := hbk5.cell 2
        have h5v := hbk5.cell 1
        have h0n : 0 < q.1.st.length := by omega
        have h0n' : (0 : Int) < (q.1.st.length : Int) := by omega
        have hc6 : w5.cell? ⟨gg, 6, none⟩ = some v0 := by rw [hb5.row.cellAt 6 (by omega), hxs]; rfl
        have Hl5 := hid hl5
        have Hs5 := hid hs5
        have Hst := hid hst
        have Hxs := hid hxs
        clear hl5 hs5 hst hxs
        have hz6 := hb5.row.frozenAt 6
        have hv5 := hv0.fr hf5 (fun k _ hk => by
          rcases hk with hk | hk
          · exact hk.elim
          · have := (hv0.blk_lt k hk).1
            rintro (h1 | h1 | h1)
            · exact (hv0a k hk).2 h1
            · exact (hv0a k hk).2 h1
            · exact (hv0a k hk).1 h1)
        have hv0lt := hv0.blk_lt
        have hta5 : ∀ k, v0.ownBlock = some k → gg ≠ k := fun k hk hc => by
          rcases ho5 gg rfl with h1 | h1
          · exact (hv0a k hk).1 (by rw [h1, hc])
          · have := (hv0lt k hk).2; omega
        have hF5 : Fr No w w5 := hF1.call hf5 fun k hk h => by
          rcases h with h | h | h
          · omega
          · omega
          · have := (hb1.row.lt k h).1; omega
        clear hadd hnode ha5 ha4 hgo hf4 ho4 hb4 hv0 htl hq0 hfar
        go_wp2
        refine wp_region_tail 16 (fun W => W.cell? ⟨bb, 1, none⟩ = some (.slice (some ⟨gg, 0, none⟩) q.1.st.length cap5) ∧ W.cell? ⟨gg, 6, none⟩ = some v0) (by kernel_rfl) (by kernel_rfl) ?_
        simp only [List.take_succ_cons, List.take_zero, List.drop_succ_cons, List.drop_zero]
        have hS5 : (fun W : World => W.cell? ⟨bb, 1, none⟩ = some (.slice (some ⟨gg, 0, none⟩) q.1.st.length cap5) ∧ W.cell? ⟨gg, 6, none⟩ = some v0) w5.drew := ⟨h5v, hc6⟩
        refine Rt.take (i := 0) (v := (.pointer (some ⟨bb, 0, none⟩))) rfl (by kernel_rfl) (fun _ _ _ h => h) (.inl ⟨rfl, fun w hSw => by (try dsimp only at hSw); go_simp⟩) (by assumption) ?_
        try simp only [Act.put, List.getElem_toArray, List.getElem_cons_succ, List.getElem_cons_zero, List.setIfInBounds_toArray, List.set_cons_zero, List.set_cons_succ]
        refine Rt.take (i := 1) (v := (.pointer (some ⟨bb, 0, none⟩))) rfl (by kernel_rfl) (fun _ _ _ h => h) (.inl ⟨rfl, fun w hSw => by (try dsimp only at hSw); go_simp⟩) (by assumption) ?_
        try simp only [Act.put, List.getElem_toArray, List.getElem_cons_succ, List.getElem_cons_zero, List.setIfInBounds_toArray, List.set_cons_zero, List.set_cons_succ]
        refine Rt.take (i := 2) (v := (.pointer (some ⟨bb, 1, none⟩))) rfl (by kernel_rfl) (fun _ _ _ h => h) (.inl ⟨rfl, fun w hSw => by (try dsimp only at hSw); go_simp⟩) (by assumption) ?_
        try simp only [Act.put, List.getElem_toArray, List.getElem_cons_succ, List.getElem_cons_zero, List.setIfInBounds_toArray, List.set_cons_zero, List.set_cons_succ]
        refine Rt.take (i := 3) (v := (.slice (some ⟨gg, 0, none⟩) q.1.st.length cap5)) rfl (by kernel_rfl) (fun _ _ _ h => h) (.inl ⟨rfl, fun w hSw => by (try dsimp only at hSw); go_simp⟩) (by assumption) ?_
        try simp only [Act.put, List.getElem_toArray, List.getElem_cons_succ, List.getElem_cons_zero, List.setIfInBounds_toArray, List.set_cons_zero, List.set_cons_succ]
        refine Rt.take (i := 4) (v := (.int .i64 0)) rfl (by kernel_rfl) (fun _ _ _ h => h) (.inl ⟨rfl, fun w hSw => by (try dsimp only at hSw); go_simp⟩) (by assumption) ?_
        try simp only [Act.put, List.getElem_toArray, List.getElem_cons_succ, List.getElem_cons_zero, List.setIfInBounds_toArray, List.set_cons_zero, List.set_cons_succ]
        refine Rt.take (i := 5) (v := (.pointer (some ⟨bb, 0, none⟩))) rfl (by kernel_rfl) (fun _ _ _ h => h) (.inl ⟨rfl, fun w hSw => by (try dsimp only at hSw); go_simp⟩) (by assumption) ?_
        try simp only [Act.put, List.getElem_toArray, List.getElem_cons_succ, List.getElem_cons_zero, List.setIfInBounds_toArray, List.set_cons_zero, List.set_cons_succ]
        refine Rt.take (i := 6) (v := (.pointer (some ⟨bb, 0, none⟩))) rfl (by kernel_rfl) (fun _ _ _ h => h) (.inl ⟨rfl, fun w hSw => by (try dsimp only at hSw); go_simp⟩) (by assumption) ?_
        try simp only [Act.put, List.getElem_toArray, List.getElem_cons_succ, List.getElem_cons_zero, List.setIfInBounds_toArray, List.set_cons_zero, List.set_cons_succ]
        refine Rt.take (i := 7) (v := (.pointer (some ⟨bb, 1, none⟩))) rfl (by kernel_rfl) (fun _ _ _ h => h) (.inl ⟨rfl, fun w hSw => by (try dsimp only at hSw); go_simp⟩) (by assumption) ?_
        try simp only [Act.put, List.getElem_toArray, List.getElem_cons_succ, List.getElem_cons_zero, List.setIfInBounds_toArray, List.set_cons_zero, List.set_cons_succ]
        refine Rt.take (i := 8) (v := (.slice (some ⟨gg, 0, none⟩) q.1.st.length cap5)) rfl (by kernel_rfl) (fun _ _ _ h => h) (.inl ⟨rfl, fun w hSw => by (try dsimp only at hSw); go_simp⟩) (by assumption) ?_
        try simp only [Act.put, List.getElem_toArray, List.getElem_cons_succ, List.getElem_cons_zero, List.setIfInBounds_toArray, List.set_cons_zero, List.set_cons_succ]
        refine Rt.take (i := 9) (v := (.int .i64 0)) rfl (by kernel_rfl) (fun _ _ _ h => h) (.inl ⟨rfl, fun w hSw => by (try dsimp only at hSw); go_simp⟩) (by assumption) ?_
        try simp only [Act.put, List.getElem_toArray, List.getElem_cons_succ, List.getElem_cons_zero, List.setIfInBounds_toArray, List.set_cons_zero, List.set_cons_succ]
        refine Rt.take (i := 10) (v := (.pointer (some ⟨gg, 0, none⟩))) rfl (by kernel_rfl) (fun _ _ _ h => h) (.inl ⟨rfl, fun w hSw => by (try dsimp only at hSw); go_simp⟩) (by assumption) ?_
        try simp only [Act.put, List.getElem_toArray, List.getElem_cons_succ, List.getElem_cons_zero, List.setIfInBounds_toArray, List.set_cons_zero, List.set_cons_succ]
        refine Rt.take (i := 11) (v := (.pointer (some ⟨gg, 6, none⟩))) rfl (by kernel_rfl) (fun _ _ _ h => h) (.inl ⟨rfl, fun w hSw => by (try dsimp only at hSw); go_simp⟩) (by assumption) ?_
        try simp only [Act.put, List.getElem_toArray, List.getElem_cons_succ, List.getElem_cons_zero, List.setIfInBounds_toArray, List.set_cons_zero, List.set_cons_succ]
        refine Rt.take (i := 12) (v := v0) rfl (by kernel_rfl) (fun _ _ _ h => h) (.inl ⟨rfl, fun w hSw => by (try dsimp only at hSw); go_simp⟩) (by assumption) ?_
        try simp only [Act.put, List.getElem_toArray, List.getElem_cons_succ, List.getElem_cons_zero, List.setIfInBounds_toArray, List.set_cons_zero, List.set_cons_succ]
        refine Rt.take (i := 13) (v := (.int .i64 q.2)) rfl (by kernel_rfl) (fun _ _ _ h => h) (.inl ⟨rfl, fun w hSw => by (try dsimp only at hSw); go_simp⟩) (by assumption) ?_
        try simp only [Act.put, List.getElem_toArray, List.getElem_cons_succ, List.getElem_cons_zero, List.setIfInBounds_toArray, List.set_cons_zero, List.set_cons_succ]
        refine Rt.one (i := 14) rfl (by kernel_rfl) (fun K hK => ?_)
        rw [if_pos (by kernel_rfl)]
        refine wp_oneInt 62 rfl rfl ?_
        have hfa : Fr No w5 _ := (Fr.refl No w5).drew.alloc (.cells #[.int .i64 (q.2 : Int)] 3)
        have hbA := hfa.blk hbk5 id
        have hrA := own_fr hb5.row hfa fun _ _ h => h
        have hvA := hv5.fr hfa fun _ _ _ => id
        refine hK.out _ _ ⟨hbA.cell 1, hfa.cell (p := ⟨gg, 6, none⟩) id hc6⟩ (Rt.one (i := 15) rfl (by kernel_rfl) (fun K2 hK2 => ?_))
        clear hK K hS5
        rw [if_pos (by kernel_rfl)]
        have hszA : (w5.drew.alloc (.cells #[.int .i64 (q.2 : Int)] 3)).heap.size = w5.heap.size + 1 := World.size_alloc _ _
        have hw5 := hF5.size
        refine wp_append_D (es := [.v (.int .i64 q.2)]) (m := 1) (.tmp 61) (.tmp 63) 42 rfl _ 8 Try.underlying42 infoInt3 rfl (by decide) rfl hvA rfl (news := [.int .i64 q.2]) rfl (Blk.new w5.drew 3 #[.int .i64 (q.2 : Int)]).news (.cons (.v rfl) .nil) (by omega) (by omega) (by omega) ?_
        intro v6 w6 hv6 hg6 hat6
        have hf6 := Fr.ofGrown hg6
        rw [hszA] at hat6
        have hb6 := hf6.blk hbA (fun h => (hv0a _ h.symm).2 rfl)
        have hc66 := hf6.cell (p := ⟨gg, 6, none⟩) (fun h => hta5 _ h.symm rfl) (hfa.cell (p := ⟨gg, 6, none⟩) id hc6)
        refine hK2.out _ _ ⟨hb6.cell 1, hc66⟩ (Rt.done (by kernel_rfl) ?_)
        clear hK2 K2
        have hr6 := own_fr hrA hf6 fun k hk h => hta5 k h.symm (by injection hk)
        have hz66 := hr6.frozenAt 6
        clear h5e h5v hc6 hz6 hbk5
        obtain ⟨A6, cap6, rfl, _, _⟩ := hv6.form
        go_wp2
        go_roundg g
        case measure => omega
        case rel =>
          have hv6own : ∀ k, (Value.slice A6 (r.2.length + 1) cap6).ownBlock = some k → gg ≠ k ∧ k ≠ bb := fun k hk => by
            rcases hat6 with h | h
            · rw [h] at hk; exact ⟨hta5 k hk, (hv0a k hk).2⟩
            · rw [h] at hk; injection hk with hk
              have := hb5.lt.1
              exact ⟨by omega, by omega⟩
          have hgb : bb ≠ gg := fun e => hb5.apart.1 (by rw [e]; rfl)
          have hset : (xs1 ++ ys5).set 6 (.slice A6 (r.2.length + 1) cap6) = [.int .u64 0, .int .u64 0, .int .u64 0, .int .u64 0, .int .i64 (-1), .int .i64 (-1), .slice A6 (r.2.length + 1) cap6] ++ (zs ++ ys5) := by
            rw [Hxs.out]; rfl
          obtain ⟨hrS, _⟩ := hr6.stored 6 (.slice A6 (r.2.length + 1) cap6)
          rw [hset] at hrS
          have hF6 : Fr No w w6 := (hF5.no hfa).call hf6 fun k hk h => by have := (hv0lt k h.symm).1; omega
          have hzA := hf5.size
          refine ⟨j + 1, [.int .u64 0, .int .u64 0, .int .u64 0, .int .u64 0, .int .i64 (-1), .int .i64 (-1), .slice A6 (r.2.length + 1) cap6] ++ (zs ++ ys5), .slice (some ⟨gg, 0, none⟩) q.1.st.length cap5, by have := Hj.out; omega, (by first | rfl | exact wrap_succ (by omega)), ?_, hF6.set (p := ⟨gg, 6, none⟩) (.inl hg1) _, fun _ => ?_⟩
          · rw [Htk.out]
            refine ⟨⟨mo5, hb6.far (p := ⟨gg, 6, none⟩) hgb _, ?_⟩, hrS, hb5.fits, hb5.apart, ?_⟩
            · exact MeO.fr (M := At gg) (MeO.fr (MeO.fr hmo5 hfa id) hf6 (fun h => (hv0a _ h.symm).2 rfl)) ((Fr.refl (At gg) w6).setB 6 _) hgb
            · have h1 := hb5.lt
              have h2 := (((Fr.refl (fun _ => True) w5).mono fun _ _ h => h).no hfa).size
              have h3 := hf6.size
              have h4 := ((Fr.refl (At gg) w6).setB 6 (.slice A6 (r.2.length + 1) cap6)).size
              omega
          · rw [Htk.out]
            refine ⟨zs ++ ys5, rest ++ nw5, .slice A6 (r.2.length + 1) cap6, rfl, by show q.1.st = _; rw [Hs5.out, Hst.out]; rfl, ?_, ?_, fun k hk => ⟨fun h => (hv6own k hk).1 (by injection h), (hv6own k hk).2⟩⟩
            · have hnot6 : ∀ k, k < w5.heap.size → v0.ownBlock ≠ some k → (Value.slice A6 (r.2.length + 1) cap6).ownBlock ≠ some k := fun k hk hne hc => by
                rcases hat6 with h | h
                · rw [h] at hc; exact hne hc
                · rw [h] at hc; injection hc with hc; omega
              have hkeep : ∀ {ys : List Value} {ds : List D}, Reps w5 (fun k => (bb < k ∧ gg ≠ k) ∧ v0.ownBlock ≠ some k) ys ds → Reps (w6.setCell ⟨gg, 6, none⟩ (.slice A6 (r.2.length + 1) cap6)) (fun k => (bb < k ∧ (Value.slice (some ⟨gg, 0, none⟩) q.1.st.length cap5).ownBlock ≠ some k) ∧ (Value.slice A6 (r.2.length + 1) cap6).ownBlock ≠ some k) ys ds := fun h => by
                have h1 := h.mono (S' := fun k => ((bb < k ∧ gg ≠ k) ∧ v0.ownBlock ≠ some k) ∧ k < w5.heap.size) (fun k hk hl => ⟨hfa.block k hl id, hk, hl⟩)
                have h2 := h1.fr (S' := fun k => ((bb < k ∧ gg ≠ k) ∧ v0.ownBlock ≠ some k) ∧ k < w5.heap.size) hf6 (fun k hk _ => ⟨fun e => hk.1.2 e.symm, hk⟩)
                exact h2.fr (M := At gg) ((Fr.refl (At gg) w6).setB 6 _) (fun k hk _ => ⟨fun e => hk.1.1.2 e.symm, ⟨hk.1.1.1, fun e => hk.1.1.2 (by injection e)⟩, hnot6 k hk.2 hk.1.2⟩)
              rw [encSs_append]
              refine (hkeep ?_).append (hkeep ?_)
              · refine hzr.fr hf5 fun k hk hl => ⟨?_, ⟨hk.1.1, fun e => ?_⟩, hk.2⟩
                · rintro (h1 | h1 | h1)
                  · have := hk.1.1; omega
                  · have := hk.1.1; omega
                  · exact hk.1.2 h1
                · rcases ho5 gg rfl with h1 | h1
                  · exact hk.1.2 (by rw [h1, e])
                  · omega
              · refine hr5.mono fun k hk hl => ⟨rfl, ⟨by have := hb1.lt.1; omega, fun e => hk.2 (by rw [e]; rfl)⟩, fun e => ?_⟩
                have := (hv0lt k e).2
                have := hk.1
                omega
            · show Own _ _ _ _ _ _ (r.2 ++ [q.2]).length (encI (r.2 ++ [q.2]))
              rw [show encI (r.2 ++ [q.2]) = encI r.2 ++ [.v (.int .i64 q.2)] by simp [encI], List.length_append]
              exact hv6.set (p := ⟨gg, 6, none⟩) id (fun h => (hv6own gg h).1 rfl) _
      · rw [if_neg hqe] at Htk
        have hde : (q.1.e == 0) = false := by simpa using hqe
        go_wp2_with (go_at_call 37; refine hadd.mono ?_; rintro e w4 ⟨rfl, ha4⟩; obtain ⟨v4, xs4, hb4, hf4, ho4, hgo⟩ := ha4.opens hb1.lt)
        refine (hnode _ _ _ hb4 hf4).mono ?_
        rintro e w5 ⟨rfl, ha5⟩
        obtain ⟨v5, ys5, nw5, hb5, hs5, hr5, hf5, ho5⟩ := hgo _ _ ha5
        obtain ⟨mo5, hbk5, hmo5⟩ := hb5.blk
        have h5e := hbk5.cell 2
        clear hadd hnode
        go_wp2
        go_roundg g
        case measure => omega
        case rel =>
          refine ⟨j + 1, _, v5, by have := Hj.out; omega, (by first | rfl | exact wrap_succ (by omega)), by rw [Htk.out]; exact hb5, hF1.call hf5 fun k hk h => ?_, fun h => absurd (by rw [Htk.out] at h; exact h) hqe⟩
          rcases h with h | h | h
          · omega
          · omega
          · have := (hb1.row.lt k h).1; omega
end
section
open Go Go.RowKit

section
variable (l : List Nd) (A : Option Addr) (cap : Nat) (S : Nat → Prop) (w : World)
theorem build_free (hl : NodesIn w S (.slice A l.length cap) l) (hn1 : 1 ≤ l.length) (hn8 : l.length ≤ 8) (hap : allPlain l = true) (hS : ∀ k, S k → k < w.heap.size) (hc : ncounts l < 2147483648) :
    Calls Try.prog 11 #[.pointer none, .slice A l.length cap] w fun e w' => (∃ a, e = .returned (.tuple #[.pointer (some ⟨a, 0, none⟩), .int .i64 0]) ∧ AutoIn w' (fun k => w.heap.size ≤ k) a (nfaAll l) l.length) ∧ Fr No w w' := by
  refine (build_nil l A cap S w hl hn1 hn8 hap hS hc).mono ?_
  rintro e w' ⟨hf, h⟩
  have hadd : ((Bst.mk none [] 0).add (over [])).1 = ⟨none, [over []], 0⟩ := by unfold Bst.add; rfl
  rw [hadd] at h
  rcases rulesB_run l 0 ⟨none, [over []], 0⟩ [] rfl trivial with ⟨m', hr, ha⟩ | ⟨m, m', k, h1, _⟩
  · rw [hr] at h
    rw [if_pos rfl] at h
    simp only [List.nil_append] at h
    exact ⟨h, hf⟩
  · cases h1
theorem build_meter (g : Nat) (m : Mtr) (hm : Me w g m) (hfit : m.fits) (hl : NodesIn w S (.slice A l.length cap) l) (hn1 : 1 ≤ l.length) (hn8 : l.length ≤ 8) (hap : allPlain l = true) (hS : ∀ k, S k → k < w.heap.size ∧ k ≠ g) (hc : ncounts l < 2147483648) :
    Calls Try.prog 11 #[.pointer (some ⟨g, 0, none⟩), .slice A l.length cap] w fun e w' => ∃ m', Me w' g m' ∧ Fr (At g) w w' ∧ m'.fits ∧ m'.cells = m.cells ∧ m'.steps = m.steps ∧
      (((∃ a, e = .returned (.tuple #[.pointer (some ⟨a, 0, none⟩), .int .i64 0]) ∧ AutoIn w' (fun k => w.heap.size ≤ k) a (nfaAll l) l.length) ∧ m'.used = m.used + (nfaAll l).length ∧ m'.done = m.done + (nfaAll l).length) ∨
       ∃ (k : Nat) (er : Int), e = .returned (.tuple #[.pointer none, .int .i64 er]) ∧ k < (nfaAll l).length ∧ m'.used = m.used ∧ m'.done = m.done + k ∧ (m.used + k = m.cells ∧ er = 3 ∨ m.used + k < m.cells ∧ m.done + k = m.steps ∧ er = 4)) := by
  refine (build_main (some ⟨g, 0, none⟩) g (some m) l A cap S w hl hn1 hn8 hap ⟨rfl, hm⟩ hfit hm.lt hS hc).mono ?_
  rintro e w' ⟨hf, h⟩
  have hlen := nfaAll_len l
  have key : ∀ (r : Bst × List Nat), Full ⟨some m, [], 0⟩ r.1 (nfaRulesLen l + 1) → (if r.1.e = 0 then (∃ a, e = .returned (.tuple #[.pointer (some ⟨a, 0, none⟩), .int .i64 0]) ∧ AutoIn w' (fun k => w.heap.size ≤ k) a (r.1.st.set 0 (over r.2)) l.length) ∧ MeO w' g (some ⟨g, 0, none⟩) r.1.m
      else e = .returned (.tuple #[.pointer none, .int .i64 r.1.e]) ∧ MeO w' g (some ⟨g, 0, none⟩) (giveO r.1.m r.1.st.length)) →
      ∃ m', Me w' g m' ∧ m'.fits ∧ m'.cells = m.cells ∧ m'.steps = m.steps ∧ ∃ (k : Nat) (er : Int), e = .returned (.tuple #[.pointer none, .int .i64 er]) ∧ k < (nfaAll l).length ∧ m'.used = m.used ∧ m'.done = m.done + k ∧ (m.used + k = m.cells ∧ er = 3 ∨ m.used + k < m.cells ∧ m.done + k = m.steps ∧ er = 4) := by
    intro r hF h
    rw [if_neg hF.dead] at h
    obtain ⟨m0, m', k, h1, h2, h3, h4, h5, h6, h7, h8, h9, h10⟩ := hF
    simp only [] at h1
    injection h1 with h1
    subst h1
    rw [h2] at h
    obtain ⟨he, hmo⟩ := h
    simp only [List.length_nil, Nat.zero_add] at h4
    rw [h4] at hmo
    have hg : m'.give k = (true, { m' with used := m'.used - k }) := by
      have h9' := h9
      obtain ⟨t1, t2, t3, t4, t5, t6⟩ := h9'
      unfold Mtr.give
      rw [if_neg (by obtain ⟨s1, _⟩ := hfit; omega)]
    obtain ⟨_, hme⟩ : some (⟨g, 0, none⟩ : Addr) = some ⟨g, 0, none⟩ ∧ Me w' g (m'.give k).2 := hmo
    rw [hg] at hme
    obtain ⟨t1, t2, t3, t4, t5, t6⟩ := h9
    obtain ⟨s1, s2, _⟩ := hfit
    refine ⟨_, hme, ⟨by simp only []; omega, by simp only []; omega, t3, t4, t5, t6⟩, h7, h8, k, r.1.e, he, by omega, by simp only []; omega, h6, ?_⟩
    rcases h10 with ⟨a1, a2⟩ | ⟨a1, a2, a3⟩
    · exact .inl ⟨by omega, a2⟩
    · exact .inr ⟨by omega, by omega, a3⟩
  rcases Bst.add_run ⟨some m, [], 0⟩ (over []) rfl hfit with ⟨m1, hadd, ha1⟩ | hF
  · rw [hadd] at h
    rcases rulesB_run l 0 ⟨m1, [] ++ [over []], 0⟩ [] rfl ha1.fits with ⟨m2, hr, ha⟩ | hF2
    · rw [hr] at h
      rw [if_pos rfl] at h
      simp only [List.nil_append] at h
      obtain ⟨h1, h2⟩ := h
      have ha2 := ha1.trans ha
      cases m2 with
      | none => exact ha2.elim
      | some m2 =>
        obtain ⟨b1, b2, b3, b4, b5, b6⟩ := ha2
        exact ⟨m2, h2.2, hf, b6, b3, b4, .inl ⟨h1, by omega, by omega⟩⟩
    · have hF3 := Adv.full (b := ⟨some m, [], 0⟩) (b1 := ⟨m1, [] ++ [over []], 0⟩) ha1 rfl hF2
      obtain ⟨m', h1, h2, h3, h4, k, er, h5⟩ := key (rulesB l 0 ⟨m1, [] ++ [over []], 0⟩ []) (hF3.lt (by omega)) h
      exact ⟨m', h1, hf, h2, h3, h4, .inr ⟨k, er, h5⟩⟩
  · have hd := rulesB_dead l 0 ((Bst.mk (some m) [] 0).add (over [])).1 [] hF.dead
    rw [hd] at h
    obtain ⟨m', h1, h2, h3, h4, k, er, h5⟩ := key (((Bst.mk (some m) [] 0).add (over [])).1, []) (hF.lt (by omega)) h
    exact ⟨m', h1, hf, h2, h3, h4, .inr ⟨k, er, h5⟩⟩
end
end
end Go.Proofs.Ytldmdlkjpdfonaa
