/- The walks of the expression reader: item. -/
import Derived.Test.YtldmdlkjpdfonaaRxW10
namespace Go.Proofs.Ytldmdlkjpdfonaa
set_option linter.unusedVariables false
set_option linter.unusedSimpArgs false
open Go Go.RowKit
/-- The state of 'item' behind its atom: the atom in one block, the Rep of it in another. -/
structure ItS (w W : World) (b B3 : Nat) (s : ByteArray) (j op : Nat) (a : Nd) (A : Option Addr) (cap : Nat) (mn mx : Int) : Prop where
  rd : Rd W b s j op
  hb2 : Blk W w.heap.size 37 #[.int .i64 0, .int .u64 0, .int .u64 0, .int .u64 0, .int .u64 0, .int .i64 0, .int .i64 0, .slice none 0 0]
  hb3 : Blk W B3 37 (nodeA a A cap)
  hb4 : Blk W (B3 + 2) 37 (nodeA (.mk 5 0 mn mx [a]) (some ⟨B3 + 1, 0, none⟩) 1)
  repA : Rep W (fun k => w.heap.size < k ∧ k ≠ B3 + 2) (.slice A a.subs.length cap) (.sl 37 a.subs.length (encNs a.subs))
  repN : Rep W (fun k => w.heap.size < k ∧ k ≠ B3 + 2) (.slice (some ⟨B3 + 1, 0, none⟩) 1 1) (.sl 37 1 (encNs [a]))
  fr : Fr (At b) w W
  lt : w.heap.size < B3
  lb : b < w.heap.size
section
variable {w W W' : World} {b B3 : Nat} {s : ByteArray} {j j' op : Nat} {a : Nd} {A : Option Addr} {cap : Nat} {mn mx : Int}
theorem ItS.step (h : ItS w W b B3 s j op a A cap mn mx) (hf : Fr (At b) W W') (hr : Rd W' b s j' op) : ItS w W' b B3 s j' op a A cap mn mx := by
  have hl := h.lb
  have hl2 := h.lt
  exact ⟨hr, hf.blk h.hb2 (by show ¬ w.heap.size = b; omega), hf.blk h.hb3 (by show ¬ B3 = b; omega), hf.blk h.hb4 (by show ¬ B3 + 2 = b; omega),
    h.repA.fr hf (fun k hk _ => ⟨by show ¬ k = b; omega, hk⟩), h.repN.fr hf (fun k hk _ => ⟨by show ¬ k = b; omega, hk⟩), Fr.trans h.fr hf, hl2, hl⟩
theorem ItS.min (h : ItS w W b B3 s j op a A cap mn mx) (m : Int) : ItS w (W.setCell ⟨B3 + 2, 5, none⟩ (.int .i64 m)) b B3 s j op a A cap m mx := by
  have hl := h.lb
  have hl2 := h.lt
  exact ⟨h.rd.far (p := ⟨B3 + 2, 5, none⟩) (by simp only []; omega) _, h.hb2.far (p := ⟨B3 + 2, 5, none⟩) (by simp only []; omega) _, h.hb3.far (p := ⟨B3 + 2, 5, none⟩) (by simp only []; omega) _, h.hb4.set_ 5 _,
    h.repA.set (p := ⟨B3 + 2, 5, none⟩) (fun k hk => hk.2) _, h.repN.set (p := ⟨B3 + 2, 5, none⟩) (fun k hk => hk.2) _, h.fr.setNew (p := ⟨B3 + 2, 5, none⟩) (by simp only []; omega) _, hl2, hl⟩
theorem ItS.max (h : ItS w W b B3 s j op a A cap mn mx) (m : Int) : ItS w (W.setCell ⟨B3 + 2, 6, none⟩ (.int .i64 m)) b B3 s j op a A cap mn m := by
  have hl := h.lb
  have hl2 := h.lt
  exact ⟨h.rd.far (p := ⟨B3 + 2, 6, none⟩) (by simp only []; omega) _, h.hb2.far (p := ⟨B3 + 2, 6, none⟩) (by simp only []; omega) _, h.hb3.far (p := ⟨B3 + 2, 6, none⟩) (by simp only []; omega) _, h.hb4.set_ 6 _,
    h.repA.set (p := ⟨B3 + 2, 6, none⟩) (fun k hk => hk.2) _, h.repN.set (p := ⟨B3 + 2, 6, none⟩) (fun k hk => hk.2) _, h.fr.setNew (p := ⟨B3 + 2, 6, none⟩) (by simp only []; omega) _, hl2, hl⟩
theorem ItS.finN (h : ItS w W b B3 s j op a A cap mn mx) (hj : j ≤ s.size) {C : Array Value} (hC : C = nodeA (.mk 5 0 mn mx [a]) (some ⟨B3 + 1, 0, none⟩) 1) (hf : Fr (At w.heap.size) W W') : Out (NewN w) w b s op (.ok (.mk 5 0 mn mx [a]) j) (.returned (.agg C)) W' := by
  have hl := h.lb
  have hl2 := h.lt
  exact ⟨⟨_, rfl, some ⟨B3 + 1, 0, none⟩, 1, by rw [hC], h.repN.fr hf (fun k hk _ => ⟨by show ¬ k = w.heap.size; omega, by omega⟩)⟩, h.rd.fr hf (by show ¬ b = w.heap.size; omega), hj, h.fr.callAt hf (Nat.le_refl _)⟩
theorem ItS.finA (h : ItS w W b B3 s j op a A cap mn mx) (hj : j ≤ s.size) (hf : Fr (At w.heap.size) W W') : Out (NewN w) w b s op (.ok a j) (.returned (.agg (nodeA a A cap))) W' := by
  have hl := h.lb
  have hl2 := h.lt
  exact ⟨⟨_, rfl, A, cap, rfl, h.repA.fr hf (fun k hk _ => ⟨by show ¬ k = w.heap.size; omega, by omega⟩)⟩, h.rd.fr hf (by show ¬ b = w.heap.size; omega), hj, h.fr.callAt hf (Nat.le_refl _)⟩
end
section
variable (b : Nat) (s : ByteArray) (i op : Nat) (w : World)
theorem item_bad {k : Nat} (hr : Rd w b s i op)
    (Hat : Hid (∀ W, Rd W b s i op → Calls Try.prog 71 #[.pointer (some ⟨b, 0, none⟩)] W (Out (NewN W) W b s op (.bad k)))) :
    Calls Try.prog 69 #[.pointer (some ⟨b, 0, none⟩)] w (Out (NewN w) w b s op (.bad k)) := by
  have hbw := hr.lt; have hr0 := hr.alloc (.cells #[.int .i64 0, .int .u64 0, .int .u64 0, .int .u64 0, .int .u64 0, .int .i64 0, .int .i64 0, .slice none 0 0] 37); have hB0 := Blk.new w 37 #[.int .i64 0, .int .u64 0, .int .u64 0, .int .u64 0, .int .u64 0, .int .i64 0, .int .i64 0, .slice none 0 0]; have hF0 : Fr (At b) w _ := (Fr.refl (At b) w).alloc (.cells #[.int .i64 0, .int .u64 0, .int .u64 0, .int .u64 0, .int .u64 0, .int .i64 0, .int .i64 0, .slice none 0 0] 37); obtain ⟨h0, h1, h2, f1, f2⟩ := hr0.cells
  go_enter Try.func69, Try.ntmps69
  go_wp2_with (go_at_call 71; refine (Hat.out _ (by repeat (first | assumption | apply Rd.drewN | apply Rd.drew | apply Rd.alloc | (apply Rd.setAt (hx := by omega)) | (apply Rd.setOp (hx := by omega)) | (apply Rd.far (hp := by simp only []; omega))))).mono ?_; rintro e w1 ⟨rfl, hf1⟩)
  exact ⟨rfl, rfl, Fr.trans hF0 hf1⟩
set_option maxRecDepth 100000 in
set_option maxHeartbeats 4000000 in
theorem item_ok {a : Nd} {j : Nat} {r : R Nd} (hs : s.size < 1099511627776) (hr : Rd w b s i op) (hj : j ≤ s.size)
    (hr' : (if nx s j = 42 then R.ok (Nd.mk 5 0 0 (-1) [a]) (j + 1)
      else if nx s j = 43 then .ok (.mk 5 0 1 (-1) [a]) (j + 1)
      else if nx s j = 63 then .ok (.mk 5 0 0 1 [a]) (j + 1)
      else if nx s j = 123 then (Rx.bounds s (j + 1)).bind fun b k => .ok (.mk 5 0 b.1 b.2 [a]) k
      else .ok a j) = r)
    (Hat : Hid (∀ W, Rd W b s i op → Calls Try.prog 71 #[.pointer (some ⟨b, 0, none⟩)] W (Out (NewN W) W b s op (.ok a j)))) :
    Calls Try.prog 69 #[.pointer (some ⟨b, 0, none⟩)] w (Out (NewN w) w b s op r) := by
  have HR := hid hr'
  clear hr'
  have hbw := hr.lt; have hr0 := hr.alloc (.cells #[.int .i64 0, .int .u64 0, .int .u64 0, .int .u64 0, .int .u64 0, .int .i64 0, .int .i64 0, .slice none 0 0] 37); have hB0 := Blk.new w 37 #[.int .i64 0, .int .u64 0, .int .u64 0, .int .u64 0, .int .u64 0, .int .i64 0, .int .i64 0, .slice none 0 0]; have hF0 : Fr (At b) w _ := (Fr.refl (At b) w).alloc (.cells #[.int .i64 0, .int .u64 0, .int .u64 0, .int .u64 0, .int .u64 0, .int .i64 0, .int .i64 0, .slice none 0 0] 37); obtain ⟨h0, h1, h2, f1, f2⟩ := hr0.cells
  clear h0 h1 h2 f1 f2
  go_enter Try.func69, Try.ntmps69
  go_wp2_with (first | (go_at_call 71; refine (Hat.out _ (by repeat (first | assumption | apply Rd.drewN | apply Rd.drew | apply Rd.alloc | (apply Rd.setAt (hx := by omega)) | (apply Rd.setOp (hx := by omega)) | (apply Rd.far (hp := by simp only []; omega))))).mono ?_; rintro e w1 ⟨⟨v, rfl, A, cap, rfl, hrep⟩, hr1, hj1, hf1⟩) |
    ((with_reducible refine at_store _ ?_); refine wpList_store_blk (cs := nodeA a A cap) rfl rfl rfl rfl (Blk.new w1 _ _) rfl infoNode (nodeA_one _ _ _) ?_; intro W2 hW2 hfW2 hsz2) |
    ((with_reducible refine at_load _ ?_); refine wpList_load_blk (cs := nodeA a A cap) rfl rfl rfl hW2 Try.underlying37 rfl infoNode ?_; unfold nodeA))
  have hl1 : w.heap.size < w1.heap.size := by have := hf1.size; simp at this; omega
  have hS : ItS w ((W2.alloc (.cells (nodeA a A cap) 37)).alloc (.cells (nodeA (.mk 5 0 0 (-1) [a]) (some ⟨w1.heap.size + 1, 0, none⟩) 1) 37)) b w1.heap.size s j op a A cap 0 (-1) := by
    have hbb : ¬ At w1.heap.size b := by show ¬ b = w1.heap.size; omega
    have hr2 : Rd W2 b s j op := (hr1.alloc _).fr hfW2 hbb
    have hb2 : Blk W2 w.heap.size 37 #[.int .i64 0, .int .u64 0, .int .u64 0, .int .u64 0, .int .u64 0, .int .i64 0, .int .i64 0, .slice none 0 0] := hfW2.blk ((hf1.blk hB0 (by show ¬ w.heap.size = b; omega)).alloc _) (by show ¬ w.heap.size = w1.heap.size; omega)
    have hrep2 : Rep W2 (fun k => w.heap.size < k ∧ k < w1.heap.size) (.slice A a.subs.length cap) (.sl 37 a.subs.length (encNs a.subs)) :=
      ((hrep.sub (S' := fun k => w.heap.size < k ∧ k < w1.heap.size) (fun k hk hl => by have h1 := (hk : (w.alloc (.cells #[.int .i64 0, .int .u64 0, .int .u64 0, .int .u64 0, .int .u64 0, .int .i64 0, .int .i64 0, .slice none 0 0] 37)).heap.size ≤ k); rw [World.size_alloc] at h1; exact ⟨by omega, hl⟩)).alloc _).fr hfW2 (fun k hk _ => ⟨by show ¬ k = w1.heap.size; omega, hk⟩)
    have hsz2' : W2.heap.size = w1.heap.size + 1 := by rw [hsz2, World.size_alloc]
    have hbs : Blk (W2.alloc (.cells (nodeA a A cap) 37)) (w1.heap.size + 1) 37 (nodeA a A cap) := by rw [← hsz2']; exact Blk.new _ _ _
    have hrepA := (hrep2.sub (S' := fun k => w.heap.size < k ∧ k ≠ w1.heap.size + 2) (fun k hk _ => by omega)).alloc (.cells (nodeA a A cap) 37)
    have hrepN : Rep (W2.alloc (.cells (nodeA a A cap) 37)) (fun k => w.heap.size < k ∧ k ≠ w1.heap.size + 2) (.slice (some ⟨w1.heap.size + 1, 0, none⟩) 1 1) (.sl 37 1 (encNs [a])) :=
      .row (Nat.le_refl _) (by decide) (by omega) hbs (by rw [encNs_one, encN_len]) (by rw [encNs_one]; exact NodeIn.cells hrepA)
    have hnew : Blk ((W2.alloc (.cells (nodeA a A cap) 37)).alloc (.cells (nodeA (.mk 5 0 0 (-1) [a]) (some ⟨w1.heap.size + 1, 0, none⟩) 1) 37)) (w1.heap.size + 2) 37 (nodeA (.mk 5 0 0 (-1) [a]) (some ⟨w1.heap.size + 1, 0, none⟩) 1) := by
      have := Blk.new (W2.alloc (.cells (nodeA a A cap) 37)) 37 (nodeA (.mk 5 0 0 (-1) [a]) (some ⟨w1.heap.size + 1, 0, none⟩) 1)
      rw [World.size_alloc, hsz2'] at this
      exact this
    exact ⟨(hr2.alloc _).alloc _, (hb2.alloc _).alloc _, (hW2.alloc _).alloc _, hnew, hrepA.alloc _, hrepN.alloc _, ((Fr.callAt ((Fr.trans hF0 hf1).alloc _) hfW2 (by omega)).alloc _).alloc _, hl1, hbw⟩
  have hS' := hS
  rw [nodeA_lit] at hS'
  refine calls_world (fun W => ItS w W b w1.heap.size s j op a A cap 0 (-1)) hS' ?_
  clear hS'
  clear hS hr1 hf1 hrep hW2 hfW2 hsz2 hB0 hF0 hr0 hr Hat
  intro W3 hS
  by_cases hx : nx s j = 42
  · have hr := HR.out
    rw [if_pos hx] at hr
    subst hr
    refine (skip_t _ s j op _ 42 hs hS.rd (by omega) hx).mono ?_
    rintro e w5 ⟨rfl, hr5, hlt5, hf5⟩
    have hS5 := hS.step hf5 hr5
    go_wp2_with (first | ((with_reducible refine at_load _ ?_); refine wpList_load_blk (cs := nodeA (.mk 5 0 0 (-1) [a]) (some ⟨w1.heap.size + 1, 0, none⟩) 1) rfl rfl rfl hS5.hb4 Try.underlying37 rfl infoNode ?_) | ((with_reducible refine at_store _ ?_); refine wpList_store_blk (cs := nodeA (.mk 5 0 0 (-1) [a]) (some ⟨w1.heap.size + 1, 0, none⟩) 1) rfl rfl rfl rfl hS5.hb2 rfl infoNode (nodeA_one _ _ _) ?_; intro W7 hW7 hfW7 _))
    refine bodyPost_blk rfl rfl hW7 Try.underlying37 rfl infoNode rfl ?_
    exact hS5.finN hlt5 rfl hfW7
  · have hr := HR.out
    rw [if_neg hx] at hr
    refine (skip_f _ s j op _ 42 hS.rd (by omega) hx).mono ?_
    rintro e w5 ⟨rfl, hr5, hf5⟩
    have hS5 := hS.step (hf5.mono fun _ _ h => h.elim) hr5
    clear hS hx HR hr5 hf5
    have HR := hid hr
    clear hr
    go_wp2_with fail
    by_cases hx : nx s j = 43
    · have hr := HR.out
      rw [if_pos hx] at hr
      subst hr
      refine (skip_t _ s j op _ 43 hs hS5.rd (by omega) hx).mono ?_
      rintro e w6 ⟨rfl, hr6, hlt6, hf6⟩
      have hS6 := hS5.step hf6 hr6
      have hc6 := hS6.hb4.cell 5
      have hz6 := hS6.hb4.frozen 5
      have hS7 := hS6.min 1
      go_wp2_with (first | ((with_reducible refine at_load _ ?_); refine wpList_load_blk (cs := nodeA (.mk 5 0 1 (-1) [a]) (some ⟨w1.heap.size + 1, 0, none⟩) 1) rfl rfl rfl hS7.hb4 Try.underlying37 rfl infoNode ?_) | ((with_reducible refine at_store _ ?_); refine wpList_store_blk (cs := nodeA (.mk 5 0 1 (-1) [a]) (some ⟨w1.heap.size + 1, 0, none⟩) 1) rfl rfl rfl rfl hS7.hb2 rfl infoNode (nodeA_one _ _ _) ?_; intro W7 hW7 hfW7 _))
      refine bodyPost_blk rfl rfl hW7 Try.underlying37 rfl infoNode rfl ?_
      exact hS7.finN hlt6 rfl hfW7
    · have hr := HR.out
      rw [if_neg hx] at hr
      refine (skip_f _ s j op _ 43 hS5.rd (by omega) hx).mono ?_
      rintro e w6 ⟨rfl, hr6, hf6⟩
      have hS6 := hS5.step (hf6.mono fun _ _ h => h.elim) hr6
      clear hS5 hx HR hr6 hf6
      have HR := hid hr
      clear hr
      go_wp2_with fail
      by_cases hx : nx s j = 63
      · have hr := HR.out
        rw [if_pos hx] at hr
        refine (skip_t _ s j op _ 63 hs hS6.rd (by omega) hx).mono ?_
        rintro e w7 ⟨rfl, hr7, hlt7, hf7⟩
        have hS7 := hS6.step hf7 hr7
        subst hr
        have hc7 := hS7.hb4.cell 6
        have hz7 := hS7.hb4.frozen 6
        have hS8 := hS7.max 1
        go_wp2_with (first | ((with_reducible refine at_load _ ?_); refine wpList_load_blk (cs := nodeA (.mk 5 0 0 1 [a]) (some ⟨w1.heap.size + 1, 0, none⟩) 1) rfl rfl rfl hS8.hb4 Try.underlying37 rfl infoNode ?_) | ((with_reducible refine at_store _ ?_); refine wpList_store_blk (cs := nodeA (.mk 5 0 0 1 [a]) (some ⟨w1.heap.size + 1, 0, none⟩) 1) rfl rfl rfl rfl hS8.hb2 rfl infoNode (nodeA_one _ _ _) ?_; intro W7 hW7 hfW7 _))
        refine bodyPost_blk rfl rfl hW7 Try.underlying37 rfl infoNode rfl ?_
        exact hS8.finN hlt7 rfl hfW7
      · have hr := HR.out
        rw [if_neg hx] at hr
        refine (skip_f _ s j op _ 63 hS6.rd (by omega) hx).mono ?_
        rintro e w7 ⟨rfl, hr7, hf7⟩
        have hS7 := hS6.step (hf7.mono fun _ _ h => h.elim) hr7
        clear hS6 hx HR hr7 hf7
        have HR := hid hr
        clear hr
        go_wp2_with fail
        by_cases hx : nx s j = 123
        · have hr := HR.out
          rw [if_pos hx] at hr
          refine (skip_t _ s j op _ 123 hs hS7.rd (by omega) hx).mono ?_
          rintro e w8 ⟨rfl, hr8, hlt8, hf8⟩
          have hS8 := hS7.step hf8 hr8
          have hbo := bounds_c b s (j + 1) op w8 hs hS8.rd
          cases hbn : Rx.bounds s (j + 1) with
          | out => exact absurd hbn (bounds_ne _ _)
          | bad k =>
            rw [hbn] at hbo hr
            simp only [R.bind] at hr
            subst hr
            go_wp2_with (go_at_call 72; refine hbo.mono ?_; rintro e w9 ⟨rfl, hf9⟩)
            exact ⟨rfl, rfl, Fr.trans hS8.fr hf9⟩
          | ok p k =>
            rw [hbn] at hbo hr
            simp only [R.bind] at hr
            subst hr
            go_wp2_with (first | (go_at_call 72; refine hbo.mono ?_; rintro e w9 ⟨⟨v, rfl, rfl⟩, hr9, hj9, hf9⟩; have hS9 := hS8.step hf9 hr9; have hc5 := hS9.hb4.cell 5; have hz5 := hS9.hb4.frozen 5; have hc6 := hS9.hb4.cell 6; have hz6 := hS9.hb4.frozen 6; have hS10 := (hS9.min p.1).max p.2) |
              ((with_reducible refine at_load _ ?_); refine wpList_load_blk (cs := nodeA (.mk 5 0 p.1 p.2 [a]) (some ⟨w1.heap.size + 1, 0, none⟩) 1) rfl rfl rfl hS10.hb4 Try.underlying37 rfl infoNode ?_) | ((with_reducible refine at_store _ ?_); refine wpList_store_blk (cs := nodeA (.mk 5 0 p.1 p.2 [a]) (some ⟨w1.heap.size + 1, 0, none⟩) 1) rfl rfl rfl rfl hS10.hb2 rfl infoNode (nodeA_one _ _ _) ?_; intro W7 hW7 hfW7 _))
            refine bodyPost_blk rfl rfl hW7 Try.underlying37 rfl infoNode rfl ?_
            exact hS10.finN hj9 rfl hfW7
        · have hr := HR.out
          rw [if_neg hx] at hr
          refine (skip_f _ s j op _ 123 hS7.rd (by omega) hx).mono ?_
          rintro e w8 ⟨rfl, hr8, hf8⟩
          have hS8 := hS7.step (hf8.mono fun _ _ h => h.elim) hr8
          clear hS7 hx HR hr8 hf8
          have HR := hid hr
          clear hr
          go_wp2_with (first | ((with_reducible refine at_load _ ?_); refine wpList_load_blk (cs := nodeA a A cap) rfl rfl rfl hS8.hb3 Try.underlying37 rfl infoNode ?_) | ((with_reducible refine at_store _ ?_); refine wpList_store_blk (cs := nodeA a A cap) rfl rfl rfl rfl hS8.hb2 rfl infoNode (nodeA_one _ _ _) ?_; intro W7 hW7 hfW7 _))
          have hr := HR.out
          subst hr
          refine bodyPost_blk rfl rfl hW7 Try.underlying37 rfl infoNode rfl ?_
          exact hS8.finA hj hfW7
theorem item_far {a : Nd} {j : Nat} {R' : Ending → World → Prop} (hr : Rd w b s i op) (hj : ¬ j ≤ s.size)
    (Hat : Hid (∀ W, Rd W b s i op → Calls Try.prog 71 #[.pointer (some ⟨b, 0, none⟩)] W (Out (NewN W) W b s op (.ok a j)))) :
    Calls Try.prog 69 #[.pointer (some ⟨b, 0, none⟩)] w R' := by
  have hbw := hr.lt; have hr0 := hr.alloc (.cells #[.int .i64 0, .int .u64 0, .int .u64 0, .int .u64 0, .int .u64 0, .int .i64 0, .int .i64 0, .slice none 0 0] 37); have hB0 := Blk.new w 37 #[.int .i64 0, .int .u64 0, .int .u64 0, .int .u64 0, .int .u64 0, .int .i64 0, .int .i64 0, .slice none 0 0]; have hF0 : Fr (At b) w _ := (Fr.refl (At b) w).alloc (.cells #[.int .i64 0, .int .u64 0, .int .u64 0, .int .u64 0, .int .u64 0, .int .i64 0, .int .i64 0, .slice none 0 0] 37); obtain ⟨h0, h1, h2, f1, f2⟩ := hr0.cells
  go_enter Try.func69, Try.ntmps69
  go_wp2_with (go_at_call 71; refine (Hat.out _ (by repeat (first | assumption | apply Rd.drewN | apply Rd.drew | apply Rd.alloc | (apply Rd.setAt (hx := by omega)) | (apply Rd.setOp (hx := by omega)) | (apply Rd.far (hp := by simp only []; omega))))).mono ?_; rintro e w1 ⟨h1, h2, h3, h4⟩; exact absurd h3 hj)
theorem item_c (sub : Option (Nat → R Nd)) (hs : s.size < 1099511627776) (hr : Rd w b s i op) (hi : i ≤ s.size) (hsub : AltSpec s op sub) (hne : Rx.item s sub i ≠ .out) :
    Calls Try.prog 69 #[.pointer (some ⟨b, 0, none⟩)] w (Out (NewN w) w b s op (Rx.item s sub i)) := by
  have hat := fun (W : World) (hW : Rd W b s i op) (h : Rx.atom s sub i ≠ .out) => atom_c b s i op W sub hs hW hi hsub h
  unfold Rx.item at hne ⊢
  cases ha : Rx.atom s sub i with
  | out => rw [ha] at hne; exact absurd rfl hne
  | bad k =>
    rw [ha] at hat
    exact item_bad b s i op w hr (fun W hW => hat W hW (by simp))
  | ok a j =>
    rw [ha] at hat
    simp only [R.bind]
    by_cases hj : j ≤ s.size
    · exact item_ok b s i op w hs hr hj rfl (fun W hW => hat W hW (by simp))
    · exact item_far b s i op w hr hj (fun W hW => hat W hW (by simp))
end
end Go.Proofs.Ytldmdlkjpdfonaa
