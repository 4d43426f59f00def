/- What the claim's theorem is built on, part 4: words, walks of the code, and what they tell. -/
import Derived.Shelf.Sort.Plain
import Derived.Sort.OwnSortedInts
import Derived.Shelf.Small.Bits
import Derived.Test.YtjjlhbgpdncpcaaMb1
import Derived.Test.YtjjlhbgpdncpcaaMb2
import Derived.Test.YtjjlhbgpdncpcaaMb3
namespace Go.Proofs.Ytjjlhbgpdncpcaa.P
open Go.RowKit Go.Proofs.YtjjlhbgpdncpcaaW.PrintWords Go.Proofs.YtjjlhbgpdncpcaaW.PrintLast Go.Proofs.YtjjlhbgpdncpcaaW.PrintMore
set_option linter.unusedVariables false
set_option linter.unusedSimpArgs false
set_option maxHeartbeats 8000000
set_option maxRecDepth 100000
section
attribute [local go_sem] max2_int min2_int max_two min_two max_three min_three max_four min_four
theorem r30_Same.callsz (k : Nat) (a0_0 : Int) (A0_1 : Option Addr) (c0_1 : Nat) (l0_1 : List (S74)) (a1_0 : Int) (A1_1 : Option Addr) (c1_1 : Nat) (l1_1 : List (S74)) (r : Bool) (w : World) (hr0_1 : Kd.C k74 w A0_1 l0_1.length l0_1) (hc0_1 : l0_1.length ≤ c0_1) (hr1_1 : Kd.C k74 w A1_1 l1_1.length l1_1) (hc1_1 : l1_1.length ≤ c1_1) (h : r30_Same.f k a0_0 l0_1 a1_0 l1_1 = some r) (hr_ : r = true) :
    Calls Try.prog 32 #[.agg #[.int .i64 a0_0, .slice A0_1 l0_1.length c0_1], .agg #[.int .i64 a1_0, .slice A1_1 l1_1.length c1_1]] w fun e w' => e = .returned (.bool r) ∧ Below w.heap.size w w' := by
  have HR_ := aM hr_
  clear hr_
  have hu46 := Try.underlying46
  have hu74 := Try.underlying74
  have HR0_1 := aM hr0_1
  have HC0_1 := aM hc0_1
  clear hr0_1 hc0_1
  have HR1_1 := aM hr1_1
  have HC1_1 := aM hc1_1
  clear hr1_1 hc1_1
  have HB := aM (Below.refl w.heap.size w)
  have H : (if a0_0 = a1_0 then (r30_Same.j0 k ((l0_1.length : Int) != (l1_1.length : Int)) a0_0 l0_1 a1_0 l1_1) else (r30_Same.j0 k true a0_0 l0_1 a1_0 l1_1)) = some r := h
  clear h
  have HC3 := aM H
  clear H
  go_enter Try.func32, Try.ntmps32
  go_upto_region 1 with (first | ((with_reducible refine gate_dst (N := 2) rfl ?_); (try (refine gate_guard (by rfl) ?_; dsimp only)); refine box_event ?hg (N := 2) ?hd (cs := #[.int .i64 a0_0, .slice A0_1 l0_1.length c0_1]) (t := 46) ?hr ?_; (case hd => rfl); (case hg => rfl); (case hr => first | (go_simp; done) | (go_simp; rfl)); intro gb212 hg w4 hbox hb; have BK212 := aM (hbox); have GW212 := aM ((by rw [hg]; exact (below_size zz88) : w.heap.size ≤ gb212)); have GE212 := aM ((by rw [hg]; exact (below_size zz88) : w.heap.size ≤ gb212)); replace HB := aM (below_step zz88 hb); clear hb hbox hg) | ((with_reducible refine gate_dst (N := 3) rfl ?_); (try (refine gate_guard (by rfl) ?_; dsimp only)); refine box_event ?hg (N := 3) ?hd (cs := #[.int .i64 a1_0, .slice A1_1 l1_1.length c1_1]) (t := 46) ?hr ?_; (case hd => rfl); (case hg => rfl); (case hr => first | (go_simp; done) | (go_simp; rfl)); intro gb213 hg w5 hbox hb; have BK213 := aM (hbox); have GW213 := aM ((by rw [hg]; exact (below_size zz72) : w.heap.size ≤ gb213)); have GE213 := aM ((by rw [hg]; exact (below_size zz72) : w.heap.size ≤ gb213)); replace HB := aM (below_step zz72 hb); have NB212_213 := aM ((by rw [hg]; exact Nat.ne_of_lt (blk_lt (g := gb212) (o := .cells #[.int .i64 a0_0, .slice A0_1 l0_1.length c0_1] 46 (0, 0)) (zB BK212)) : gb212 ≠ gb213)); have NB213_212 := aM ((by rw [hg]; exact Nat.ne_of_gt (blk_lt (g := gb212) (o := .cells #[.int .i64 a0_0, .slice A0_1 l0_1.length c0_1] 46 (0, 0)) (zB BK212)) : gb213 ≠ gb212)); replace BK212 := aM (blk_below (g := gb212) (o := .cells #[.int .i64 a0_0, .slice A0_1 l0_1.length c0_1] 46 (0, 0)) (zB BK212) hb); clear hb hbox hg))
  (try simp only [Act.put, List.setIfInBounds_toArray, List.set_cons_zero, List.set_cons_succ])
  go_cut [21] (fun v21 wc => ∃ (kq : Nat) (x21_2 : Bool), v21 = .bool x21_2 ∧ Aside0 (r30_Same.j0 kq x21_2 a0_0 l0_1 a1_0 l1_1 = some r) ∧ Aside0 (kq ≤ k) ∧ Aside0 (wc.heap[gb212]? = some (.cells #[.int .i64 a0_0, (.slice A0_1 l0_1.length c0_1)] 46 (0, 0))) ∧ Aside0 (wc.heap[gb213]? = some (.cells #[.int .i64 a1_0, (.slice A1_1 l1_1.length c1_1)] 46 (0, 0))) ∧ Aside0 (Below w.heap.size w wc))
  case first =>
    have H := HC3.out; clear HC3
    by_cases c6 : a0_0 = a1_0
    · rw [if_pos c6] at H; have c6b0 := beq_iff_eq.mpr c6; have c6b1 := bne_eq_false_iff_eq.mpr c6; clear c6
      (first | rw [c6b0] | (simp only [i64_w, i32_w]; rw [c6b0]) | skip)
      have H' := aM H; clear H; have hnb7 := NB212_213.out; have hnc7 := NB213_212.out; have hcz8_0 : w5.cell? ⟨gb212, 0, none⟩ = some (.int .i64 a0_0) := (blk_cell BK212.out 0).trans rfl; have hcz8_1 : w5.cell? ⟨gb212, 1, none⟩ = some (.slice A0_1 l0_1.length c0_1) := (blk_cell BK212.out 1).trans rfl; have hfz8_0 := blk_frozen BK212.out 0; have hfz8_1 := blk_frozen BK212.out 1; have hcz9_0 : w5.cell? ⟨gb213, 0, none⟩ = some (.int .i64 a1_0) := (blk_cell BK213.out 0).trans rfl; have hcz9_1 : w5.cell? ⟨gb213, 1, none⟩ = some (.slice A1_1 l1_1.length c1_1) := (blk_cell BK213.out 1).trans rfl; have hfz9_0 := blk_frozen BK213.out 0; have hfz9_1 := blk_frozen BK213.out 1; go_wp2; go_meet
      case rel => exact ⟨_, (((l0_1.length : Int) != (l1_1.length : Int))), zz112, H', ⟨zz114⟩, ⟨(zB BK212)⟩, ⟨(zB BK213)⟩, ⟨zz52⟩⟩
    rw [if_neg c6] at H; have c6b0 := beq_eq_false_iff_ne.mpr c6; have c6b1 := bne_iff_ne.mpr c6
    (first | rw [c6b0] | (simp only [i64_w, i32_w]; rw [c6b0]) | skip)
    have H' := aM H; clear H; have hnb10 := NB212_213.out; have hnc10 := NB213_212.out; have hcz11_0 : w5.cell? ⟨gb212, 0, none⟩ = some (.int .i64 a0_0) := (blk_cell BK212.out 0).trans rfl; have hcz11_1 : w5.cell? ⟨gb212, 1, none⟩ = some (.slice A0_1 l0_1.length c0_1) := (blk_cell BK212.out 1).trans rfl; have hfz11_0 := blk_frozen BK212.out 0; have hfz11_1 := blk_frozen BK212.out 1; have hcz12_0 : w5.cell? ⟨gb213, 0, none⟩ = some (.int .i64 a1_0) := (blk_cell BK213.out 0).trans rfl; have hcz12_1 : w5.cell? ⟨gb213, 1, none⟩ = some (.slice A1_1 l1_1.length c1_1) := (blk_cell BK213.out 1).trans rfl; have hfz12_0 := blk_frozen BK213.out 0; have hfz12_1 := blk_frozen BK213.out 1; go_wp2; go_meet
    case rel => exact ⟨_, (true), zz112, H', ⟨zz114⟩, ⟨(zB BK212)⟩, ⟨(zB BK213)⟩, ⟨zz52⟩⟩
  case rest =>
    clear HC3; (try clear c1); (try clear p2); (try clear c3); (try clear c6); (try clear c6b0); (try clear c6b1); (try clear c7); (try clear c10); (try clear hcz11_0); (try clear hcz11_1); (try clear hcz12_0); (try clear hcz12_1); (try clear hcz8_0); (try clear hcz8_1); (try clear hcz9_0); (try clear hcz9_1); (try clear hfz11_0); (try clear hfz11_1); (try clear hfz12_0); (try clear hfz12_1); (try clear hfz8_0); (try clear hfz8_1); (try clear hfz9_0); (try clear hfz9_1); obtain ⟨kq, x21_2, rfl, HA, HJ2, BK212, BK213, HB⟩ := hcut
    cases kq with
    | zero => exact absurd HA.out (by simp [r30_Same.j0])
    | succ kj2 =>
      have H := HA.out; clear HA; simp only [r30_Same.j0] at H
      by_cases c13 : x21_2 = true
      · subst c13; have H1 : (some false) = some r := by rw [if_pos rfl] at H; exact H
        clear H; have H := H1; clear H1
        exact absurd (Option.some.inj (H.trans (congrArg some HR_.out))) (by decide)
      replace c13 := Bool.eq_false_iff.mpr c13; subst c13; have H1 : (r30_Same.l0 kj2 0 a0_0 l0_1 a1_0 l1_1) = some r := by rw [if_neg (show ¬ (false = true) by decide)] at H; exact H
      clear H; have H := H1; clear H1; have H' := aM H; clear H; go_wp2
      go_loopg [5] kj2 (fun kq v5 w' => ∃ (x5_2 : Int), v5 = .int .i64 x5_2 ∧ Aside0 (r30_Same.l0 kq x5_2 a0_0 l0_1 a1_0 l1_1 = some r) ∧ Aside0 (kq ≤ kj2) ∧ Aside0 (w'.heap[gb212]? = some (.cells #[.int .i64 a0_0, (.slice A0_1 l0_1.length c0_1)] 46 (0, 0))) ∧ Aside0 (w'.heap[gb213]? = some (.cells #[.int .i64 a1_0, (.slice A1_1 l1_1.length c1_1)] 46 (0, 0))) ∧ Aside0 (Below w.heap.size w w'))
      case atStart => exact ⟨(0), zz112, H', ⟨Nat.le_refl _⟩, ⟨(zB BK212)⟩, ⟨(zB BK213)⟩, ⟨zz52⟩⟩
      case round =>
        clear H'; (try clear c1); (try clear p2); (try clear c3); (try clear c6); (try clear c6b0); (try clear c6b1); (try clear c7); (try clear c10); (try clear c13); (try clear hcz11_0); (try clear hcz11_1); (try clear hcz12_0); (try clear hcz12_1); (try clear hcz8_0); (try clear hcz8_1); (try clear hcz9_0); (try clear hcz9_1); (try clear hfz11_0); (try clear hfz11_1); (try clear hfz12_0); (try clear hfz12_1); (try clear hfz8_0); (try clear hfz8_1); (try clear hfz9_0); (try clear hfz9_1); (try clear p2); obtain ⟨x5_2, rfl, HA, HK2, BK212, BK213, HB⟩ := hrel
        cases gk with
        | zero => exact absurd HA.out (by simp [r30_Same.l0])
        | succ k2 =>
          have H := HA.out; clear HA; simp only [r30_Same.l0] at H
          by_cases c14 : x5_2 < (l0_1.length : Int)
          · rw [if_pos c14] at H; have c14b0 := decide_eq_true c14; clear c14
            by_cases c15 : 0 ≤ x5_2
            · rw [if_pos c15] at H; have c15b0 := decide_eq_true c15; clear c15
              by_cases c16 : x5_2 < (l1_1.length : Int)
              · rw [if_pos c16] at H; have c16b0 := decide_eq_true c16; clear c16; have HC17 := aM H; clear H; have hnb18 := NB212_213.out; have hnc18 := NB213_212.out; have hcz19_0 : wr.cell? ⟨gb212, 0, none⟩ = some (.int .i64 a0_0) := (blk_cell BK212.out 0).trans rfl; have hcz19_1 : wr.cell? ⟨gb212, 1, none⟩ = some (.slice A0_1 l0_1.length c0_1) := (blk_cell BK212.out 1).trans rfl; have hfz19_0 := blk_frozen BK212.out 0; have hfz19_1 := blk_frozen BK212.out 1
                try go_wp2
                have n0_ := aM (blk_drew BK212.out); have n1_ := aM (blk_drew BK213.out); have n2_ := aM (below_drew1 HB.out); clear BK212; clear BK213; clear HB; have BK212 := n0_; have BK213 := n1_; have HB := n2_; clear n0_ n1_ n2_; have p214 : 0 ≤ (x5_2 : Int) := of_decide_eq_true zz111; have q214 : x5_2 < (l0_1.length : Int) := of_decide_eq_true zz111; obtain ⟨ad214, A214_1, c214_1, A214_2, c214_2, e214, hx214_0, hx214_1, hx214_2, hl214_1, hi214_1, hl214_2, hi214_2⟩ := at_T74 HR0_1.out x5_2 p214 q214; have hw214_2 := hx214_2; have hw214_1 := hx214_1; have hw214_0 := hx214_0
                cases e214; replace hx214_0 := (HB.out.cell (World.block_lt_of_cell? w _ hx214_0)).trans hx214_0; replace hx214_1 := (HB.out.cell (World.block_lt_of_cell? w _ hx214_1)).trans hx214_1; replace hx214_2 := (HB.out.cell (World.block_lt_of_cell? w _ hx214_2)).trans hx214_2; have HR214_1 := aM hi214_1; have HC214_1 := aM hl214_1; clear hi214_1 hl214_1; have HR214_2 := aM hi214_2; have HC214_2 := aM hl214_2; clear hi214_2 hl214_2; replace p214 := eq_true p214; replace q214 := eq_true q214; have p215 : 0 ≤ (x5_2 : Int) := of_decide_eq_true zz111; have q215 : x5_2 < (l1_1.length : Int) := of_decide_eq_true zz111; obtain ⟨ad215, A215_1, c215_1, A215_2, c215_2, e215, hx215_0, hx215_1, hx215_2, hl215_1, hi215_1, hl215_2, hi215_2⟩ := at_T74 HR1_1.out x5_2 p215 q215; have hw215_2 := hx215_2; have hw215_1 := hx215_1; have hw215_0 := hx215_0
                cases e215; replace hx215_0 := (HB.out.cell (World.block_lt_of_cell? w _ hx215_0)).trans hx215_0; replace hx215_1 := (HB.out.cell (World.block_lt_of_cell? w _ hx215_1)).trans hx215_1; replace hx215_2 := (HB.out.cell (World.block_lt_of_cell? w _ hx215_2)).trans hx215_2; have HR215_1 := aM hi215_1; have HC215_1 := aM hl215_1; clear hi215_1 hl215_1; have HR215_2 := aM hi215_2; have HC215_2 := aM hl215_2; clear hi215_2 hl215_2; replace p215 := eq_true p215; replace q215 := eq_true q215
                refine start_ (n := 14) (S := fun w' => w'.cell? ⟨gb212, 0, none⟩ = some (.int .i64 a0_0) ∧ w'.cell? ⟨gb212, 1, none⟩ = some (.slice (some ad214) l0_1.length c0_1) ∧ w'.cell? ⟨gb213, 0, none⟩ = some (.int .i64 a1_0) ∧ w'.cell? ⟨gb213, 1, none⟩ = some (.slice (some ad215) l1_1.length c1_1) ∧ w'.cell? (ad214.add ((x5_2).toNat * 3)) = some (.int .i64 ((rd_T74 l0_1 x5_2).f0)) ∧ w'.cell? ⟨(ad214.add ((x5_2).toNat * 3)).block, (ad214.add ((x5_2).toNat * 3)).off + 1, none⟩ = some (.slice A214_1 ((rd_T74 l0_1 x5_2).f1).length c214_1) ∧ w'.cell? ⟨(ad214.add ((x5_2).toNat * 3)).block, (ad214.add ((x5_2).toNat * 3)).off + 2, none⟩ = some (.slice A214_2 ((rd_T74 l0_1 x5_2).f2).length c214_2) ∧ w'.cell? (ad215.add ((x5_2).toNat * 3)) = some (.int .i64 ((rd_T74 l1_1 x5_2).f0)) ∧ w'.cell? ⟨(ad215.add ((x5_2).toNat * 3)).block, (ad215.add ((x5_2).toNat * 3)).off + 1, none⟩ = some (.slice A215_1 ((rd_T74 l1_1 x5_2).f1).length c215_1) ∧ w'.cell? ⟨(ad215.add ((x5_2).toNat * 3)).block, (ad215.add ((x5_2).toNat * 3)).off + 2, none⟩ = some (.slice A215_2 ((rd_T74 l1_1 x5_2).f2).length c215_2)) (ds := []) #[false, false, false, false, false, false, false, false, false, false, false, false, false, false] (by kernel_rfl) rfl rfl ⟨(blk_cell BK212.out 0).trans rfl, (blk_cell BK212.out 1).trans rfl, (blk_cell BK213.out 0).trans rfl, (blk_cell BK213.out 1).trans rfl, ((HB.out.cell (World.block_lt_of_cell? w _ hw214_0)).trans hw214_0), ((HB.out.cell (World.block_lt_of_cell? w _ hw214_1)).trans hw214_1), ((HB.out.cell (World.block_lt_of_cell? w _ hw214_2)).trans hw214_2), ((HB.out.cell (World.block_lt_of_cell? w _ hw215_0)).trans hw215_0), ((HB.out.cell (World.block_lt_of_cell? w _ hw215_1)).trans hw215_1), ((HB.out.cell (World.block_lt_of_cell? w _ hw215_2)).trans hw215_2)⟩ (fun hHeld => ?_); refine with_tabW r30_Same.tab6 r30_Same.bits6 (fun HT_ HW_ => ?_); generalize wr.drew = w20 at BK212 BK213 HB HR214_1 HR214_2 HR215_1 HR215_2 hx214_0 hx214_1 hx214_2 hx215_0 hx215_1 hx215_2 hHeld ⊢
                refine pure_ (i := 0) (N := some 29) (v := ?_) (a' := ?_) #[true, false, false, false, false, false, false, false, false, false, false, false, false, false] rfl rfl (any_of HT_.out (by kernel_rfl)) (fun _ _ _ h => h) (Or.inl ⟨by rfl, ?_⟩) ?_ ?_; rotate_left
                · intro w'; go_simp; with_reducible rfl
                rotate_left
                · simp only [Act.put, List.setIfInBounds_toArray, List.set_cons_zero, List.set_cons_succ, i64_w, i32_w]; rfl
                refine pure_ (i := 2) (N := some 31) (v := ?_) (a' := ?_) #[true, false, true, false, false, false, false, false, false, false, false, false, false, false] rfl rfl (any_of HT_.out (by kernel_rfl)) (fun _ _ _ h => h) (Or.inl ⟨by rfl, ?_⟩) ?_ ?_; rotate_left
                · intro w'; go_simp; with_reducible rfl
                rotate_left
                · simp only [Act.put, List.setIfInBounds_toArray, List.set_cons_zero, List.set_cons_succ, i64_w, i32_w]; rfl
                refine pure_ (i := 5) (N := some 34) (v := ?_) (a' := ?_) #[true, false, true, false, false, true, false, false, false, false, false, false, false, false] rfl rfl (any_of HT_.out (by kernel_rfl)) (fun _ _ _ h => h) (Or.inl ⟨by rfl, ?_⟩) ?_ ?_; rotate_left
                · intro w'; go_simp; with_reducible rfl
                rotate_left
                · simp only [Act.put, List.setIfInBounds_toArray, List.set_cons_zero, List.set_cons_succ, i64_w, i32_w]; rfl
                refine pure_ (i := 7) (N := some 36) (v := ?_) (a' := ?_) #[true, false, true, false, false, true, false, true, false, false, false, false, false, false] rfl rfl (any_of HT_.out (by kernel_rfl)) (fun _ _ _ h => h) (Or.inl ⟨by rfl, ?_⟩) ?_ ?_; rotate_left
                · intro w'; go_simp; with_reducible rfl
                rotate_left
                · simp only [Act.put, List.setIfInBounds_toArray, List.set_cons_zero, List.set_cons_succ, i64_w, i32_w]; rfl
                refine take_ (i := 1) (N := some 30) (v := ?_) (a' := ?_) #[true, true, true, false, false, true, false, true, false, false, false, false, false, false] rfl rfl (take_ofW HT_.out HW_.out (by kernel_rfl)) (fun _ _ _ h => h) (Or.inl ⟨by rfl, ?_⟩) hHeld ?_ ?_; rotate_left
                · rintro w' ⟨s0, s1, s2, s3, s4, s5, s6, s7, s8, s9⟩; go_simp; with_reducible rfl
                rotate_left
                · simp only [Act.put, List.setIfInBounds_toArray, List.set_cons_zero, List.set_cons_succ, i64_w, i32_w]; rfl
                refine pure_ (i := 3) (N := some 32) (v := ?_) (a' := ?_) #[true, true, true, true, false, true, false, true, false, false, false, false, false, false] rfl rfl (any_of HT_.out (by kernel_rfl)) (fun _ _ _ h => h) (Or.inl ⟨by rfl, ?_⟩) ?_ ?_; rotate_left
                · intro w'; go_simp; with_reducible rfl
                rotate_left
                · simp only [Act.put, List.setIfInBounds_toArray, List.set_cons_zero, List.set_cons_succ, i64_w, i32_w]; rfl
                refine take_ (i := 4) (N := some 33) (v := ?_) (a' := ?_) #[true, true, true, true, true, true, false, true, false, false, false, false, false, false] rfl rfl (take_ofW HT_.out HW_.out (by kernel_rfl)) (fun _ _ _ h => h) (Or.inl ⟨by rfl, ?_⟩) hHeld ?_ ?_; rotate_left
                · rintro w' ⟨s0, s1, s2, s3, s4, s5, s6, s7, s8, s9⟩; go_simp; with_reducible rfl
                rotate_left
                · simp only [Act.put, List.setIfInBounds_toArray, List.set_cons_zero, List.set_cons_succ, i64_w, i32_w]; rfl
                refine take_ (i := 6) (N := some 35) (v := ?_) (a' := ?_) #[true, true, true, true, true, true, true, true, false, false, false, false, false, false] rfl rfl (take_ofW HT_.out HW_.out (by kernel_rfl)) (fun _ _ _ h => h) (Or.inl ⟨by rfl, ?_⟩) hHeld ?_ ?_; rotate_left
                · rintro w' ⟨s0, s1, s2, s3, s4, s5, s6, s7, s8, s9⟩; go_simp; with_reducible rfl
                rotate_left
                · simp only [Act.put, List.setIfInBounds_toArray, List.set_cons_zero, List.set_cons_succ, i64_w, i32_w]; rfl
                refine pure_ (i := 8) (N := some 37) (v := ?_) (a' := ?_) #[true, true, true, true, true, true, true, true, true, false, false, false, false, false] rfl rfl (any_of HT_.out (by kernel_rfl)) (fun _ _ _ h => h) (Or.inl ⟨by rfl, ?_⟩) ?_ ?_; rotate_left
                · intro w'; go_simp; with_reducible rfl
                rotate_left
                · simp only [Act.put, List.setIfInBounds_toArray, List.set_cons_zero, List.set_cons_succ, i64_w, i32_w]; rfl
                refine take_ (i := 9) (N := some 38) (v := ?_) (a' := ?_) #[true, true, true, true, true, true, true, true, true, true, false, false, false, false] rfl rfl (take_ofW HT_.out HW_.out (by kernel_rfl)) (fun _ _ _ h => h) (Or.inl ⟨by rfl, ?_⟩) hHeld ?_ ?_; rotate_left
                · rintro w' ⟨s0, s1, s2, s3, s4, s5, s6, s7, s8, s9⟩; go_simp; with_reducible rfl
                rotate_left
                · simp only [Act.put, List.setIfInBounds_toArray, List.set_cons_zero, List.set_cons_succ, i64_w, i32_w]; rfl
                refine join_ (σ := Nat × Nat) 2 #[true, true, true, true, true, true, true, true, true, true, true, true, false, false] (fun s_ => [(6, .pointer (some ⟨s_.1, 0, none⟩)), (7, .pointer (some ⟨s_.2, 0, none⟩))]) (fun s_ w' => (w'.cell? ⟨gb212, 0, none⟩ = some (.int .i64 a0_0) ∧ w'.cell? ⟨gb212, 1, none⟩ = some (.slice (some ad214) l0_1.length c0_1) ∧ w'.cell? ⟨gb213, 0, none⟩ = some (.int .i64 a1_0) ∧ w'.cell? ⟨gb213, 1, none⟩ = some (.slice (some ad215) l1_1.length c1_1) ∧ w'.cell? (ad214.add ((x5_2).toNat * 3)) = some (.int .i64 ((rd_T74 l0_1 x5_2).f0)) ∧ w'.cell? ⟨(ad214.add ((x5_2).toNat * 3)).block, (ad214.add ((x5_2).toNat * 3)).off + 1, none⟩ = some (.slice A214_1 ((rd_T74 l0_1 x5_2).f1).length c214_1) ∧ w'.cell? ⟨(ad214.add ((x5_2).toNat * 3)).block, (ad214.add ((x5_2).toNat * 3)).off + 2, none⟩ = some (.slice A214_2 ((rd_T74 l0_1 x5_2).f2).length c214_2) ∧ w'.cell? (ad215.add ((x5_2).toNat * 3)) = some (.int .i64 ((rd_T74 l1_1 x5_2).f0)) ∧ w'.cell? ⟨(ad215.add ((x5_2).toNat * 3)).block, (ad215.add ((x5_2).toNat * 3)).off + 1, none⟩ = some (.slice A215_1 ((rd_T74 l1_1 x5_2).f1).length c215_1) ∧ w'.cell? ⟨(ad215.add ((x5_2).toNat * 3)).block, (ad215.add ((x5_2).toNat * 3)).off + 2, none⟩ = some (.slice A215_2 ((rd_T74 l1_1 x5_2).f2).length c215_2)) ∧ (w'.heap[gb212]? = some (.cells #[.int .i64 a0_0, .slice (some ad214) l0_1.length c0_1] 46 (0, 0))) ∧ (w'.heap[gb213]? = some (.cells #[.int .i64 a1_0, .slice (some ad215) l1_1.length c1_1] 46 (0, 0))) ∧ (w'.heap[s_.1]? = some (.cells #[.int .i64 0, .slice none 0 0, .slice none 0 0] 74 (0, 0))) ∧ (w'.heap[s_.2]? = some (.cells #[.int .i64 0, .slice none 0 0, .slice none 0 0] 74 (0, 0))) ∧ (w.heap.size ≤ s_.1) ∧ (w.heap.size ≤ s_.1) ∧ (gb212 ≠ s_.1) ∧ (s_.1 ≠ gb212) ∧ (gb213 ≠ s_.1) ∧ (s_.1 ≠ gb213) ∧ (s_.2 ≠ s_.1) ∧ (s_.1 ≠ s_.2) ∧ (w.heap.size ≤ s_.2) ∧ (w.heap.size ≤ s_.2) ∧ (gb212 ≠ s_.2) ∧ (s_.2 ≠ gb212) ∧ (gb213 ≠ s_.2) ∧ (s_.2 ≠ gb213) ∧ (Below w.heap.size w w')) ?_ ?_; rotate_left
                · intro hCont
                  refine two_ (i := 10) (j := 11) (Ni := some 6) (Nj := some 7) #[true, true, true, true, true, true, true, true, true, true, true, false, false, false] #[true, true, true, true, true, true, true, true, true, true, false, true, false, false] rfl rfl rfl rfl (two_of HT_.out (by kernel_rfl)) (by decide) (by decide) (fun K hK => ?_) (fun K hK => ?_)
                  · skip
                    refine box_step ?hg (N := 6) ?hd (cs := #[.int .i64 0, .slice none 0 0, .slice none 0 0]) (t := 74) ?hr ?_; (case hd => rfl); (case hg => rfl); (case hr => first | (go_simp; done) | (go_simp; rfl)); intro gb216 hg w21 hbox hb; have n0_ := aM (blk_below (g := gb212) (o := .cells #[.int .i64 a0_0, .slice (some ad214) l0_1.length c0_1] 46 (0, 0)) (zB BK212) hb); have n1_ := aM (blk_below (g := gb213) (o := .cells #[.int .i64 a1_0, .slice (some ad215) l1_1.length c1_1] 46 (0, 0)) (zB BK213) hb); have n2_ := aM (below_step zz52 hb); have n3_ := aM (hbox); have n4_ := aM ((by rw [hg]; exact (below_size zz52) : w.heap.size ≤ gb216)); have n5_ := aM ((by rw [hg]; exact (below_size zz52) : w.heap.size ≤ gb216)); have n6_ := aM ((by rw [hg]; exact Nat.ne_of_lt (blk_lt (g := gb212) (o := .cells #[.int .i64 a0_0, .slice (some ad214) l0_1.length c0_1] 46 (0, 0)) (zB BK212)) : gb212 ≠ gb216)); have n7_ := aM ((by rw [hg]; exact Nat.ne_of_gt (blk_lt (g := gb212) (o := .cells #[.int .i64 a0_0, .slice (some ad214) l0_1.length c0_1] 46 (0, 0)) (zB BK212)) : gb216 ≠ gb212)); have n8_ := aM ((by rw [hg]; exact Nat.ne_of_lt (blk_lt (g := gb213) (o := .cells #[.int .i64 a1_0, .slice (some ad215) l1_1.length c1_1] 46 (0, 0)) (zB BK213)) : gb213 ≠ gb216)); have n9_ := aM ((by rw [hg]; exact Nat.ne_of_gt (blk_lt (g := gb213) (o := .cells #[.int .i64 a1_0, .slice (some ad215) l1_1.length c1_1] 46 (0, 0)) (zB BK213)) : gb216 ≠ gb213)); clear BK212; clear BK213; clear HB; have BK212 := n0_; have BK213 := n1_; have HB := n2_; have BK216 := n3_; have GW216 := n4_; have GE216 := n5_; have NB212_216 := n6_; have NB216_212 := n7_; have NB213_216 := n8_; have NB216_213 := n9_; clear n0_ n1_ n2_ n3_ n4_ n5_ n6_ n7_ n8_ n9_; clear hb hbox hg
                    refine hK.out _ _ ⟨(blk_cell BK212.out 0).trans rfl, (blk_cell BK212.out 1).trans rfl, (blk_cell BK213.out 0).trans rfl, (blk_cell BK213.out 1).trans rfl, ((HB.out.cell (World.block_lt_of_cell? w _ hw214_0)).trans hw214_0), ((HB.out.cell (World.block_lt_of_cell? w _ hw214_1)).trans hw214_1), ((HB.out.cell (World.block_lt_of_cell? w _ hw214_2)).trans hw214_2), ((HB.out.cell (World.block_lt_of_cell? w _ hw215_0)).trans hw215_0), ((HB.out.cell (World.block_lt_of_cell? w _ hw215_1)).trans hw215_1), ((HB.out.cell (World.block_lt_of_cell? w _ hw215_2)).trans hw215_2)⟩ (fun hHeld => ?_); clear hK K
                    refine norm_ (a' := ?_) ?_ ?_; rotate_left
                    · show Act.put _ (some 6) _ = _
                      simp only [Act.put, List.setIfInBounds_toArray, List.set_cons_zero, List.set_cons_succ, i64_w, i32_w]; rfl
                    refine one_ (i := 11) (N := some 7) #[true, true, true, true, true, true, true, true, true, true, true, true, false, false] rfl rfl (one_of HT_.out (by kernel_rfl)) (by decide) (fun K hK => ?_)
                    refine box_step ?hg (N := 7) ?hd (cs := #[.int .i64 0, .slice none 0 0, .slice none 0 0]) (t := 74) ?hr ?_; (case hd => rfl); (case hg => rfl); (case hr => first | (go_simp; done) | (go_simp; rfl)); intro gb217 hg w22 hbox hb; have n0_ := aM (blk_below (g := gb212) (o := .cells #[.int .i64 a0_0, .slice (some ad214) l0_1.length c0_1] 46 (0, 0)) (zB BK212) hb); have n1_ := aM (blk_below (g := gb213) (o := .cells #[.int .i64 a1_0, .slice (some ad215) l1_1.length c1_1] 46 (0, 0)) (zB BK213) hb); have n2_ := aM (blk_below (g := gb216) (o := .cells #[.int .i64 0, .slice none 0 0, .slice none 0 0] 74 (0, 0)) (zB BK216) hb); have n3_ := aM (below_step zz44 hb); have n4_ := aM (hbox); have n5_ := aM ((by rw [hg]; exact (below_size zz44) : w.heap.size ≤ gb217)); have n6_ := aM ((by rw [hg]; exact (below_size zz44) : w.heap.size ≤ gb217)); have n7_ := aM ((by rw [hg]; exact Nat.ne_of_lt (blk_lt (g := gb212) (o := .cells #[.int .i64 a0_0, .slice (some ad214) l0_1.length c0_1] 46 (0, 0)) (zB BK212)) : gb212 ≠ gb217)); have n8_ := aM ((by rw [hg]; exact Nat.ne_of_gt (blk_lt (g := gb212) (o := .cells #[.int .i64 a0_0, .slice (some ad214) l0_1.length c0_1] 46 (0, 0)) (zB BK212)) : gb217 ≠ gb212)); have n9_ := aM ((by rw [hg]; exact Nat.ne_of_lt (blk_lt (g := gb213) (o := .cells #[.int .i64 a1_0, .slice (some ad215) l1_1.length c1_1] 46 (0, 0)) (zB BK213)) : gb213 ≠ gb217)); have n10_ := aM ((by rw [hg]; exact Nat.ne_of_gt (blk_lt (g := gb213) (o := .cells #[.int .i64 a1_0, .slice (some ad215) l1_1.length c1_1] 46 (0, 0)) (zB BK213)) : gb217 ≠ gb213)); have n11_ := aM ((by rw [hg]; exact Nat.ne_of_lt (blk_lt (g := gb216) (o := .cells #[.int .i64 0, .slice none 0 0, .slice none 0 0] 74 (0, 0)) (zB BK216)) : gb216 ≠ gb217)); have n12_ := aM ((by rw [hg]; exact Nat.ne_of_gt (blk_lt (g := gb216) (o := .cells #[.int .i64 0, .slice none 0 0, .slice none 0 0] 74 (0, 0)) (zB BK216)) : gb217 ≠ gb216)); clear BK212; clear BK213; clear BK216; clear HB; have BK212 := n0_; have BK213 := n1_; have BK216 := n2_; have HB := n3_; have BK217 := n4_; have GW217 := n5_; have GE217 := n6_; have NB212_217 := n7_; have NB217_212 := n8_; have NB213_217 := n9_; have NB217_213 := n10_; have NB216_217 := n11_; have NB217_216 := n12_; clear n0_ n1_ n2_ n3_ n4_ n5_ n6_ n7_ n8_ n9_ n10_ n11_ n12_; clear hb hbox hg
                    refine hK.out _ _ ⟨(blk_cell BK212.out 0).trans rfl, (blk_cell BK212.out 1).trans rfl, (blk_cell BK213.out 0).trans rfl, (blk_cell BK213.out 1).trans rfl, ((HB.out.cell (World.block_lt_of_cell? w _ hw214_0)).trans hw214_0), ((HB.out.cell (World.block_lt_of_cell? w _ hw214_1)).trans hw214_1), ((HB.out.cell (World.block_lt_of_cell? w _ hw214_2)).trans hw214_2), ((HB.out.cell (World.block_lt_of_cell? w _ hw215_0)).trans hw215_0), ((HB.out.cell (World.block_lt_of_cell? w _ hw215_1)).trans hw215_1), ((HB.out.cell (World.block_lt_of_cell? w _ hw215_2)).trans hw215_2)⟩ (fun hHeld => ?_); clear hK K
                    refine norm_ (a' := ?_) ?_ ?_; rotate_left
                    · show Act.put _ (some 7) _ = _
                      simp only [Act.put, List.setIfInBounds_toArray, List.set_cons_zero, List.set_cons_succ, i64_w, i32_w]; rfl
                    exact norm_ zz99 (hCont (gb216, gb217) _ ⟨hHeld, (zB BK212), (zB BK213), (zB BK216), (zB BK217), GW216.out, GE216.out, NB212_216.out, NB216_212.out, NB213_216.out, NB216_213.out, NB217_216.out, NB216_217.out, GW217.out, GE217.out, NB212_217.out, NB217_212.out, NB213_217.out, NB217_213.out, zz37⟩)
                  · skip
                    refine box_step ?hg (N := 7) ?hd (cs := #[.int .i64 0, .slice none 0 0, .slice none 0 0]) (t := 74) ?hr ?_; (case hd => rfl); (case hg => rfl); (case hr => first | (go_simp; done) | (go_simp; rfl)); intro gb217 hg w21 hbox hb; have n0_ := aM (blk_below (g := gb212) (o := .cells #[.int .i64 a0_0, .slice (some ad214) l0_1.length c0_1] 46 (0, 0)) (zB BK212) hb); have n1_ := aM (blk_below (g := gb213) (o := .cells #[.int .i64 a1_0, .slice (some ad215) l1_1.length c1_1] 46 (0, 0)) (zB BK213) hb); have n2_ := aM (below_step zz52 hb); have n3_ := aM (hbox); have n4_ := aM ((by rw [hg]; exact (below_size zz52) : w.heap.size ≤ gb217)); have n5_ := aM ((by rw [hg]; exact (below_size zz52) : w.heap.size ≤ gb217)); have n6_ := aM ((by rw [hg]; exact Nat.ne_of_lt (blk_lt (g := gb212) (o := .cells #[.int .i64 a0_0, .slice (some ad214) l0_1.length c0_1] 46 (0, 0)) (zB BK212)) : gb212 ≠ gb217)); have n7_ := aM ((by rw [hg]; exact Nat.ne_of_gt (blk_lt (g := gb212) (o := .cells #[.int .i64 a0_0, .slice (some ad214) l0_1.length c0_1] 46 (0, 0)) (zB BK212)) : gb217 ≠ gb212)); have n8_ := aM ((by rw [hg]; exact Nat.ne_of_lt (blk_lt (g := gb213) (o := .cells #[.int .i64 a1_0, .slice (some ad215) l1_1.length c1_1] 46 (0, 0)) (zB BK213)) : gb213 ≠ gb217)); have n9_ := aM ((by rw [hg]; exact Nat.ne_of_gt (blk_lt (g := gb213) (o := .cells #[.int .i64 a1_0, .slice (some ad215) l1_1.length c1_1] 46 (0, 0)) (zB BK213)) : gb217 ≠ gb213)); clear BK212; clear BK213; clear HB; have BK212 := n0_; have BK213 := n1_; have HB := n2_; have BK217 := n3_; have GW217 := n4_; have GE217 := n5_; have NB212_217 := n6_; have NB217_212 := n7_; have NB213_217 := n8_; have NB217_213 := n9_; clear n0_ n1_ n2_ n3_ n4_ n5_ n6_ n7_ n8_ n9_; clear hb hbox hg
                    refine hK.out _ _ ⟨(blk_cell BK212.out 0).trans rfl, (blk_cell BK212.out 1).trans rfl, (blk_cell BK213.out 0).trans rfl, (blk_cell BK213.out 1).trans rfl, ((HB.out.cell (World.block_lt_of_cell? w _ hw214_0)).trans hw214_0), ((HB.out.cell (World.block_lt_of_cell? w _ hw214_1)).trans hw214_1), ((HB.out.cell (World.block_lt_of_cell? w _ hw214_2)).trans hw214_2), ((HB.out.cell (World.block_lt_of_cell? w _ hw215_0)).trans hw215_0), ((HB.out.cell (World.block_lt_of_cell? w _ hw215_1)).trans hw215_1), ((HB.out.cell (World.block_lt_of_cell? w _ hw215_2)).trans hw215_2)⟩ (fun hHeld => ?_); clear hK K
                    refine norm_ (a' := ?_) ?_ ?_; rotate_left
                    · show Act.put _ (some 7) _ = _
                      simp only [Act.put, List.setIfInBounds_toArray, List.set_cons_zero, List.set_cons_succ, i64_w, i32_w]; rfl
                    refine one_ (i := 10) (N := some 6) #[true, true, true, true, true, true, true, true, true, true, true, true, false, false] rfl rfl (one_of HT_.out (by kernel_rfl)) (by decide) (fun K hK => ?_)
                    refine box_step ?hg (N := 6) ?hd (cs := #[.int .i64 0, .slice none 0 0, .slice none 0 0]) (t := 74) ?hr ?_; (case hd => rfl); (case hg => rfl); (case hr => first | (go_simp; done) | (go_simp; rfl)); intro gb216 hg w22 hbox hb; have n0_ := aM (blk_below (g := gb212) (o := .cells #[.int .i64 a0_0, .slice (some ad214) l0_1.length c0_1] 46 (0, 0)) (zB BK212) hb); have n1_ := aM (blk_below (g := gb213) (o := .cells #[.int .i64 a1_0, .slice (some ad215) l1_1.length c1_1] 46 (0, 0)) (zB BK213) hb); have n2_ := aM (blk_below (g := gb217) (o := .cells #[.int .i64 0, .slice none 0 0, .slice none 0 0] 74 (0, 0)) (zB BK217) hb); have n3_ := aM (below_step zz45 hb); have n4_ := aM (hbox); have n5_ := aM ((by rw [hg]; exact (below_size zz45) : w.heap.size ≤ gb216)); have n6_ := aM ((by rw [hg]; exact (below_size zz45) : w.heap.size ≤ gb216)); have n7_ := aM ((by rw [hg]; exact Nat.ne_of_lt (blk_lt (g := gb212) (o := .cells #[.int .i64 a0_0, .slice (some ad214) l0_1.length c0_1] 46 (0, 0)) (zB BK212)) : gb212 ≠ gb216)); have n8_ := aM ((by rw [hg]; exact Nat.ne_of_gt (blk_lt (g := gb212) (o := .cells #[.int .i64 a0_0, .slice (some ad214) l0_1.length c0_1] 46 (0, 0)) (zB BK212)) : gb216 ≠ gb212)); have n9_ := aM ((by rw [hg]; exact Nat.ne_of_lt (blk_lt (g := gb213) (o := .cells #[.int .i64 a1_0, .slice (some ad215) l1_1.length c1_1] 46 (0, 0)) (zB BK213)) : gb213 ≠ gb216)); have n10_ := aM ((by rw [hg]; exact Nat.ne_of_gt (blk_lt (g := gb213) (o := .cells #[.int .i64 a1_0, .slice (some ad215) l1_1.length c1_1] 46 (0, 0)) (zB BK213)) : gb216 ≠ gb213)); have n11_ := aM ((by rw [hg]; exact Nat.ne_of_lt (blk_lt (g := gb217) (o := .cells #[.int .i64 0, .slice none 0 0, .slice none 0 0] 74 (0, 0)) (zB BK217)) : gb217 ≠ gb216)); have n12_ := aM ((by rw [hg]; exact Nat.ne_of_gt (blk_lt (g := gb217) (o := .cells #[.int .i64 0, .slice none 0 0, .slice none 0 0] 74 (0, 0)) (zB BK217)) : gb216 ≠ gb217)); clear BK212; clear BK213; clear BK217; clear HB; have BK212 := n0_; have BK213 := n1_; have BK217 := n2_; have HB := n3_; have BK216 := n4_; have GW216 := n5_; have GE216 := n6_; have NB212_216 := n7_; have NB216_212 := n8_; have NB213_216 := n9_; have NB216_213 := n10_; have NB217_216 := n11_; have NB216_217 := n12_; clear n0_ n1_ n2_ n3_ n4_ n5_ n6_ n7_ n8_ n9_ n10_ n11_ n12_; clear hb hbox hg
                    refine hK.out _ _ ⟨(blk_cell BK212.out 0).trans rfl, (blk_cell BK212.out 1).trans rfl, (blk_cell BK213.out 0).trans rfl, (blk_cell BK213.out 1).trans rfl, ((HB.out.cell (World.block_lt_of_cell? w _ hw214_0)).trans hw214_0), ((HB.out.cell (World.block_lt_of_cell? w _ hw214_1)).trans hw214_1), ((HB.out.cell (World.block_lt_of_cell? w _ hw214_2)).trans hw214_2), ((HB.out.cell (World.block_lt_of_cell? w _ hw215_0)).trans hw215_0), ((HB.out.cell (World.block_lt_of_cell? w _ hw215_1)).trans hw215_1), ((HB.out.cell (World.block_lt_of_cell? w _ hw215_2)).trans hw215_2)⟩ (fun hHeld => ?_); clear hK K
                    refine norm_ (a' := ?_) ?_ ?_; rotate_left
                    · show Act.put _ (some 6) _ = _
                      simp only [Act.put, List.setIfInBounds_toArray, List.set_cons_zero, List.set_cons_succ, i64_w, i32_w]; rfl
                    exact norm_ zz99 (hCont (gb216, gb217) _ ⟨hHeld, (zB BK212), (zB BK213), (zB BK216), (zB BK217), GW216.out, GE216.out, NB212_216.out, NB216_212.out, NB213_216.out, NB216_213.out, NB217_216.out, NB216_217.out, GW217.out, GE217.out, NB212_217.out, NB217_212.out, NB213_217.out, NB217_213.out, (by repeat (first | (with_reducible first | exact HB.out | apply below_alloc | apply pw_below_drewN | apply below_drew1 | refine below_set ?_ GE212.out | refine below_set ?_ GE213.out | refine below_set ?_ GE217.out | refine below_set ?_ GE216.out) | exact HB.out))⟩)
                rintro ⟨gb216, gb217⟩ w23 ⟨hS_, h0_, h1_, h2_, h3_, h4_, h5_, h6_, h7_, h8_, h9_, h10_, h11_, h12_, h13_, h14_, h15_, h16_, h17_, h18_⟩; have n0_ : Aside0 (w23.heap[gb212]? = some (.cells #[.int .i64 a0_0, .slice (some ad214) l0_1.length c0_1] 46 (0, 0))) := ⟨h0_⟩; have n1_ : Aside0 (w23.heap[gb213]? = some (.cells #[.int .i64 a1_0, .slice (some ad215) l1_1.length c1_1] 46 (0, 0))) := ⟨h1_⟩; have n2_ : Aside0 (w23.heap[gb216]? = some (.cells #[.int .i64 0, .slice none 0 0, .slice none 0 0] 74 (0, 0))) := ⟨h2_⟩; have n3_ : Aside0 (w23.heap[gb217]? = some (.cells #[.int .i64 0, .slice none 0 0, .slice none 0 0] 74 (0, 0))) := ⟨h3_⟩; have n4_ : Aside0 (w.heap.size ≤ gb216) := ⟨h4_⟩; have n5_ : Aside0 (w.heap.size ≤ gb216) := ⟨h5_⟩; have n6_ : Aside0 (gb212 ≠ gb216) := ⟨h6_⟩; have n7_ : Aside0 (gb216 ≠ gb212) := ⟨h7_⟩; have n8_ : Aside0 (gb213 ≠ gb216) := ⟨h8_⟩; have n9_ : Aside0 (gb216 ≠ gb213) := ⟨h9_⟩; have n10_ : Aside0 (gb217 ≠ gb216) := ⟨h10_⟩; have n11_ : Aside0 (gb216 ≠ gb217) := ⟨h11_⟩; have n12_ : Aside0 (w.heap.size ≤ gb217) := ⟨h12_⟩; have n13_ : Aside0 (w.heap.size ≤ gb217) := ⟨h13_⟩; have n14_ : Aside0 (gb212 ≠ gb217) := ⟨h14_⟩; have n15_ : Aside0 (gb217 ≠ gb212) := ⟨h15_⟩; have n16_ : Aside0 (gb213 ≠ gb217) := ⟨h16_⟩; have n17_ : Aside0 (gb217 ≠ gb213) := ⟨h17_⟩; have n18_ : Aside0 (Below w.heap.size w w23) := ⟨h18_⟩; clear BK212; clear BK213; clear HB; clear h0_ h1_ h2_ h3_ h4_ h5_ h6_ h7_ h8_ h9_ h10_ h11_ h12_ h13_ h14_ h15_ h16_ h17_ h18_; have BK212 := n0_; have BK213 := n1_; have BK216 := n2_; have BK217 := n3_; have GW216 := n4_; have GE216 := n5_; have NB212_216 := n6_; have NB216_212 := n7_; have NB213_216 := n8_; have NB216_213 := n9_; have NB217_216 := n10_; have NB216_217 := n11_; have GW217 := n12_; have GE217 := n13_; have NB212_217 := n14_; have NB217_212 := n15_; have NB213_217 := n16_; have NB217_213 := n17_; have HB := n18_; clear n0_ n1_ n2_ n3_ n4_ n5_ n6_ n7_ n8_ n9_ n10_ n11_ n12_ n13_ n14_ n15_ n16_ n17_ n18_; have hHeld : w23.cell? ⟨gb212, 0, none⟩ = some (.int .i64 a0_0) ∧ w23.cell? ⟨gb212, 1, none⟩ = some (.slice (some ad214) l0_1.length c0_1) ∧ w23.cell? ⟨gb213, 0, none⟩ = some (.int .i64 a1_0) ∧ w23.cell? ⟨gb213, 1, none⟩ = some (.slice (some ad215) l1_1.length c1_1) ∧ w23.cell? (ad214.add ((x5_2).toNat * 3)) = some (.int .i64 ((rd_T74 l0_1 x5_2).f0)) ∧ w23.cell? ⟨(ad214.add ((x5_2).toNat * 3)).block, (ad214.add ((x5_2).toNat * 3)).off + 1, none⟩ = some (.slice A214_1 ((rd_T74 l0_1 x5_2).f1).length c214_1) ∧ w23.cell? ⟨(ad214.add ((x5_2).toNat * 3)).block, (ad214.add ((x5_2).toNat * 3)).off + 2, none⟩ = some (.slice A214_2 ((rd_T74 l0_1 x5_2).f2).length c214_2) ∧ w23.cell? (ad215.add ((x5_2).toNat * 3)) = some (.int .i64 ((rd_T74 l1_1 x5_2).f0)) ∧ w23.cell? ⟨(ad215.add ((x5_2).toNat * 3)).block, (ad215.add ((x5_2).toNat * 3)).off + 1, none⟩ = some (.slice A215_1 ((rd_T74 l1_1 x5_2).f1).length c215_1) ∧ w23.cell? ⟨(ad215.add ((x5_2).toNat * 3)).block, (ad215.add ((x5_2).toNat * 3)).off + 2, none⟩ = some (.slice A215_2 ((rd_T74 l1_1 x5_2).f2).length c215_2) := hS_
                refine norm_ (a' := ?_) ?_ ?_; rotate_left
                · simp only [putAll, Act.put, List.setIfInBounds_toArray, List.set_cons_zero, List.set_cons_succ]; rfl
                refine one_ (i := 12) (N := none) #[true, true, true, true, true, true, true, true, true, true, true, true, true, false] rfl rfl (one_of HT_.out (by kernel_rfl)) (by decide) (fun K hK => ?_); have hs24 : w23.cell? ⟨gb216, 0, none⟩ = some (.int .i64 0) := (blk_cell BK216.out 0).trans rfl; have hfs24 := blk_frozen BK216.out 0; have hns24_0 := NB212_216.out; have hns24_1 := NB213_216.out; have hns24_3 := NB217_216.out; have hms24_0 := NB216_212.out; have hms24_1 := NB216_213.out; have hms24_3 := NB216_217.out; have hs25 : w23.cell? ⟨gb216, 1, none⟩ = some (.slice none 0 0) := (blk_cell BK216.out 1).trans rfl; have hfs25 := blk_frozen BK216.out 1; have hns25_0 := NB212_216.out; have hns25_1 := NB213_216.out; have hns25_3 := NB217_216.out; have hms25_0 := NB216_212.out; have hms25_1 := NB216_213.out; have hms25_3 := NB216_217.out; have hs26 : w23.cell? ⟨gb216, 2, none⟩ = some (.slice none 0 0) := (blk_cell BK216.out 2).trans rfl; have hfs26 := blk_frozen BK216.out 2; have hns26_0 := NB212_216.out; have hns26_1 := NB213_216.out; have hns26_3 := NB217_216.out; have hms26_0 := NB216_212.out; have hms26_1 := NB216_213.out; have hms26_3 := NB216_217.out
                refine skip_ (w1 := ?_) (by rfl) rfl ?_ ?_; rotate_left
                · go_simp; rfl
                refine hK.out _ _ ⟨((cell_far (p := ⟨gb216, _, none⟩) NB212_216.out _).trans (((cell_far (p := ⟨gb216, _, none⟩) NB212_216.out _).trans (((cell_far (p := ⟨gb216, _, none⟩) NB212_216.out _).trans (hHeld.1)))))), ((cell_far (p := ⟨gb216, _, none⟩) NB212_216.out _).trans (((cell_far (p := ⟨gb216, _, none⟩) NB212_216.out _).trans (((cell_far (p := ⟨gb216, _, none⟩) NB212_216.out _).trans (hHeld.2.1)))))), ((cell_far (p := ⟨gb216, _, none⟩) NB213_216.out _).trans (((cell_far (p := ⟨gb216, _, none⟩) NB213_216.out _).trans (((cell_far (p := ⟨gb216, _, none⟩) NB213_216.out _).trans (hHeld.2.2.1)))))), ((cell_far (p := ⟨gb216, _, none⟩) NB213_216.out _).trans (((cell_far (p := ⟨gb216, _, none⟩) NB213_216.out _).trans (((cell_far (p := ⟨gb216, _, none⟩) NB213_216.out _).trans (hHeld.2.2.2.1)))))), ((cell_far (p := ⟨gb216, _, none⟩) zz7 _).trans (((cell_far (p := ⟨gb216, _, none⟩) zz7 _).trans (((cell_far (p := ⟨gb216, _, none⟩) zz7 _).trans (hHeld.2.2.2.2.1)))))), ((cell_far (p := ⟨gb216, _, none⟩) zz8 _).trans (((cell_far (p := ⟨gb216, _, none⟩) zz8 _).trans (((cell_far (p := ⟨gb216, _, none⟩) zz8 _).trans (hHeld.2.2.2.2.2.1)))))), ((cell_far (p := ⟨gb216, _, none⟩) zz9 _).trans (((cell_far (p := ⟨gb216, _, none⟩) zz9 _).trans (((cell_far (p := ⟨gb216, _, none⟩) zz9 _).trans (hHeld.2.2.2.2.2.2.1)))))), ((cell_far (p := ⟨gb216, _, none⟩) zz10 _).trans (((cell_far (p := ⟨gb216, _, none⟩) zz10 _).trans (((cell_far (p := ⟨gb216, _, none⟩) zz10 _).trans (hHeld.2.2.2.2.2.2.2.1)))))), ((cell_far (p := ⟨gb216, _, none⟩) zz11 _).trans (((cell_far (p := ⟨gb216, _, none⟩) zz11 _).trans (((cell_far (p := ⟨gb216, _, none⟩) zz11 _).trans (hHeld.2.2.2.2.2.2.2.2.1)))))), ((cell_far (p := ⟨gb216, _, none⟩) zz12 _).trans (((cell_far (p := ⟨gb216, _, none⟩) zz12 _).trans (((cell_far (p := ⟨gb216, _, none⟩) zz12 _).trans (hHeld.2.2.2.2.2.2.2.2.2))))))⟩ (fun hHeld => ?_); clear hK K
                refine one_ (i := 13) (N := none) #[true, true, true, true, true, true, true, true, true, true, true, true, true, true] rfl rfl (one_of HT_.out (by kernel_rfl)) (by decide) (fun K hK => ?_); have hs27 : w23.cell? ⟨gb217, 0, none⟩ = some (.int .i64 0) := (blk_cell BK217.out 0).trans rfl; have hfs27 := blk_frozen BK217.out 0; have hns27_0 := NB212_217.out; have hns27_1 := NB213_217.out; have hns27_2 := NB216_217.out; have hms27_0 := NB217_212.out; have hms27_1 := NB217_213.out; have hms27_2 := NB217_216.out; have hs28 : w23.cell? ⟨gb217, 1, none⟩ = some (.slice none 0 0) := (blk_cell BK217.out 1).trans rfl; have hfs28 := blk_frozen BK217.out 1; have hns28_0 := NB212_217.out; have hns28_1 := NB213_217.out; have hns28_2 := NB216_217.out; have hms28_0 := NB217_212.out; have hms28_1 := NB217_213.out; have hms28_2 := NB217_216.out; have hs29 : w23.cell? ⟨gb217, 2, none⟩ = some (.slice none 0 0) := (blk_cell BK217.out 2).trans rfl; have hfs29 := blk_frozen BK217.out 2; have hns29_0 := NB212_217.out; have hns29_1 := NB213_217.out; have hns29_2 := NB216_217.out; have hms29_0 := NB217_212.out; have hms29_1 := NB217_213.out; have hms29_2 := NB217_216.out
                refine skip_ (w1 := ?_) (by rfl) rfl ?_ ?_; rotate_left
                · go_simp; rfl
                refine hK.out _ _ ⟨((cell_far (p := ⟨gb217, _, none⟩) NB212_217.out _).trans (((cell_far (p := ⟨gb217, _, none⟩) NB212_217.out _).trans (((cell_far (p := ⟨gb217, _, none⟩) NB212_217.out _).trans (hHeld.1)))))), ((cell_far (p := ⟨gb217, _, none⟩) NB212_217.out _).trans (((cell_far (p := ⟨gb217, _, none⟩) NB212_217.out _).trans (((cell_far (p := ⟨gb217, _, none⟩) NB212_217.out _).trans (hHeld.2.1)))))), ((cell_far (p := ⟨gb217, _, none⟩) NB213_217.out _).trans (((cell_far (p := ⟨gb217, _, none⟩) NB213_217.out _).trans (((cell_far (p := ⟨gb217, _, none⟩) NB213_217.out _).trans (hHeld.2.2.1)))))), ((cell_far (p := ⟨gb217, _, none⟩) NB213_217.out _).trans (((cell_far (p := ⟨gb217, _, none⟩) NB213_217.out _).trans (((cell_far (p := ⟨gb217, _, none⟩) NB213_217.out _).trans (hHeld.2.2.2.1)))))), ((cell_far (p := ⟨gb217, _, none⟩) zz13 _).trans (((cell_far (p := ⟨gb217, _, none⟩) zz13 _).trans (((cell_far (p := ⟨gb217, _, none⟩) zz13 _).trans (hHeld.2.2.2.2.1)))))), ((cell_far (p := ⟨gb217, _, none⟩) zz14 _).trans (((cell_far (p := ⟨gb217, _, none⟩) zz14 _).trans (((cell_far (p := ⟨gb217, _, none⟩) zz14 _).trans (hHeld.2.2.2.2.2.1)))))), ((cell_far (p := ⟨gb217, _, none⟩) zz15 _).trans (((cell_far (p := ⟨gb217, _, none⟩) zz15 _).trans (((cell_far (p := ⟨gb217, _, none⟩) zz15 _).trans (hHeld.2.2.2.2.2.2.1)))))), ((cell_far (p := ⟨gb217, _, none⟩) zz16 _).trans (((cell_far (p := ⟨gb217, _, none⟩) zz16 _).trans (((cell_far (p := ⟨gb217, _, none⟩) zz16 _).trans (hHeld.2.2.2.2.2.2.2.1)))))), ((cell_far (p := ⟨gb217, _, none⟩) zz17 _).trans (((cell_far (p := ⟨gb217, _, none⟩) zz17 _).trans (((cell_far (p := ⟨gb217, _, none⟩) zz17 _).trans (hHeld.2.2.2.2.2.2.2.2.1)))))), ((cell_far (p := ⟨gb217, _, none⟩) zz18 _).trans (((cell_far (p := ⟨gb217, _, none⟩) zz18 _).trans (((cell_far (p := ⟨gb217, _, none⟩) zz18 _).trans (hHeld.2.2.2.2.2.2.2.2.2))))))⟩ (fun hHeld => ?_); clear hK K
                refine done_ (done_of HT_.out (by kernel_rfl)) ?_
                go_upto_region 7 with (fail)
                go_cut [59] (fun v59 wc => ∃ (kq : Nat) (x59_16 : Bool), v59 = .bool x59_16 ∧ Aside0 (r30_Same.j2 kq x5_2 x59_16 a0_0 l0_1 a1_0 l1_1 = some r) ∧ Aside0 (kq ≤ k2) ∧ Aside0 (wc.heap[gb212]? = some (.cells #[.int .i64 a0_0, (.slice (some ad214) l0_1.length c0_1)] 46 (0, 0))) ∧ Aside0 (wc.heap[gb213]? = some (.cells #[.int .i64 a1_0, (.slice (some ad215) l1_1.length c1_1)] 46 (0, 0))) ∧ Aside0 (wc.heap[gb216]? = some (.cells #[.int .i64 ((rd_T74 l0_1 x5_2).f0), (.slice A214_1 ((rd_T74 l0_1 x5_2).f1).length c214_1), (.slice A214_2 ((rd_T74 l0_1 x5_2).f2).length c214_2)] 74 (0, 0))) ∧ Aside0 (wc.heap[gb217]? = some (.cells #[.int .i64 ((rd_T74 l1_1 x5_2).f0), (.slice A215_1 ((rd_T74 l1_1 x5_2).f1).length c215_1), (.slice A215_2 ((rd_T74 l1_1 x5_2).f2).length c215_2)] 74 (0, 0))) ∧ Aside0 (Below w.heap.size w wc))
                case first =>
                  have H := HC17.out; clear HC17
                  by_cases c30 : ((rd_T74 l0_1 x5_2).f0) = ((rd_T74 l1_1 x5_2).f0)
                  · rw [if_pos c30] at H; have c30b0 := beq_iff_eq.mpr c30; have c30b1 := bne_eq_false_iff_eq.mpr c30; clear c30
                    (first | rw [c30b0] | (simp only [i64_w, i32_w]; rw [c30b0]) | skip)
                    replace H := Option.bind_eq_some_iff.mp H; obtain ⟨t218, A310, H⟩ := H; replace H : (if t218 = true then ((r09_SameRows.f k2 ((rd_T74 l0_1 x5_2).f2) ((rd_T74 l1_1 x5_2).f2)).bind fun t219 => (r30_Same.j2 k2 x5_2 (!t219) a0_0 l0_1 a1_0 l1_1)) else (r30_Same.j2 k2 x5_2 true a0_0 l0_1 a1_0 l1_1)) = some r := H; have A31 := aM A310; clear A310
                    by_cases c32 : t218 = true
                    · subst c32; have H1 : ((r09_SameRows.f k2 ((rd_T74 l0_1 x5_2).f2) ((rd_T74 l1_1 x5_2).f2)).bind fun t219 => (r30_Same.j2 k2 x5_2 (!t219) a0_0 l0_1 a1_0 l1_1)) = some r := by rw [if_pos rfl] at H; exact H
                      clear H; have H := H1; clear H1; replace H := Option.bind_eq_some_iff.mp H; obtain ⟨t219, A330, H⟩ := H; replace H : (r30_Same.j2 k2 x5_2 (!t219) a0_0 l0_1 a1_0 l1_1) = some r := H; have A33 := aM A330; clear A330; have H' := aM H; clear H; have hnb34 := NB216_212.out; have hnc34 := NB212_216.out; have hnb35 := NB216_213.out; have hnc35 := NB213_216.out; have hnb36 := NB216_217.out; have hnc36 := NB217_216.out; have hcz37_0 : w23.cell? ⟨gb216, 0, none⟩ = some (.int .i64 0) := (blk_cell BK216.out 0).trans rfl; have hcz37_1 : w23.cell? ⟨gb216, 1, none⟩ = some (.slice none 0 0) := (blk_cell BK216.out 1).trans rfl; have hcz37_2 : w23.cell? ⟨gb216, 2, none⟩ = some (.slice none 0 0) := (blk_cell BK216.out 2).trans rfl; have hfz37_0 := blk_frozen BK216.out 0; have hfz37_1 := blk_frozen BK216.out 1; have hfz37_2 := blk_frozen BK216.out 2; have hnb38 := NB217_212.out; have hnc38 := NB212_217.out; have hnb39 := NB217_213.out; have hnc39 := NB213_217.out; have hcz40_0 : w23.cell? ⟨gb217, 0, none⟩ = some (.int .i64 0) := (blk_cell BK217.out 0).trans rfl; have hcz40_1 : w23.cell? ⟨gb217, 1, none⟩ = some (.slice none 0 0) := (blk_cell BK217.out 1).trans rfl; have hcz40_2 : w23.cell? ⟨gb217, 2, none⟩ = some (.slice none 0 0) := (blk_cell BK217.out 2).trans rfl; have hfz40_0 := blk_frozen BK217.out 0; have hfz40_1 := blk_frozen BK217.out 1; have hfz40_2 := blk_frozen BK217.out 2
                      go_wp2_with (first | (go_at_call 15; (with_reducible refine (r09_SameInts.calls k2 _ _ ((rd_T74 l0_1 x5_2).f1) _ _ ((rd_T74 l1_1 x5_2).f1) true _ ?side1 ?side2 ?side3 ?side4 A31.out).mono ?_); (case side1 => exact Kd.C_below HR214_1.out zz37); (case side2 => exact HC214_1.out); (case side3 => exact Kd.C_below HR215_1.out zz37); (case side4 => exact HC215_1.out); rintro e w' ⟨rfl, ⟨nd, rfl⟩⟩) | (go_at_call 24; (with_reducible refine (r09_SameRows.calls k2 _ _ ((rd_T74 l0_1 x5_2).f2) _ _ ((rd_T74 l1_1 x5_2).f2) t219 _ ?side1 ?side2 ?side3 ?side4 A33.out).mono ?_); (case side1 => exact Kd.C_below HR214_2.out zz37); (case side2 => exact HC214_2.out); (case side3 => exact Kd.C_below HR215_2.out zz37); (case side4 => exact HC215_2.out); rintro e w' ⟨rfl, ⟨nd, rfl⟩⟩))
                      go_meet
                      case rel => exact ⟨_, (!t219), zz112, H', ⟨zz108⟩, ⟨zz3⟩, ⟨zz4⟩, ⟨zz0⟩, ⟨zz1⟩, ⟨zz37⟩⟩
                    replace c32 := Bool.eq_false_iff.mpr c32; subst c32; have H1 : (r30_Same.j2 k2 x5_2 true a0_0 l0_1 a1_0 l1_1) = some r := by rw [if_neg (show ¬ (false = true) by decide)] at H; exact H
                    clear H; have H := H1; clear H1
                    exact absurd (H.trans (congrArg some HR_.out)) (by cases k2 <;> simp [r30_Same.j2])
                  rw [if_neg c30] at H; have c30b0 := beq_eq_false_iff_ne.mpr c30; have c30b1 := bne_iff_ne.mpr c30
                  (first | rw [c30b0] | (simp only [i64_w, i32_w]; rw [c30b0]) | skip)
                  have H' := aM H; clear H; have hnb48 := NB216_212.out; have hnc48 := NB212_216.out; have hnb49 := NB216_213.out; have hnc49 := NB213_216.out; have hnb50 := NB216_217.out; have hnc50 := NB217_216.out; have hcz51_0 : w23.cell? ⟨gb216, 0, none⟩ = some (.int .i64 0) := (blk_cell BK216.out 0).trans rfl; have hcz51_1 : w23.cell? ⟨gb216, 1, none⟩ = some (.slice none 0 0) := (blk_cell BK216.out 1).trans rfl; have hcz51_2 : w23.cell? ⟨gb216, 2, none⟩ = some (.slice none 0 0) := (blk_cell BK216.out 2).trans rfl; have hfz51_0 := blk_frozen BK216.out 0; have hfz51_1 := blk_frozen BK216.out 1; have hfz51_2 := blk_frozen BK216.out 2; have hnb52 := NB217_212.out; have hnc52 := NB212_217.out; have hnb53 := NB217_213.out; have hnc53 := NB213_217.out; have hcz54_0 : w23.cell? ⟨gb217, 0, none⟩ = some (.int .i64 0) := (blk_cell BK217.out 0).trans rfl; have hcz54_1 : w23.cell? ⟨gb217, 1, none⟩ = some (.slice none 0 0) := (blk_cell BK217.out 1).trans rfl; have hcz54_2 : w23.cell? ⟨gb217, 2, none⟩ = some (.slice none 0 0) := (blk_cell BK217.out 2).trans rfl; have hfz54_0 := blk_frozen BK217.out 0; have hfz54_1 := blk_frozen BK217.out 1; have hfz54_2 := blk_frozen BK217.out 2; go_wp2; go_meet
                  case rel => exact ⟨_, (true), zz112, H', ⟨zz108⟩, ⟨zz3⟩, ⟨zz4⟩, ⟨zz0⟩, ⟨zz1⟩, ⟨zz37⟩⟩
                case rest =>
                  clear HC17; (try clear c1); (try clear c2); (try clear p2); (try clear q2); (try clear hx2); (try clear c3); (try clear c4); (try clear c5); (try clear c6); (try clear c6b0); (try clear c6b1); (try clear c7); (try clear c10); (try clear c13); (try clear c14); (try clear c14b0); (try clear c15); (try clear c15b0); (try clear c16); (try clear c16b0); (try clear c18); (try clear c21); (try clear p21); (try clear q21); (try clear hx21); (try clear c30); (try clear c30b0); (try clear c30b1); (try clear c32); (try clear c34); (try clear c35); (try clear c36); (try clear c38); (try clear c39); (try clear c41); (try clear c42); (try clear c43); (try clear c45); (try clear c46); (try clear c48); (try clear c49); (try clear c50); (try clear c52); (try clear c53); (try clear hcz11_0); (try clear hcz11_1); (try clear hcz12_0); (try clear hcz12_1); (try clear hcz19_0); (try clear hcz19_1); (try clear hcz37_0); (try clear hcz37_1); (try clear hcz37_2); (try clear hcz40_0); (try clear hcz40_1); (try clear hcz40_2); (try clear hcz44_0); (try clear hcz44_1); (try clear hcz44_2); (try clear hcz47_0); (try clear hcz47_1); (try clear hcz47_2); (try clear hcz51_0); (try clear hcz51_1); (try clear hcz51_2); (try clear hcz54_0); (try clear hcz54_1); (try clear hcz54_2); (try clear hcz8_0); (try clear hcz8_1); (try clear hcz9_0); (try clear hcz9_1); (try clear hfz11_0); (try clear hfz11_1); (try clear hfz12_0); (try clear hfz12_1); (try clear hfz19_0); (try clear hfz19_1); (try clear hfz37_0); (try clear hfz37_1); (try clear hfz37_2); (try clear hfz40_0); (try clear hfz40_1); (try clear hfz40_2); (try clear hfz44_0); (try clear hfz44_1); (try clear hfz44_2); (try clear hfz47_0); (try clear hfz47_1); (try clear hfz47_2); (try clear hfz51_0); (try clear hfz51_1); (try clear hfz51_2); (try clear hfz54_0); (try clear hfz54_1); (try clear hfz54_2); (try clear hfz8_0); (try clear hfz8_1); (try clear hfz9_0); (try clear hfz9_1); (try clear hx214_0); (try clear hx214_1); (try clear hx214_2); (try clear hx215_0); (try clear hx215_1); (try clear hx215_2); (try clear p2); (try clear p214); (try clear p215); (try clear q214); (try clear q215); obtain ⟨kq, x59_16, rfl, HA, HJ16, BK212, BK213, BK216, BK217, HB⟩ := hcut
                  cases kq with
                  | zero => exact absurd HA.out (by simp [r30_Same.j2])
                  | succ kj16 =>
                    have H := HA.out; clear HA; simp only [r30_Same.j2] at H
                    by_cases c55 : x59_16 = true
                    · subst c55; have H1 : (some false) = some r := by rw [if_pos rfl] at H; exact H
                      clear H; have H := H1; clear H1
                      exact absurd (Option.some.inj (H.trans (congrArg some HR_.out))) (by decide)
                    replace c55 := Bool.eq_false_iff.mpr c55; subst c55; have H1 : (r30_Same.l0 kj16 (wrap64 (x5_2 + 1)) a0_0 l0_1 a1_0 l1_1) = some r := by rw [if_neg (show ¬ (false = true) by decide)] at H; exact H
                    clear H; have H := H1; clear H1; have H' := aM H; clear H; go_wp2
                    go_roundg kj16
                    case measure => have := HJ2.out; have := HK2.out; have := HJ16.out; omega
                    case rel => exact ⟨(wrap64 (x5_2 + 1)), zz112, H', ⟨(by have := HJ2.out; have := HK2.out; have := HJ16.out; omega)⟩, ⟨(zB BK212)⟩, ⟨(zB BK213)⟩, ⟨zz37⟩⟩
              rw [if_neg c16] at H
              exact absurd H (by simp)
            rw [if_neg c15] at H
            exact absurd H (by simp)
          rw [if_neg c14] at H; have c14b0 := decide_eq_false c14; clear c14; obtain rfl := Option.some.inj H; have hnb56 := NB212_213.out; have hnc56 := NB213_212.out; have hcz57_0 : wr.cell? ⟨gb212, 0, none⟩ = some (.int .i64 a0_0) := (blk_cell BK212.out 0).trans rfl; have hcz57_1 : wr.cell? ⟨gb212, 1, none⟩ = some (.slice A0_1 l0_1.length c0_1) := (blk_cell BK212.out 1).trans rfl; have hfz57_0 := blk_frozen BK212.out 0; have hfz57_1 := blk_frozen BK212.out 1; go_wp2; go_ret
          exact ⟨by first | rfl | (simp [errW_none, errW_some] <;> rfl) | (simp [*, errW_none, errW_some] <;> rfl), by repeat (first | (with_reducible first | exact HB.out | apply below_alloc | apply pw_below_drewN | apply below_drew1 | refine below_set ?_ GE212.out | refine below_set ?_ GE213.out) | exact HB.out)⟩
end
section
attribute [local go_sem] max2_int min2_int max_two min_two max_three min_three max_four min_four
mutual
def perm_Compose.l0 : Nat → List (List Int) → List (List Int) → Int → Int → Option (List Int × Int)
  | 0, _, _, _, _ => none
  | k + 1, x0, x13, x14, x15 => if x15 < x14 then (if 0 ≤ x15 then (if x15 < (x13.length : Int) then ((perm_Check.f (rd_L1 x13 x15)).bind fun t112 => (if t112 = 0 then (perm_Compose.l0 k x0 x13 x14 (wrap64 (x15 + 1))) else (some (([] : List Int), t112)))) else (none)) else (none)) else (if 0 < (x0.length : Int) then ((perm_identity.f k ((rd_L1 x0 0).length : Int)).bind fun t114 => (perm_Compose.l1 k t114 x0 (x0.length : Int) 0)) else (none))
def perm_Compose.l1 : Nat → List Int → List (List Int) → Int → Int → Option (List Int × Int)
  | 0, _, _, _, _ => none
  | k + 1, x7, x30, x31, x32 => if x32 < x31 then (if 0 ≤ x32 then (if x32 < (x30.length : Int) then (if ((rd_L1 x30 x32).length : Int) = (x7.length : Int) then ((perm_then.f k x7 (rd_L1 x30 x32)).bind fun t118 => (perm_Compose.l1 k t118 x30 x31 (wrap64 (x32 + 1)))) else (some (([] : List Int), 10))) else (none)) else (none)) else (some (x7, 0))
end
def perm_Compose.f (k : Nat) (l0 : List (List Int)) : Option (List Int × Int) := if (l0.length : Int) = 0 then (some (([] : List Int), 11)) else (perm_Compose.l0 k l0 l0 (l0.length : Int) 0)
theorem perm_Compose.calls (k : Nat) (A0 : Option Addr) (c0 : Nat) (l0 : List (List Int)) (r1 : List Int) (r2 : Int) (w : World) (hr0 : Kd.C (Kd.slice 3 (Kd.int .i64)) w A0 l0.length l0) (hc0 : l0.length ≤ c0) (h : perm_Compose.f k l0 = some (r1, r2)) :
    Calls Try.prog 13 #[.slice A0 l0.length c0] w fun e w' => ∃ v0_ : Value, e = .returned (.tuple #[v0_, .int .i64 r2]) ∧ Kd.R (Kd.int .i64) 3 w' w.heap.size (fun _ => True) v0_ r1 ∧ Below w.heap.size w w' := by
  have HR0 := aM hr0
  have HC0 := aM hc0
  clear hr0 hc0
  have HB := aM (Below.refl w.heap.size w)
  have H : (if (l0.length : Int) = 0 then (some (([] : List Int), 11)) else (perm_Compose.l0 k l0 l0 (l0.length : Int) 0)) = some (r1, r2) := h
  clear h
  by_cases c2 : (l0.length : Int) = 0
  · rw [if_pos c2] at H
    have c2b0 := beq_iff_eq.mpr c2; have c2b1 := bne_eq_false_iff_eq.mpr c2; clear c2; simp only [Option.some.injEq, Prod.mk.injEq] at H; obtain ⟨rfl, rfl⟩ := H
    go_enter Try.func13, Try.ntmps13
    go_wp2
    go_ret2
    exact ⟨_, by first | rfl | (simp [errW_none, errW_some] <;> rfl) | (simp [*, errW_none, errW_some] <;> rfl), by first | exact Kd.R_nil _ _ _ _ _ | exact Kd.N_nil _ _ _ _ _ | exact Kd.V_nil _ _ _ _ _ | exact Kd.Q_nil _ _ _ _ _ | exact Kd.S_nil _ _ _ _ _, by repeat (first | (with_reducible first | exact HB.out | apply below_alloc | apply pw_below_drewN | apply below_drew1) | exact HB.out)⟩
  rw [if_neg c2] at H
  have c2b0 := beq_eq_false_iff_ne.mpr c2
  have c2b1 := bne_iff_ne.mpr c2
  have c2b2 : ¬ (l0 = []) := fun h_ => c2 (by rw [h_]; rfl)
  have H' := aM H
  clear H
  go_enter Try.func13, Try.ntmps13
  go_wp2
  go_loopg [15] k (fun kq v15 w' => ∃ (x15_1 : Int), v15 = .int .i64 x15_1 ∧ Aside0 (perm_Compose.l0 kq l0 l0 (l0.length : Int) x15_1 = some (r1, r2)) ∧ Aside0 (kq ≤ k) ∧ Aside0 (Below w.heap.size w w'))
  case atStart => exact ⟨(0), zz112, H', ⟨Nat.le_refl _⟩, ⟨zz88⟩⟩
  case round =>
    clear H'; (try clear c1); (try clear c2); (try clear c2b0); (try clear c2b1); (try clear c2b2); (try clear p2); obtain ⟨x15_1, rfl, HA, HK1, HB⟩ := hrel
    cases gk with
    | zero => exact absurd HA.out (by simp [perm_Compose.l0])
    | succ k1 =>
      have H := HA.out; clear HA; simp only [perm_Compose.l0] at H
      by_cases c3 : x15_1 < (l0.length : Int)
      · rw [if_pos c3] at H; have c3b0 := decide_eq_true c3; clear c3
        by_cases c4 : 0 ≤ x15_1
        · rw [if_pos c4] at H; have c4b0 := decide_eq_true c4; clear c4
          by_cases c5 : x15_1 < (l0.length : Int)
          · rw [if_pos c5] at H; have c5b0 := decide_eq_true c5; clear c5; replace H := Option.bind_eq_some_iff.mp H; obtain ⟨t112, A60, H⟩ := H; replace H : (if t112 = 0 then (perm_Compose.l0 k1 l0 l0 (l0.length : Int) (wrap64 (x15_1 + 1))) else (some (([] : List Int), t112))) = some (r1, r2) := H; have A6 := aM A60; clear A60
            by_cases c7 : t112 = 0
            · rw [if_pos c7] at H; have c7b0 := beq_iff_eq.mpr c7; have c7b1 := bne_eq_false_iff_eq.mpr c7; clear c7; have H' := aM H; clear H; have p111 : 0 ≤ (x15_1 : Int) := of_decide_eq_true zz111; have q111 : x15_1 < (l0.length : Int) := of_decide_eq_true zz111; obtain ⟨ad111, A111_0, c111_0, e111, hx111_0, hl111_0, hi111_0⟩ := at_L1 HR0.out x15_1 p111 q111
              cases e111; replace hx111_0 := (HB.out.cell (World.block_lt_of_cell? w _ hx111_0)).trans hx111_0; have HR111_0 := aM hi111_0; have HC111_0 := aM hl111_0; clear hi111_0 hl111_0; replace p111 := eq_true p111; replace q111 := eq_true q111
              go_wp2_with (first | ((with_reducible refine gate_callee (f := 16) rfl ?_); refine goesL_ (some 20) rfl rfl Try.func16 (by kernel_rfl) rfl #[.slice A111_0 (rd_L1 l0 x15_1).length c111_0] rfl zz87 ?_; (with_reducible refine (perm_Check.calls _ _ (rd_L1 l0 x15_1) t112 _ ?side1 ?side2 A6.out).mono ?_); (case side1 => repeat (first | exact (Kd.C_below HR111_0.out HB.out) | (with_reducible refine Kd.C_alloc ?_ _) | (with_reducible refine Kd.C_drewN ?_ _) | (with_reducible refine Kd.C_drew ?_))); (case side2 => exact HC111_0.out); rintro e w8 ⟨rfl, hb⟩; refine ⟨_, rfl, ?_⟩; replace HB := aM (below_step zz88 hb); (try clear hb); (try clear hb2); (try clear hk); (try clear hi)))
              go_roundg k1
              case measure => have := HK1.out; omega
              case rel => exact ⟨(wrap64 (x15_1 + 1)), zz112, H', ⟨zz120⟩, ⟨zz88⟩⟩
            rw [if_neg c7] at H; have c7b0 := beq_eq_false_iff_ne.mpr c7; have c7b1 := bne_iff_ne.mpr c7; simp only [Option.some.injEq, Prod.mk.injEq] at H; obtain ⟨rfl, rfl⟩ := H; have p111 : 0 ≤ (x15_1 : Int) := of_decide_eq_true zz111; have q111 : x15_1 < (l0.length : Int) := of_decide_eq_true zz111; obtain ⟨ad111, A111_0, c111_0, e111, hx111_0, hl111_0, hi111_0⟩ := at_L1 HR0.out x15_1 p111 q111
            cases e111; replace hx111_0 := (HB.out.cell (World.block_lt_of_cell? w _ hx111_0)).trans hx111_0; have HR111_0 := aM hi111_0; have HC111_0 := aM hl111_0; clear hi111_0 hl111_0; replace p111 := eq_true p111; replace q111 := eq_true q111
            go_wp2_with (first | ((with_reducible refine gate_callee (f := 16) rfl ?_); refine goesL_ (some 20) rfl rfl Try.func16 (by kernel_rfl) rfl #[.slice A111_0 (rd_L1 l0 x15_1).length c111_0] rfl zz87 ?_; (with_reducible refine (perm_Check.calls _ _ (rd_L1 l0 x15_1) t112 _ ?side1 ?side2 A6.out).mono ?_); (case side1 => repeat (first | exact (Kd.C_below HR111_0.out HB.out) | (with_reducible refine Kd.C_alloc ?_ _) | (with_reducible refine Kd.C_drewN ?_ _) | (with_reducible refine Kd.C_drew ?_))); (case side2 => exact HC111_0.out); rintro e w9 ⟨rfl, hb⟩; refine ⟨_, rfl, ?_⟩; replace HB := aM (below_step zz88 hb); (try clear hb); (try clear hb2); (try clear hk); (try clear hi)))
            go_ret2
            exact ⟨_, by first | rfl | (simp [errW_none, errW_some] <;> rfl) | (simp [*, errW_none, errW_some] <;> rfl), by first | exact Kd.R_nil _ _ _ _ _ | exact Kd.N_nil _ _ _ _ _ | exact Kd.V_nil _ _ _ _ _ | exact Kd.Q_nil _ _ _ _ _ | exact Kd.S_nil _ _ _ _ _, by repeat (first | (with_reducible first | exact HB.out | apply below_alloc | apply pw_below_drewN | apply below_drew1) | exact HB.out)⟩
          rw [if_neg c5] at H
          exact absurd H (by simp)
        rw [if_neg c4] at H
        exact absurd H (by simp)
      rw [if_neg c3] at H; have c3b0 := decide_eq_false c3; clear c3
      by_cases c10 : 0 < (l0.length : Int)
      · rw [if_pos c10] at H; have c10b0 := decide_eq_true c10; have c10b1 : decide (0 < l0.length) = true := decide_eq_true (by omega); clear c10; replace H := Option.bind_eq_some_iff.mp H; obtain ⟨t114, A110, H⟩ := H; replace H : (perm_Compose.l1 k1 t114 l0 (l0.length : Int) 0) = some (r1, r2) := H; have A11 := aM A110; clear A110; have H' := aM H; clear H; have p113 : 0 ≤ (0 : Int) := (by omega); have q113 : 0 < (l0.length : Int) := of_decide_eq_true zz111; obtain ⟨ad113, A113_0, c113_0, e113, hx113_0, hl113_0, hi113_0⟩ := at_L1 HR0.out 0 p113 q113
        cases e113; have qi113 : (0 < l0.length) = True := eq_true (by omega)
        (try rw [show ((0 : Int)).toNat = 0 from rfl] at hx113_0)
        (try rw [Addr.add_zero'] at hx113_0)
        replace hx113_0 := (HB.out.cell (World.block_lt_of_cell? w _ hx113_0)).trans hx113_0; have HR113_0 := aM hi113_0; have HC113_0 := aM hl113_0; clear hi113_0 hl113_0; replace p113 := eq_true p113; replace q113 := eq_true q113
        go_wp2_with (first | ((with_reducible refine gate_callee (f := 49) rfl ?_); refine goesL_ (some 29) rfl rfl Try.func49 (by kernel_rfl) rfl #[.int .i64 ((rd_L1 l0 0).length : Int)] rfl zz87 ?_; (with_reducible refine (perm_identity.calls k1 ((rd_L1 l0 0).length : Int) t114 _ A11.out).mono ?_); rintro e w12 ⟨v115, rfl, ho0, hb⟩; refine ⟨_, rfl, ?_⟩; have HO116 := aM (Kd.R_lower ho0 (below_size zz88)); replace HB := aM (below_step zz88 hb); (try clear hb); (try clear hb2); (try clear hk); (try clear hi); (try clear ho0)))
        go_loopg [7, 32] k1 (fun kq v7 v32 w' => ∃ (x7_2 : List Int) (x32_2 : Int), v32 = .int .i64 x32_2 ∧ Aside0 (perm_Compose.l1 kq x7_2 l0 (l0.length : Int) x32_2 = some (r1, r2)) ∧ Aside0 (kq ≤ k1) ∧ Aside0 (Kd.R (Kd.int .i64) 3 w' w.heap.size (fun _ => True) v7 x7_2) ∧ Aside0 (Below w.heap.size w w'))
        case atStart => exact ⟨(t114), (0), zz112, H', ⟨Nat.le_refl _⟩, ⟨(zR HO116)⟩, ⟨zz88⟩⟩
        case round =>
          clear H'; (try clear c1); (try clear p1); (try clear q1); (try clear hx1); (try clear qi1); (try clear c2); (try clear c2b0); (try clear c2b1); (try clear c2b2); (try clear p2); (try clear c3); (try clear c3b0); (try clear c4); (try clear c4b0); (try clear c5); (try clear c5b0); (try clear p6); (try clear c7); (try clear c7b0); (try clear c7b1); (try clear c10); (try clear c10b0); (try clear c10b1); (try clear c11); (try clear p11); (try clear q11); (try clear hx11); (try clear qi11); (try clear hx111_0); (try clear hx113_0); (try clear p111); (try clear p113); (try clear p2); (try clear q111); (try clear q113); obtain ⟨x7_2, x32_2, rfl, HA, HK2, HO_7, HB⟩ := hrel
          cases gk with
          | zero => exact absurd HA.out (by simp [perm_Compose.l1])
          | succ k2 =>
            have H := HA.out; clear HA; simp only [perm_Compose.l1] at H
            by_cases c13 : x32_2 < (l0.length : Int)
            · rw [if_pos c13] at H; have c13b0 := decide_eq_true c13; clear c13
              by_cases c14 : 0 ≤ x32_2
              · rw [if_pos c14] at H; have c14b0 := decide_eq_true c14; clear c14
                by_cases c15 : x32_2 < (l0.length : Int)
                · rw [if_pos c15] at H; have c15b0 := decide_eq_true c15; clear c15
                  by_cases c16 : ((rd_L1 l0 x32_2).length : Int) = (x7_2.length : Int)
                  · rw [if_pos c16] at H; have c16b0 := beq_iff_eq.mpr c16; have c16b1 := bne_eq_false_iff_eq.mpr c16; have c16b2 : ((rd_L1 l0 x32_2).length == x7_2.length) = true := by first | simpa using c16 | (simp at c16 ⊢; omega)
                    clear c16; replace H := Option.bind_eq_some_iff.mp H; obtain ⟨t118, A170, H⟩ := H; replace H : (perm_Compose.l1 k2 t118 l0 (l0.length : Int) (wrap64 (x32_2 + 1))) = some (r1, r2) := H; have A17 := aM A170; clear A170; have H' := aM H; clear H; have p117 : 0 ≤ (x32_2 : Int) := of_decide_eq_true zz111; have q117 : x32_2 < (l0.length : Int) := of_decide_eq_true zz111; obtain ⟨ad117, A117_0, c117_0, e117, hx117_0, hl117_0, hi117_0⟩ := at_L1 HR0.out x32_2 p117 q117; obtain rfl : ad113 = ad117 := (by injection e117); replace hx117_0 := (HB.out.cell (World.block_lt_of_cell? w _ hx117_0)).trans hx117_0; have HR117_0 := aM hi117_0; have HC117_0 := aM hl117_0; clear hi117_0 hl117_0; replace p117 := eq_true p117; replace q117 := eq_true q117; obtain ⟨Ao18, co18, eo18⟩ := Kd.R_slice HO_7.out; subst eo18
                    go_wp2_with (first | ((with_reducible refine gate_callee (f := 50) rfl ?_); refine goesL_ (some 43) rfl rfl Try.func50 (by kernel_rfl) rfl #[.slice Ao18 x7_2.length co18, .slice A117_0 (rd_L1 l0 x32_2).length c117_0] rfl zz87 ?_; (with_reducible refine (perm_then.calls k2 _ _ x7_2 _ _ (rd_L1 l0 x32_2) t118 _ ?side1 ?side2 ?side3 ?side4 A17.out).mono ?_); (case side1 => repeat (first | exact (Kd.R_reads' HO_7.out).2.2 | (with_reducible refine Kd.C_alloc ?_ _) | (with_reducible refine Kd.C_drewN ?_ _) | (with_reducible refine Kd.C_drew ?_))); (case side2 => exact (Kd.R_reads' HO_7.out).2.1); (case side3 => repeat (first | exact (Kd.C_below HR117_0.out HB.out) | (with_reducible refine Kd.C_alloc ?_ _) | (with_reducible refine Kd.C_drewN ?_ _) | (with_reducible refine Kd.C_drew ?_))); (case side4 => exact HC117_0.out); rintro e w19 ⟨v119, rfl, ho0, hb⟩; refine ⟨_, rfl, ?_⟩; have HO120 := aM (Kd.R_lower (Kd.R_new' ho0 (Kd.R_lt (zR HO_7))) (below_size zz88)); replace HO_7 := aM (Kd.R_elder' (zR HO_7) (Kd.R_base ho0) hb); replace HB := aM (below_step zz88 hb); (try clear hb); (try clear hb2); (try clear hk); (try clear hi); (try clear ho0)))
                    go_roundg k2
                    case measure => have := HK1.out; have := HK2.out; omega
                    case rel => exact ⟨(t118), (wrap64 (x32_2 + 1)), zz112, H', ⟨zz113⟩, ⟨(by (with_reducible repeat (first | apply Kd.R_alloc | apply Kd.R_drewN | apply Kd.R_drew)); exact Kd.R_mono HO120.out (fun _ hk => trivial))⟩, ⟨zz88⟩⟩
                  rw [if_neg c16] at H; have c16b0 := beq_eq_false_iff_ne.mpr c16; have c16b1 := bne_iff_ne.mpr c16; have c16b2 : ((rd_L1 l0 x32_2).length == x7_2.length) = false := by first | simpa using c16 | (simp at c16 ⊢; omega)
                  simp only [Option.some.injEq, Prod.mk.injEq] at H; obtain ⟨rfl, rfl⟩ := H; have p117 : 0 ≤ (x32_2 : Int) := of_decide_eq_true zz111; have q117 : x32_2 < (l0.length : Int) := of_decide_eq_true zz111; obtain ⟨ad117, A117_0, c117_0, e117, hx117_0, hl117_0, hi117_0⟩ := at_L1 HR0.out x32_2 p117 q117; obtain rfl : ad113 = ad117 := (by injection e117); replace hx117_0 := (HB.out.cell (World.block_lt_of_cell? w _ hx117_0)).trans hx117_0; have HR117_0 := aM hi117_0; have HC117_0 := aM hl117_0; clear hi117_0 hl117_0; replace p117 := eq_true p117; replace q117 := eq_true q117; obtain ⟨Ao20, co20, eo20⟩ := Kd.R_slice HO_7.out; subst eo20; go_wp2
                  go_ret2
                  exact ⟨_, by first | rfl | (simp [errW_none, errW_some] <;> rfl) | (simp [*, errW_none, errW_some] <;> rfl), by first | exact Kd.R_nil _ _ _ _ _ | exact Kd.N_nil _ _ _ _ _ | exact Kd.V_nil _ _ _ _ _ | exact Kd.Q_nil _ _ _ _ _ | exact Kd.S_nil _ _ _ _ _, by repeat (first | (with_reducible first | exact HB.out | apply below_alloc | apply pw_below_drewN | apply below_drew1) | exact HB.out)⟩
                rw [if_neg c15] at H
                exact absurd H (by simp)
              rw [if_neg c14] at H
              exact absurd H (by simp)
            rw [if_neg c13] at H; have c13b0 := decide_eq_false c13; clear c13; simp only [Option.some.injEq, Prod.mk.injEq] at H; obtain ⟨rfl, rfl⟩ := H; go_wp2
            go_ret2
            exact ⟨_, by first | rfl | (simp [errW_none, errW_some] <;> rfl) | (simp [*, errW_none, errW_some] <;> rfl), by (with_reducible repeat (first | apply Kd.R_alloc | apply Kd.R_drewN | apply Kd.R_drew)); exact HO_7.out, by repeat (first | (with_reducible first | exact HB.out | apply below_alloc | apply pw_below_drewN | apply below_drew1) | exact HB.out)⟩
      rw [if_neg c10] at H
      exact absurd H (by simp)
end
section
attribute [local go_sem] max2_int min2_int max_two min_two max_three min_three max_four min_four
def perm_Inverse.f (k : Nat) (l0 : List Int) : Option (List Int × Int) := (perm_Check.f l0).bind fun t128 => (if t128 = 0 then ((perm_inverse.f k l0).bind fun t129 => (some (t129, 0))) else (some (([] : List Int), t128)))
theorem perm_Inverse.calls (k : Nat) (A0 : Option Addr) (c0 : Nat) (l0 : List Int) (r1 : List Int) (r2 : Int) (w : World) (hr0 : Kd.C (Kd.int .i64) w A0 l0.length l0) (hc0 : l0.length ≤ c0) (h : perm_Inverse.f k l0 = some (r1, r2)) :
    Calls Try.prog 18 #[.slice A0 l0.length c0] w fun e w' => ∃ v0_ : Value, e = .returned (.tuple #[v0_, .int .i64 r2]) ∧ Kd.R (Kd.int .i64) 3 w' w.heap.size (fun _ => True) v0_ r1 ∧ Below w.heap.size w w' := by
  have HR0 := aM hr0
  have HC0 := aM hc0
  clear hr0 hc0
  have HB := aM (Below.refl w.heap.size w)
  have H : ((perm_Check.f l0).bind fun t128 => (if t128 = 0 then ((perm_inverse.f k l0).bind fun t129 => (some (t129, 0))) else (some (([] : List Int), t128)))) = some (r1, r2) := h
  clear h
  replace H := Option.bind_eq_some_iff.mp H
  obtain ⟨t128, A20, H⟩ := H
  replace H : (if t128 = 0 then ((perm_inverse.f k l0).bind fun t129 => (some (t129, 0))) else (some (([] : List Int), t128))) = some (r1, r2) := H
  have A2 := aM A20
  clear A20
  by_cases c3 : t128 = 0
  · rw [if_pos c3] at H
    have c3b0 := beq_iff_eq.mpr c3; have c3b1 := bne_eq_false_iff_eq.mpr c3; clear c3; replace H := Option.bind_eq_some_iff.mp H; obtain ⟨t129, A40, H⟩ := H; replace H : (some (t129, 0)) = some (r1, r2) := H; have A4 := aM A40; clear A40; simp only [Option.some.injEq, Prod.mk.injEq] at H; obtain ⟨rfl, rfl⟩ := H
    go_enter Try.func18, Try.ntmps18
    go_wp2_with (first | ((with_reducible refine gate_callee (f := 16) rfl ?_); refine goesL_ (some 6) rfl rfl Try.func16 (by kernel_rfl) rfl #[.slice A0 l0.length c0] rfl zz87 ?_; (with_reducible refine (perm_Check.calls _ _ l0 t128 _ ?side1 ?side2 A2.out).mono ?_); (case side1 => repeat (first | exact HR0.out | (with_reducible refine Kd.C_alloc ?_ _) | (with_reducible refine Kd.C_drewN ?_ _) | (with_reducible refine Kd.C_drew ?_))); (case side2 => exact HC0.out); rintro e w5 ⟨rfl, hb⟩; refine ⟨_, rfl, ?_⟩; replace HB := aM (below_step zz88 hb); (try clear hb); (try clear hb2); (try clear hk); (try clear hi)) | ((with_reducible refine gate_callee (f := 55) rfl ?_); refine goesL_ (some 11) rfl rfl Try.func55 (by kernel_rfl) rfl #[.slice A0 l0.length c0] rfl zz87 ?_; (with_reducible refine (perm_inverse.calls k _ _ l0 t129 _ ?side1 ?side2 A4.out).mono ?_); (case side1 => repeat (first | exact (Kd.C_below HR0.out HB.out) | (with_reducible refine Kd.C_alloc ?_ _) | (with_reducible refine Kd.C_drewN ?_ _) | (with_reducible refine Kd.C_drew ?_))); (case side2 => exact HC0.out); rintro e w6 ⟨v130, rfl, ho0, hb⟩; refine ⟨_, rfl, ?_⟩; have HO131 := aM (Kd.R_lower ho0 (below_size zz88)); replace HB := aM (below_step zz88 hb); (try clear hb); (try clear hb2); (try clear hk); (try clear hi); (try clear ho0)))
    go_ret2
    exact ⟨_, by first | rfl | (simp [errW_none, errW_some] <;> rfl) | (simp [*, errW_none, errW_some] <;> rfl), by (with_reducible repeat (first | apply Kd.R_alloc | apply Kd.R_drewN | apply Kd.R_drew)); exact HO131.out, by repeat (first | (with_reducible first | exact HB.out | apply below_alloc | apply pw_below_drewN | apply below_drew1) | exact HB.out)⟩
  rw [if_neg c3] at H
  have c3b0 := beq_eq_false_iff_ne.mpr c3
  have c3b1 := bne_iff_ne.mpr c3
  simp only [Option.some.injEq, Prod.mk.injEq] at H
  obtain ⟨rfl, rfl⟩ := H
  go_enter Try.func18, Try.ntmps18
  go_wp2_with (first | ((with_reducible refine gate_callee (f := 16) rfl ?_); refine goesL_ (some 6) rfl rfl Try.func16 (by kernel_rfl) rfl #[.slice A0 l0.length c0] rfl zz87 ?_; (with_reducible refine (perm_Check.calls _ _ l0 t128 _ ?side1 ?side2 A2.out).mono ?_); (case side1 => repeat (first | exact HR0.out | (with_reducible refine Kd.C_alloc ?_ _) | (with_reducible refine Kd.C_drewN ?_ _) | (with_reducible refine Kd.C_drew ?_))); (case side2 => exact HC0.out); rintro e w7 ⟨rfl, hb⟩; refine ⟨_, rfl, ?_⟩; replace HB := aM (below_step zz88 hb); (try clear hb); (try clear hb2); (try clear hk); (try clear hi)))
  go_ret2
  exact ⟨_, by first | rfl | (simp [errW_none, errW_some] <;> rfl) | (simp [*, errW_none, errW_some] <;> rfl), by first | exact Kd.R_nil _ _ _ _ _ | exact Kd.N_nil _ _ _ _ _ | exact Kd.V_nil _ _ _ _ _ | exact Kd.Q_nil _ _ _ _ _ | exact Kd.S_nil _ _ _ _ _, by repeat (first | (with_reducible first | exact HB.out | apply below_alloc | apply pw_below_drewN | apply below_drew1) | exact HB.out)⟩
end
section
attribute [local go_sem] max2_int min2_int max_two min_two max_three min_three max_four min_four
mutual
def perm_Cycles.l0 : Nat → List Int → List (List Int) → List Bool → Int → Int → Option ((List (List Int)) × Int)
  | 0, _, _, _, _, _ => none
  | k + 1, x0, x5, x6, x19, x20 => if x20 < x19 then (perm_Cycles.l1 k x0 x5 x6 ([] : List Int) x20 x19 x20) else (some (x5, 0))
def perm_Cycles.l1 : Nat → List Int → List (List Int) → List Bool → List Int → Int → Int → Int → Option ((List (List Int)) × Int)
  | 0, _, _, _, _, _, _, _ => none
  | k + 1, x0, x5, x6, x8, x9, x19, x20 => if 0 ≤ x9 then (if x9 < (x6.length : Int) then (if rdOf false x6 x9 = true then (if (x8.length : Int) > 1 then (if x5.length < 5864062014805 then (perm_Cycles.l0 k x0 (x5 ++ [x8]) x6 x19 (wrap64 (x20 + 1))) else (none)) else (perm_Cycles.l0 k x0 x5 x6 x19 (wrap64 (x20 + 1)))) else (if x8.length < 17592186044416 then (if x9 < (x0.length : Int) then (perm_Cycles.l1 k x0 x5 (x6.set (x9 : Int).toNat true) (x8 ++ [x9]) (rd x0 x9) x19 x20) else (none)) else (none))) else (none)) else (none)
end
def perm_Cycles.f (k : Nat) (l0 : List Int) : Option ((List (List Int)) × Int) := (perm_Check.f l0).bind fun t132 => (if t132 = 0 then (if 0 ≤ (l0.length : Int) then (if ((l0.length : Int) : Int).toNat ≤ 281474976710656 then (perm_Cycles.l0 k l0 ([] : List (List Int)) (List.replicate ((l0.length : Int) : Int).toNat false) (l0.length : Int) 0) else (none)) else (none)) else (some (([] : List (List Int)), t132)))
theorem perm_Cycles.calls (k : Nat) (A0 : Option Addr) (c0 : Nat) (l0 : List Int) (r1 : List (List Int)) (r2 : Int) (w : World) (hr0 : Kd.C (Kd.int .i64) w A0 l0.length l0) (hc0 : l0.length ≤ c0) (h : perm_Cycles.f k l0 = some (r1, r2)) :
    Calls Try.prog 20 #[.slice A0 l0.length c0] w fun e w' => ∃ v0_ : Value, e = .returned (.tuple #[v0_, .int .i64 r2]) ∧ Kd.S (Kd.slice 3 (Kd.int .i64)) 22 w' w.heap.size (fun _ => True) v0_ r1 ∧ Below w.heap.size w w' := by
  have HR0 := aM hr0
  have HC0 := aM hc0
  clear hr0 hc0
  have HB := aM (Below.refl w.heap.size w)
  have H : ((perm_Check.f l0).bind fun t132 => (if t132 = 0 then (if 0 ≤ (l0.length : Int) then (if ((l0.length : Int) : Int).toNat ≤ 281474976710656 then (perm_Cycles.l0 k l0 ([] : List (List Int)) (List.replicate ((l0.length : Int) : Int).toNat false) (l0.length : Int) 0) else (none)) else (none)) else (some (([] : List (List Int)), t132)))) = some (r1, r2) := h
  clear h
  replace H := Option.bind_eq_some_iff.mp H
  obtain ⟨t132, A20, H⟩ := H
  replace H : (if t132 = 0 then (if 0 ≤ (l0.length : Int) then (if ((l0.length : Int) : Int).toNat ≤ 281474976710656 then (perm_Cycles.l0 k l0 ([] : List (List Int)) (List.replicate ((l0.length : Int) : Int).toNat false) (l0.length : Int) 0) else (none)) else (none)) else (some (([] : List (List Int)), t132))) = some (r1, r2) := H
  have A2 := aM A20
  clear A20
  by_cases c3 : t132 = 0
  · rw [if_pos c3] at H
    have c3b0 := beq_iff_eq.mpr c3; have c3b1 := bne_eq_false_iff_eq.mpr c3; clear c3
    by_cases c4 : 0 ≤ (l0.length : Int)
    · rw [if_pos c4] at H; have c4b0 := eq_true c4; have c4b1 := decide_eq_true c4; clear c4
      by_cases c5 : ((l0.length : Int) : Int).toNat ≤ 281474976710656
      · rw [if_pos c5] at H; have c5b0 := eq_true c5; have c5b1 := decide_eq_true c5; clear c5; obtain ⟨y133, hy133⟩ : ∃ y_ : List Bool, y_ = (List.replicate ((l0.length : Int) : Int).toNat false) := ⟨_, rfl⟩; replace H : (perm_Cycles.l0 k l0 ([] : List (List Int)) y133 (l0.length : Int) 0) = some (r1, r2) := by first | (rw [hy133]; with_reducible exact H) | (have H2_ := (Option.bind_some _ _).symm.trans H; rw [hy133]; with_reducible exact H2_) | (have H2_ := (Option.bind_some _ _).symm.trans H; with_reducible exact H2_) | with_reducible exact H | (rw [hy133]; exact H) | exact H
        have Ny133 := aM hy133; clear hy133; have H' := aM H; clear H
        go_enter Try.func20, Try.ntmps20
        go_wp2_with (first | ((with_reducible refine gate_callee (f := 16) rfl ?_); refine goesL_ (some 11) rfl rfl Try.func16 (by kernel_rfl) rfl #[.slice A0 l0.length c0] rfl zz87 ?_; (with_reducible refine (perm_Check.calls _ _ l0 t132 _ ?side1 ?side2 A2.out).mono ?_); (case side1 => repeat (first | exact HR0.out | (with_reducible refine Kd.C_alloc ?_ _) | (with_reducible refine Kd.C_drewN ?_ _) | (with_reducible refine Kd.C_drew ?_))); (case side2 => exact HC0.out); rintro e w6 ⟨rfl, hb⟩; refine ⟨_, rfl, ?_⟩; replace HB := aM (below_step zz88 hb); (try clear hb); (try clear hb2); (try clear hk); (try clear hi)) | ((with_reducible refine gate_dst (N := 17) rfl ?_); refine Kd.R_make Kd.bool _ 4 rfl (N := 17) rfl 83 _ _ rfl (l0.length : Int) rfl rfl Try.underlying83 (.bool false) 1 info4 rfl (by decide) (by omega) false (ok := fun _ => True) (okp := fun _ => True) rfl (fun _ hk => hk) trivial (of_decide_eq_true zz111) (Nat.le_trans (Nat.mul_le_mul_right _ (of_decide_eq_true zz111 : (l0.length : Int).toNat ≤ 281474976710656)) (by omega)) (Below.refl _ _) (Nat.le_refl _) ?_; intro v134 w7 ho8 hb hg_ hnew_; clear hg_ hnew_; (first | rw [← Ny133.out] at ho8 | (simp only [Int.reduceToNat] at ho8; rw [← Ny133.out] at ho8)); have HO135 := aM (Kd.R_lower ho8 (below_size zz88)); replace HB := aM (below_step zz88 hb); clear hb ho8))
        go_loopg [5, 20] k (fun kq v5 v20 w' => ∃ (x5_1 : List (List Int)) (x6_1 : List Bool) (x20_1 : Int), v20 = .int .i64 x20_1 ∧ Aside0 (perm_Cycles.l0 kq l0 x5_1 x6_1 (l0.length : Int) x20_1 = some (r1, r2)) ∧ Aside0 (kq ≤ k) ∧ Aside0 (Kd.S (Kd.slice 3 (Kd.int .i64)) 22 w' w.heap.size (fun _ => True) v5 x5_1) ∧ Aside0 (Kd.R Kd.bool 4 w' w.heap.size (fun _ => True) v134 x6_1) ∧ Aside0 (Below w.heap.size w w'))
        case atStart => exact ⟨(([] : List (List Int))), (y133), (0), zz112, H', ⟨Nat.le_refl _⟩, ⟨zz86⟩, ⟨(zR HO135)⟩, ⟨zz88⟩⟩
        case round =>
          clear H'; (try clear c1); (try clear c2); (try clear p2); (try clear c3); (try clear c3b0); (try clear c3b1); (try clear c4); (try clear c4b0); (try clear c4b1); (try clear c5); (try clear c5b0); (try clear c5b1); obtain ⟨x5_1, x6_1, x20_1, rfl, HA, HK1, HO_5, HO_6, HB⟩ := hrel
          cases gk with
          | zero => exact absurd HA.out (by simp [perm_Cycles.l0])
          | succ k1 =>
            have H := HA.out; clear HA; simp only [perm_Cycles.l0] at H
            by_cases c9 : x20_1 < (l0.length : Int)
            · rw [if_pos c9] at H; have c9b0 := decide_eq_true c9; clear c9; have H' := aM H; clear H; go_wp2
              go_loopg [8, 9] k1 (fun kq v8 v9 w' => ∃ (x6_2 : List Bool) (x8_2 : List Int) (x9_2 : Int), v9 = .int .i64 x9_2 ∧ Aside0 (perm_Cycles.l1 kq l0 x5_1 x6_2 x8_2 x9_2 (l0.length : Int) x20_1 = some (r1, r2)) ∧ Aside0 (kq ≤ k1) ∧ Aside0 (Kd.S (Kd.slice 3 (Kd.int .i64)) 22 w' w.heap.size (fun k_ => some k_ ≠ (v8 : Value).ownBlock) u5 x5_1) ∧ Aside0 (Kd.R Kd.bool 4 w' w.heap.size (fun _ => True) v134 x6_2) ∧ Aside0 (Kd.R (Kd.int .i64) 3 w' w.heap.size (fun _ => True) v8 x8_2) ∧ Aside0 (Below w.heap.size w w'))
              case atStart => exact ⟨(x6_1), (([] : List Int)), (x20_1), zz112, H', ⟨Nat.le_refl _⟩, ⟨(by (with_reducible repeat (first | apply Kd.S_alloc | apply Kd.S_drewN | apply Kd.S_drew)); exact Kd.S_mono HO_5.out (fun _ hk => zz121))⟩, ⟨(zR HO_6)⟩, ⟨zz85⟩, ⟨zz88⟩⟩
              case round =>
                clear H'; (try clear c1); (try clear c2); (try clear p2); (try clear c3); (try clear c3b0); (try clear c3b1); (try clear c4); (try clear c4b0); (try clear c4b1); (try clear c5); (try clear c5b0); (try clear c5b1); (try clear c9); (try clear c9b0); (try clear p2); obtain ⟨x6_2, x8_2, x9_2, rfl, HA, HK2, HO_5, HO_6, HO_8, HB⟩ := hrel
                cases gk with
                | zero => exact absurd HA.out (by simp [perm_Cycles.l1])
                | succ k2 =>
                  have H := HA.out; clear HA; simp only [perm_Cycles.l1] at H
                  by_cases c10 : 0 ≤ x9_2
                  · rw [if_pos c10] at H; have c10b0 := decide_eq_true c10; clear c10
                    by_cases c11 : x9_2 < (x6_2.length : Int)
                    · rw [if_pos c11] at H; have c11b0 := decide_eq_true c11; clear c11; obtain ⟨bq12, hbq12⟩ : ∃ b_ : Bool, b_ = (rdOf false x6_2 x9_2) := ⟨_, rfl⟩; replace H : (if bq12 = true then (if (x8_2.length : Int) > 1 then (if x5_1.length < 5864062014805 then (perm_Cycles.l0 k2 l0 (x5_1 ++ [x8_2]) x6_2 (l0.length : Int) (wrap64 (x20_1 + 1))) else (none)) else (perm_Cycles.l0 k2 l0 x5_1 x6_2 (l0.length : Int) (wrap64 (x20_1 + 1)))) else (if x8_2.length < 17592186044416 then (if x9_2 < (l0.length : Int) then (perm_Cycles.l1 k2 l0 x5_1 (x6_2.set (x9_2 : Int).toNat true) (x8_2 ++ [x9_2]) (rd l0 x9_2) (l0.length : Int) x20_1) else (none)) else (none))) = some (r1, r2) := by rw [← hbq12] at H; exact H
                      have Nbq12 := aM hbq12; clear hbq12
                      by_cases c13 : bq12 = true
                      · subst c13; have H1 : (if (x8_2.length : Int) > 1 then (if x5_1.length < 5864062014805 then (perm_Cycles.l0 k2 l0 (x5_1 ++ [x8_2]) x6_2 (l0.length : Int) (wrap64 (x20_1 + 1))) else (none)) else (perm_Cycles.l0 k2 l0 x5_1 x6_2 (l0.length : Int) (wrap64 (x20_1 + 1)))) = some (r1, r2) := by rw [if_pos rfl] at H; exact H
                        clear H; have H := H1; clear H1
                        by_cases c14 : (x8_2.length : Int) > 1
                        · rw [if_pos c14] at H; have c14b0 := decide_eq_true c14; have c14b1 : decide (1 < x8_2.length) = true := decide_eq_true (by omega); clear c14
                          by_cases c15 : x5_1.length < 5864062014805
                          · rw [if_pos c15] at H; have LMc15 := aM c15; clear c15; obtain ⟨y137, hy137⟩ : ∃ y_ : List (List Int), y_ = (x5_1 ++ [x8_2]) := ⟨_, rfl⟩; replace H : (perm_Cycles.l0 k2 l0 y137 x6_2 (l0.length : Int) (wrap64 (x20_1 + 1))) = some (r1, r2) := by first | (rw [hy137]; with_reducible exact H) | (have H2_ := (Option.bind_some _ _).symm.trans H; rw [hy137]; with_reducible exact H2_) | (have H2_ := (Option.bind_some _ _).symm.trans H; with_reducible exact H2_) | with_reducible exact H | (rw [hy137]; exact H) | exact H
                            have Ny137 := aM hy137; clear hy137; have H' := aM H; clear H; obtain ⟨Ao16, co16, eo16⟩ := Kd.R_slice HO_6.out; subst eo16; have p136 : 0 ≤ (x9_2 : Int) := of_decide_eq_true zz111; have q136 : x9_2 < (x6_2.length : Int) := of_decide_eq_true zz111; obtain ⟨ad136, e136, hx136_0⟩ := Kd.at_bool (Kd.R_reads' HO_6.out).2.2 x9_2 p136 q136
                            (try rw [← Nbq12.out] at hx136_0)
                            cases e136; replace p136 := eq_true p136; replace q136 := eq_true q136; obtain ⟨Ao17, co17, eo17⟩ := Kd.R_slice HO_8.out; subst eo17
                            go_wp2_with (first | ((with_reducible refine gate_builtin (b := .append) (xs := #[.tmp 43, .tmp 45]) rfl ?_); at_builtin; refine Kd.S_append (Kd.slice 3 (Kd.int .i64)) (w0 := w) w.heap.size rfl (.tmp 43) (.tmp 45) 28 22 (.slice none 0 0) 24 rfl Try.underlying28 info22 rfl (by decide) (by omega) u5 x5_1 x8_2 [.slice Ao17 x8_2.length co17] (fun _ => True) (fun k_ => some k_ = (.slice Ao17 x8_2.length co17 : Value).ownBlock) rfl rfl ?aP (fun k_ hk_ => ((Kd.R_mono (ok' := fun k_ => ((fun _ => True)) k_ ∧ some k_ ≠ (u5 : Value).ownBlock) (Kd.R_apart' (HO_8.out) (Kd.S_typed HO_5.out) (by decide)) (fun k_ hk => ⟨trivial, hk.2⟩))).1 k_ hk_.symm) ?aF ?aO ?aB ?aS ?aL ?_; (case aP => exact Kd.M_row (Kd.R_mono (Kd.R_tight rfl (Kd.R_mono (ok' := fun k_ => ((fun _ => True)) k_ ∧ some k_ ≠ (u5 : Value).ownBlock) (Kd.R_apart' (HO_8.out) (Kd.S_typed HO_5.out) (by decide)) (fun k_ hk => ⟨trivial, hk.2⟩))) (fun _ h_ => h_))); (case aB => exact zz88); (case aF => exact (fun _ _ => trivial)); (case aO => exact (by (with_reducible repeat (first | apply Kd.S_alloc | apply Kd.S_drewN | apply Kd.S_drew)); exact Kd.S_mono HO_5.out (fun k_ hk => ⟨trivial, fun e_ => hk e_⟩))); (case aS => exact (below_size zz88)); (case aL => have := LMc15.out; omega); intro v138 w18 ho hb hg hat; rw [← Ny137.out] at ho; replace HO_6 := aM (Kd.R_over' (zR HO_6) (Kd.S_typed (zS HO_5)) (by decide) hg); replace HB := aM (hb); have HO139 := aM (ho); clear HO_5 HO_8; clear ho hb hg hat))
                            go_roundg k2
                            case measure => have := HK1.out; have := HK2.out; omega
                            case rel => exact ⟨(y137), (x6_2), (wrap64 (x20_1 + 1)), zz112, H', ⟨zz113⟩, ⟨(zS HO139)⟩, ⟨(zR HO_6)⟩, ⟨zz88⟩⟩
                          rw [if_neg c15] at H
                          exact absurd H (by simp)
                        rw [if_neg c14] at H; have c14b0 := decide_eq_false c14; have c14b1 : decide (1 < x8_2.length) = false := decide_eq_false (by omega); clear c14; have H' := aM H; clear H; obtain ⟨Ao19, co19, eo19⟩ := Kd.R_slice HO_6.out; subst eo19; have p136 : 0 ≤ (x9_2 : Int) := of_decide_eq_true zz111; have q136 : x9_2 < (x6_2.length : Int) := of_decide_eq_true zz111; obtain ⟨ad136, e136, hx136_0⟩ := Kd.at_bool (Kd.R_reads' HO_6.out).2.2 x9_2 p136 q136
                        (try rw [← Nbq12.out] at hx136_0)
                        cases e136; replace p136 := eq_true p136; replace q136 := eq_true q136; obtain ⟨Ao20, co20, eo20⟩ := Kd.R_slice HO_8.out; subst eo20; go_wp2
                        go_roundg k2
                        case measure => have := HK1.out; have := HK2.out; omega
                        case rel => exact ⟨(x5_1), (x6_2), (wrap64 (x20_1 + 1)), zz112, H', ⟨zz113⟩, ⟨(by (with_reducible repeat (first | apply Kd.S_alloc | apply Kd.S_drewN | apply Kd.S_drew)); exact Kd.S_mono HO_5.out (fun _ hk => trivial))⟩, ⟨(zR HO_6)⟩, ⟨zz88⟩⟩
                      replace c13 := Bool.eq_false_iff.mpr c13; subst c13; have H1 : (if x8_2.length < 17592186044416 then (if x9_2 < (l0.length : Int) then (perm_Cycles.l1 k2 l0 x5_1 (x6_2.set (x9_2 : Int).toNat true) (x8_2 ++ [x9_2]) (rd l0 x9_2) (l0.length : Int) x20_1) else (none)) else (none)) = some (r1, r2) := by rw [if_neg (show ¬ (false = true) by decide)] at H; exact H
                      clear H; have H := H1; clear H1; obtain ⟨y140, hy140⟩ : ∃ y_ : List Bool, y_ = (x6_2.set (x9_2 : Int).toNat true) := ⟨_, rfl⟩; replace H : (if x8_2.length < 17592186044416 then (if x9_2 < (l0.length : Int) then (perm_Cycles.l1 k2 l0 x5_1 y140 (x8_2 ++ [x9_2]) (rd l0 x9_2) (l0.length : Int) x20_1) else (none)) else (none)) = some (r1, r2) := by first | (rw [hy140]; with_reducible exact H) | (have H2_ := (Option.bind_some _ _).symm.trans H; rw [hy140]; with_reducible exact H2_) | (have H2_ := (Option.bind_some _ _).symm.trans H; with_reducible exact H2_) | with_reducible exact H | (rw [hy140]; exact H) | exact H
                      have Ny140 := aM hy140; clear hy140
                      by_cases c22 : x8_2.length < 17592186044416
                      · rw [if_pos c22] at H; have LMc22 := aM c22; clear c22; obtain ⟨y141, hy141⟩ : ∃ y_ : List Int, y_ = (x8_2 ++ [x9_2]) := ⟨_, rfl⟩; replace H : (if x9_2 < (l0.length : Int) then (perm_Cycles.l1 k2 l0 x5_1 y140 y141 (rd l0 x9_2) (l0.length : Int) x20_1) else (none)) = some (r1, r2) := by first | (rw [hy141]; with_reducible exact H) | (have H2_ := (Option.bind_some _ _).symm.trans H; rw [hy141]; with_reducible exact H2_) | (have H2_ := (Option.bind_some _ _).symm.trans H; with_reducible exact H2_) | with_reducible exact H | (rw [hy141]; exact H) | exact H
                        have Ny141 := aM hy141; clear hy141
                        by_cases c23 : x9_2 < (l0.length : Int)
                        · rw [if_pos c23] at H; have c23b0 := decide_eq_true c23; clear c23; have H' := aM H; clear H; obtain ⟨Ao24, co24, eo24⟩ := Kd.R_slice HO_6.out; subst eo24; have p136 : 0 ≤ (x9_2 : Int) := of_decide_eq_true zz111; have q136 : x9_2 < (x6_2.length : Int) := of_decide_eq_true zz111; obtain ⟨ad136, e136, hx136_0⟩ := Kd.at_bool (Kd.R_reads' HO_6.out).2.2 x9_2 p136 q136
                          (try rw [← Nbq12.out] at hx136_0)
                          cases e136; replace p136 := eq_true p136; replace q136 := eq_true q136; have p21 : 0 ≤ (x9_2 : Int) := of_decide_eq_true zz111; have q21 : (x9_2 : Int) < ((x6_2.length : Int) : Int) := of_decide_eq_true zz111; obtain ⟨go21, co21, eo21, gb21, gl21, cl21, HG21⟩ := Kd.R_form HO_6.out (by omega)
                          (first | cases eo21 | (injection eo21 with ea_ en_ ec_; (first | subst ea_ | (injection ea_ with ea_; subst ea_)); subst ec_; clear en_))
                          have GB21 := aM gb21; have GG21 := aM HG21; clear gb21 gl21 HG21
                          (first | simp only [add_plain] at hx136_0 | skip)
                          obtain ⟨hx21_0, hf21_0⟩ := Kd.R_celln false HO_6.out (x9_2 : Int) p21 q21; replace p21 := eq_true p21; replace q21 := eq_true q21; have HP25 := Kd.R_putg HO_6.out (x9_2 : Int) true
                          go_wp2_with (first | ((with_reducible refine gate_store (t := 4) (p := 35) rfl ?_); refine store_event (t := 4) (p := 35) (v := ?vo_w26) (w1 := (wr.setCell ⟨go21, (x9_2 : Int).toNat, none⟩ (.bool true))) ?hg ?ho ?hn ?hr ?_; (case ho => rfl); (case hg => rfl); (case hn => rfl); (case hr => first | (go_simp; done) | (go_simp; rfl)); intro w26 hw; have hg : wr.grownBy w26 (some go21) := (by rw [hw]; exact HP25.2); have hp_ : Kd.R Kd.bool 4 w26 w.heap.size (fun _ => True) (.slice (some ⟨go21, 0, none⟩) x6_2.length co24) y140 := (by rw [hw, Ny140.out]; exact HP25.1); clear HP25; replace HO_5 := aM (Kd.S_over' (v := (.slice (some ⟨go21, 0, none⟩) x6_2.length co24)) (zS HO_5) (Kd.R_typed HO_6.out) (by decide) hg); replace HO_8 := aM (Kd.R_over' (v := (.slice (some ⟨go21, 0, none⟩) x6_2.length co24)) (zR HO_8) (Kd.R_typed HO_6.out) (by decide) hg); replace HO_6 := aM (hp_); replace HB := aM ((by rw [hw]; exact below_set (HB.out) GB21.out : Below w.heap.size w w26)); clear hg hw hp_) | ((with_reducible refine gate_builtin (b := .append) (xs := #[.tmp 36, .tmp 38]) rfl ?_); at_builtin; refine Kd.R_append (Kd.int .i64) (w0 := w) w.heap.size rfl (.tmp 36) (.tmp 38) 22 3 (.int .i64 0) 8 rfl Try.underlying22 info3 rfl (by decide) (by omega) u8 x8_2 x9_2 [.int .i64 x9_2] (fun _ => True) (fun _ => False) rfl rfl ?aP (fun _ hk => hk.elim) ?aF ?aO ?aB ?aS ?aL ?_; (case aP => exact rfl); (case aB => exact zz88); (case aF => exact (fun _ _ => trivial)); (case aO => exact (zR HO_8)); (case aS => exact (below_size zz88)); (case aL => have := LMc22.out; omega); intro v142 w27 ho hb hg hat; rw [← Ny141.out] at ho; replace HO_5 := aM (Kd.S_after (ok := (fun _ => True)) (by (with_reducible repeat (first | apply Kd.S_alloc | apply Kd.S_drewN | apply Kd.S_drew)); exact Kd.S_mono HO_5.out (fun _ hk => ⟨trivial, hk⟩)) hg hat); replace HO_6 := aM (Kd.R_over' (zR HO_6) (Kd.R_typed (zR HO_8)) (by decide) hg); replace HB := aM (hb); have HO143 := aM (ho); clear HO_8; clear ho hb hg hat; have p144 : 0 ≤ (x9_2 : Int) := of_decide_eq_true zz111; have q144 : x9_2 < (l0.length : Int) := of_decide_eq_true zz111; obtain ⟨ad144, e144, hx144_0⟩ := Kd.at_int HR0.out x9_2 p144 q144; cases e144; replace hx144_0 := (HB.out.cell (World.block_lt_of_cell? w _ hx144_0)).trans hx144_0; replace p144 := eq_true p144; replace q144 := eq_true q144))
                          go_roundg k2
                          case measure => have := HK1.out; have := HK2.out; omega
                          case rel => exact ⟨(y140), (y141), (rd l0 x9_2), zz112, H', ⟨zz113⟩, ⟨(by (with_reducible repeat (first | apply Kd.S_alloc | apply Kd.S_drewN | apply Kd.S_drew)); exact Kd.S_mono HO_5.out (fun _ hk => hk.2))⟩, ⟨(zR HO_6)⟩, ⟨(zR HO143)⟩, ⟨zz88⟩⟩
                        rw [if_neg c23] at H
                        exact absurd H (by simp)
                      rw [if_neg c22] at H
                      exact absurd H (by simp)
                    rw [if_neg c11] at H
                    exact absurd H (by simp)
                  rw [if_neg c10] at H
                  exact absurd H (by simp)
            rw [if_neg c9] at H; have c9b0 := decide_eq_false c9; clear c9; simp only [Option.some.injEq, Prod.mk.injEq] at H; obtain ⟨rfl, rfl⟩ := H; go_wp2
            go_ret2
            exact ⟨_, by first | rfl | (simp [errW_none, errW_some] <;> rfl) | (simp [*, errW_none, errW_some] <;> rfl), by (with_reducible repeat (first | apply Kd.S_alloc | apply Kd.S_drewN | apply Kd.S_drew)); exact HO_5.out, by repeat (first | (with_reducible first | exact HB.out | apply below_alloc | apply pw_below_drewN | apply below_drew1) | exact HB.out)⟩
      rw [if_neg c5] at H
      exact absurd H (by simp)
    rw [if_neg c4] at H
    exact absurd H (by simp)
  rw [if_neg c3] at H
  have c3b0 := beq_eq_false_iff_ne.mpr c3
  have c3b1 := bne_iff_ne.mpr c3
  simp only [Option.some.injEq, Prod.mk.injEq] at H
  obtain ⟨rfl, rfl⟩ := H
  go_enter Try.func20, Try.ntmps20
  go_wp2_with (first | ((with_reducible refine gate_callee (f := 16) rfl ?_); refine goesL_ (some 11) rfl rfl Try.func16 (by kernel_rfl) rfl #[.slice A0 l0.length c0] rfl zz87 ?_; (with_reducible refine (perm_Check.calls _ _ l0 t132 _ ?side1 ?side2 A2.out).mono ?_); (case side1 => repeat (first | exact HR0.out | (with_reducible refine Kd.C_alloc ?_ _) | (with_reducible refine Kd.C_drewN ?_ _) | (with_reducible refine Kd.C_drew ?_))); (case side2 => exact HC0.out); rintro e w28 ⟨rfl, hb⟩; refine ⟨_, rfl, ?_⟩; replace HB := aM (below_step zz88 hb); (try clear hb); (try clear hb2); (try clear hk); (try clear hi)))
  go_ret2
  exact ⟨_, by first | rfl | (simp [errW_none, errW_some] <;> rfl) | (simp [*, errW_none, errW_some] <;> rfl), by first | exact Kd.S_nil _ _ _ _ _ | exact Kd.N_nil _ _ _ _ _ | exact Kd.V_nil _ _ _ _ _ | exact Kd.Q_nil _ _ _ _ _ | exact Kd.R_nil _ _ _ _ _, by repeat (first | (with_reducible first | exact HB.out | apply below_alloc | apply pw_below_drewN | apply below_drew1) | exact HB.out)⟩
end
section
attribute [local go_sem] max2_int min2_int max_two min_two max_three min_three max_four min_four
mutual
def perm_Order.l0 : Nat → Int → List (List Int) → Int → Int → Option (Int × Int)
  | 0, _, _, _, _ => none
  | k + 1, x6, x19, x20, x21 => if x21 < x20 then (if 0 ≤ x21 then (if x21 < (x19.length : Int) then (perm_Order.l1 k x6 (rd_L1 x19 x21) x6 ((rd_L1 x19 x21).length : Int) x19 x20 x21) else (none)) else (none)) else (some (x6, 0))
def perm_Order.l1 : Nat → Int → List Int → Int → Int → List (List Int) → Int → Int → Option (Int × Int)
  | 0, _, _, _, _, _, _, _ => none
  | k + 1, x6, x8, x9, x10, x19, x20, x21 => if x10 > 0 then (if x10 = 0 then (none) else (perm_Order.l1 k x6 x8 x10 (Int.tmod x9 x10) x19 x20 x21)) else (if x9 = 0 then (none) else (perm_Order.l0 k (wrap64 ((wrap64 (Int.tdiv x6 x9)) * (x8.length : Int))) x19 x20 (wrap64 (x21 + 1))))
end
def perm_Order.f (k : Nat) (l0 : List Int) : Option (Int × Int) := (perm_Cycles.f k l0).bind fun bt145 => (if bt145.2 = 0 then (perm_Order.l0 k 1 bt145.1 (bt145.1.length : Int) 0) else (some (0, bt145.2)))
theorem perm_Order.calls (k : Nat) (A0 : Option Addr) (c0 : Nat) (l0 : List Int) (r1 : Int) (r2 : Int) (w : World) (hr0 : Kd.C (Kd.int .i64) w A0 l0.length l0) (hc0 : l0.length ≤ c0) (h : perm_Order.f k l0 = some (r1, r2)) :
    Calls Try.prog 22 #[.slice A0 l0.length c0] w fun e w' => e = .returned (.tuple #[.int .i64 r1, .int .i64 r2]) ∧ Below w.heap.size w w' := by
  have HR0 := aM hr0
  have HC0 := aM hc0
  clear hr0 hc0
  have HB := aM (Below.refl w.heap.size w)
  have H : ((perm_Cycles.f k l0).bind fun bt145 => (if bt145.2 = 0 then (perm_Order.l0 k 1 bt145.1 (bt145.1.length : Int) 0) else (some (0, bt145.2)))) = some (r1, r2) := h
  clear h
  replace H := Option.bind_eq_some_iff.mp H
  obtain ⟨⟨t145, t146⟩, A20, H⟩ := H
  replace H : (if t146 = 0 then (perm_Order.l0 k 1 t145 (t145.length : Int) 0) else (some (0, t146))) = some (r1, r2) := H
  have A2 := aM A20
  clear A20
  by_cases c3 : t146 = 0
  · rw [if_pos c3] at H
    have c3b0 := beq_iff_eq.mpr c3; have c3b1 := bne_eq_false_iff_eq.mpr c3; clear c3; have H' := aM H; clear H
    go_enter Try.func22, Try.ntmps22
    go_wp2_with (first | (go_at_call 20; (with_reducible refine (perm_Cycles.calls k _ _ l0 t145 t146 _ ?side1 ?side2 A2.out).mono ?_); (case side1 => repeat (first | exact HR0.out | (with_reducible refine Kd.C_alloc ?_ _) | (with_reducible refine Kd.C_drewN ?_ _) | (with_reducible refine Kd.C_drew ?_))); (case side2 => exact HC0.out); rintro e w4 ⟨v147, rfl, ho0, hb⟩; have HO148 := aM (Kd.S_lower ho0 (below_size zz88)); replace HB := aM (below_step zz88 hb); (try clear hb); (try clear hb2); (try clear hk); (try clear hi); (try clear ho0); obtain ⟨Ao5, co5, eo5⟩ := Kd.S_slice HO148.out; subst eo5))
    repeat (go_quiet (first | (go_at_call 20; (with_reducible refine (perm_Cycles.calls k _ _ l0 t145 t146 _ ?side1 ?side2 A2.out).mono ?_); (case side1 => repeat (first | exact HR0.out | (with_reducible refine Kd.C_alloc ?_ _) | (with_reducible refine Kd.C_drewN ?_ _) | (with_reducible refine Kd.C_drew ?_))); (case side2 => exact HC0.out); rintro e w4 ⟨v147, rfl, ho0, hb⟩; have HO148 := aM (Kd.S_lower ho0 (below_size zz88)); replace HB := aM (below_step zz88 hb); (try clear hb); (try clear hb2); (try clear hk); (try clear hi); (try clear ho0); obtain ⟨Ao5, co5, eo5⟩ := Kd.S_slice HO148.out; subst eo5)); try go_wp2_with (first | (go_at_call 20; (with_reducible refine (perm_Cycles.calls k _ _ l0 t145 t146 _ ?side1 ?side2 A2.out).mono ?_); (case side1 => repeat (first | exact HR0.out | (with_reducible refine Kd.C_alloc ?_ _) | (with_reducible refine Kd.C_drewN ?_ _) | (with_reducible refine Kd.C_drew ?_))); (case side2 => exact HC0.out); rintro e w4 ⟨v147, rfl, ho0, hb⟩; have HO148 := aM (Kd.S_lower ho0 (below_size zz88)); replace HB := aM (below_step zz88 hb); (try clear hb); (try clear hb2); (try clear hk); (try clear hi); (try clear ho0); obtain ⟨Ao5, co5, eo5⟩ := Kd.S_slice HO148.out; subst eo5)))
    go_loopg [6, 21] k (fun kq v6 v21 w' => ∃ (x6_1 : Int) (x21_1 : Int), v6 = .int .i64 x6_1 ∧ v21 = .int .i64 x21_1 ∧ Aside0 (perm_Order.l0 kq x6_1 t145 (t145.length : Int) x21_1 = some (r1, r2)) ∧ Aside0 (kq ≤ k) ∧ Aside0 (Kd.S (Kd.slice 3 (Kd.int .i64)) 22 w' w.heap.size (fun _ => True) (.slice Ao5 t145.length co5) t145) ∧ Aside0 (Below w.heap.size w w'))
    case atStart => exact ⟨(1), (0), zz112, zz112, H', ⟨Nat.le_refl _⟩, ⟨(zS HO148)⟩, ⟨zz88⟩⟩
    case round =>
      clear H'; (try clear c2); (try clear p2); (try clear c3); (try clear c3b0); (try clear c3b1); obtain ⟨x6_1, x21_1, rfl, rfl, HA, HK1, HO_19, HB⟩ := hrel
      cases gk with
      | zero => exact absurd HA.out (by simp [perm_Order.l0])
      | succ k1 =>
        have H := HA.out; clear HA; simp only [perm_Order.l0] at H
        by_cases c6 : x21_1 < (t145.length : Int)
        · rw [if_pos c6] at H; have c6b0 := decide_eq_true c6; clear c6
          by_cases c7 : 0 ≤ x21_1
          · rw [if_pos c7] at H; have c7b0 := decide_eq_true c7; clear c7
            by_cases c8 : x21_1 < (t145.length : Int)
            · rw [if_pos c8] at H; have c8b0 := decide_eq_true c8; clear c8; have H' := aM H; clear H; have p149 : 0 ≤ (x21_1 : Int) := of_decide_eq_true zz111; have q149 : x21_1 < (t145.length : Int) := of_decide_eq_true zz111; obtain ⟨ad149, A149_0, c149_0, e149, hx149_0, hl149_0, hi149_0⟩ := at_L1 (Kd.S_reads' HO_19.out).2.2 x21_1 p149 q149
              cases e149; obtain ⟨ce149, hce149, hMe149, hcc149⟩ := Kd.S_get HO_19.out [] x21_1 p149 (by first | exact q149 | exact of_decide_eq_true zz111 | (have e_ := (Kd.S_reads' HO_19.out).1; omega)); obtain ⟨ve149_0, rfl, ge149_0⟩ := hMe149; have hv149_0 := hcc149 0 _ rfl; rw [Nat.add_zero, show ((Kd.slice 3 (Kd.int .i64))).sz = 1 from rfl, Nat.mul_one] at hv149_0; replace hv149_0 := Option.some.inj (hv149_0.symm.trans hx149_0); rw [hv149_0] at ge149_0; have HL149_0 := aM (show Kd.R (Kd.int .i64) 3 _ _ _ _ (rd_L1 t145 x21_1) from ge149_0); clear hv149_0 ge149_0; clear hcc149 hce149; have HR149_0 := aM hi149_0; have HC149_0 := aM hl149_0; clear hi149_0 hl149_0; replace p149 := eq_true p149; replace q149 := eq_true q149; go_wp2
              repeat (go_quiet (fail); try go_wp2)
              go_loopg [9, 10] k1 (fun kq v9 v10 w' => ∃ (x9_2 : Int) (x10_2 : Int), v9 = .int .i64 x9_2 ∧ v10 = .int .i64 x10_2 ∧ Aside0 (perm_Order.l1 kq x6_1 (rd_L1 t145 x21_1) x9_2 x10_2 t145 (t145.length : Int) x21_1 = some (r1, r2)) ∧ Aside0 (kq ≤ k1) ∧ Aside0 (Kd.S (Kd.slice 3 (Kd.int .i64)) 22 w' w.heap.size (fun _ => True) (.slice (some ad149) t145.length co5) t145) ∧ Aside0 (Kd.C (Kd.int .i64) w' A149_0 (rd_L1 t145 x21_1).length (rd_L1 t145 x21_1)) ∧ Aside0 (Below w.heap.size w w'))
              case atStart => exact ⟨(x6_1), (((rd_L1 t145 x21_1).length : Int)), zz112, zz112, H', ⟨Nat.le_refl _⟩, ⟨(zS HO_19)⟩, ⟨zz60⟩, ⟨zz88⟩⟩
              case round =>
                clear H'; (try clear c1); (try clear p1); (try clear q1); (try clear hx1); (try clear c2); (try clear p2); (try clear c3); (try clear c3b0); (try clear c3b1); (try clear c6); (try clear c6b0); (try clear c7); (try clear c7b0); (try clear c8); (try clear c8b0); (try clear hx149_0); (try clear p149); (try clear p2); (try clear q149); obtain ⟨x9_2, x10_2, rfl, rfl, HA, HK2, HO_19, HR149_0, HB⟩ := hrel
                cases gk with
                | zero => exact absurd HA.out (by simp [perm_Order.l1])
                | succ k2 =>
                  have H := HA.out; clear HA; simp only [perm_Order.l1] at H
                  by_cases c9 : x10_2 > 0
                  · rw [if_pos c9] at H; have c9b0 := decide_eq_true c9; clear c9
                    by_cases c10 : x10_2 = 0
                    · rw [if_pos c10] at H
                      exact absurd H (by simp)
                    rw [if_neg c10] at H; have c10b0 := beq_eq_false_iff_ne.mpr c10; have c10b1 := bne_iff_ne.mpr c10; have H' := aM H; clear H; go_wp2
                    repeat (go_quiet (fail); try go_wp2)
                    go_roundg k2
                    case measure => have := HK1.out; have := HK2.out; omega
                    case rel => exact ⟨(x10_2), (Int.tmod x9_2 x10_2), zz112, zz112, H', ⟨zz113⟩, ⟨(zS HO_19)⟩, ⟨zz60⟩, ⟨zz88⟩⟩
                  rw [if_neg c9] at H; have c9b0 := decide_eq_false c9; clear c9
                  by_cases c11 : x9_2 = 0
                  · rw [if_pos c11] at H
                    exact absurd H (by simp)
                  rw [if_neg c11] at H; have c11b0 := beq_eq_false_iff_ne.mpr c11; have c11b1 := bne_iff_ne.mpr c11; have H' := aM H; clear H; go_wp2
                  repeat (go_quiet (fail); try go_wp2)
                  go_roundg k2
                  case measure => have := HK1.out; have := HK2.out; omega
                  case rel => exact ⟨(wrap64 ((wrap64 (Int.tdiv x6_1 x9_2)) * ((rd_L1 t145 x21_1).length : Int))), (wrap64 (x21_1 + 1)), zz112, zz112, H', ⟨zz113⟩, ⟨(zS HO_19)⟩, ⟨zz88⟩⟩
            rw [if_neg c8] at H
            exact absurd H (by simp)
          rw [if_neg c7] at H
          exact absurd H (by simp)
        rw [if_neg c6] at H; have c6b0 := decide_eq_false c6; clear c6; simp only [Option.some.injEq, Prod.mk.injEq] at H; obtain ⟨rfl, rfl⟩ := H; go_wp2
        repeat (go_quiet (fail); try go_wp2)
        go_ret2
        exact ⟨by first | rfl | (simp [errW_none, errW_some] <;> rfl) | (simp [*, errW_none, errW_some] <;> rfl), by repeat (first | (with_reducible first | exact HB.out | apply below_alloc | apply pw_below_drewN | apply below_drew1) | exact HB.out)⟩
  rw [if_neg c3] at H
  have c3b0 := beq_eq_false_iff_ne.mpr c3
  have c3b1 := bne_iff_ne.mpr c3
  simp only [Option.some.injEq, Prod.mk.injEq] at H
  obtain ⟨rfl, rfl⟩ := H
  go_enter Try.func22, Try.ntmps22
  go_wp2_with (first | (go_at_call 20; (with_reducible refine (perm_Cycles.calls k _ _ l0 t145 t146 _ ?side1 ?side2 A2.out).mono ?_); (case side1 => repeat (first | exact HR0.out | (with_reducible refine Kd.C_alloc ?_ _) | (with_reducible refine Kd.C_drewN ?_ _) | (with_reducible refine Kd.C_drew ?_))); (case side2 => exact HC0.out); rintro e w12 ⟨v147, rfl, ho0, hb⟩; have HO148 := aM (Kd.S_lower ho0 (below_size zz88)); replace HB := aM (below_step zz88 hb); (try clear hb); (try clear hb2); (try clear hk); (try clear hi); (try clear ho0)))
  repeat (go_quiet (first | (go_at_call 20; (with_reducible refine (perm_Cycles.calls k _ _ l0 t145 t146 _ ?side1 ?side2 A2.out).mono ?_); (case side1 => repeat (first | exact HR0.out | (with_reducible refine Kd.C_alloc ?_ _) | (with_reducible refine Kd.C_drewN ?_ _) | (with_reducible refine Kd.C_drew ?_))); (case side2 => exact HC0.out); rintro e w12 ⟨v147, rfl, ho0, hb⟩; have HO148 := aM (Kd.S_lower ho0 (below_size zz88)); replace HB := aM (below_step zz88 hb); (try clear hb); (try clear hb2); (try clear hk); (try clear hi); (try clear ho0))); try go_wp2_with (first | (go_at_call 20; (with_reducible refine (perm_Cycles.calls k _ _ l0 t145 t146 _ ?side1 ?side2 A2.out).mono ?_); (case side1 => repeat (first | exact HR0.out | (with_reducible refine Kd.C_alloc ?_ _) | (with_reducible refine Kd.C_drewN ?_ _) | (with_reducible refine Kd.C_drew ?_))); (case side2 => exact HC0.out); rintro e w12 ⟨v147, rfl, ho0, hb⟩; have HO148 := aM (Kd.S_lower ho0 (below_size zz88)); replace HB := aM (below_step zz88 hb); (try clear hb); (try clear hb2); (try clear hk); (try clear hi); (try clear ho0))))
  go_ret2
  exact ⟨by first | rfl | (simp [errW_none, errW_some] <;> rfl) | (simp [*, errW_none, errW_some] <;> rfl), by repeat (first | (with_reducible first | exact HB.out | apply below_alloc | apply pw_below_drewN | apply below_drew1) | exact HB.out)⟩
end
section
def sortL (l : List Int) : List Int := l.mergeSort (fun a b => decide (a ≤ b))
theorem sortL_perm (l : List Int) : (sortL l).Perm l := List.mergeSort_perm _ _
theorem sortL_sorted (l : List Int) : (sortL l).Pairwise (· ≤ ·) := by
  have := List.pairwise_mergeSort (le := fun a b : Int => decide (a ≤ b)) (by intro a b c; simp; omega) (by intro a b; simp; omega) l
  exact this.imp (by intro a b h; simpa using h)
theorem sortL_unique {l r : List Int} (hp : r.Perm l) (hs : r.Pairwise (· ≤ ·)) : r = sortL l :=
  (hp.trans (sortL_perm l).symm).eq_of_pairwise (fun a b _ _ h1 h2 => by omega) hs (sortL_sorted l)
theorem sortL_eq_self {l : List Int} (hs : l.Pairwise (· ≤ ·)) : sortL l = l := (sortL_unique (List.Perm.refl l) hs).symm
def insOne (a : Int) : List Int → List Int
  | [] => [a]
  | b :: l => if a ≤ b then a :: b :: l else b :: insOne a l
def insL : List Int → List Int
  | [] => []
  | a :: l => insOne a (insL l)
theorem insOne_perm (a : Int) : ∀ l, (insOne a l).Perm (a :: l)
  | [] => List.Perm.refl _
  | b :: l => by
    unfold insOne
    split
    · exact List.Perm.refl _
    · exact ((insOne_perm a l).cons b).trans (List.Perm.swap a b l)
theorem insOne_sorted (a : Int) : ∀ {l : List Int}, l.Pairwise (· ≤ ·) → (insOne a l).Pairwise (· ≤ ·)
  | [], _ => by simp [insOne]
  | b :: l, h => by
    have h' := List.pairwise_cons.1 h; unfold insOne
    split
    · rename_i hab
      refine List.pairwise_cons.2 ⟨fun x hx => ?_, h⟩
      rcases List.mem_cons.1 hx with rfl | hx
      · exact hab
      · have := h'.1 x hx; omega
    · refine List.pairwise_cons.2 ⟨fun x hx => ?_, insOne_sorted a h'.2⟩
      rcases List.mem_cons.1 ((insOne_perm a l).mem_iff.1 hx) with rfl | hx
      · omega
      · exact h'.1 x hx
theorem insL_perm : ∀ l, (insL l).Perm l
  | [] => List.Perm.refl _
  | a :: l => (insOne_perm a _).trans ((insL_perm l).cons a)
theorem insL_sorted : ∀ l, (insL l).Pairwise (· ≤ ·)
  | [] => by simp [insL]
  | a :: l => insOne_sorted a (insL_sorted l)
theorem insL_eq (l : List Int) : insL l = sortL l := sortL_unique (insL_perm l) (insL_sorted l)
end
end Go.Proofs.Ytjjlhbgpdncpcaa.P
section
namespace Go.Proofs.Ytjjlhbgpdncpcaa.P
open Go.Shelf in
def sortRen : Ren where
  f := fun | 189 => 58 | 125 => 82 | 257 => 81 | 128 => 101 | 129 => 102 | 294 => 92 | 295 => 93 | 296 => 94 | 297 => 95 | 298 => 96 | 299 => 97 | 216 => 98 | 300 => 99 | 301 => 100 | 328 => 103 | 329 => 104 | 330 => 105 | 331 => 106 | 332 => 107 | 215 => 108 | 343 => 109 | n => n
  t := fun | 28 => 22 | 3 => 3 | 46 => 98 | 0 => 0 | 51 => 72 | 53 => 77 | 4 => 4 | 183 => 117 | 182 => 116 | 131 => 122 | 5 => 5 | 9 => 9 | 218 => 126 | 222 => 130 | 228 => 132 | 229 => 133 | n => n
  g := fun n => n
theorem sortLays : Lays.n189 Try.prog sortRen where
  mixed := by kernel_rfl
  f125 := Try.func82.trans (congrArg some (by kernel_rfl))
  f128 := Try.func101.trans (congrArg some (by kernel_rfl))
  f129 := Try.func102.trans (congrArg some (by kernel_rfl))
  f189 := Try.func58.trans (congrArg some (by kernel_rfl))
  f215 := Try.func108.trans (congrArg some (by kernel_rfl))
  f216 := Try.func98.trans (congrArg some (by kernel_rfl))
  f257 := Try.func81.trans (congrArg some (by kernel_rfl))
  f294 := Try.func92.trans (congrArg some (by kernel_rfl))
  f295 := Try.func93.trans (congrArg some (by kernel_rfl))
  f296 := Try.func94.trans (congrArg some (by kernel_rfl))
  f297 := Try.func95.trans (congrArg some (by kernel_rfl))
  f298 := Try.func96.trans (congrArg some (by kernel_rfl))
  f299 := Try.func97.trans (congrArg some (by kernel_rfl))
  f300 := Try.func99.trans (congrArg some (by kernel_rfl))
  f301 := Try.func100.trans (congrArg some (by kernel_rfl))
  f328 := Try.func103.trans (congrArg some (by kernel_rfl))
  f329 := Try.func104.trans (congrArg some (by kernel_rfl))
  f330 := Try.func105.trans (congrArg some (by kernel_rfl))
  f331 := Try.func106.trans (congrArg some (by kernel_rfl))
  f332 := Try.func107.trans (congrArg some (by kernel_rfl))
  f343 := Try.func109.trans (congrArg some (by kernel_rfl))
  t0 := Try.underlying0
  a0 := Try.isAgg0
  z0 := Try.sizeOf0
  v0 := Try.zeroValue0
  t3 := Try.underlying3
  a3 := Try.isAgg3
  z3 := Try.sizeOf3
  v3 := Try.zeroValue3
  t4 := Try.underlying4
  a4 := Try.isAgg4
  z4 := Try.sizeOf4
  v4 := Try.zeroValue4
  t5 := Try.underlying5
  a5 := Try.isAgg5
  z5 := Try.sizeOf5
  v5 := Try.zeroValue5
  t9 := Try.underlying9
  a9 := Try.isAgg9
  z9 := Try.sizeOf9
  v9 := Try.zeroValue9
  t28 := Try.underlying22
  a28 := Try.isAgg22
  z28 := Try.sizeOf22
  v28 := Try.zeroValue22
  t46 := Try.underlying98
  a46 := Try.isAgg98
  z46 := Try.sizeOf98
  v46 := Try.zeroValue98
  t51 := Try.underlying72
  a51 := Try.isAgg72
  z51 := Try.sizeOf72
  v51 := Try.zeroValue72
  t53 := Try.underlying77
  a53 := Try.isAgg77
  z53 := Try.sizeOf77
  v53 := Try.zeroValue77
  t131 := Try.underlying122
  a131 := Try.isAgg122
  z131 := Try.sizeOf122
  v131 := Try.zeroValue122
  t182 := Try.underlying116
  a182 := Try.isAgg116
  z182 := Try.sizeOf116
  v182 := Try.zeroValue116
  t183 := Try.underlying117
  a183 := Try.isAgg117
  z183 := Try.sizeOf117
  v183 := Try.zeroValue117
  t218 := Try.underlying126
  a218 := Try.isAgg126
  z218 := Try.sizeOf126
  v218 := Try.zeroValue126
  t222 := Try.underlying130
  a222 := Try.isAgg130
  z222 := Try.sizeOf130
  v222 := Try.zeroValue130
  t228 := Try.underlying132
  a228 := Try.isAgg132
  z228 := Try.sizeOf132
  v228 := Try.zeroValue132
  t229 := Try.underlying133
  a229 := Try.isAgg133
  z229 := Try.sizeOf133
  v229 := Try.zeroValue133
end Go.Proofs.Ytjjlhbgpdncpcaa.P
end
section
namespace Go.Proofs.Ytjjlhbgpdncpcaa.P
open Go.RowKit Go.Sort Go.Proofs.YtjjlhbgpdncpcaaW.PrintWords Go.Proofs.YtjjlhbgpdncpcaaW.PrintLast Go.Proofs.YtjjlhbgpdncpcaaW.PrintMore
set_option linter.unusedVariables false
set_option linter.unusedSimpArgs false
theorem sort_big (P0_ : Nat → Prop) (u : Value) (l0 : List Int) (w0 w : World) (hl : 0 < l0.length) (hsz : l0.length < 4611686018427387904) (hB : Below w0.heap.size w0 w) (ho0 : Kd.R (Kd.int .i64) 3 w w0.heap.size P0_ u l0) :
    Calls Try.prog 58 #[u] w fun e w' => e = .returned (.tuple #[]) ∧ Kd.R (Kd.int .i64) 3 w' w0.heap.size (fun k_ => (P0_ k_ ∨ w.heap.size ≤ k_)) u (sortL l0) ∧ Below w0.heap.size w0 w' ∧ Kept w w' (fun k_ => P0_ k_) := by
  have hP := ho0.1
  have ho := Kd.own_of_R ho0
  obtain ⟨hlen, h0 | ⟨g, cap, cur, rfl, hbg, hheap, hn, hcap, hsz', htake⟩⟩ := ho
  · omega
  have hH := Go.holds_of_blockI hheap (ss := l0) (by rw [Nat.mul_one] at htake; exact htake)
  have hlt : g < w.heap.size := (Array.getElem?_eq_some_iff.1 hheap).1
  refine (Any.slices_Sort_int sortLays g 0 cap l0 w hH hlt hsz).mono ?_
  rintro e w' ⟨rfl, n, os, rfl⟩
  have hln : (sortL l0).length = l0.length := (sortL_perm l0).length_eq
  have hown := Go.ownsRow_sortedI (n := n) (os := os) (ts := sortL l0) (ss := l0) hln hbg hheap hn hcap hsz'
  have hg := Go.grownBy_sortedI (w := w) (g := g) (n := n) (os := os) (sortL l0).toArray
  have hPg : P0_ g := hP g rfl
  refine ⟨rfl, Kd.R_of_own (by rw [hln]; exact hown) (fun k hk => .inl (hP k hk)), hB.grown hg hB.size (fun k hk => by injection hk with hk; omega), ⟨hg.size, fun i hi hs => hg.block i hi (fun e_ => hs (by injection e_ with e_; rw [e_]; exact hPg))⟩⟩
end Go.Proofs.Ytjjlhbgpdncpcaa.P
end
namespace Go.Proofs.Ytjjlhbgpdncpcaa.P
open Go.RowKit Go.Proofs.YtjjlhbgpdncpcaaW.PrintWords Go.Proofs.YtjjlhbgpdncpcaaW.PrintLast Go.Proofs.YtjjlhbgpdncpcaaW.PrintMore
set_option linter.unusedVariables false
set_option linter.unusedSimpArgs false
set_option maxHeartbeats 8000000
set_option maxRecDepth 100000
section
open Go.Shelf in
def lenRen : Ren where
  f := fun | 125 => 82 | 128 => 101 | 129 => 102 | n => n
  t := fun | 46 => 98 | 51 => 72 | 53 => 77 | n => n
  g := fun n => n
theorem lenLays : Lays.n125 Try.prog lenRen where
  mixed := by kernel_rfl
  f125 := Try.func82.trans (congrArg some (by kernel_rfl))
  f128 := Try.func101.trans (congrArg some (by kernel_rfl))
  f129 := Try.func102.trans (congrArg some (by kernel_rfl))
  t3 := Try.underlying3
  a3 := Try.isAgg3
  z3 := Try.sizeOf3
  v3 := Try.zeroValue3
  t4 := Try.underlying4
  a4 := Try.isAgg4
  z4 := Try.sizeOf4
  v4 := Try.zeroValue4
  t5 := Try.underlying5
  a5 := Try.isAgg5
  z5 := Try.sizeOf5
  v5 := Try.zeroValue5
  t9 := Try.underlying9
  a9 := Try.isAgg9
  z9 := Try.sizeOf9
  v9 := Try.zeroValue9
  t46 := Try.underlying98
  a46 := Try.isAgg98
  z46 := Try.sizeOf98
  v46 := Try.zeroValue98
  t51 := Try.underlying72
  a51 := Try.isAgg72
  z51 := Try.sizeOf72
  v51 := Try.zeroValue72
  t53 := Try.underlying77
  a53 := Try.isAgg77
  z53 := Try.sizeOf77
  v53 := Try.zeroValue77
theorem bits_Len.calls (x : Int) (w : World) (h0 : 0 ≤ x) (h1 : x ≤ 18446744073709551615) :
    Calls Try.prog 82 #[.int .u64 x] w fun e w' => e = .returned (.int .i64 (Lib.bitLen x.toNat)) ∧ w' = w := Any.bits_Len lenLays x w h0 h1
theorem ins0.calls (u : Value) (w : World) : Calls Try.prog 92 #[u, .int .i64 0, .int .i64 0] w fun e w' => e = .returned (.tuple #[]) ∧ w' = w := by
  go_enter Try.func92, Try.ntmps92
  go_wp2
  go_loopg [6] 1 (fun kq v6 w' => v6 = .int .i64 1 ∧ w' = w)
  case atStart => exact ⟨rfl, rfl⟩
  case round =>
    obtain ⟨rfl, rfl⟩ := hrel; go_wp2
    first | go_end0 | ((try simp only [Exit.inBlock, Exit.then]); refine bodyPost_ret (results_none rfl _ _ _) rfl ?_)
    exact ⟨rfl, rfl⟩
theorem pdq0.calls (u : Value) (lim : Int) (w : World) : Calls Try.prog 81 #[u, .int .i64 0, .int .i64 0, .int .i64 lim] w fun e w' => e = .returned (.tuple #[]) ∧ w' = w := by
  go_enter Try.func81, Try.ntmps81
  go_wp2
  go_loopg [1, 2, 3, 8, 9] 1 (fun kq v1 v2 v3 v8 v9 w' => v1 = .int .i64 0 ∧ v2 = .int .i64 0 ∧ v3 = .int .i64 lim ∧ v8 = .bool true ∧ v9 = .bool true ∧ w' = w)
  case atStart => exact ⟨rfl, rfl, rfl, rfl, rfl, rfl⟩
  case round =>
    obtain ⟨rfl, rfl, rfl, rfl, rfl, rfl⟩ := hrel
    go_wp2_with (first
      | (go_at_call 92; (with_reducible refine (ins0.calls u _).mono ?_); rintro e w1 ⟨rfl, rfl⟩))
    first | go_end0 | ((try simp only [Exit.inBlock, Exit.then]); refine bodyPost_ret (results_none rfl _ _ _) rfl ?_)
    exact ⟨rfl, rfl⟩
def slSort.f (l0 : List Int) : Option (List Int) := if l0.length < 4611686018427387904 then some (insL l0) else none
theorem slSort.calls (P0_ : Nat → Prop) (u9000_ : Value) (l0 : List Int) (r : List Int) (w0 w : World) (hB : Below w0.heap.size w0 w) (ho0 : Kd.R (Kd.int .i64) 3 w w0.heap.size P0_ u9000_ l0) (h : slSort.f l0 = some r) :
    Calls Try.prog 58 #[u9000_] w fun e w' => e = .returned (.tuple #[]) ∧ Kd.R (Kd.int .i64) 3 w' w0.heap.size (fun k_ => (P0_ k_ ∨ w.heap.size ≤ k_)) u9000_ r ∧ Below w0.heap.size w0 w' ∧ Kept w w' (fun k_ => P0_ k_) := by
  have hq : l0.length < 4611686018427387904 ∧ sortL l0 = r := by
    unfold slSort.f at h; rw [insL_eq] at h
    split at h
    · exact ⟨by assumption, Option.some.inj h⟩
    · cases h
  obtain ⟨hl', rfl⟩ := hq
  by_cases hz : 0 < l0.length
  · exact sort_big P0_ u9000_ l0 w0 w hz hl' hB ho0
  have h0 : l0 = [] := by cases l0 with
    | nil => rfl
    | cons a l => simp at hz
  subst h0
  have hK : Kd.R (Kd.int .i64) 3 w w0.heap.size (fun k_ => (P0_ k_ ∨ w.heap.size ≤ k_)) u9000_ (sortL []) := by
    rw [sortL_eq_self List.Pairwise.nil]
    exact Kd.R_mono ho0 (fun k hk => .inl hk)
  have HK := aM hK
  have HB := aM hB
  obtain ⟨A, c, rfl⟩ := Kd.R_slice ho0
  clear ho0 hB h hK hz hl'
  go_enter Try.func58, Try.ntmps58
  go_wp2_with (first
    | (go_at_call 82; (with_reducible refine (bits_Len.calls _ _ ?s1 ?s2).mono ?_); (case s1 => decide); (case s2 => decide); rintro e w1 ⟨rfl, rfl⟩)
    | (go_at_call 81; (with_reducible refine (pdq0.calls _ _ _).mono ?_); rintro e w1 ⟨rfl, rfl⟩))
  go_end0
  exact ⟨rfl, HK.out, HB.out, Kept.refl _ _⟩
end
section
attribute [local go_sem] max2_int min2_int max_two min_two max_three min_three max_four min_four
mutual
def perm_Orbits.l0 : Nat → List (List Int) → List Bool → List (List Int) → Int → Int → Option ((List (List Int)) × Int)
  | 0, _, _, _, _, _ => none
  | k + 1, x1, x7, x8, x23, x24 => if x24 < x23 then (if 0 ≤ x24 then (if x24 < (x7.length : Int) then (if rdOf false x7 x24 = true then (perm_Orbits.l0 k x1 x7 x8 x23 (wrap64 (x24 + 1))) else (perm_Orbits.l1 k x1 (x7.set (x24 : Int).toNat true) x8 (([x24] : List Int)) 0 x23 x24)) else (none)) else (none)) else (some (x8, 0))
def perm_Orbits.l1 : Nat → List (List Int) → List Bool → List (List Int) → List Int → Int → Int → Int → Option ((List (List Int)) × Int)
  | 0, _, _, _, _, _, _, _ => none
  | k + 1, x1, x7, x8, x10, x11, x23, x24 => if x11 < (x10.length : Int) then (perm_Orbits.l2 k x1 x7 x8 x10 x11 x23 x24 x1 (x1.length : Int) 0) else ((slSort.f x10).bind fun t172 => (if x8.length < 5864062014805 then (perm_Orbits.l0 k x1 x7 (x8 ++ [t172]) x23 (wrap64 (x24 + 1))) else (none)))
def perm_Orbits.l2 : Nat → List (List Int) → List Bool → List (List Int) → List Int → Int → Int → Int → List (List Int) → Int → Int → Option ((List (List Int)) × Int)
  | 0, _, _, _, _, _, _, _, _, _, _ => none
  | k + 1, x1, x7, x8, x10, x11, x23, x24, x42, x43, x44 => if x44 < x43 then (if 0 ≤ x44 then (if x44 < (x42.length : Int) then (if 0 ≤ x11 then (if x11 < (x10.length : Int) then (if 0 ≤ (rd x10 x11) then (if (rd x10 x11) < ((rd_L1 x42 x44).length : Int) then (if 0 ≤ (rd (rd_L1 x42 x44) (rd x10 x11)) then (if (rd (rd_L1 x42 x44) (rd x10 x11)) < (x7.length : Int) then (if (rdOf false x7 (rd (rd_L1 x42 x44) (rd x10 x11)) = true) then (perm_Orbits.l2 k x1 x7 x8 x10 x11 x23 x24 x42 x43 (wrap64 (x44 + 1))) else (if x10.length < 17592186044416 then (perm_Orbits.l2 k x1 (x7.set ((rd (rd_L1 x42 x44) (rd x10 x11)) : Int).toNat true) x8 (x10 ++ [rd (rd_L1 x42 x44) (rd x10 x11)]) x11 x23 x24 x42 x43 (wrap64 (x44 + 1))) else (none))) else (none)) else (none)) else (none)) else (none)) else (none)) else (none)) else (none)) else (none)) else (perm_Orbits.l1 k x1 x7 x8 x10 (wrap64 (x11 + 1)) x23 x24)
end
def perm_Orbits.f (k : Nat) (a0 : Int) (l1 : List (List Int)) : Option ((List (List Int)) × Int) := (perm_generators.f a0 l1).bind fun t163 => (if t163 = 0 then (if 0 ≤ a0 then (if (a0 : Int).toNat ≤ 281474976710656 then (perm_Orbits.l0 k l1 (List.replicate (a0 : Int).toNat false) ([] : List (List Int)) a0 0) else (none)) else (none)) else (some (([] : List (List Int)), t163)))
theorem perm_Orbits.calls (k : Nat) (a0 : Int) (A1 : Option Addr) (c1 : Nat) (l1 : List (List Int)) (r1 : List (List Int)) (r2 : Int) (w : World) (hr1 : Kd.C (Kd.slice 3 (Kd.int .i64)) w A1 l1.length l1) (hc1 : l1.length ≤ c1) (h : perm_Orbits.f k a0 l1 = some (r1, r2)) :
    Calls Try.prog 28 #[.int .i64 a0, .slice A1 l1.length c1] w fun e w' => ∃ v0_ : Value, e = .returned (.tuple #[v0_, .int .i64 r2]) ∧ Kd.S (Kd.slice 3 (Kd.int .i64)) 22 w' w.heap.size (fun _ => True) v0_ r1 ∧ Below w.heap.size w w' := by
  have HR1 := aM hr1
  have HC1 := aM hc1
  clear hr1 hc1
  have HB := aM (Below.refl w.heap.size w)
  have H : ((perm_generators.f a0 l1).bind fun t163 => (if t163 = 0 then (if 0 ≤ a0 then (if (a0 : Int).toNat ≤ 281474976710656 then (perm_Orbits.l0 k l1 (List.replicate (a0 : Int).toNat false) ([] : List (List Int)) a0 0) else (none)) else (none)) else (some (([] : List (List Int)), t163)))) = some (r1, r2) := h
  clear h
  replace H := Option.bind_eq_some_iff.mp H
  obtain ⟨t163, A30, H⟩ := H
  replace H : (if t163 = 0 then (if 0 ≤ a0 then (if (a0 : Int).toNat ≤ 281474976710656 then (perm_Orbits.l0 k l1 (List.replicate (a0 : Int).toNat false) ([] : List (List Int)) a0 0) else (none)) else (none)) else (some (([] : List (List Int)), t163))) = some (r1, r2) := H
  have A3 := aM A30
  clear A30
  by_cases c4 : t163 = 0
  · rw [if_pos c4] at H
    have c4b0 := beq_iff_eq.mpr c4; have c4b1 := bne_eq_false_iff_eq.mpr c4; clear c4
    by_cases c5 : 0 ≤ a0
    · rw [if_pos c5] at H; have c5b0 := eq_true c5; have c5b1 := decide_eq_true c5; clear c5
      by_cases c6 : (a0 : Int).toNat ≤ 281474976710656
      · rw [if_pos c6] at H; have c6b0 := eq_true c6; have c6b1 := decide_eq_true c6; clear c6; obtain ⟨y164, hy164⟩ : ∃ y_ : List Bool, y_ = (List.replicate (a0 : Int).toNat false) := ⟨_, rfl⟩; replace H : (perm_Orbits.l0 k l1 y164 ([] : List (List Int)) a0 0) = some (r1, r2) := by first | (rw [hy164]; with_reducible exact H) | (have H2_ := (Option.bind_some _ _).symm.trans H; rw [hy164]; with_reducible exact H2_) | (have H2_ := (Option.bind_some _ _).symm.trans H; with_reducible exact H2_) | with_reducible exact H | (rw [hy164]; exact H) | exact H
        have Ny164 := aM hy164; clear hy164; have H' := aM H; clear H
        go_enter Try.func28, Try.ntmps28
        go_wp2_with (first | ((with_reducible refine gate_callee (f := 57) rfl ?_); refine goesL_ (some 17) rfl rfl Try.func57 (by kernel_rfl) rfl #[.int .i64 a0, .slice A1 l1.length c1] rfl zz87 ?_; (with_reducible refine (perm_generators.calls a0 _ _ l1 t163 _ ?side1 ?side2 A3.out).mono ?_); (case side1 => repeat (first | exact HR1.out | (with_reducible refine Kd.C_alloc ?_ _) | (with_reducible refine Kd.C_drewN ?_ _) | (with_reducible refine Kd.C_drew ?_))); (case side2 => exact HC1.out); rintro e w7 ⟨rfl, hb⟩; refine ⟨_, rfl, ?_⟩; replace HB := aM (below_step zz88 hb); (try clear hb); (try clear hb2); (try clear hk); (try clear hi)) | ((with_reducible refine gate_dst (N := 22) rfl ?_); refine Kd.R_make Kd.bool _ 4 rfl (N := 22) rfl 83 _ _ rfl a0 rfl rfl Try.underlying83 (.bool false) 1 info4 rfl (by decide) (by omega) false (ok := fun _ => True) (okp := fun _ => True) rfl (fun _ hk => hk) trivial (of_decide_eq_true zz111) (Nat.le_trans (Nat.mul_le_mul_right _ (of_decide_eq_true zz111 : a0.toNat ≤ 281474976710656)) (by omega)) (Below.refl _ _) (Nat.le_refl _) ?_; intro v165 w8 ho9 hb hg_ hnew_; clear hg_ hnew_; (first | rw [← Ny164.out] at ho9 | (simp only [Int.reduceToNat] at ho9; rw [← Ny164.out] at ho9)); have HO166 := aM (Kd.R_lower ho9 (below_size zz88)); replace HB := aM (below_step zz88 hb); clear hb ho9))
        go_loopg [8, 24] k (fun kq v8 v24 w' => ∃ (x7_1 : List Bool) (x8_1 : List (List Int)) (x24_1 : Int), v24 = .int .i64 x24_1 ∧ Aside0 (perm_Orbits.l0 kq l1 x7_1 x8_1 a0 x24_1 = some (r1, r2)) ∧ Aside0 (kq ≤ k) ∧ Aside0 (Kd.R Kd.bool 4 w' w.heap.size (fun _ => True) v165 x7_1) ∧ Aside0 (Kd.S (Kd.slice 3 (Kd.int .i64)) 22 w' w.heap.size (fun _ => True) v8 x8_1) ∧ Aside0 (Below w.heap.size w w'))
        case atStart => exact ⟨(y164), (([] : List (List Int))), (0), zz112, H', ⟨Nat.le_refl _⟩, ⟨(zR HO166)⟩, ⟨zz86⟩, ⟨zz88⟩⟩
        case round =>
          clear H'; (try clear c1); (try clear c2); (try clear p2); (try clear c4); (try clear c4b0); (try clear c4b1); (try clear c5); (try clear c5b0); (try clear c5b1); (try clear c6); (try clear c6b0); (try clear c6b1); obtain ⟨x7_1, x8_1, x24_1, rfl, HA, HK1, HO_7, HO_8, HB⟩ := hrel
          cases gk with
          | zero => exact absurd HA.out (by simp [perm_Orbits.l0])
          | succ k1 =>
            have H := HA.out; clear HA; simp only [perm_Orbits.l0] at H
            by_cases c10 : x24_1 < a0
            · rw [if_pos c10] at H; have c10b0 := decide_eq_true c10; clear c10
              by_cases c11 : 0 ≤ x24_1
              · rw [if_pos c11] at H; have c11b0 := decide_eq_true c11; clear c11
                by_cases c12 : x24_1 < (x7_1.length : Int)
                · rw [if_pos c12] at H; have c12b0 := decide_eq_true c12; clear c12; obtain ⟨bq13, hbq13⟩ : ∃ b_ : Bool, b_ = (rdOf false x7_1 x24_1) := ⟨_, rfl⟩; replace H : (if bq13 = true then (perm_Orbits.l0 k1 l1 x7_1 x8_1 a0 (wrap64 (x24_1 + 1))) else (perm_Orbits.l1 k1 l1 (x7_1.set (x24_1 : Int).toNat true) x8_1 (([x24_1] : List Int)) 0 a0 x24_1)) = some (r1, r2) := by rw [← hbq13] at H; exact H
                  have Nbq13 := aM hbq13; clear hbq13
                  by_cases c14 : bq13 = true
                  · subst c14; have H1 : (perm_Orbits.l0 k1 l1 x7_1 x8_1 a0 (wrap64 (x24_1 + 1))) = some (r1, r2) := by rw [if_pos rfl] at H; exact H
                    clear H; have H := H1; clear H1; have H' := aM H; clear H; obtain ⟨Ao15, co15, eo15⟩ := Kd.R_slice HO_7.out; subst eo15; have p167 : 0 ≤ (x24_1 : Int) := of_decide_eq_true zz111; have q167 : x24_1 < (x7_1.length : Int) := of_decide_eq_true zz111; obtain ⟨ad167, e167, hx167_0⟩ := Kd.at_bool (Kd.R_reads' HO_7.out).2.2 x24_1 p167 q167
                    (try rw [← Nbq13.out] at hx167_0)
                    cases e167; replace p167 := eq_true p167; replace q167 := eq_true q167; go_wp2
                    go_roundg k1
                    case measure => have := HK1.out; omega
                    case rel => exact ⟨(x7_1), (x8_1), (wrap64 (x24_1 + 1)), zz112, H', ⟨zz120⟩, ⟨(zR HO_7)⟩, ⟨(zS HO_8)⟩, ⟨zz88⟩⟩
                  replace c14 := Bool.eq_false_iff.mpr c14; subst c14; have H1 : (perm_Orbits.l1 k1 l1 (x7_1.set (x24_1 : Int).toNat true) x8_1 (([x24_1] : List Int)) 0 a0 x24_1) = some (r1, r2) := by rw [if_neg (show ¬ (false = true) by decide)] at H; exact H
                  clear H; have H := H1; clear H1; obtain ⟨y168, hy168⟩ : ∃ y_ : List Bool, y_ = (x7_1.set (x24_1 : Int).toNat true) := ⟨_, rfl⟩; replace H : (perm_Orbits.l1 k1 l1 y168 x8_1 (([x24_1] : List Int)) 0 a0 x24_1) = some (r1, r2) := by first | (rw [hy168]; with_reducible exact H) | (have H2_ := (Option.bind_some _ _).symm.trans H; rw [hy168]; with_reducible exact H2_) | (have H2_ := (Option.bind_some _ _).symm.trans H; with_reducible exact H2_) | with_reducible exact H | (rw [hy168]; exact H) | exact H
                  have Ny168 := aM hy168; clear hy168; obtain ⟨y169, hy169⟩ : ∃ y_ : List Int, y_ = (([x24_1] : List Int)) := ⟨_, rfl⟩; replace H : (perm_Orbits.l1 k1 l1 y168 x8_1 y169 0 a0 x24_1) = some (r1, r2) := by first | (rw [hy169]; with_reducible exact H) | (have H2_ := (Option.bind_some _ _).symm.trans H; rw [hy169]; with_reducible exact H2_) | (have H2_ := (Option.bind_some _ _).symm.trans H; with_reducible exact H2_) | with_reducible exact H | (rw [hy169]; exact H) | exact H
                  have Ny169 := aM hy169; clear hy169; have H' := aM H; clear H; obtain ⟨Ao17, co17, eo17⟩ := Kd.R_slice HO_7.out; subst eo17; have p167 : 0 ≤ (x24_1 : Int) := of_decide_eq_true zz111; have q167 : x24_1 < (x7_1.length : Int) := of_decide_eq_true zz111; obtain ⟨ad167, e167, hx167_0⟩ := Kd.at_bool (Kd.R_reads' HO_7.out).2.2 x24_1 p167 q167
                  (try rw [← Nbq13.out] at hx167_0)
                  cases e167; replace p167 := eq_true p167; replace q167 := eq_true q167; have p16 : 0 ≤ (x24_1 : Int) := of_decide_eq_true zz111; have q16 : (x24_1 : Int) < ((x7_1.length : Int) : Int) := of_decide_eq_true zz111; obtain ⟨go16, co16, eo16, gb16, gl16, cl16, HG16⟩ := Kd.R_form HO_7.out (by omega)
                  (first | cases eo16 | (injection eo16 with ea_ en_ ec_; (first | subst ea_ | (injection ea_ with ea_; subst ea_)); subst ec_; clear en_))
                  have GB16 := aM gb16; have GG16 := aM HG16; clear gb16 gl16 HG16
                  (first | simp only [add_plain] at hx167_0 | skip)
                  obtain ⟨hx16_0, hf16_0⟩ := Kd.R_celln false HO_7.out (x24_1 : Int) p16 q16; replace p16 := eq_true p16; replace q16 := eq_true q16; have HP18 := Kd.R_putg HO_7.out (x24_1 : Int) true
                  go_wp2_with (first | ((with_reducible refine gate_store (t := 4) (p := 33) rfl ?_); refine store_event (t := 4) (p := 33) (v := ?vo_w19) (w1 := (wr.setCell ⟨go16, (x24_1 : Int).toNat, none⟩ (.bool true))) ?hg ?ho ?hn ?hr ?_; (case ho => rfl); (case hg => rfl); (case hn => rfl); (case hr => first | (go_simp; done) | (go_simp; rfl)); intro w19 hw; have hg : wr.grownBy w19 (some go16) := (by rw [hw]; exact HP18.2); have hp_ : Kd.R Kd.bool 4 w19 w.heap.size (fun _ => True) (.slice (some ⟨go16, 0, none⟩) x7_1.length co17) y168 := (by rw [hw, Ny168.out]; exact HP18.1); clear HP18; replace HO_8 := aM (Kd.S_over' (v := (.slice (some ⟨go16, 0, none⟩) x7_1.length co17)) (zS HO_8) (Kd.R_typed HO_7.out) (by decide) hg); replace HO_7 := aM (hp_); replace HB := aM ((by rw [hw]; exact below_set (HB.out) GB16.out : Below w.heap.size w w19)); clear hg hw hp_) | ((with_reducible refine gate_dst (N := 35) rfl ?_); refine Kd.R_lit (Kd.int .i64) _ 3 ?hg (N := 35) ?hd (xs := ([x24_1] : List Int)) (inner := [.int .i64 x24_1]) (ok := fun _ => True) (okp := fun _ => True) ?hr ?hp (fun _ hk => hk) trivial (Below.refl _ _) (Nat.le_refl _) (by simp) ?_; (case hd => rfl); (case hg => rfl); (case hr => first | (go_simp; done) | (go_simp; rfl)); (case hp => exact (Reps.one (show Kd.M (Kd.int .i64) _ _ _ x24_1 [.int .i64 x24_1] from rfl) (Reps.none _ _))); intro v170 w20 ho21 hb hg_ hnew_; clear hg_ hnew_; (first | rw [← Ny169.out] at ho21 | (simp only [Int.reduceToNat] at ho21; rw [← Ny169.out] at ho21)); replace HO_7 := aM (Kd.R_below (zR HO_7) hb); replace HO_8 := aM (Kd.S_elder' (zS HO_8) (Kd.R_base ho21) hb); have HO171 := aM (Kd.R_lower ho21 (below_size zz88)); replace HB := aM (below_step zz88 hb); clear hb ho21))
                  go_loopg [10, 11] k1 (fun kq v10 v11 w' => ∃ (x7_2 : List Bool) (x10_2 : List Int) (x11_2 : Int), v11 = .int .i64 x11_2 ∧ Aside0 (perm_Orbits.l1 kq l1 x7_2 x8_1 x10_2 x11_2 a0 x24_1 = some (r1, r2)) ∧ Aside0 (kq ≤ k1) ∧ Aside0 (Kd.R Kd.bool 4 w' w.heap.size (fun _ => True) (.slice (some ⟨go16, 0, none⟩) x7_1.length co17) x7_2) ∧ Aside0 (Kd.S (Kd.slice 3 (Kd.int .i64)) 22 w' w.heap.size (fun k_ => some k_ ≠ (v10 : Value).ownBlock) u8 x8_1) ∧ Aside0 (Kd.R (Kd.int .i64) 3 w' w.heap.size (fun _ => True) v10 x10_2) ∧ Aside0 (Below w.heap.size w w'))
                  case atStart => exact ⟨(y168), (y169), (0), zz112, H', ⟨Nat.le_refl _⟩, ⟨(zR HO_7)⟩, ⟨(by (with_reducible repeat (first | apply Kd.S_alloc | apply Kd.S_drewN | apply Kd.S_drew)); exact Kd.S_mono HO_8.out (fun _ hk => hk.2))⟩, ⟨(zR HO171)⟩, ⟨zz88⟩⟩
                  case round =>
                    clear H'; (try clear c1); (try clear p1); (try clear q1); (try clear hx1); (try clear c2); (try clear p2); (try clear c4); (try clear c4b0); (try clear c4b1); (try clear c5); (try clear c5b0); (try clear c5b1); (try clear c6); (try clear c6b0); (try clear c6b1); (try clear p6); (try clear c10); (try clear c10b0); (try clear c11); (try clear c11b0); (try clear c12); (try clear c12b0); (try clear q13); (try clear c14); (try clear p16); (try clear q16); (try clear hx16); (try clear hf16); (try clear hx167_0); (try clear hx16_0); (try clear p16); (try clear p167); (try clear p2); (try clear q16); (try clear q167); obtain ⟨x7_2, x10_2, x11_2, rfl, HA, HK2, HO_7, HO_8, HO_10, HB⟩ := hrel; have hl7_2 := (Kd.R_reads' HO_7.out).1; rw [hl7_2] at HO_7
                    (try simp only [hl7_2])
                    (try simp only [hl7_2] at HO_8)
                    (try simp only [hl7_2] at HO_10)
                    cases gk with
                    | zero => exact absurd HA.out (by simp [perm_Orbits.l1])
                    | succ k2 =>
                      have H := HA.out; clear HA; simp only [perm_Orbits.l1] at H
                      by_cases c22 : x11_2 < (x10_2.length : Int)
                      · rw [if_pos c22] at H; have c22b0 := decide_eq_true c22; clear c22; have H' := aM H; clear H; obtain ⟨Ao23, co23, eo23⟩ := Kd.R_slice HO_10.out; subst eo23; go_wp2
                        go_loopg [10, 44] k2 (fun kq v10 v44 w' => ∃ (x7_3 : List Bool) (x10_3 : List Int) (x44_3 : Int), v44 = .int .i64 x44_3 ∧ Aside0 (perm_Orbits.l2 kq l1 x7_3 x8_1 x10_3 x11_2 a0 x24_1 l1 (l1.length : Int) x44_3 = some (r1, r2)) ∧ Aside0 (kq ≤ k2) ∧ Aside0 (Kd.R Kd.bool 4 w' w.heap.size (fun _ => True) (.slice (some ⟨go16, 0, none⟩) x7_2.length co17) x7_3) ∧ Aside0 (Kd.S (Kd.slice 3 (Kd.int .i64)) 22 w' w.heap.size (fun k_ => some k_ ≠ (v10 : Value).ownBlock) u8 x8_1) ∧ Aside0 (Kd.R (Kd.int .i64) 3 w' w.heap.size (fun _ => True) v10 x10_3) ∧ Aside0 (Below w.heap.size w w'))
                        case atStart => exact ⟨(x7_2), (x10_2), (0), zz112, H', ⟨Nat.le_refl _⟩, ⟨zz89⟩, ⟨(by (try simp only [hl7_2]); (with_reducible repeat (first | apply Kd.S_alloc | apply Kd.S_drewN | apply Kd.S_drew)); exact HO_8.out)⟩, ⟨(by (try simp only [hl7_2]); (with_reducible repeat (first | apply Kd.R_alloc | apply Kd.R_drewN | apply Kd.R_drew)); exact HO_10.out)⟩, ⟨zz88⟩⟩
                        case round =>
                          clear H'; (try clear c1); (try clear p1); (try clear q1); (try clear hx1); (try clear c2); (try clear p2); (try clear c4); (try clear c4b0); (try clear c4b1); (try clear c5); (try clear c5b0); (try clear c5b1); (try clear c6); (try clear c6b0); (try clear c6b1); (try clear p6); (try clear c10); (try clear c10b0); (try clear c11); (try clear c11b0); (try clear c12); (try clear c12b0); (try clear q13); (try clear c14); (try clear p16); (try clear q16); (try clear hx16); (try clear hf16); (try clear c22); (try clear c22b0); (try clear hx167_0); (try clear hx16_0); (try clear p1); (try clear p16); (try clear p167); (try clear p2); (try clear p6); (try clear q1); (try clear q13); (try clear q16); (try clear q167); obtain ⟨x7_3, x10_3, x44_3, rfl, HA, HK3, HO_7, HO_8, HO_10, HB⟩ := hrel; have hl7_3 := (Kd.R_reads' HO_7.out).1; rw [hl7_3] at HO_7
                          (try simp only [hl7_3])
                          (try simp only [hl7_3] at HO_8)
                          (try simp only [hl7_3] at HO_10)
                          cases gk with
                          | zero => exact absurd HA.out (by simp [perm_Orbits.l2])
                          | succ k3 =>
                            have H := HA.out; clear HA; simp only [perm_Orbits.l2] at H
                            by_cases c24 : x44_3 < (l1.length : Int)
                            · rw [if_pos c24] at H; have c24b0 := decide_eq_true c24; clear c24
                              by_cases c25 : 0 ≤ x44_3
                              · rw [if_pos c25] at H; have c25b0 := decide_eq_true c25; clear c25
                                by_cases c26 : x44_3 < (l1.length : Int)
                                · rw [if_pos c26] at H; have c26b0 := decide_eq_true c26; clear c26
                                  by_cases c27 : 0 ≤ x11_2
                                  · rw [if_pos c27] at H; have c27b0 := decide_eq_true c27; clear c27
                                    by_cases c28 : x11_2 < (x10_3.length : Int)
                                    · rw [if_pos c28] at H; have c28b0 := decide_eq_true c28; clear c28
                                      by_cases c29 : 0 ≤ (rd x10_3 x11_2)
                                      · rw [if_pos c29] at H; have c29b0 := decide_eq_true c29; clear c29
                                        by_cases c30 : (rd x10_3 x11_2) < ((rd_L1 l1 x44_3).length : Int)
                                        · rw [if_pos c30] at H; have c30b0 := decide_eq_true c30; clear c30
                                          by_cases c31 : 0 ≤ (rd (rd_L1 l1 x44_3) (rd x10_3 x11_2))
                                          · rw [if_pos c31] at H; have c31b0 := decide_eq_true c31; clear c31
                                            by_cases c32 : (rd (rd_L1 l1 x44_3) (rd x10_3 x11_2)) < (x7_3.length : Int)
                                            · rw [if_pos c32] at H; have c32b0 := decide_eq_true c32; clear c32; obtain ⟨bq33, hbq33⟩ : ∃ b_ : Bool, b_ = (rdOf false x7_3 (rd (rd_L1 l1 x44_3) (rd x10_3 x11_2))) := ⟨_, rfl⟩; replace H : (if (bq33 = true) then (perm_Orbits.l2 k3 l1 x7_3 x8_1 x10_3 x11_2 a0 x24_1 l1 (l1.length : Int) (wrap64 (x44_3 + 1))) else (if x10_3.length < 17592186044416 then (perm_Orbits.l2 k3 l1 (x7_3.set ((rd (rd_L1 l1 x44_3) (rd x10_3 x11_2)) : Int).toNat true) x8_1 (x10_3 ++ [rd (rd_L1 l1 x44_3) (rd x10_3 x11_2)]) x11_2 a0 x24_1 l1 (l1.length : Int) (wrap64 (x44_3 + 1))) else (none))) = some (r1, r2) := by rw [← hbq33] at H; exact H
                                              have Nbq33 := aM hbq33; clear hbq33
                                              by_cases c34 : (bq33 = true)
                                              · subst c34; have H1 : (perm_Orbits.l2 k3 l1 x7_3 x8_1 x10_3 x11_2 a0 x24_1 l1 (l1.length : Int) (wrap64 (x44_3 + 1))) = some (r1, r2) := by rw [if_pos rfl] at H; exact H
                                                clear H; have H := H1; clear H1; have H' := aM H; clear H; have p176 : 0 ≤ (x44_3 : Int) := of_decide_eq_true zz111; have q176 : x44_3 < (l1.length : Int) := of_decide_eq_true zz111; obtain ⟨ad176, A176_0, c176_0, e176, hx176_0, hl176_0, hi176_0⟩ := at_L1 HR1.out x44_3 p176 q176
                                                cases e176; replace hx176_0 := (HB.out.cell (World.block_lt_of_cell? w _ hx176_0)).trans hx176_0; have HR176_0 := aM hi176_0; have HC176_0 := aM hl176_0; clear hi176_0 hl176_0; replace p176 := eq_true p176; replace q176 := eq_true q176; obtain ⟨Ao35, co35, eo35⟩ := Kd.R_slice HO_10.out; subst eo35; have p177 : 0 ≤ (x11_2 : Int) := of_decide_eq_true zz111; have q177 : x11_2 < (x10_3.length : Int) := of_decide_eq_true zz111; obtain ⟨ad177, e177, hx177_0⟩ := Kd.at_int (Kd.R_reads' HO_10.out).2.2 x11_2 p177 q177
                                                cases e177; replace p177 := eq_true p177; replace q177 := eq_true q177; have p178 : 0 ≤ ((rd x10_3 x11_2) : Int) := of_decide_eq_true zz111; have q178 : (rd x10_3 x11_2) < ((rd_L1 l1 x44_3).length : Int) := of_decide_eq_true zz111; obtain ⟨ad178, e178, hx178_0⟩ := Kd.at_int HR176_0.out (rd x10_3 x11_2) p178 q178
                                                cases e178; replace hx178_0 := (HB.out.cell (World.block_lt_of_cell? w _ hx178_0)).trans hx178_0; replace p178 := eq_true p178; replace q178 := eq_true q178; have p179 : 0 ≤ ((rd (rd_L1 l1 x44_3) (rd x10_3 x11_2)) : Int) := of_decide_eq_true zz111; have q179 : (rd (rd_L1 l1 x44_3) (rd x10_3 x11_2)) < (x7_3.length : Int) := of_decide_eq_true zz111; obtain ⟨ad179, e179, hx179_0⟩ := Kd.at_bool (Kd.R_reads' HO_7.out).2.2 (rd (rd_L1 l1 x44_3) (rd x10_3 x11_2)) p179 q179
                                                (try rw [← Nbq13.out] at hx179_0)
                                                (try rw [← Nbq33.out] at hx179_0)
                                                obtain rfl : (⟨go16, 0, none⟩ : Addr) = ad179 := (by injection e179)
                                                (first | simp only [add_plain] at hx179_0 | simp only [add_at] at hx179_0 | simp only [Addr.add, Nat.zero_add] at hx179_0 | skip)
                                                replace p179 := eq_true p179; replace q179 := eq_true q179; go_wp2
                                                (try simp only [← hl7_3])
                                                go_roundg k3
                                                case measure => have := HK1.out; have := HK2.out; have := HK3.out; omega
                                                case rel => exact ⟨(x7_3), (x10_3), (wrap64 (x44_3 + 1)), zz112, H', ⟨zz110⟩, ⟨zz78⟩, ⟨zz79⟩, ⟨zz76⟩, ⟨zz88⟩⟩
                                              replace c34 := Bool.eq_false_iff.mpr c34; subst c34; have H1 : (if x10_3.length < 17592186044416 then (perm_Orbits.l2 k3 l1 (x7_3.set ((rd (rd_L1 l1 x44_3) (rd x10_3 x11_2)) : Int).toNat true) x8_1 (x10_3 ++ [rd (rd_L1 l1 x44_3) (rd x10_3 x11_2)]) x11_2 a0 x24_1 l1 (l1.length : Int) (wrap64 (x44_3 + 1))) else (none)) = some (r1, r2) := by rw [if_neg (show ¬ (false = true) by decide)] at H; exact H
                                              clear H; have H := H1; clear H1; obtain ⟨y180, hy180⟩ : ∃ y_ : List Bool, y_ = (x7_3.set ((rd (rd_L1 l1 x44_3) (rd x10_3 x11_2)) : Int).toNat true) := ⟨_, rfl⟩; replace H : (if x10_3.length < 17592186044416 then (perm_Orbits.l2 k3 l1 y180 x8_1 (x10_3 ++ [rd (rd_L1 l1 x44_3) (rd x10_3 x11_2)]) x11_2 a0 x24_1 l1 (l1.length : Int) (wrap64 (x44_3 + 1))) else (none)) = some (r1, r2) := by first | (rw [hy180]; with_reducible exact H) | (have H2_ := (Option.bind_some _ _).symm.trans H; rw [hy180]; with_reducible exact H2_) | (have H2_ := (Option.bind_some _ _).symm.trans H; with_reducible exact H2_) | with_reducible exact H | (rw [hy180]; exact H) | exact H
                                              have Ny180 := aM hy180; clear hy180
                                              by_cases c37 : x10_3.length < 17592186044416
                                              · rw [if_pos c37] at H; have LMc37 := aM c37; clear c37; obtain ⟨y181, hy181⟩ : ∃ y_ : List Int, y_ = (x10_3 ++ [rd (rd_L1 l1 x44_3) (rd x10_3 x11_2)]) := ⟨_, rfl⟩; replace H : (perm_Orbits.l2 k3 l1 y180 x8_1 y181 x11_2 a0 x24_1 l1 (l1.length : Int) (wrap64 (x44_3 + 1))) = some (r1, r2) := by first | (rw [hy181]; with_reducible exact H) | (have H2_ := (Option.bind_some _ _).symm.trans H; rw [hy181]; with_reducible exact H2_) | (have H2_ := (Option.bind_some _ _).symm.trans H; with_reducible exact H2_) | with_reducible exact H | (rw [hy181]; exact H) | exact H
                                                have Ny181 := aM hy181; clear hy181; have H' := aM H; clear H; have p176 : 0 ≤ (x44_3 : Int) := of_decide_eq_true zz111; have q176 : x44_3 < (l1.length : Int) := of_decide_eq_true zz111; obtain ⟨ad176, A176_0, c176_0, e176, hx176_0, hl176_0, hi176_0⟩ := at_L1 HR1.out x44_3 p176 q176
                                                cases e176; replace hx176_0 := (HB.out.cell (World.block_lt_of_cell? w _ hx176_0)).trans hx176_0; have HR176_0 := aM hi176_0; have HC176_0 := aM hl176_0; clear hi176_0 hl176_0; replace p176 := eq_true p176; replace q176 := eq_true q176; obtain ⟨Ao38, co38, eo38⟩ := Kd.R_slice HO_10.out; subst eo38; have p177 : 0 ≤ (x11_2 : Int) := of_decide_eq_true zz111; have q177 : x11_2 < (x10_3.length : Int) := of_decide_eq_true zz111; obtain ⟨ad177, e177, hx177_0⟩ := Kd.at_int (Kd.R_reads' HO_10.out).2.2 x11_2 p177 q177
                                                cases e177; replace p177 := eq_true p177; replace q177 := eq_true q177; have p178 : 0 ≤ ((rd x10_3 x11_2) : Int) := of_decide_eq_true zz111; have q178 : (rd x10_3 x11_2) < ((rd_L1 l1 x44_3).length : Int) := of_decide_eq_true zz111; obtain ⟨ad178, e178, hx178_0⟩ := Kd.at_int HR176_0.out (rd x10_3 x11_2) p178 q178
                                                cases e178; replace hx178_0 := (HB.out.cell (World.block_lt_of_cell? w _ hx178_0)).trans hx178_0; replace p178 := eq_true p178; replace q178 := eq_true q178; have p179 : 0 ≤ ((rd (rd_L1 l1 x44_3) (rd x10_3 x11_2)) : Int) := of_decide_eq_true zz111; have q179 : (rd (rd_L1 l1 x44_3) (rd x10_3 x11_2)) < (x7_3.length : Int) := of_decide_eq_true zz111; obtain ⟨ad179, e179, hx179_0⟩ := Kd.at_bool (Kd.R_reads' HO_7.out).2.2 (rd (rd_L1 l1 x44_3) (rd x10_3 x11_2)) p179 q179
                                                (try rw [← Nbq13.out] at hx179_0)
                                                (try rw [← Nbq33.out] at hx179_0)
                                                obtain rfl : (⟨go16, 0, none⟩ : Addr) = ad179 := (by injection e179)
                                                (first | simp only [add_plain] at hx179_0 | simp only [add_at] at hx179_0 | simp only [Addr.add, Nat.zero_add] at hx179_0 | skip)
                                                replace p179 := eq_true p179; replace q179 := eq_true q179; have p36 : 0 ≤ ((rd (rd_L1 l1 x44_3) (rd x10_3 x11_2)) : Int) := of_decide_eq_true zz111; have q36 : ((rd (rd_L1 l1 x44_3) (rd x10_3 x11_2)) : Int) < ((x7_3.length : Int) : Int) := of_decide_eq_true zz111; obtain ⟨hx36_0, hf36_0⟩ := Kd.R_celln false HO_7.out ((rd (rd_L1 l1 x44_3) (rd x10_3 x11_2)) : Int) p36 q36; replace p36 := eq_true p36; replace q36 := eq_true q36; have HP39 := Kd.R_putg HO_7.out ((rd (rd_L1 l1 x44_3) (rd x10_3 x11_2)) : Int) true
                                                go_wp2_with (first | ((with_reducible refine gate_store (t := 4) (p := 62) rfl ?_); refine store_event (t := 4) (p := 62) (v := ?vo_w40) (w1 := (wr.setCell ⟨go16, ((rd (rd_L1 l1 x44_3) (rd x10_3 x11_2)) : Int).toNat, none⟩ (.bool true))) ?hg ?ho ?hn ?hr ?_; (case ho => rfl); (case hg => rfl); (case hn => rfl); (case hr => first | (go_simp; done) | (go_simp; rfl)); intro w40 hw; have hg : wr.grownBy w40 (some go16) := (by rw [hw]; exact HP39.2); have hp_ : Kd.R Kd.bool 4 w40 w.heap.size (fun _ => True) (.slice (some ⟨go16, 0, none⟩) x7_3.length co17) y180 := (by rw [hw, Ny180.out]; exact HP39.1); clear HP39; replace HO_8 := aM (Kd.S_over' (v := (.slice (some ⟨go16, 0, none⟩) x7_3.length co17)) (zS HO_8) (Kd.R_typed HO_7.out) (by decide) hg); replace HO_10 := aM (Kd.R_over' (v := (.slice (some ⟨go16, 0, none⟩) x7_3.length co17)) (zR HO_10) (Kd.R_typed HO_7.out) (by decide) hg); replace HO_7 := aM (hp_); replace HB := aM ((by rw [hw]; exact below_set (HB.out) GB16.out : Below w.heap.size w w40)); clear hg hw hp_) | ((with_reducible refine gate_builtin (b := .append) (xs := #[.tmp 63, .tmp 65]) rfl ?_); at_builtin; refine Kd.R_append (Kd.int .i64) (w0 := w) w.heap.size rfl (.tmp 63) (.tmp 65) 22 3 (.int .i64 0) 8 rfl Try.underlying22 info3 rfl (by decide) (by omega) (.slice (some ad177) x10_3.length co38) x10_3 (rd (rd_L1 l1 x44_3) (rd x10_3 x11_2)) [.int .i64 (rd (rd_L1 l1 x44_3) (rd x10_3 x11_2))] (fun _ => True) (fun _ => False) rfl rfl ?aP (fun _ hk => hk.elim) ?aF ?aO ?aB ?aS ?aL ?_; (case aP => exact rfl); (case aB => exact zz88); (case aF => exact (fun _ _ => trivial)); (case aO => exact (zR HO_10)); (case aS => exact (below_size zz88)); (case aL => have := LMc37.out; omega); intro v182 w41 ho hb hg hat; rw [← Ny181.out] at ho; replace HO_7 := aM (Kd.R_over' (zR HO_7) (Kd.R_typed (zR HO_10)) (by decide) hg); replace HO_8 := aM (Kd.S_after (ok := (fun _ => True)) (by (with_reducible repeat (first | apply Kd.S_alloc | apply Kd.S_drewN | apply Kd.S_drew)); exact Kd.S_mono HO_8.out (fun _ hk => ⟨trivial, hk⟩)) hg hat); replace HB := aM (hb); have HO183 := aM (ho); clear HO_10; clear ho hb hg hat))
                                                (try simp only [← hl7_3])
                                                go_roundg k3
                                                case measure => have := HK1.out; have := HK2.out; have := HK3.out; omega
                                                case rel => exact ⟨(y180), (y181), (wrap64 (x44_3 + 1)), zz112, H', ⟨zz110⟩, ⟨zz78⟩, ⟨(by (try simp only [hl7_2]); (try simp only [hl7_3]); (with_reducible repeat (first | apply Kd.S_alloc | apply Kd.S_drewN | apply Kd.S_drew)); exact Kd.S_mono HO_8.out (fun _ hk => hk.2))⟩, ⟨(by (try simp only [hl7_2]); (try simp only [hl7_3]); (with_reducible repeat (first | apply Kd.R_alloc | apply Kd.R_drewN | apply Kd.R_drew)); exact HO183.out)⟩, ⟨zz88⟩⟩
                                              rw [if_neg c37] at H
                                              exact absurd H (by simp)
                                            rw [if_neg c32] at H
                                            exact absurd H (by simp)
                                          rw [if_neg c31] at H
                                          exact absurd H (by simp)
                                        rw [if_neg c30] at H
                                        exact absurd H (by simp)
                                      rw [if_neg c29] at H
                                      exact absurd H (by simp)
                                    rw [if_neg c28] at H
                                    exact absurd H (by simp)
                                  rw [if_neg c27] at H
                                  exact absurd H (by simp)
                                rw [if_neg c26] at H
                                exact absurd H (by simp)
                              rw [if_neg c25] at H
                              exact absurd H (by simp)
                            rw [if_neg c24] at H; have c24b0 := decide_eq_false c24; clear c24; have H' := aM H; clear H; go_wp2
                            (try simp only [← hl7_2, ← hl7_3])
                            go_roundg k3
                            case measure => have := HK1.out; have := HK2.out; have := HK3.out; omega
                            case rel => exact ⟨(x7_3), (x10_3), (wrap64 (x11_2 + 1)), zz112, H', ⟨zz110⟩, ⟨zz78⟩, ⟨zz79⟩, ⟨zz76⟩, ⟨zz88⟩⟩
                      rw [if_neg c22] at H; have c22b0 := decide_eq_false c22; clear c22; replace H := Option.bind_eq_some_iff.mp H; obtain ⟨t172, A420, H⟩ := H; replace H : (if x8_1.length < 5864062014805 then (perm_Orbits.l0 k2 l1 x7_2 (x8_1 ++ [t172]) a0 (wrap64 (x24_1 + 1))) else (none)) = some (r1, r2) := H; have A42 := aM A420; clear A420
                      by_cases c43 : x8_1.length < 5864062014805
                      · rw [if_pos c43] at H; have LMc43 := aM c43; clear c43; obtain ⟨y173, hy173⟩ : ∃ y_ : List (List Int), y_ = (x8_1 ++ [t172]) := ⟨_, rfl⟩; replace H : (perm_Orbits.l0 k2 l1 x7_2 y173 a0 (wrap64 (x24_1 + 1))) = some (r1, r2) := by first | (rw [hy173]; with_reducible exact H) | (have H2_ := (Option.bind_some _ _).symm.trans H; rw [hy173]; with_reducible exact H2_) | (have H2_ := (Option.bind_some _ _).symm.trans H; with_reducible exact H2_) | with_reducible exact H | (rw [hy173]; exact H) | exact H
                        have Ny173 := aM hy173; clear hy173; have H' := aM H; clear H; obtain ⟨Ao44, co44, eo44⟩ := Kd.R_slice HO_10.out; subst eo44
                        go_wp2_with (first | ((with_reducible refine gate_callee (f := 58) rfl ?_); refine goesL_ (some 69) rfl rfl Try.func58 (by kernel_rfl) rfl #[.slice Ao44 x10_2.length co44] rfl zz87 ?_; (with_reducible refine (slSort.calls (fun k_ => some k_ = (.slice Ao44 x10_2.length co44 : Value).ownBlock) (.slice Ao44 x10_2.length co44) x10_2 t172 w _ ?side1 ?side2 A42.out).mono ?_); (case side1 => repeat (first | (with_reducible first | exact HB.out | apply below_alloc | apply pw_below_drewN | apply below_drew1) | exact HB.out)); (case side2 => exact Kd.R_tight rfl HO_10.out); rintro e w45 ⟨rfl, hy0, hb, hkp⟩; refine ⟨_, rfl, ?_⟩; replace HO_7 := aM (Kd.R_mono (ok' := fun k_ => True) (Kd.R_keptB ((Kd.R_apart' HO_7.out (Kd.R_typed HO_10.out) (by decide))) hkp (fun k_ hk_ hs_ => (hk_.2) hs_)) (fun k_ hk_ => trivial)); replace HO_8 := aM (Kd.S_mono (ok' := fun k_ => some k_ ≠ (.slice Ao44 x10_2.length co44 : Value).ownBlock) (Kd.S_keptB (HO_8.out) hkp (fun k_ hk_ hs_ => (hk_) hs_)) (fun k_ hk_ => hk_.1)); replace HO_10 := aM (Kd.R_reok rfl hy0 (fun k_ e_ => HO_10.out.1 k_ e_)); replace HB := aM (hb); (try clear hb); (try clear hkp); (try clear hy0)) | ((with_reducible refine gate_builtin (b := .append) (xs := #[.tmp 70, .tmp 72]) rfl ?_); at_builtin; refine Kd.S_append (Kd.slice 3 (Kd.int .i64)) (w0 := w) w.heap.size rfl (.tmp 70) (.tmp 72) 28 22 (.slice none 0 0) 24 rfl Try.underlying28 info22 rfl (by decide) (by omega) u8 x8_1 t172 [.slice Ao44 x10_2.length co44] (fun _ => True) (fun k_ => some k_ = (.slice Ao44 x10_2.length co44 : Value).ownBlock) rfl rfl ?aP (fun k_ hk_ => ((Kd.R_mono (ok' := fun k_ => ((fun _ => True)) k_ ∧ some k_ ≠ (u8 : Value).ownBlock) (Kd.R_apart' (HO_10.out) (Kd.S_typed HO_8.out) (by decide)) (fun k_ hk => ⟨trivial, hk.2⟩))).1 k_ hk_.symm) ?aF ?aO ?aB ?aS ?aL ?_; (case aP => exact Kd.M_row (Kd.R_mono (Kd.R_tight rfl (Kd.R_mono (ok' := fun k_ => ((fun _ => True)) k_ ∧ some k_ ≠ (u8 : Value).ownBlock) (Kd.R_apart' (HO_10.out) (Kd.S_typed HO_8.out) (by decide)) (fun k_ hk => ⟨trivial, hk.2⟩))) (fun _ h_ => h_))); (case aB => exact zz88); (case aF => exact (fun _ _ => trivial)); (case aO => exact (by (with_reducible repeat (first | apply Kd.S_alloc | apply Kd.S_drewN | apply Kd.S_drew)); exact Kd.S_mono HO_8.out (fun k_ hk => ⟨trivial, fun e_ => hk e_⟩))); (case aS => exact (below_size zz88)); (case aL => have := LMc43.out; omega); intro v174 w46 ho hb hg hat; rw [← Ny173.out] at ho; replace HO_7 := aM (Kd.R_over' (zR HO_7) (Kd.S_typed (zS HO_8)) (by decide) hg); replace HB := aM (hb); have HO175 := aM (ho); clear HO_8 HO_10; clear ho hb hg hat))
                        (try simp only [← hl7_2])
                        go_roundg k2
                        case measure => have := HK1.out; have := HK2.out; omega
                        case rel => exact ⟨(x7_2), (y173), (wrap64 (x24_1 + 1)), zz112, H', ⟨zz113⟩, ⟨zz89⟩, ⟨(by (try simp only [hl7_2]); (with_reducible repeat (first | apply Kd.S_alloc | apply Kd.S_drewN | apply Kd.S_drew)); exact HO175.out)⟩, ⟨zz88⟩⟩
                      rw [if_neg c43] at H
                      exact absurd H (by simp)
                rw [if_neg c12] at H
                exact absurd H (by simp)
              rw [if_neg c11] at H
              exact absurd H (by simp)
            rw [if_neg c10] at H; have c10b0 := decide_eq_false c10; clear c10; simp only [Option.some.injEq, Prod.mk.injEq] at H; obtain ⟨rfl, rfl⟩ := H; go_wp2
            go_ret2
            exact ⟨_, by first | rfl | (simp [errW_none, errW_some] <;> rfl) | (simp [*, errW_none, errW_some] <;> rfl), by (with_reducible repeat (first | apply Kd.S_alloc | apply Kd.S_drewN | apply Kd.S_drew)); exact HO_8.out, by repeat (first | (with_reducible first | exact HB.out | apply below_alloc | apply pw_below_drewN | apply below_drew1) | exact HB.out)⟩
      rw [if_neg c6] at H
      exact absurd H (by simp)
    rw [if_neg c5] at H
    exact absurd H (by simp)
  rw [if_neg c4] at H
  have c4b0 := beq_eq_false_iff_ne.mpr c4
  have c4b1 := bne_iff_ne.mpr c4
  simp only [Option.some.injEq, Prod.mk.injEq] at H
  obtain ⟨rfl, rfl⟩ := H
  go_enter Try.func28, Try.ntmps28
  go_wp2_with (first | ((with_reducible refine gate_callee (f := 57) rfl ?_); refine goesL_ (some 17) rfl rfl Try.func57 (by kernel_rfl) rfl #[.int .i64 a0, .slice A1 l1.length c1] rfl zz87 ?_; (with_reducible refine (perm_generators.calls a0 _ _ l1 t163 _ ?side1 ?side2 A3.out).mono ?_); (case side1 => repeat (first | exact HR1.out | (with_reducible refine Kd.C_alloc ?_ _) | (with_reducible refine Kd.C_drewN ?_ _) | (with_reducible refine Kd.C_drew ?_))); (case side2 => exact HC1.out); rintro e w47 ⟨rfl, hb⟩; refine ⟨_, rfl, ?_⟩; replace HB := aM (below_step zz88 hb); (try clear hb); (try clear hb2); (try clear hk); (try clear hi)))
  go_ret2
  exact ⟨_, by first | rfl | (simp [errW_none, errW_some] <;> rfl) | (simp [*, errW_none, errW_some] <;> rfl), by first | exact Kd.S_nil _ _ _ _ _ | exact Kd.N_nil _ _ _ _ _ | exact Kd.V_nil _ _ _ _ _ | exact Kd.Q_nil _ _ _ _ _ | exact Kd.R_nil _ _ _ _ _, by repeat (first | (with_reducible first | exact HB.out | apply below_alloc | apply pw_below_drewN | apply below_drew1) | exact HB.out)⟩
end
section
attribute [local go_sem] max2_int min2_int max_two min_two max_three min_three max_four min_four
def r01_limb.f (l0 : List Int) (a1 : Int) : Option (Int) := if a1 < (l0.length : Int) then (if 0 ≤ a1 then (some (IntKind.u64.wrap (rd l0 a1))) else (none)) else (some 0)
theorem r01_limb.calls (A0 : Option Addr) (c0 : Nat) (l0 : List Int) (a1 : Int) (r : Int) (w : World) (hr0 : Kd.C (Kd.int .u32) w A0 l0.length l0) (hc0 : l0.length ≤ c0) (h : r01_limb.f l0 a1 = some r) :
    Calls Try.prog 71 #[.slice A0 l0.length c0, .int .i64 a1] w fun e w' => e = .returned (.int .u64 r) ∧ Drawn0 w w' := by
  have HR0 := aM hr0
  have HC0 := aM hc0
  clear hr0 hc0
  have H : (if a1 < (l0.length : Int) then (if 0 ≤ a1 then (some (IntKind.u64.wrap (rd l0 a1))) else (none)) else (some 0)) = some r := h
  clear h
  by_cases c3 : a1 < (l0.length : Int)
  · rw [if_pos c3] at H
    have c3b0 := decide_eq_true c3; clear c3
    by_cases c4 : 0 ≤ a1
    · rw [if_pos c4] at H; have c4b0 := decide_eq_true c4; clear c4; obtain rfl := Option.some.inj H; have p296 : 0 ≤ (a1 : Int) := of_decide_eq_true zz111; have q296 : a1 < (l0.length : Int) := of_decide_eq_true zz111; obtain ⟨ad296, e296, hx296_0⟩ := Kd.at_int HR0.out a1 p296 q296
      cases e296; replace p296 := eq_true p296; replace q296 := eq_true q296
      go_enter Try.func71, Try.ntmps71
      go_wp2; go_ret
      exact ⟨by first | rfl | (simp; done) | (simp [*]; done), by repeat (first | exact Drawn0.refl _ | apply Drawn0.step)⟩
    rw [if_neg c4] at H
    exact absurd H (by simp)
  rw [if_neg c3] at H
  have c3b0 := decide_eq_false c3
  clear c3
  obtain rfl := Option.some.inj H
  go_enter Try.func71, Try.ntmps71
  go_wp2
  go_ret
  exact ⟨by first | rfl | (simp; done) | (simp [*]; done), by repeat (first | exact Drawn0.refl _ | apply Drawn0.step)⟩
end
section
attribute [local go_sem] max2_int min2_int max_two min_two max_three min_three max_four min_four
def r01_Cmp.l0 : Nat → List Int → List Int → Int → Option (Int)
  | 0, _, _, _ => none
  | k + 1, x0, x1, x5 => if x5 ≥ 0 then ((r01_limb.f x0 x5).bind fun t297 => ((r01_limb.f x1 x5).bind fun t298 => (if t297 < t298 then (some (-1)) else ((r01_limb.f x0 x5).bind fun t299 => ((r01_limb.f x1 x5).bind fun t300 => (if t299 > t300 then (some 1) else (r01_Cmp.l0 k x0 x1 (wrap64 (x5 - 1))))))))) else (some 0)
def r01_Cmp.f (k : Nat) (l0 : List Int) (l1 : List Int) : Option (Int) := r01_Cmp.l0 k l0 l1 (wrap64 ((mx (l0.length : Int) (l1.length : Int)) - 1))
theorem r01_Cmp.calls (k : Nat) (A0 : Option Addr) (c0 : Nat) (l0 : List Int) (A1 : Option Addr) (c1 : Nat) (l1 : List Int) (r : Int) (w : World) (hr0 : Kd.C (Kd.int .u32) w A0 l0.length l0) (hc0 : l0.length ≤ c0) (hr1 : Kd.C (Kd.int .u32) w A1 l1.length l1) (hc1 : l1.length ≤ c1) (h : r01_Cmp.f k l0 l1 = some r) :
    Calls Try.prog 46 #[.slice A0 l0.length c0, .slice A1 l1.length c1] w fun e w' => e = .returned (.int .i64 r) ∧ Below w.heap.size w w' := by
  have HR0 := aM hr0
  have HC0 := aM hc0
  clear hr0 hc0
  have HR1 := aM hr1
  have HC1 := aM hc1
  clear hr1 hc1
  have HB := aM (Below.refl w.heap.size w)
  have H : (r01_Cmp.l0 k l0 l1 (wrap64 ((mx (l0.length : Int) (l1.length : Int)) - 1))) = some r := h
  clear h
  obtain ⟨ji3, hji3⟩ : ∃ j_ : Int, (mx (l0.length : Int) (l1.length : Int)) = j_ := ⟨_, rfl⟩
  replace H : (r01_Cmp.l0 k l0 l1 (wrap64 ((ji3) - 1))) = some r := by first | (rw [hji3] at H; exact H) | (simp only [hji3] at H ⊢; exact H)
  (try (have hji3l : 0 ≤ ji3 := by (rw [← hji3]; unfold mx; (repeat' split) <;> omega)))
  (try (have hji3m : 0 ≤ ji3 := by omega))
  have hji3_ : (if (l0.length : Int) < (l1.length : Int) then (l1.length : Int) else (l0.length : Int)) = ji3 := hji3
  have H' := aM H
  clear H
  by_cases hq_ : (l0.length : Int) < (l1.length : Int)
  all_goals
    go_enter Try.func46, Try.ntmps46
    go_wp2
    go_loopg [5] k (fun kq v5 w' => ∃ (x5_1 : Int), v5 = .int .i64 x5_1 ∧ Aside0 (r01_Cmp.l0 kq l0 l1 x5_1 = some r) ∧ Aside0 (kq ≤ k) ∧ Aside0 (Below w.heap.size w w'))
    case atStart => exact ⟨(wrap64 ((ji3) - 1)), (by first | rfl | (refine congrArg (fun z_ => Value.int .i64 (wrap64 (z_ - 1))) ?_; rw [← hji3]; unfold mx; split <;> omega) | (simp; done) | (simp only [← hji3] <;> (first | rfl | simp)) | (simp [*]; done)), H', ⟨Nat.le_refl _⟩, ⟨zz88⟩⟩
    case round =>
      clear H'; (try clear c1); (try clear p2); obtain ⟨x5_1, rfl, HA, HK1, HB⟩ := hrel
      cases gk with
      | zero => exact absurd HA.out (by simp [r01_Cmp.l0])
      | succ k1 =>
        have H := HA.out; clear HA; simp only [r01_Cmp.l0] at H
        by_cases c4 : x5_1 ≥ 0
        · rw [if_pos c4] at H; have c4b0 := decide_eq_true c4; clear c4; replace H := Option.bind_eq_some_iff.mp H; obtain ⟨t297, A50, H⟩ := H; replace H : ((r01_limb.f l1 x5_1).bind fun t298 => (if t297 < t298 then (some (-1)) else ((r01_limb.f l0 x5_1).bind fun t299 => ((r01_limb.f l1 x5_1).bind fun t300 => (if t299 > t300 then (some 1) else (r01_Cmp.l0 k1 l0 l1 (wrap64 (x5_1 - 1)))))))) = some r := H; have A5 := aM A50; clear A50; replace H := Option.bind_eq_some_iff.mp H; obtain ⟨t298, A60, H⟩ := H; replace H : (if t297 < t298 then (some (-1)) else ((r01_limb.f l0 x5_1).bind fun t299 => ((r01_limb.f l1 x5_1).bind fun t300 => (if t299 > t300 then (some 1) else (r01_Cmp.l0 k1 l0 l1 (wrap64 (x5_1 - 1))))))) = some r := H; have A6 := aM A60; clear A60
          by_cases c7 : t297 < t298
          · rw [if_pos c7] at H; have c7b0 := decide_eq_true c7; clear c7; obtain rfl := Option.some.inj H
            go_wp2_with (first | ((with_reducible refine gate_callee (f := 71) rfl ?_); refine goesL_ (some 18) rfl rfl Try.func71 (by kernel_rfl) rfl #[.slice A0 l0.length c0, .int .i64 x5_1] rfl zz87 ?_; (with_reducible refine (r01_limb.calls _ _ l0 x5_1 t297 _ ?side1 ?side2 A5.out).mono ?_); (case side1 => repeat (first | exact (Kd.C_below HR0.out HB.out) | (with_reducible refine Kd.C_alloc ?_ _) | (with_reducible refine Kd.C_drewN ?_ _) | (with_reducible refine Kd.C_drew ?_))); (case side2 => exact HC0.out); rintro e w' ⟨rfl, ⟨nd, rfl⟩⟩; refine ⟨_, rfl, ?_⟩) | ((with_reducible refine gate_callee (f := 71) rfl ?_); refine goesL_ (some 21) rfl rfl Try.func71 (by kernel_rfl) rfl #[.slice A1 l1.length c1, .int .i64 x5_1] rfl zz87 ?_; (with_reducible refine (r01_limb.calls _ _ l1 x5_1 t298 _ ?side1 ?side2 A6.out).mono ?_); (case side1 => repeat (first | exact (Kd.C_below HR1.out zz88) | (with_reducible refine Kd.C_alloc ?_ _) | (with_reducible refine Kd.C_drewN ?_ _) | (with_reducible refine Kd.C_drew ?_))); (case side2 => exact HC1.out); rintro e w' ⟨rfl, ⟨nd, rfl⟩⟩; refine ⟨_, rfl, ?_⟩))
            go_ret
            exact ⟨by first | rfl | (simp [errW_none, errW_some] <;> rfl) | (simp only [← hji3]; first | rfl | (simp [errW_none, errW_some] <;> rfl)) | (simp [*, errW_none, errW_some] <;> rfl), by repeat (first | (with_reducible first | exact HB.out | apply below_alloc | apply pw_below_drewN | apply below_drew1) | exact HB.out)⟩
          · rw [if_neg c7] at H; have c7b0 := decide_eq_false c7; clear c7; replace H := Option.bind_eq_some_iff.mp H; obtain ⟨t299, A80, H⟩ := H; replace H : ((r01_limb.f l1 x5_1).bind fun t300 => (if t299 > t300 then (some 1) else (r01_Cmp.l0 k1 l0 l1 (wrap64 (x5_1 - 1))))) = some r := H; have A8 := aM A80; clear A80; replace H := Option.bind_eq_some_iff.mp H; obtain ⟨t300, A90, H⟩ := H; replace H : (if t299 > t300 then (some 1) else (r01_Cmp.l0 k1 l0 l1 (wrap64 (x5_1 - 1)))) = some r := H; have A9 := aM A90; clear A90
            by_cases c10 : t299 > t300
            · rw [if_pos c10] at H; have c10b0 := decide_eq_true c10; clear c10; obtain rfl := Option.some.inj H
              go_wp2_with (first | ((with_reducible refine gate_callee (f := 71) rfl ?_); refine goesL_ (some 18) rfl rfl Try.func71 (by kernel_rfl) rfl #[.slice A0 l0.length c0, .int .i64 x5_1] rfl zz87 ?_; (with_reducible refine (r01_limb.calls _ _ l0 x5_1 t297 _ ?side1 ?side2 A5.out).mono ?_); (case side1 => repeat (first | exact (Kd.C_below HR0.out HB.out) | (with_reducible refine Kd.C_alloc ?_ _) | (with_reducible refine Kd.C_drewN ?_ _) | (with_reducible refine Kd.C_drew ?_))); (case side2 => exact HC0.out); rintro e w' ⟨rfl, ⟨nd, rfl⟩⟩; refine ⟨_, rfl, ?_⟩) | ((with_reducible refine gate_callee (f := 71) rfl ?_); refine goesL_ (some 21) rfl rfl Try.func71 (by kernel_rfl) rfl #[.slice A1 l1.length c1, .int .i64 x5_1] rfl zz87 ?_; (with_reducible refine (r01_limb.calls _ _ l1 x5_1 t298 _ ?side1 ?side2 A6.out).mono ?_); (case side1 => repeat (first | exact (Kd.C_below HR1.out zz88) | (with_reducible refine Kd.C_alloc ?_ _) | (with_reducible refine Kd.C_drewN ?_ _) | (with_reducible refine Kd.C_drew ?_))); (case side2 => exact HC1.out); rintro e w' ⟨rfl, ⟨nd, rfl⟩⟩; refine ⟨_, rfl, ?_⟩) | ((with_reducible refine gate_callee (f := 71) rfl ?_); refine goesL_ (some 25) rfl rfl Try.func71 (by kernel_rfl) rfl #[.slice A0 l0.length c0, .int .i64 x5_1] rfl zz87 ?_; (with_reducible refine (r01_limb.calls _ _ l0 x5_1 t299 _ ?side1 ?side2 A8.out).mono ?_); (case side1 => repeat (first | exact (Kd.C_below HR0.out zz88) | (with_reducible refine Kd.C_alloc ?_ _) | (with_reducible refine Kd.C_drewN ?_ _) | (with_reducible refine Kd.C_drew ?_))); (case side2 => exact HC0.out); rintro e w' ⟨rfl, ⟨nd, rfl⟩⟩; refine ⟨_, rfl, ?_⟩) | ((with_reducible refine gate_callee (f := 71) rfl ?_); refine goesL_ (some 28) rfl rfl Try.func71 (by kernel_rfl) rfl #[.slice A1 l1.length c1, .int .i64 x5_1] rfl zz87 ?_; (with_reducible refine (r01_limb.calls _ _ l1 x5_1 t300 _ ?side1 ?side2 A9.out).mono ?_); (case side1 => repeat (first | exact (Kd.C_below HR1.out zz88) | (with_reducible refine Kd.C_alloc ?_ _) | (with_reducible refine Kd.C_drewN ?_ _) | (with_reducible refine Kd.C_drew ?_))); (case side2 => exact HC1.out); rintro e w' ⟨rfl, ⟨nd, rfl⟩⟩; refine ⟨_, rfl, ?_⟩))
              go_ret
              exact ⟨by first | rfl | (simp [errW_none, errW_some] <;> rfl) | (simp only [← hji3]; first | rfl | (simp [errW_none, errW_some] <;> rfl)) | (simp [*, errW_none, errW_some] <;> rfl), by repeat (first | (with_reducible first | exact HB.out | apply below_alloc | apply pw_below_drewN | apply below_drew1) | exact HB.out)⟩
            · rw [if_neg c10] at H; have c10b0 := decide_eq_false c10; clear c10; have H' := aM H; clear H
              go_wp2_with (first | ((with_reducible refine gate_callee (f := 71) rfl ?_); refine goesL_ (some 18) rfl rfl Try.func71 (by kernel_rfl) rfl #[.slice A0 l0.length c0, .int .i64 x5_1] rfl zz87 ?_; (with_reducible refine (r01_limb.calls _ _ l0 x5_1 t297 _ ?side1 ?side2 A5.out).mono ?_); (case side1 => repeat (first | exact (Kd.C_below HR0.out HB.out) | (with_reducible refine Kd.C_alloc ?_ _) | (with_reducible refine Kd.C_drewN ?_ _) | (with_reducible refine Kd.C_drew ?_))); (case side2 => exact HC0.out); rintro e w' ⟨rfl, ⟨nd, rfl⟩⟩; refine ⟨_, rfl, ?_⟩) | ((with_reducible refine gate_callee (f := 71) rfl ?_); refine goesL_ (some 21) rfl rfl Try.func71 (by kernel_rfl) rfl #[.slice A1 l1.length c1, .int .i64 x5_1] rfl zz87 ?_; (with_reducible refine (r01_limb.calls _ _ l1 x5_1 t298 _ ?side1 ?side2 A6.out).mono ?_); (case side1 => repeat (first | exact (Kd.C_below HR1.out zz88) | (with_reducible refine Kd.C_alloc ?_ _) | (with_reducible refine Kd.C_drewN ?_ _) | (with_reducible refine Kd.C_drew ?_))); (case side2 => exact HC1.out); rintro e w' ⟨rfl, ⟨nd, rfl⟩⟩; refine ⟨_, rfl, ?_⟩) | ((with_reducible refine gate_callee (f := 71) rfl ?_); refine goesL_ (some 25) rfl rfl Try.func71 (by kernel_rfl) rfl #[.slice A0 l0.length c0, .int .i64 x5_1] rfl zz87 ?_; (with_reducible refine (r01_limb.calls _ _ l0 x5_1 t299 _ ?side1 ?side2 A8.out).mono ?_); (case side1 => repeat (first | exact (Kd.C_below HR0.out zz88) | (with_reducible refine Kd.C_alloc ?_ _) | (with_reducible refine Kd.C_drewN ?_ _) | (with_reducible refine Kd.C_drew ?_))); (case side2 => exact HC0.out); rintro e w' ⟨rfl, ⟨nd, rfl⟩⟩; refine ⟨_, rfl, ?_⟩) | ((with_reducible refine gate_callee (f := 71) rfl ?_); refine goesL_ (some 28) rfl rfl Try.func71 (by kernel_rfl) rfl #[.slice A1 l1.length c1, .int .i64 x5_1] rfl zz87 ?_; (with_reducible refine (r01_limb.calls _ _ l1 x5_1 t300 _ ?side1 ?side2 A9.out).mono ?_); (case side1 => repeat (first | exact (Kd.C_below HR1.out zz88) | (with_reducible refine Kd.C_alloc ?_ _) | (with_reducible refine Kd.C_drewN ?_ _) | (with_reducible refine Kd.C_drew ?_))); (case side2 => exact HC1.out); rintro e w' ⟨rfl, ⟨nd, rfl⟩⟩; refine ⟨_, rfl, ?_⟩))
              go_roundg k1
              case measure => have := HK1.out; omega
              case rel => exact ⟨(wrap64 (x5_1 - 1)), zz112, H', ⟨zz120⟩, ⟨zz88⟩⟩
        · rw [if_neg c4] at H; have c4b0 := decide_eq_false c4; clear c4; obtain rfl := Option.some.inj H; go_wp2; go_ret
          exact ⟨by first | rfl | (simp [errW_none, errW_some] <;> rfl) | (simp only [← hji3]; first | rfl | (simp [errW_none, errW_some] <;> rfl)) | (simp [*, errW_none, errW_some] <;> rfl), by repeat (first | (with_reducible first | exact HB.out | apply below_alloc | apply pw_below_drewN | apply below_drew1) | exact HB.out)⟩
end
end Go.Proofs.Ytjjlhbgpdncpcaa.P
