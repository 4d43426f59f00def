/- What the claim's theorem is built on, part 2: words, walks of the code, and what they tell. -/
import Derived.Shelf.Sort.Plain
import Derived.Sort.OwnSortedInts
import Derived.Shelf.Small.Bits
import Derived.WalkSpells
import Derived.Test.YtjjlhbgpdncpcaaMa1
namespace Go.Proofs.Ytjjlhbgpdncpcaa.P
open Go.RowKit Go.Proofs.YtjjlhbgpdncpcaaW.PrintWords Go.Proofs.YtjjlhbgpdncpcaaW.PrintLast Go.Proofs.YtjjlhbgpdncpcaaW.PrintMore
set_option linter.unusedVariables false
set_option linter.unusedSimpArgs false
set_option maxHeartbeats 8000000
set_option maxRecDepth 100000
section
attribute [local go_sem] max2_int min2_int max_two min_two max_three min_three max_four min_four
def codewrightref30_Order.l0 : Nat → List (List Int) → Int → Int → Option (Int × Int)
  | 0, _, _, _ => none
  | k + 1, x4, x6, x7 => if x7 < (x4.length : Int) then (if 0 ≤ x7 then (if ((rd_L1 x4 x7).length : Int) = 0 then (none) else ((codewrightref03_Gcd.f k (Int.tmod x6 ((rd_L1 x4 x7).length : Int)) ((rd_L1 x4 x7).length : Int)).bind fun bt361 => (if bt361.1 = 0 then (none) else (codewrightref30_Order.l0 k x4 (wrap64 ((wrap64 (Int.tdiv x6 bt361.1)) * ((rd_L1 x4 x7).length : Int))) (wrap64 (x7 + 1)))))) else (none)) else (some (x6, 0))
def codewrightref30_Order.f (k : Nat) (l0 : List Int) : Option (Int × Int) := (codewrightref30_Cycles.f k l0).bind fun bt355 => (if bt355.2 = 0 then (codewrightref30_Order.l0 k bt355.1 1 0) else (some (0, bt355.2)))
theorem codewrightref30_Order.calls (k : Nat) (A0 : Option Addr) (c0 : Nat) (l0 : List Int) (r1 : Int) (r2 : Int) (w : World) (hr0 : Kd.C (Kd.int .i64) w A0 l0.length l0) (hc0 : l0.length ≤ c0) (h : codewrightref30_Order.f k l0 = some (r1, r2)) :
    Calls Try.prog 23 #[.slice A0 l0.length c0] w fun e w' => e = .returned (.tuple #[.int .i64 r1, .int .i64 r2]) ∧ Below w.heap.size w w' := by
  have HR0 := Aside0.mk hr0
  have HC0 := Aside0.mk hc0
  clear hr0 hc0
  have HB := Aside0.mk (Below.refl w.heap.size w)
  have H : ((codewrightref30_Cycles.f k l0).bind fun bt355 => (if bt355.2 = 0 then (codewrightref30_Order.l0 k bt355.1 1 0) else (some (0, bt355.2)))) = some (r1, r2) := h
  clear h
  replace H := Option.bind_eq_some_iff.mp H
  obtain ⟨⟨t355, t356⟩, A20, H⟩ := H
  replace H : (if t356 = 0 then (codewrightref30_Order.l0 k t355 1 0) else (some (0, t356))) = some (r1, r2) := H
  have A2 := Aside0.mk A20
  clear A20
  by_cases c3 : t356 = 0
  · rw [if_pos c3] at H
    have c3b0 : (t356 == 0) = true := beq_iff_eq.mpr c3; have c3b1 : (t356 != 0) = false := bne_eq_false_iff_eq.mpr c3; clear c3; have H' := Aside0.mk H; clear H
    go_enter Try.func23, Try.ntmps23
    go_wp2_with (first | (go_at_call 21; (with_reducible refine (codewrightref30_Cycles.calls k _ _ l0 t355 t356 _ ?side1 ?side2 A2.out).mono ?_); (case side1 => repeat (first | exact HR0.out | (with_reducible refine Kd.C_alloc ?_ _) | (with_reducible refine Kd.C_drewN ?_ _) | (with_reducible refine Kd.C_drew ?_))); (case side2 => exact HC0.out); rintro e w4 ⟨v357, rfl, ho0, hb⟩; have n0_ := Aside0.mk (Kd.S_lower ho0 (below_size zz55)); have n1_ := Aside0.mk (below_step zz55 hb); clear HB; have HO358 := n0_; have HB := n1_; clear n0_ n1_; (try clear hb); (try clear hb2); (try clear hk); (try clear hi); (try clear ho0)))
    repeat (go_quiet (first | (go_at_call 21; (with_reducible refine (codewrightref30_Cycles.calls k _ _ l0 t355 t356 _ ?side1 ?side2 A2.out).mono ?_); (case side1 => repeat (first | exact HR0.out | (with_reducible refine Kd.C_alloc ?_ _) | (with_reducible refine Kd.C_drewN ?_ _) | (with_reducible refine Kd.C_drew ?_))); (case side2 => exact HC0.out); rintro e w4 ⟨v357, rfl, ho0, hb⟩; have n0_ := Aside0.mk (Kd.S_lower ho0 (below_size zz55)); have n1_ := Aside0.mk (below_step zz55 hb); clear HB; have HO358 := n0_; have HB := n1_; clear n0_ n1_; (try clear hb); (try clear hb2); (try clear hk); (try clear hi); (try clear ho0))); try go_wp2_with (first | (go_at_call 21; (with_reducible refine (codewrightref30_Cycles.calls k _ _ l0 t355 t356 _ ?side1 ?side2 A2.out).mono ?_); (case side1 => repeat (first | exact HR0.out | (with_reducible refine Kd.C_alloc ?_ _) | (with_reducible refine Kd.C_drewN ?_ _) | (with_reducible refine Kd.C_drew ?_))); (case side2 => exact HC0.out); rintro e w4 ⟨v357, rfl, ho0, hb⟩; have n0_ := Aside0.mk (Kd.S_lower ho0 (below_size zz55)); have n1_ := Aside0.mk (below_step zz55 hb); clear HB; have HO358 := n0_; have HB := n1_; clear n0_ n1_; (try clear hb); (try clear hb2); (try clear hk); (try clear hi); (try clear ho0))))
    go_loopg [6, 7] k (fun kq v6 v7 w' => ∃ (x6_1 : Int) (x7_1 : Int), v6 = .int .i64 x6_1 ∧ v7 = .int .i64 x7_1 ∧ Aside0 (codewrightref30_Order.l0 kq t355 x6_1 x7_1 = some (r1, r2)) ∧ Aside0 (kq ≤ k) ∧ Aside0 (Kd.S (Kd.slice 3 (Kd.int .i64)) 22 w' w.heap.size (fun _ => True) v357 t355) ∧ Aside0 (Below w.heap.size w w'))
    case atStart => exact ⟨(1), (0), zz67, zz67, H', ⟨Nat.le_refl _⟩, ⟨by (with_reducible repeat (first | apply Kd.S_alloc | apply Kd.S_drewN | apply Kd.S_drew)); exact HO358.out⟩, ⟨by repeat (first | (with_reducible first | exact HB.out | apply below_alloc | apply pw_below_drewN | apply below_drew1) | exact HB.out)⟩⟩
    case round =>
      clear H'; (try clear c2); (try clear p2); (try clear c3); (try clear c3b0); (try clear c3b1); obtain ⟨x6_1, x7_1, rfl, rfl, HA, HK1, HO_4, HB⟩ := hrel
      cases gk with
      | zero => exact absurd HA.out (by simp [codewrightref30_Order.l0])
      | succ k1 =>
        have H := HA.out; clear HA; simp only [codewrightref30_Order.l0] at H
        by_cases c5 : x7_1 < (t355.length : Int)
        · rw [if_pos c5] at H; have c5b0 : decide (x7_1 < (t355.length : Int)) = true := decide_eq_true c5; clear c5
          by_cases c6 : 0 ≤ x7_1
          · rw [if_pos c6] at H; have c6b0 : decide (0 ≤ x7_1) = true := decide_eq_true c6; clear c6
            by_cases c7 : ((rd_L1 t355 x7_1).length : Int) = 0
            · rw [if_pos c7] at H
              exact absurd H (by simp)
            rw [if_neg c7] at H; have c7b0 : (((rd_L1 t355 x7_1).length : Int) == 0) = false := beq_eq_false_iff_ne.mpr c7; have c7b1 : (((rd_L1 t355 x7_1).length : Int) != 0) = true := bne_iff_ne.mpr c7; have c7b2 : ¬ ((rd_L1 t355 x7_1) = []) := fun h_ => c7 (by rw [h_]; rfl)
            replace H := Option.bind_eq_some_iff.mp H; obtain ⟨⟨t361, t362⟩, A80, H⟩ := H; replace H : (if t361 = 0 then (none) else (codewrightref30_Order.l0 k1 t355 (wrap64 ((wrap64 (Int.tdiv x6_1 t361)) * ((rd_L1 t355 x7_1).length : Int))) (wrap64 (x7_1 + 1)))) = some (r1, r2) := H; have A8 := Aside0.mk A80; clear A80
            by_cases c9 : t361 = 0
            · rw [if_pos c9] at H
              exact absurd H (by simp)
            rw [if_neg c9] at H; have c9b0 : (t361 == 0) = false := beq_eq_false_iff_ne.mpr c9; have c9b1 : (t361 != 0) = true := bne_iff_ne.mpr c9; have H' := Aside0.mk H; clear H; obtain ⟨Ao10, co10, eo10⟩ := Kd.S_slice HO_4.out; subst eo10; have p359 : 0 ≤ (x7_1 : Int) := of_decide_eq_true zz65; have q359 : x7_1 < (t355.length : Int) := of_decide_eq_true zz65; obtain ⟨ad359, A359_0, c359_0, e359, hx359_0, hl359_0, hi359_0⟩ := at_L1 (Kd.S_reads' HO_4.out).2.2 x7_1 p359 q359
            cases e359; obtain ⟨ce359, hce359, hMe359, hcc359⟩ := Kd.S_get HO_4.out [] x7_1 p359 (by first | exact q359 | exact of_decide_eq_true zz65 | (have e_ := (Kd.S_reads' HO_4.out).1; omega)); obtain ⟨ve359_0, rfl, ge359_0⟩ := hMe359; have hv359_0 := hcc359 0 _ rfl; rw [Nat.add_zero, show ((Kd.slice 3 (Kd.int .i64))).sz = 1 from rfl, Nat.mul_one] at hv359_0; replace hv359_0 := Option.some.inj (hv359_0.symm.trans hx359_0); rw [hv359_0] at ge359_0; have HL359_0 := Aside0.mk (show Kd.R (Kd.int .i64) 3 _ _ _ _ (rd_L1 t355 x7_1) from ge359_0); clear hv359_0 ge359_0; clear hcc359 hce359; have HR359_0 := Aside0.mk hi359_0; have HC359_0 := Aside0.mk hl359_0; clear hi359_0 hl359_0; replace p359 := eq_true p359; replace q359 := eq_true q359; have p360 : 0 ≤ (x7_1 : Int) := of_decide_eq_true zz65; have q360 : x7_1 < (t355.length : Int) := of_decide_eq_true zz65; obtain ⟨ad360, A360_0, c360_0, e360, hx360_0, hl360_0, hi360_0⟩ := at_L1 (Kd.S_reads' HO_4.out).2.2 x7_1 p360 q360; obtain rfl : ad359 = ad360 := (by injection e360); obtain ⟨ce360, hce360, hMe360, hcc360⟩ := Kd.S_get HO_4.out [] x7_1 p360 (by first | exact q360 | exact of_decide_eq_true zz65 | (have e_ := (Kd.S_reads' HO_4.out).1; omega)); obtain ⟨ve360_0, rfl, ge360_0⟩ := hMe360; have hv360_0 := hcc360 0 _ rfl; rw [Nat.add_zero, show ((Kd.slice 3 (Kd.int .i64))).sz = 1 from rfl, Nat.mul_one] at hv360_0; replace hv360_0 := Option.some.inj (hv360_0.symm.trans hx360_0); rw [hv360_0] at ge360_0; have HL360_0 := Aside0.mk (show Kd.R (Kd.int .i64) 3 _ _ _ _ (rd_L1 t355 x7_1) from ge360_0); clear hv360_0 ge360_0; clear hcc360 hce360; have HR360_0 := Aside0.mk hi360_0; have HC360_0 := Aside0.mk hl360_0; clear hi360_0 hl360_0; replace p360 := eq_true p360; replace q360 := eq_true q360; have ea_ := Option.some.inj (hx359_0.symm.trans hx360_0); injection ea_ with ea_ en_ ec_
            subst ea_; subst ec_; clear en_
            go_wp2_with (first | (go_at_call 56; (with_reducible refine (codewrightref03_Gcd.calls k1 (Int.tmod x6_1 ((rd_L1 t355 x7_1).length : Int)) ((rd_L1 t355 x7_1).length : Int) t361 t362 _ A8.out).mono ?_); rintro e w' ⟨rfl, ⟨nd, rfl⟩⟩; (try first | exact ⟨rfl, _, World.drewN_drewN _ _ _⟩ | exact ⟨rfl, _, Eq.trans (World.drewN_drewN _ _ _) (congrArg (World.drewN _) (Nat.add_assoc _ _ _))⟩); have p363 : 0 ≤ (x7_1 : Int) := of_decide_eq_true zz65; have q363 : x7_1 < (t355.length : Int) := of_decide_eq_true zz65; obtain ⟨ad363, A363_0, c363_0, e363, hx363_0, hl363_0, hi363_0⟩ := at_L1 (Kd.S_reads' HO_4.out).2.2 x7_1 p363 q363; obtain rfl : ad359 = ad363 := (by injection e363); obtain ⟨ce363, hce363, hMe363, hcc363⟩ := Kd.S_get HO_4.out [] x7_1 p363 zz53; obtain ⟨ve363_0, rfl, ge363_0⟩ := hMe363; have hv363_0 := hcc363 0 _ rfl; rw [Nat.add_zero, show ((Kd.slice 3 (Kd.int .i64))).sz = 1 from rfl, Nat.mul_one] at hv363_0; replace hv363_0 := Option.some.inj (hv363_0.symm.trans hx363_0); rw [hv363_0] at ge363_0; have HL363_0 := Aside0.mk (show Kd.R (Kd.int .i64) 3 _ _ _ _ (rd_L1 t355 x7_1) from ge363_0); clear hv363_0 ge363_0; clear hcc363 hce363; have HR363_0 := Aside0.mk hi363_0; have HC363_0 := Aside0.mk hl363_0; clear hi363_0 hl363_0; replace p363 := eq_true p363; replace q363 := eq_true q363; have ea_ := Option.some.inj (hx359_0.symm.trans hx363_0); injection ea_ with ea_ en_ ec_; subst ea_; subst ec_; clear en_))
            repeat (go_quiet (first | (go_at_call 56; (with_reducible refine (codewrightref03_Gcd.calls k1 (Int.tmod x6_1 ((rd_L1 t355 x7_1).length : Int)) ((rd_L1 t355 x7_1).length : Int) t361 t362 _ A8.out).mono ?_); rintro e w' ⟨rfl, ⟨nd, rfl⟩⟩; (try first | exact ⟨rfl, _, World.drewN_drewN _ _ _⟩ | exact ⟨rfl, _, Eq.trans (World.drewN_drewN _ _ _) (congrArg (World.drewN _) (Nat.add_assoc _ _ _))⟩); have p363 : 0 ≤ (x7_1 : Int) := of_decide_eq_true zz65; have q363 : x7_1 < (t355.length : Int) := of_decide_eq_true zz65; obtain ⟨ad363, A363_0, c363_0, e363, hx363_0, hl363_0, hi363_0⟩ := at_L1 (Kd.S_reads' HO_4.out).2.2 x7_1 p363 q363; obtain rfl : ad359 = ad363 := (by injection e363); obtain ⟨ce363, hce363, hMe363, hcc363⟩ := Kd.S_get HO_4.out [] x7_1 p363 zz53; obtain ⟨ve363_0, rfl, ge363_0⟩ := hMe363; have hv363_0 := hcc363 0 _ rfl; rw [Nat.add_zero, show ((Kd.slice 3 (Kd.int .i64))).sz = 1 from rfl, Nat.mul_one] at hv363_0; replace hv363_0 := Option.some.inj (hv363_0.symm.trans hx363_0); rw [hv363_0] at ge363_0; have HL363_0 := Aside0.mk (show Kd.R (Kd.int .i64) 3 _ _ _ _ (rd_L1 t355 x7_1) from ge363_0); clear hv363_0 ge363_0; clear hcc363 hce363; have HR363_0 := Aside0.mk hi363_0; have HC363_0 := Aside0.mk hl363_0; clear hi363_0 hl363_0; replace p363 := eq_true p363; replace q363 := eq_true q363; have ea_ := Option.some.inj (hx359_0.symm.trans hx363_0); injection ea_ with ea_ en_ ec_; subst ea_; subst ec_; clear en_)); try go_wp2_with (first | (go_at_call 56; (with_reducible refine (codewrightref03_Gcd.calls k1 (Int.tmod x6_1 ((rd_L1 t355 x7_1).length : Int)) ((rd_L1 t355 x7_1).length : Int) t361 t362 _ A8.out).mono ?_); rintro e w' ⟨rfl, ⟨nd, rfl⟩⟩; (try first | exact ⟨rfl, _, World.drewN_drewN _ _ _⟩ | exact ⟨rfl, _, Eq.trans (World.drewN_drewN _ _ _) (congrArg (World.drewN _) (Nat.add_assoc _ _ _))⟩); have p363 : 0 ≤ (x7_1 : Int) := of_decide_eq_true zz65; have q363 : x7_1 < (t355.length : Int) := of_decide_eq_true zz65; obtain ⟨ad363, A363_0, c363_0, e363, hx363_0, hl363_0, hi363_0⟩ := at_L1 (Kd.S_reads' HO_4.out).2.2 x7_1 p363 q363; obtain rfl : ad359 = ad363 := (by injection e363); obtain ⟨ce363, hce363, hMe363, hcc363⟩ := Kd.S_get HO_4.out [] x7_1 p363 zz53; obtain ⟨ve363_0, rfl, ge363_0⟩ := hMe363; have hv363_0 := hcc363 0 _ rfl; rw [Nat.add_zero, show ((Kd.slice 3 (Kd.int .i64))).sz = 1 from rfl, Nat.mul_one] at hv363_0; replace hv363_0 := Option.some.inj (hv363_0.symm.trans hx363_0); rw [hv363_0] at ge363_0; have HL363_0 := Aside0.mk (show Kd.R (Kd.int .i64) 3 _ _ _ _ (rd_L1 t355 x7_1) from ge363_0); clear hv363_0 ge363_0; clear hcc363 hce363; have HR363_0 := Aside0.mk hi363_0; have HC363_0 := Aside0.mk hl363_0; clear hi363_0 hl363_0; replace p363 := eq_true p363; replace q363 := eq_true q363; have ea_ := Option.some.inj (hx359_0.symm.trans hx363_0); injection ea_ with ea_ en_ ec_; subst ea_; subst ec_; clear en_)))
            go_roundg k1
            case measure => have := HK1.out; omega
            case rel => exact ⟨(wrap64 ((wrap64 (Int.tdiv x6_1 t361)) * ((rd_L1 t355 x7_1).length : Int))), (wrap64 (x7_1 + 1)), zz67, zz67, H', ⟨by have := HK1.out; omega⟩, ⟨by (with_reducible repeat (first | apply Kd.S_alloc | apply Kd.S_drewN | apply Kd.S_drew)); exact HO_4.out⟩, ⟨by repeat (first | (with_reducible first | exact HB.out | apply below_alloc | apply pw_below_drewN | apply below_drew1) | exact HB.out)⟩⟩
          rw [if_neg c6] at H
          exact absurd H (by simp)
        rw [if_neg c5] at H; have c5b0 : decide (x7_1 < (t355.length : Int)) = false := decide_eq_false c5; clear c5; simp only [Option.some.injEq, Prod.mk.injEq] at H; obtain ⟨rfl, rfl⟩ := H; obtain ⟨Ao11, co11, eo11⟩ := Kd.S_slice HO_4.out; subst eo11; go_wp2
        repeat (go_quiet (fail); try go_wp2)
        go_ret2
        exact ⟨by first | rfl | (simp [errW_none, errW_some] <;> rfl) | (simp [*, errW_none, errW_some] <;> rfl), by repeat (first | (with_reducible first | exact HB.out | apply below_alloc | apply pw_below_drewN | apply below_drew1) | exact HB.out)⟩
  rw [if_neg c3] at H
  have c3b0 : (t356 == 0) = false := beq_eq_false_iff_ne.mpr c3
  have c3b1 : (t356 != 0) = true := bne_iff_ne.mpr c3
  simp only [Option.some.injEq, Prod.mk.injEq] at H
  obtain ⟨rfl, rfl⟩ := H
  go_enter Try.func23, Try.ntmps23
  go_wp2_with (first | (go_at_call 21; (with_reducible refine (codewrightref30_Cycles.calls k _ _ l0 t355 t356 _ ?side1 ?side2 A2.out).mono ?_); (case side1 => repeat (first | exact HR0.out | (with_reducible refine Kd.C_alloc ?_ _) | (with_reducible refine Kd.C_drewN ?_ _) | (with_reducible refine Kd.C_drew ?_))); (case side2 => exact HC0.out); rintro e w12 ⟨v357, rfl, ho0, hb⟩; have n0_ := Aside0.mk (Kd.S_lower ho0 (below_size zz55)); have n1_ := Aside0.mk (below_step zz55 hb); clear HB; have HO358 := n0_; have HB := n1_; clear n0_ n1_; (try clear hb); (try clear hb2); (try clear hk); (try clear hi); (try clear ho0)))
  repeat (go_quiet (first | (go_at_call 21; (with_reducible refine (codewrightref30_Cycles.calls k _ _ l0 t355 t356 _ ?side1 ?side2 A2.out).mono ?_); (case side1 => repeat (first | exact HR0.out | (with_reducible refine Kd.C_alloc ?_ _) | (with_reducible refine Kd.C_drewN ?_ _) | (with_reducible refine Kd.C_drew ?_))); (case side2 => exact HC0.out); rintro e w12 ⟨v357, rfl, ho0, hb⟩; have n0_ := Aside0.mk (Kd.S_lower ho0 (below_size zz55)); have n1_ := Aside0.mk (below_step zz55 hb); clear HB; have HO358 := n0_; have HB := n1_; clear n0_ n1_; (try clear hb); (try clear hb2); (try clear hk); (try clear hi); (try clear ho0))); try go_wp2_with (first | (go_at_call 21; (with_reducible refine (codewrightref30_Cycles.calls k _ _ l0 t355 t356 _ ?side1 ?side2 A2.out).mono ?_); (case side1 => repeat (first | exact HR0.out | (with_reducible refine Kd.C_alloc ?_ _) | (with_reducible refine Kd.C_drewN ?_ _) | (with_reducible refine Kd.C_drew ?_))); (case side2 => exact HC0.out); rintro e w12 ⟨v357, rfl, ho0, hb⟩; have n0_ := Aside0.mk (Kd.S_lower ho0 (below_size zz55)); have n1_ := Aside0.mk (below_step zz55 hb); clear HB; have HO358 := n0_; have HB := n1_; clear n0_ n1_; (try clear hb); (try clear hb2); (try clear hk); (try clear hi); (try clear ho0))))
  go_ret2
  exact ⟨by first | rfl | (simp [errW_none, errW_some] <;> rfl) | (simp [*, errW_none, errW_some] <;> rfl), by repeat (first | (with_reducible first | exact HB.out | apply below_alloc | apply pw_below_drewN | apply below_drew1) | exact HB.out)⟩
end
section
def lenB (n : Int) (p : List Int) : Bool := (p.length : Int) != n
def gensL (n : Int) (l : List (List Int)) : Int := if n < 1 ∨ 64 < n then 4 else match (l.map checkL).find? (fun e => e != 0) with
  | some e => e
  | none => if l.any (lenB n) then 10 else 0
def perm_generators.f (a0 : Int) (l1 : List (List Int)) : Option Int := some (gensL a0 l1)
theorem rdL1_mem {l : List (List Int)} {i : Int} (h0 : 0 ≤ i) (h1 : i < (l.length : Int)) : rd_L1 l i ∈ l := by
  unfold rd_L1
  rw [List.getD_eq_getElem?_getD, List.getElem?_eq_getElem (by omega)]
  exact List.getElem_mem _
theorem take_rdL1 {l : List (List Int)} {i : Int} (h0 : 0 ≤ i) (h1 : i < (l.length : Int)) : l.take (i + 1).toNat = l.take i.toNat ++ [rd_L1 l i] := by
  have e : (i + 1).toNat = i.toNat + 1 := by omega
  rw [e, List.take_succ_eq_append_getElem (by omega)]
  congr 2
  unfold rd_L1
  rw [List.getD_eq_getElem?_getD, List.getElem?_eq_getElem (by omega)]
  rfl
theorem gens1 (n : Int) (g c : Nat) (A : Option Addr) (p : List Int) (w : World) (hcell : w.cell? ⟨g, 0, none⟩ = some (.int .i64 n)) :
    Calls Try.prog 80 #[.slice A p.length c, .pointer (some ⟨g, 0, none⟩)] w fun e w' => e = .returned (.bool (lenB n p)) ∧ w = w' := by
  unfold lenB
  go_enter Try.func80, Try.ntmps80
  go_wp2
  go_ret
  exact ⟨rfl, rfl⟩
def IdxPost2 (p : List Int → Bool) (l : List (List Int)) (w : World) (e : Ending) (w' : World) : Prop := ∃ r : Int, e = .returned (.int .i64 r) ∧ decide (0 ≤ r) = l.any p ∧ Drawn0 w w'
theorem idx91_calls (A0 : Option Addr) (c0 : Nat) (l0 : List (List Int)) (g : Nat) (n : Int) (w : World) (hr0 : Kd.C (Kd.slice 3 (Kd.int .i64)) w A0 l0.length l0) (hcell : w.cell? ⟨g, 0, none⟩ = some (.int .i64 n)) :
    Calls Try.prog 91 #[.slice A0 l0.length c0, .func (Fn.func 80) #[] #[.pointer (some ⟨g, 0, none⟩)]] w (IdxPost2 (lenB n) l0 w) := by
  have HR := Aside0.mk hr0
  have HC := Aside0.mk hcell
  clear hr0 hcell
  go_enter Try.func91, Try.ntmps91
  go_wp2
  go_loopg [8] l0.length (fun kq v8 w' => ∃ i : Int, v8 = .int .i64 i ∧ Aside0 (0 ≤ i) ∧ Aside0 (i.toNat + kq = l0.length) ∧ Aside0 ((l0.take i.toNat).any (lenB n) = false) ∧ Aside0 (Drawn0 w w'))
  case atStart => exact ⟨0, rfl, ⟨by omega⟩, ⟨by simp⟩, ⟨by simp⟩, ⟨Drawn0.refl _⟩⟩
  case round =>
    obtain ⟨i, rfl, HI0, HI1, HA, HD⟩ := hrel; have i0 := HI0.out
    by_cases d1 : i < (l0.length : Int)
    · have d1b : decide (i < (l0.length : Int)) = true := decide_eq_true d1; have q0 := eq_true i0; have q1 := eq_true d1; have hmax : l0.length ≤ 9223372036854775807 := HR.out.2.1; obtain ⟨ad, A2, c2, ea, hx1, hl2, hC2⟩ := at_L1 HR.out i i0 d1
      cases ea; replace hx1 := (HD.out.below.cell (World.block_lt_of_cell? w _ hx1)).trans hx1; have hc1 := (HD.out.below.cell (World.block_lt_of_cell? w _ HC.out)).trans HC.out; have HC1 := Aside0.mk hc1; clear hc1 hl2 hC2
      cases hb : lenB n (rd_L1 l0 i) with
      | true =>
        have HBo := Aside0.mk hb; clear hb
        go_wp2_with (first
          | (go_at_call 80; (with_reducible refine (gens1 n g c2 A2 (rd_L1 l0 i) _ HC1.out).mono ?_); rintro e w5 ⟨rfl, rfl⟩; rw [HBo.out]))
        go_ret
        exact ⟨i, rfl, by rw [decide_eq_true HI0.out]; exact (List.any_eq_true.2 ⟨_, rdL1_mem HI0.out d1, HBo.out⟩).symm, HD.out⟩
      | false =>
        have HBo := Aside0.mk hb; clear hb
        go_wp2_with (first
          | (go_at_call 80; (with_reducible refine (gens1 n g c2 A2 (rd_L1 l0 i) _ HC1.out).mono ?_); rintro e w5 ⟨rfl, rfl⟩; rw [HBo.out]))
        obtain ⟨k1, rfl⟩ : ∃ m, gk = m + 1 := ⟨gk - 1, by have := HI1.out; omega⟩
        go_roundg k1
        case measure => omega
        case rel => exact ⟨i + 1, rfl, ⟨by have := HI0.out; omega⟩, ⟨by have := HI1.out; have := HI0.out; omega⟩, ⟨by rw [take_rdL1 HI0.out d1, List.any_append, HA.out]; simp [HBo.out]⟩, HD⟩
    have d1b : decide (i < (l0.length : Int)) = false := decide_eq_false d1; have ha := HA.out; rw [List.take_of_length_le (by omega)] at ha; have HA2 := Aside0.mk ha; clear ha; go_wp2; go_ret
    exact ⟨-1, rfl, by rw [HA2.out]; rfl, HD.out⟩
def ContPost2 (p : List Int → Bool) (l : List (List Int)) (w : World) (e : Ending) (w' : World) : Prop := e = .returned (.bool (l.any p)) ∧ Drawn0 w w'
theorem cont79_calls (A0 : Option Addr) (c0 : Nat) (l0 : List (List Int)) (g : Nat) (n : Int) (w : World) (hr0 : Kd.C (Kd.slice 3 (Kd.int .i64)) w A0 l0.length l0) (hcell : w.cell? ⟨g, 0, none⟩ = some (.int .i64 n)) :
    Calls Try.prog 79 #[.slice A0 l0.length c0, .func (Fn.func 80) #[] #[.pointer (some ⟨g, 0, none⟩)]] w (ContPost2 (lenB n) l0 w) := by
  have HR := Aside0.mk hr0
  have HC := Aside0.mk hcell
  clear hr0 hcell
  go_enter Try.func79, Try.ntmps79
  go_wp2_with (first
    | (go_at_call 91; (with_reducible refine (idx91_calls _ _ l0 g n _ HR.out HC.out).mono ?_); rintro e w5 ⟨r, rfl, hr, hd⟩; have HDr := Aside0.mk (And.intro hr hd); clear hr hd))
  go_ret
  exact ⟨by rw [← HDr.out.1]; rfl, HDr.out.2⟩
theorem find_first {l : List (List Int)} {i : Int} (h0 : 0 ≤ i) (h1 : i < (l.length : Int)) (ha : (l.take i.toNat).all (fun p => checkL p == 0) = true) (hb : checkL (rd_L1 l i) ≠ 0) : (l.map checkL).find? (fun e => e != 0) = some (checkL (rd_L1 l i)) := by
  have e : l = l.take i.toNat ++ (rd_L1 l i :: l.drop (i.toNat + 1)) := by
    have h2 := take_rdL1 h0 h1; have h3 : (i + 1).toNat = i.toNat + 1 := by omega
    rw [h3] at h2
    calc l = l.take (i.toNat + 1) ++ l.drop (i.toNat + 1) := (List.take_append_drop _ _).symm
      _ = _ := by rw [h2, List.append_assoc]; rfl
  rw [e, List.map_append, List.find?_append]
  have hn : ((l.take i.toNat).map checkL).find? (fun e => e != 0) = none := by
    rw [List.find?_eq_none]
    intro x hx
    obtain ⟨p, hp, rfl⟩ := List.mem_map.1 hx; have := List.all_eq_true.1 ha p hp
    simpa using this
  rw [hn]
  have e2 : rd_L1 (l.take i.toNat ++ rd_L1 l i :: l.drop (i.toNat + 1)) i = rd_L1 l i := by rw [← e]
  rw [e2]
  simp [hb]
theorem find_none {l : List (List Int)} (ha : l.all (fun p => checkL p == 0) = true) : (l.map checkL).find? (fun e => e != 0) = none := by
  rw [List.find?_eq_none]
  intro x hx
  obtain ⟨p, hp, rfl⟩ := List.mem_map.1 hx
  have := List.all_eq_true.1 ha p hp
  simpa using this
def GensPost (r : Int) (w : World) (e : Ending) (w' : World) : Prop := e = .returned (.int .i64 r) ∧ Below w.heap.size w w'
theorem gens_post (a0 : Int) (A1 : Option Addr) (c1 : Nat) (l1 : List (List Int)) (w : World) (hr1 : Kd.C (Kd.slice 3 (Kd.int .i64)) w A1 l1.length l1) (hc1 : l1.length ≤ c1) :
    Calls Try.prog 57 #[.int .i64 a0, .slice A1 l1.length c1] w (GensPost (gensL a0 l1) w) := by
  have HR := Aside0.mk hr1
  have HC := Aside0.mk hc1
  clear hr1 hc1
  by_cases hb : a0 < 1 ∨ 64 < a0
  · have HRS := Aside0.mk (show gensL a0 l1 = 4 by unfold gensL; rw [if_pos hb])
    have HD := Aside0.mk (degree_bad a0 hb); clear hb
    go_enter Try.func57, Try.ntmps57
    go_wp2_with (first
     | ((with_reducible refine gate_dst (N := 2) rfl ?_); refine box_event ?hg (N := 2) ?hd (cs := #[.int .i64 a0]) (t := 3) ?hr ?_; (case hd => rfl); (case hg => rfl); (case hr => first | (go_simp; done) | (go_simp; rfl)); intro g hgr w3 hbox3 hb3; have hz : w3.cell? ⟨g, 0, none⟩ = some (.int .i64 a0) := (blk_cell hbox3 0).trans rfl; have HB3 := Aside0.mk hb3; clear hgr hb3 hbox3)
     | (go_at_call 52; (with_reducible refine (perm_degree.calls a0 4 _ HD.out).mono ?_); rintro e w5 ⟨rfl, ⟨nd, rfl⟩⟩))
    go_ret
    exact ⟨by rw [HRS.out]; rfl, pw_below_drewN HB3.out _⟩
  have HD := Aside0.mk (degree_ok a0 (by omega) (by omega))
  have hmax : l1.length ≤ 9223372036854775807 := HR.out.2.1
  have HNB := Aside0.mk hb
  clear hb
  go_enter Try.func57, Try.ntmps57
  go_wp2_with (first
   | ((with_reducible refine gate_dst (N := 2) rfl ?_); refine box_event ?hg2 (N := 2) ?hd2 (cs := #[.int .i64 a0]) (t := 3) ?hr2 ?_; (case hd2 => rfl); (case hg2 => rfl); (case hr2 => first | (go_simp; done) | (go_simp; rfl)); intro g hgr w3 hbox3 hb3; have hz : w3.cell? ⟨g, 0, none⟩ = some (.int .i64 a0) := (blk_cell hbox3 0).trans rfl; have HZ := Aside0.mk hz; have HB3 := Aside0.mk hb3; clear hgr hb3 hbox3)
   | (go_at_call 52; (with_reducible refine (perm_degree.calls a0 0 _ HD.out).mono ?_); rintro e w5 ⟨rfl, ⟨nd, rfl⟩⟩))
  go_loopg [16] l1.length (fun kq v16 w' => ∃ i : Int, v16 = .int .i64 i ∧ Aside0 (0 ≤ i) ∧ Aside0 (i.toNat + kq = l1.length) ∧ Aside0 ((l1.take i.toNat).all (fun p => checkL p == 0) = true) ∧ Aside0 (Below w3.heap.size w3 w'))
  case atStart => exact ⟨0, rfl, ⟨by omega⟩, ⟨by simp⟩, ⟨by simp⟩, ⟨pw_below_drewN (Below.refl _ _) _⟩⟩
  case round =>
    clear hz; obtain ⟨i, rfl, HI0, HI1, HA, HBw⟩ := hrel; have i0 := HI0.out
    by_cases d1 : i < (l1.length : Int)
    · have d1b : decide (i < (l1.length : Int)) = true := decide_eq_true d1; have q0 := eq_true i0; have q1 := eq_true d1; have hb0 := below_then HB3.out HB3.out.size HBw.out; obtain ⟨ad, A2, c2, ea, hx1, hl2, hC2⟩ := at_L1 HR.out i i0 d1
      cases ea; replace hx1 := (hb0.cell (World.block_lt_of_cell? w _ hx1)).trans hx1; have HC2 := Aside0.mk (Kd.C_below hC2 hb0); have HL2 := Aside0.mk hl2; clear hb0 hC2 hl2
      by_cases hb : checkL (rd_L1 l1 i) = 0
      · have HBo := Aside0.mk hb; clear hb
        go_wp2_with (first
          | (go_at_call 16; (with_reducible refine (perm_Check.calls A2 c2 (rd_L1 l1 i) 0 _ HC2.out HL2.out (by unfold perm_Check.f; rw [HBo.out])).mono ?_); rintro e w6 ⟨rfl, hb6⟩; have HB6 := Aside0.mk (below_then HBw.out HBw.out.size hb6); clear hb6))
        obtain ⟨k1, rfl⟩ : ∃ m, gk = m + 1 := ⟨gk - 1, by have := HI1.out; omega⟩
        go_roundg k1
        case measure => omega
        case rel => exact ⟨i + 1, rfl, ⟨by have := HI0.out; omega⟩, ⟨by have := HI1.out; have := HI0.out; omega⟩, ⟨by rw [take_rdL1 HI0.out d1, List.all_append, HA.out]; simp [HBo.out]⟩, HB6⟩
      have HBo := Aside0.mk hb; have hb1 : (checkL (rd_L1 l1 i) != 0) = true := bne_iff_ne.mpr hb; have HRS := Aside0.mk (show gensL a0 l1 = checkL (rd_L1 l1 i) by unfold gensL; rw [if_neg HNB.out, find_first i0 d1 HA.out hb]); clear hb
      go_wp2_with (first
        | (go_at_call 16; (with_reducible refine (perm_Check.calls A2 c2 (rd_L1 l1 i) (checkL (rd_L1 l1 i)) _ HC2.out HL2.out rfl).mono ?_); rintro e w6 ⟨rfl, hb6⟩; have HB6 := Aside0.mk (below_then HBw.out HBw.out.size hb6); clear hb6))
      go_ret
      exact ⟨by rw [HRS.out]; rfl, below_then HB3.out HB3.out.size HB6.out⟩
    have d1b : decide (i < (l1.length : Int)) = false := decide_eq_false d1; have ha := HA.out; rw [List.take_of_length_le (by omega)] at ha; have HA2 := Aside0.mk ha; have hz1 := (HBw.out.cell (World.block_lt_of_cell? _ _ HZ.out)).trans HZ.out; have HZ1 := Aside0.mk hz1; have HRw := Aside0.mk (Kd.C_below HR.out (below_then HB3.out HB3.out.size HBw.out)); clear ha hz1
    cases hb : l1.any (lenB a0) with
    | true =>
      have HBo := Aside0.mk hb; have HRS := Aside0.mk (show gensL a0 l1 = 10 by unfold gensL; rw [if_neg HNB.out, find_none HA2.out]; simp [hb]); clear hb
      go_wp2_with (first
        | (go_at_call 79; (with_reducible refine (cont79_calls _ _ l1 g a0 _ HRw.out HZ1.out).mono ?_); rintro e w6 ⟨rfl, hd6⟩; rw [HBo.out]; have HB6 := Aside0.mk hd6.below; clear hd6))
      go_ret
      exact ⟨by rw [HRS.out]; rfl, below_then HB3.out HB3.out.size (below_then HBw.out HBw.out.size HB6.out)⟩
    | false =>
      have HBo := Aside0.mk hb; have HRS := Aside0.mk (show gensL a0 l1 = 0 by unfold gensL; rw [if_neg HNB.out, find_none HA2.out]; simp [hb]); clear hb
      go_wp2_with (first
        | (go_at_call 79; (with_reducible refine (cont79_calls _ _ l1 g a0 _ HRw.out HZ1.out).mono ?_); rintro e w6 ⟨rfl, hd6⟩; rw [HBo.out]; have HB6 := Aside0.mk hd6.below; clear hd6))
      go_ret
      exact ⟨by rw [HRS.out]; rfl, below_then HB3.out HB3.out.size (below_then HBw.out HBw.out.size HB6.out)⟩
theorem perm_generators.calls (a0 : Int) (A1 : Option Addr) (c1 : Nat) (l1 : List (List Int)) (r : Int) (w : World) (hr1 : Kd.C (Kd.slice 3 (Kd.int .i64)) w A1 l1.length l1) (hc1 : l1.length ≤ c1) (h : perm_generators.f a0 l1 = some r) :
    Calls Try.prog 57 #[.int .i64 a0, .slice A1 l1.length c1] w fun e w' => e = .returned (.int .i64 r) ∧ Below w.heap.size w w' := by
  obtain rfl := Option.some.inj h
  exact gens_post a0 A1 c1 l1 w hr1 hc1
end
section
def sortL (l : List Int) : List Int := l.mergeSort (fun a b => decide (a ≤ b))
theorem sortL_perm (l : List Int) : (sortL l).Perm l := List.mergeSort_perm _ _
theorem sortL_sorted (l : List Int) : (sortL l).Pairwise (· ≤ ·) := by
  have := List.pairwise_mergeSort (le := fun a b : Int => decide (a ≤ b)) (by intro a b c; simp; omega) (by intro a b; simp; omega) l
  exact this.imp (by intro a b h; simpa using h)
theorem sortL_unique {l r : List Int} (hp : r.Perm l) (hs : r.Pairwise (· ≤ ·)) : r = sortL l :=
  (hp.trans (sortL_perm l).symm).eq_of_pairwise (fun a b _ _ h1 h2 => by omega) hs (sortL_sorted l)
theorem sortL_eq_self {l : List Int} (hs : l.Pairwise (· ≤ ·)) : sortL l = l := (sortL_unique (List.Perm.refl l) hs).symm
def insOne (a : Int) : List Int → List Int
  | [] => [a]
  | b :: l => if a ≤ b then a :: b :: l else b :: insOne a l
def insL : List Int → List Int
  | [] => []
  | a :: l => insOne a (insL l)
theorem insOne_perm (a : Int) : ∀ l, (insOne a l).Perm (a :: l)
  | [] => List.Perm.refl _
  | b :: l => by
    unfold insOne
    split
    · exact List.Perm.refl _
    · exact ((insOne_perm a l).cons b).trans (List.Perm.swap a b l)
theorem insOne_sorted (a : Int) : ∀ {l : List Int}, l.Pairwise (· ≤ ·) → (insOne a l).Pairwise (· ≤ ·)
  | [], _ => by simp [insOne]
  | b :: l, h => by
    have h' := List.pairwise_cons.1 h; unfold insOne
    split
    · rename_i hab
      refine List.pairwise_cons.2 ⟨fun x hx => ?_, h⟩
      rcases List.mem_cons.1 hx with rfl | hx
      · exact hab
      · have := h'.1 x hx; omega
    · refine List.pairwise_cons.2 ⟨fun x hx => ?_, insOne_sorted a h'.2⟩
      rcases List.mem_cons.1 ((insOne_perm a l).mem_iff.1 hx) with rfl | hx
      · omega
      · exact h'.1 x hx
theorem insL_perm : ∀ l, (insL l).Perm l
  | [] => List.Perm.refl _
  | a :: l => (insOne_perm a _).trans ((insL_perm l).cons a)
theorem insL_sorted : ∀ l, (insL l).Pairwise (· ≤ ·)
  | [] => by simp [insL]
  | a :: l => insOne_sorted a (insL_sorted l)
theorem insL_eq (l : List Int) : insL l = sortL l := sortL_unique (insL_perm l) (insL_sorted l)
end
end Go.Proofs.Ytjjlhbgpdncpcaa.P
section
namespace Go.Proofs.Ytjjlhbgpdncpcaa.P
open Go.Shelf in
def sortRen : Ren where
  f := fun | 189 => 58 | 125 => 82 | 257 => 81 | 128 => 101 | 129 => 102 | 294 => 92 | 295 => 93 | 296 => 94 | 297 => 95 | 298 => 96 | 299 => 97 | 216 => 98 | 300 => 99 | 301 => 100 | 328 => 103 | 329 => 104 | 330 => 105 | 331 => 106 | 332 => 107 | 215 => 108 | 343 => 109 | n => n
  t := fun | 28 => 22 | 3 => 3 | 46 => 98 | 0 => 0 | 51 => 72 | 53 => 77 | 4 => 4 | 183 => 117 | 182 => 116 | 131 => 122 | 5 => 5 | 9 => 9 | 218 => 126 | 222 => 130 | 228 => 132 | 229 => 133 | n => n
  g := fun n => n
theorem sortLays : Lays.n189 Try.prog sortRen where
  mixed := by kernel_rfl
  f125 := Try.func82.trans (congrArg some (by kernel_rfl))
  f128 := Try.func101.trans (congrArg some (by kernel_rfl))
  f129 := Try.func102.trans (congrArg some (by kernel_rfl))
  f189 := Try.func58.trans (congrArg some (by kernel_rfl))
  f215 := Try.func108.trans (congrArg some (by kernel_rfl))
  f216 := Try.func98.trans (congrArg some (by kernel_rfl))
  f257 := Try.func81.trans (congrArg some (by kernel_rfl))
  f294 := Try.func92.trans (congrArg some (by kernel_rfl))
  f295 := Try.func93.trans (congrArg some (by kernel_rfl))
  f296 := Try.func94.trans (congrArg some (by kernel_rfl))
  f297 := Try.func95.trans (congrArg some (by kernel_rfl))
  f298 := Try.func96.trans (congrArg some (by kernel_rfl))
  f299 := Try.func97.trans (congrArg some (by kernel_rfl))
  f300 := Try.func99.trans (congrArg some (by kernel_rfl))
  f301 := Try.func100.trans (congrArg some (by kernel_rfl))
  f328 := Try.func103.trans (congrArg some (by kernel_rfl))
  f329 := Try.func104.trans (congrArg some (by kernel_rfl))
  f330 := Try.func105.trans (congrArg some (by kernel_rfl))
  f331 := Try.func106.trans (congrArg some (by kernel_rfl))
  f332 := Try.func107.trans (congrArg some (by kernel_rfl))
  f343 := Try.func109.trans (congrArg some (by kernel_rfl))
  t0 := Try.underlying0
  a0 := Try.isAgg0
  z0 := Try.sizeOf0
  v0 := Try.zeroValue0
  t3 := Try.underlying3
  a3 := Try.isAgg3
  z3 := Try.sizeOf3
  v3 := Try.zeroValue3
  t4 := Try.underlying4
  a4 := Try.isAgg4
  z4 := Try.sizeOf4
  v4 := Try.zeroValue4
  t5 := Try.underlying5
  a5 := Try.isAgg5
  z5 := Try.sizeOf5
  v5 := Try.zeroValue5
  t9 := Try.underlying9
  a9 := Try.isAgg9
  z9 := Try.sizeOf9
  v9 := Try.zeroValue9
  t28 := Try.underlying22
  a28 := Try.isAgg22
  z28 := Try.sizeOf22
  v28 := Try.zeroValue22
  t46 := Try.underlying98
  a46 := Try.isAgg98
  z46 := Try.sizeOf98
  v46 := Try.zeroValue98
  t51 := Try.underlying72
  a51 := Try.isAgg72
  z51 := Try.sizeOf72
  v51 := Try.zeroValue72
  t53 := Try.underlying77
  a53 := Try.isAgg77
  z53 := Try.sizeOf77
  v53 := Try.zeroValue77
  t131 := Try.underlying122
  a131 := Try.isAgg122
  z131 := Try.sizeOf122
  v131 := Try.zeroValue122
  t182 := Try.underlying116
  a182 := Try.isAgg116
  z182 := Try.sizeOf116
  v182 := Try.zeroValue116
  t183 := Try.underlying117
  a183 := Try.isAgg117
  z183 := Try.sizeOf117
  v183 := Try.zeroValue117
  t218 := Try.underlying126
  a218 := Try.isAgg126
  z218 := Try.sizeOf126
  v218 := Try.zeroValue126
  t222 := Try.underlying130
  a222 := Try.isAgg130
  z222 := Try.sizeOf130
  v222 := Try.zeroValue130
  t228 := Try.underlying132
  a228 := Try.isAgg132
  z228 := Try.sizeOf132
  v228 := Try.zeroValue132
  t229 := Try.underlying133
  a229 := Try.isAgg133
  z229 := Try.sizeOf133
  v229 := Try.zeroValue133
end Go.Proofs.Ytjjlhbgpdncpcaa.P
end
section
namespace Go.Proofs.Ytjjlhbgpdncpcaa.P
open Go.RowKit Go.Sort Go.Proofs.YtjjlhbgpdncpcaaW.PrintWords Go.Proofs.YtjjlhbgpdncpcaaW.PrintLast Go.Proofs.YtjjlhbgpdncpcaaW.PrintMore
set_option linter.unusedVariables false
set_option linter.unusedSimpArgs false
theorem sort_big (P0_ : Nat → Prop) (u : Value) (l0 : List Int) (w0 w : World) (hl : 0 < l0.length) (hsz : l0.length < 4611686018427387904) (hB : Below w0.heap.size w0 w) (ho0 : Kd.R (Kd.int .i64) 3 w w0.heap.size P0_ u l0) :
    Calls Try.prog 58 #[u] w fun e w' => e = .returned (.tuple #[]) ∧ Kd.R (Kd.int .i64) 3 w' w0.heap.size (fun k_ => (P0_ k_ ∨ w.heap.size ≤ k_)) u (sortL l0) ∧ Below w0.heap.size w0 w' ∧ Kept w w' (fun k_ => P0_ k_) := by
  have hP := ho0.1
  have ho := Kd.own_of_R ho0
  obtain ⟨hlen, h0 | ⟨g, cap, cur, rfl, hbg, hheap, hn, hcap, hsz', htake⟩⟩ := ho
  · omega
  have hH := Go.holds_of_blockI hheap (ss := l0) (by rw [Nat.mul_one] at htake; exact htake)
  have hlt : g < w.heap.size := (Array.getElem?_eq_some_iff.1 hheap).1
  refine (Any.slices_Sort_int sortLays g 0 cap l0 w hH hlt hsz).mono ?_
  rintro e w' ⟨rfl, n, os, rfl⟩
  have hln : (sortL l0).length = l0.length := (sortL_perm l0).length_eq
  have hown := Go.ownsRow_sortedI (n := n) (os := os) (ts := sortL l0) (ss := l0) hln hbg hheap hn hcap hsz'
  have hg := Go.grownBy_sortedI (w := w) (g := g) (n := n) (os := os) (sortL l0).toArray
  have hPg : P0_ g := hP g rfl
  refine ⟨rfl, Kd.R_of_own (by rw [hln]; exact hown) (fun k hk => .inl (hP k hk)), hB.grown hg hB.size (fun k hk => by injection hk with hk; omega), ⟨hg.size, fun i hi hs => hg.block i hi (fun e_ => hs (by injection e_ with e_; rw [e_]; exact hPg))⟩⟩
end Go.Proofs.Ytjjlhbgpdncpcaa.P
end
namespace Go.Proofs.Ytjjlhbgpdncpcaa.P
open Go.RowKit Go.Proofs.YtjjlhbgpdncpcaaW.PrintWords Go.Proofs.YtjjlhbgpdncpcaaW.PrintLast Go.Proofs.YtjjlhbgpdncpcaaW.PrintMore
set_option linter.unusedVariables false
set_option linter.unusedSimpArgs false
set_option maxHeartbeats 8000000
set_option maxRecDepth 100000
section
open Go.Shelf in
def lenRen : Ren where
  f := fun | 125 => 82 | 128 => 101 | 129 => 102 | n => n
  t := fun | 46 => 98 | 51 => 72 | 53 => 77 | n => n
  g := fun n => n
theorem lenLays : Lays.n125 Try.prog lenRen where
  mixed := by kernel_rfl
  f125 := Try.func82.trans (congrArg some (by kernel_rfl))
  f128 := Try.func101.trans (congrArg some (by kernel_rfl))
  f129 := Try.func102.trans (congrArg some (by kernel_rfl))
  t3 := Try.underlying3
  a3 := Try.isAgg3
  z3 := Try.sizeOf3
  v3 := Try.zeroValue3
  t4 := Try.underlying4
  a4 := Try.isAgg4
  z4 := Try.sizeOf4
  v4 := Try.zeroValue4
  t5 := Try.underlying5
  a5 := Try.isAgg5
  z5 := Try.sizeOf5
  v5 := Try.zeroValue5
  t9 := Try.underlying9
  a9 := Try.isAgg9
  z9 := Try.sizeOf9
  v9 := Try.zeroValue9
  t46 := Try.underlying98
  a46 := Try.isAgg98
  z46 := Try.sizeOf98
  v46 := Try.zeroValue98
  t51 := Try.underlying72
  a51 := Try.isAgg72
  z51 := Try.sizeOf72
  v51 := Try.zeroValue72
  t53 := Try.underlying77
  a53 := Try.isAgg77
  z53 := Try.sizeOf77
  v53 := Try.zeroValue77
theorem bits_Len.calls (x : Int) (w : World) (h0 : 0 ≤ x) (h1 : x ≤ 18446744073709551615) :
    Calls Try.prog 82 #[.int .u64 x] w fun e w' => e = .returned (.int .i64 (Lib.bitLen x.toNat)) ∧ w' = w := Any.bits_Len lenLays x w h0 h1
theorem ins0.calls (u : Value) (w : World) : Calls Try.prog 92 #[u, .int .i64 0, .int .i64 0] w fun e w' => e = .returned (.tuple #[]) ∧ w' = w := by
  go_enter Try.func92, Try.ntmps92
  go_wp2
  go_loopg [6] 1 (fun kq v6 w' => v6 = .int .i64 1 ∧ w' = w)
  case atStart => exact ⟨rfl, rfl⟩
  case round =>
    obtain ⟨rfl, rfl⟩ := hrel; go_wp2
    first | go_end0 | ((try simp only [Exit.inBlock, Exit.then]); refine bodyPost_ret (results_none rfl _ _ _) rfl ?_)
    exact ⟨rfl, rfl⟩
theorem pdq0.calls (u : Value) (lim : Int) (w : World) : Calls Try.prog 81 #[u, .int .i64 0, .int .i64 0, .int .i64 lim] w fun e w' => e = .returned (.tuple #[]) ∧ w' = w := by
  go_enter Try.func81, Try.ntmps81
  go_wp2
  go_loopg [1, 2, 3, 8, 9] 1 (fun kq v1 v2 v3 v8 v9 w' => v1 = .int .i64 0 ∧ v2 = .int .i64 0 ∧ v3 = .int .i64 lim ∧ v8 = .bool true ∧ v9 = .bool true ∧ w' = w)
  case atStart => exact ⟨rfl, rfl, rfl, rfl, rfl, rfl⟩
  case round =>
    obtain ⟨rfl, rfl, rfl, rfl, rfl, rfl⟩ := hrel
    go_wp2_with (first
      | (go_at_call 92; (with_reducible refine (ins0.calls u _).mono ?_); rintro e w1 ⟨rfl, rfl⟩))
    first | go_end0 | ((try simp only [Exit.inBlock, Exit.then]); refine bodyPost_ret (results_none rfl _ _ _) rfl ?_)
    exact ⟨rfl, rfl⟩
def slices_Sort_int_int.f (l0 : List Int) : Option (List Int) := if l0.length < 4611686018427387904 then some (insL l0) else none
theorem slices_Sort_int_int.calls (P0_ : Nat → Prop) (u9000_ : Value) (l0 : List Int) (r : List Int) (w0 w : World) (hB : Below w0.heap.size w0 w) (ho0 : Kd.R (Kd.int .i64) 3 w w0.heap.size P0_ u9000_ l0) (h : slices_Sort_int_int.f l0 = some r) :
    Calls Try.prog 58 #[u9000_] w fun e w' => e = .returned (.tuple #[]) ∧ Kd.R (Kd.int .i64) 3 w' w0.heap.size (fun k_ => (P0_ k_ ∨ w.heap.size ≤ k_)) u9000_ r ∧ Below w0.heap.size w0 w' ∧ Kept w w' (fun k_ => P0_ k_) := by
  have hq : l0.length < 4611686018427387904 ∧ sortL l0 = r := by
    unfold slices_Sort_int_int.f at h; rw [insL_eq] at h
    split at h
    · exact ⟨by assumption, Option.some.inj h⟩
    · cases h
  obtain ⟨hl', rfl⟩ := hq
  by_cases hz : 0 < l0.length
  · exact sort_big P0_ u9000_ l0 w0 w hz hl' hB ho0
  have h0 : l0 = [] := by cases l0 with
    | nil => rfl
    | cons a l => simp at hz
  subst h0
  have hK : Kd.R (Kd.int .i64) 3 w w0.heap.size (fun k_ => (P0_ k_ ∨ w.heap.size ≤ k_)) u9000_ (sortL []) := by
    rw [sortL_eq_self List.Pairwise.nil]
    exact Kd.R_mono ho0 (fun k hk => .inl hk)
  have HK := Aside0.mk hK
  have HB := Aside0.mk hB
  obtain ⟨A, c, rfl⟩ := Kd.R_slice ho0
  clear ho0 hB h hK hz hl'
  go_enter Try.func58, Try.ntmps58
  go_wp2_with (first
    | (go_at_call 82; (with_reducible refine (bits_Len.calls _ _ ?s1 ?s2).mono ?_); (case s1 => decide); (case s2 => decide); rintro e w1 ⟨rfl, rfl⟩)
    | (go_at_call 81; (with_reducible refine (pdq0.calls _ _ _).mono ?_); rintro e w1 ⟨rfl, rfl⟩))
  go_end0
  exact ⟨rfl, HK.out, HB.out, Kept.refl _ _⟩
end
section
attribute [local go_sem] max2_int min2_int max_two min_two max_three min_three max_four min_four
mutual
def perm_Orbits.l0 : Nat → List (List Int) → List Bool → List (List Int) → Int → Int → Option ((List (List Int)) × Int)
  | 0, _, _, _, _, _ => none
  | k + 1, x1, x7, x8, x23, x24 => if x24 < x23 then (if 0 ≤ x24 then (if x24 < (x7.length : Int) then (if rdOf false x7 x24 = true then (perm_Orbits.l0 k x1 x7 x8 x23 (wrap64 (x24 + 1))) else (perm_Orbits.l1 k x1 (x7.set (x24 : Int).toNat true) x8 (([x24] : List Int)) 0 x23 x24)) else (none)) else (none)) else (some (x8, 0))
def perm_Orbits.l1 : Nat → List (List Int) → List Bool → List (List Int) → List Int → Int → Int → Int → Option ((List (List Int)) × Int)
  | 0, _, _, _, _, _, _, _ => none
  | k + 1, x1, x7, x8, x10, x11, x23, x24 => if x11 < (x10.length : Int) then (perm_Orbits.l2 k x1 x7 x8 x10 x11 x23 x24 x1 (x1.length : Int) 0) else ((slices_Sort_int_int.f x10).bind fun t172 => (if x8.length < 5864062014805 then (perm_Orbits.l0 k x1 x7 (x8 ++ [t172]) x23 (wrap64 (x24 + 1))) else (none)))
def perm_Orbits.l2 : Nat → List (List Int) → List Bool → List (List Int) → List Int → Int → Int → Int → List (List Int) → Int → Int → Option ((List (List Int)) × Int)
  | 0, _, _, _, _, _, _, _, _, _, _ => none
  | k + 1, x1, x7, x8, x10, x11, x23, x24, x42, x43, x44 => if x44 < x43 then (if 0 ≤ x44 then (if x44 < (x42.length : Int) then (if 0 ≤ x11 then (if x11 < (x10.length : Int) then (if 0 ≤ (rd x10 x11) then (if (rd x10 x11) < ((rd_L1 x42 x44).length : Int) then (if 0 ≤ (rd (rd_L1 x42 x44) (rd x10 x11)) then (if (rd (rd_L1 x42 x44) (rd x10 x11)) < (x7.length : Int) then (if (rdOf false x7 (rd (rd_L1 x42 x44) (rd x10 x11)) = true) then (perm_Orbits.l2 k x1 x7 x8 x10 x11 x23 x24 x42 x43 (wrap64 (x44 + 1))) else (if x10.length < 17592186044416 then (perm_Orbits.l2 k x1 (x7.set ((rd (rd_L1 x42 x44) (rd x10 x11)) : Int).toNat true) x8 (x10 ++ [rd (rd_L1 x42 x44) (rd x10 x11)]) x11 x23 x24 x42 x43 (wrap64 (x44 + 1))) else (none))) else (none)) else (none)) else (none)) else (none)) else (none)) else (none)) else (none)) else (none)) else (perm_Orbits.l1 k x1 x7 x8 x10 (wrap64 (x11 + 1)) x23 x24)
end
def perm_Orbits.f (k : Nat) (a0 : Int) (l1 : List (List Int)) : Option ((List (List Int)) × Int) := (perm_generators.f a0 l1).bind fun t163 => (if t163 = 0 then (if 0 ≤ a0 then (if (a0 : Int).toNat ≤ 281474976710656 then (perm_Orbits.l0 k l1 (List.replicate (a0 : Int).toNat false) ([] : List (List Int)) a0 0) else (none)) else (none)) else (some (([] : List (List Int)), t163)))
theorem perm_Orbits.calls (k : Nat) (a0 : Int) (A1 : Option Addr) (c1 : Nat) (l1 : List (List Int)) (r1 : List (List Int)) (r2 : Int) (w : World) (hr1 : Kd.C (Kd.slice 3 (Kd.int .i64)) w A1 l1.length l1) (hc1 : l1.length ≤ c1) (h : perm_Orbits.f k a0 l1 = some (r1, r2)) :
    Calls Try.prog 28 #[.int .i64 a0, .slice A1 l1.length c1] w fun e w' => ∃ v0_ : Value, e = .returned (.tuple #[v0_, .int .i64 r2]) ∧ Kd.S (Kd.slice 3 (Kd.int .i64)) 22 w' w.heap.size (fun _ => True) v0_ r1 ∧ Below w.heap.size w w' := by
  have HR1 := Aside0.mk hr1
  have HC1 := Aside0.mk hc1
  clear hr1 hc1
  have HB := Aside0.mk (Below.refl w.heap.size w)
  have H : ((perm_generators.f a0 l1).bind fun t163 => (if t163 = 0 then (if 0 ≤ a0 then (if (a0 : Int).toNat ≤ 281474976710656 then (perm_Orbits.l0 k l1 (List.replicate (a0 : Int).toNat false) ([] : List (List Int)) a0 0) else (none)) else (none)) else (some (([] : List (List Int)), t163)))) = some (r1, r2) := h
  clear h
  replace H := Option.bind_eq_some_iff.mp H
  obtain ⟨t163, A30, H⟩ := H
  replace H : (if t163 = 0 then (if 0 ≤ a0 then (if (a0 : Int).toNat ≤ 281474976710656 then (perm_Orbits.l0 k l1 (List.replicate (a0 : Int).toNat false) ([] : List (List Int)) a0 0) else (none)) else (none)) else (some (([] : List (List Int)), t163))) = some (r1, r2) := H
  have A3 := Aside0.mk A30
  clear A30
  by_cases c4 : t163 = 0
  · rw [if_pos c4] at H
    have c4b0 : (t163 == 0) = true := beq_iff_eq.mpr c4; have c4b1 : (t163 != 0) = false := bne_eq_false_iff_eq.mpr c4; clear c4
    by_cases c5 : 0 ≤ a0
    · rw [if_pos c5] at H; have c5b0 := eq_true c5; have c5b1 : decide (0 ≤ a0) = true := decide_eq_true c5; clear c5
      by_cases c6 : (a0 : Int).toNat ≤ 281474976710656
      · rw [if_pos c6] at H; have c6b0 := eq_true c6; have c6b1 : decide ((a0 : Int).toNat ≤ 281474976710656) = true := decide_eq_true c6; clear c6; obtain ⟨y164, hy164⟩ : ∃ y_ : List Bool, y_ = (List.replicate (a0 : Int).toNat false) := ⟨_, rfl⟩; replace H : (perm_Orbits.l0 k l1 y164 ([] : List (List Int)) a0 0) = some (r1, r2) := by first | (rw [hy164]; with_reducible exact H) | (have H2_ := (Option.bind_some _ _).symm.trans H; rw [hy164]; with_reducible exact H2_) | (have H2_ := (Option.bind_some _ _).symm.trans H; with_reducible exact H2_) | with_reducible exact H | (rw [hy164]; exact H) | exact H
        have Ny164 := Aside0.mk hy164; clear hy164; have H' := Aside0.mk H; clear H
        go_enter Try.func28, Try.ntmps28
        go_wp2_with (first | ((with_reducible refine gate_callee (f := 57) rfl ?_); refine goesL_ (some 17) rfl rfl Try.func57 (by kernel_rfl) rfl #[.int .i64 a0, .slice A1 l1.length c1] rfl zz54 ?_; (with_reducible refine (perm_generators.calls a0 _ _ l1 t163 _ ?side1 ?side2 A3.out).mono ?_); (case side1 => repeat (first | exact HR1.out | (with_reducible refine Kd.C_alloc ?_ _) | (with_reducible refine Kd.C_drewN ?_ _) | (with_reducible refine Kd.C_drew ?_))); (case side2 => exact HC1.out); rintro e w7 ⟨rfl, hb⟩; refine ⟨_, rfl, ?_⟩; have n0_ := Aside0.mk (below_step zz55 hb); clear HB; have HB := n0_; clear n0_; (try clear hb); (try clear hb2); (try clear hk); (try clear hi)) | ((with_reducible refine gate_dst (N := 22) rfl ?_); refine Kd.R_make Kd.bool _ 4 rfl (N := 22) rfl 83 _ _ rfl a0 rfl rfl Try.underlying83 (.bool false) 1 info4 rfl (by decide) (by omega) false (ok := fun _ => True) (okp := fun _ => True) rfl (fun _ hk => hk) trivial (of_decide_eq_true zz65) (Nat.le_trans (Nat.mul_le_mul_right _ (of_decide_eq_true zz65 : a0.toNat ≤ 281474976710656)) (by omega)) (Below.refl _ _) (Nat.le_refl _) ?_; intro v165 w8 ho9 hb hg_ hnew_; clear hg_ hnew_; (first | rw [← Ny164.out] at ho9 | (simp only [Int.reduceToNat] at ho9; rw [← Ny164.out] at ho9)); have n0_ := Aside0.mk (Kd.R_lower ho9 (below_size zz55)); have n1_ := Aside0.mk (below_step zz55 hb); clear HB; have HO166 := n0_; have HB := n1_; clear n0_ n1_; clear hb ho9))
        go_loopg [8, 24] k (fun kq v8 v24 w' => ∃ (x7_1 : List Bool) (x8_1 : List (List Int)) (x24_1 : Int), v24 = .int .i64 x24_1 ∧ Aside0 (perm_Orbits.l0 kq l1 x7_1 x8_1 a0 x24_1 = some (r1, r2)) ∧ Aside0 (kq ≤ k) ∧ Aside0 (Kd.R Kd.bool 4 w' w.heap.size (fun _ => True) v165 x7_1) ∧ Aside0 (Kd.S (Kd.slice 3 (Kd.int .i64)) 22 w' w.heap.size (fun _ => True) v8 x8_1) ∧ Aside0 (Below w.heap.size w w'))
        case atStart => exact ⟨(y164), (([] : List (List Int))), (0), zz67, H', ⟨Nat.le_refl _⟩, ⟨by (with_reducible repeat (first | apply Kd.R_alloc | apply Kd.R_drewN | apply Kd.R_drew)); exact HO166.out⟩, ⟨by first | exact Kd.S_nil _ _ _ _ _ | exact Kd.N_nil _ _ _ _ _ | exact Kd.V_nil _ _ _ _ _ | exact Kd.Q_nil _ _ _ _ _ | exact Kd.R_nil _ _ _ _ _⟩, ⟨by repeat (first | (with_reducible first | exact HB.out | apply below_alloc | apply pw_below_drewN | apply below_drew1) | exact HB.out)⟩⟩
        case round =>
          clear H'; (try clear c1); (try clear c2); (try clear p2); (try clear c4); (try clear c4b0); (try clear c4b1); (try clear c5); (try clear c5b0); (try clear c5b1); (try clear c6); (try clear c6b0); (try clear c6b1); obtain ⟨x7_1, x8_1, x24_1, rfl, HA, HK1, HO_7, HO_8, HB⟩ := hrel
          cases gk with
          | zero => exact absurd HA.out (by simp [perm_Orbits.l0])
          | succ k1 =>
            have H := HA.out; clear HA; simp only [perm_Orbits.l0] at H
            by_cases c10 : x24_1 < a0
            · rw [if_pos c10] at H; have c10b0 : decide (x24_1 < a0) = true := decide_eq_true c10; clear c10
              by_cases c11 : 0 ≤ x24_1
              · rw [if_pos c11] at H; have c11b0 : decide (0 ≤ x24_1) = true := decide_eq_true c11; clear c11
                by_cases c12 : x24_1 < (x7_1.length : Int)
                · rw [if_pos c12] at H; have c12b0 : decide (x24_1 < (x7_1.length : Int)) = true := decide_eq_true c12; clear c12; obtain ⟨bq13, hbq13⟩ : ∃ b_ : Bool, b_ = (rdOf false x7_1 x24_1) := ⟨_, rfl⟩; replace H : (if bq13 = true then (perm_Orbits.l0 k1 l1 x7_1 x8_1 a0 (wrap64 (x24_1 + 1))) else (perm_Orbits.l1 k1 l1 (x7_1.set (x24_1 : Int).toNat true) x8_1 (([x24_1] : List Int)) 0 a0 x24_1)) = some (r1, r2) := by rw [← hbq13] at H; exact H
                  have Nbq13 := Aside0.mk hbq13; clear hbq13
                  by_cases c14 : bq13 = true
                  · subst c14; have H1 : (perm_Orbits.l0 k1 l1 x7_1 x8_1 a0 (wrap64 (x24_1 + 1))) = some (r1, r2) := by rw [if_pos rfl] at H; exact H
                    clear H; have H := H1; clear H1; have H' := Aside0.mk H; clear H; obtain ⟨Ao15, co15, eo15⟩ := Kd.R_slice HO_7.out; subst eo15; have p167 : 0 ≤ (x24_1 : Int) := of_decide_eq_true zz65; have q167 : x24_1 < (x7_1.length : Int) := of_decide_eq_true zz65; obtain ⟨ad167, e167, hx167_0⟩ := Kd.at_bool (Kd.R_reads' HO_7.out).2.2 x24_1 p167 q167
                    (try rw [← Nbq13.out] at hx167_0)
                    cases e167; replace p167 := eq_true p167; replace q167 := eq_true q167; go_wp2
                    go_roundg k1
                    case measure => have := HK1.out; omega
                    case rel => exact ⟨(x7_1), (x8_1), (wrap64 (x24_1 + 1)), zz67, H', ⟨by have := HK1.out; omega⟩, ⟨by (with_reducible repeat (first | apply Kd.R_alloc | apply Kd.R_drewN | apply Kd.R_drew)); exact HO_7.out⟩, ⟨by (with_reducible repeat (first | apply Kd.S_alloc | apply Kd.S_drewN | apply Kd.S_drew)); exact HO_8.out⟩, ⟨by repeat (first | (with_reducible first | exact HB.out | apply below_alloc | apply pw_below_drewN | apply below_drew1) | exact HB.out)⟩⟩
                  replace c14 := Bool.eq_false_iff.mpr c14; subst c14; have H1 : (perm_Orbits.l1 k1 l1 (x7_1.set (x24_1 : Int).toNat true) x8_1 (([x24_1] : List Int)) 0 a0 x24_1) = some (r1, r2) := by rw [if_neg (show ¬ (false = true) by decide)] at H; exact H
                  clear H; have H := H1; clear H1; obtain ⟨y168, hy168⟩ : ∃ y_ : List Bool, y_ = (x7_1.set (x24_1 : Int).toNat true) := ⟨_, rfl⟩; replace H : (perm_Orbits.l1 k1 l1 y168 x8_1 (([x24_1] : List Int)) 0 a0 x24_1) = some (r1, r2) := by first | (rw [hy168]; with_reducible exact H) | (have H2_ := (Option.bind_some _ _).symm.trans H; rw [hy168]; with_reducible exact H2_) | (have H2_ := (Option.bind_some _ _).symm.trans H; with_reducible exact H2_) | with_reducible exact H | (rw [hy168]; exact H) | exact H
                  have Ny168 := Aside0.mk hy168; clear hy168; obtain ⟨y169, hy169⟩ : ∃ y_ : List Int, y_ = (([x24_1] : List Int)) := ⟨_, rfl⟩; replace H : (perm_Orbits.l1 k1 l1 y168 x8_1 y169 0 a0 x24_1) = some (r1, r2) := by first | (rw [hy169]; with_reducible exact H) | (have H2_ := (Option.bind_some _ _).symm.trans H; rw [hy169]; with_reducible exact H2_) | (have H2_ := (Option.bind_some _ _).symm.trans H; with_reducible exact H2_) | with_reducible exact H | (rw [hy169]; exact H) | exact H
                  have Ny169 := Aside0.mk hy169; clear hy169; have H' := Aside0.mk H; clear H; obtain ⟨Ao17, co17, eo17⟩ := Kd.R_slice HO_7.out; subst eo17; have p167 : 0 ≤ (x24_1 : Int) := of_decide_eq_true zz65; have q167 : x24_1 < (x7_1.length : Int) := of_decide_eq_true zz65; obtain ⟨ad167, e167, hx167_0⟩ := Kd.at_bool (Kd.R_reads' HO_7.out).2.2 x24_1 p167 q167
                  (try rw [← Nbq13.out] at hx167_0)
                  cases e167; replace p167 := eq_true p167; replace q167 := eq_true q167; have p16 : 0 ≤ (x24_1 : Int) := of_decide_eq_true zz65; have q16 : (x24_1 : Int) < ((x7_1.length : Int) : Int) := of_decide_eq_true zz65; obtain ⟨go16, co16, eo16, gb16, gl16, cl16, HG16⟩ := Kd.R_form HO_7.out (by omega)
                  (first | cases eo16 | (injection eo16 with ea_ en_ ec_; (first | subst ea_ | (injection ea_ with ea_; subst ea_)); subst ec_; clear en_))
                  have GB16 := Aside0.mk gb16; have GG16 := Aside0.mk HG16; clear gb16 gl16 HG16
                  (first | simp only [add_plain] at hx167_0 | skip)
                  obtain ⟨hx16_0, hf16_0⟩ := Kd.R_celln false HO_7.out (x24_1 : Int) p16 q16; replace p16 := eq_true p16; replace q16 := eq_true q16; have HP18 := Kd.R_putg HO_7.out (x24_1 : Int) true
                  go_wp2_with (first | ((with_reducible refine gate_store (t := 4) (p := 33) rfl ?_); refine store_event (t := 4) (p := 33) (v := ?vo_w19) (w1 := (wr.setCell ⟨go16, (x24_1 : Int).toNat, none⟩ (.bool true))) ?hg ?ho ?hn ?hr ?_; (case ho => rfl); (case hg => rfl); (case hn => rfl); (case hr => first | (go_simp; done) | (go_simp; rfl)); intro w19 hw; have hg : wr.grownBy w19 (some go16) := (by rw [hw]; exact HP18.2); have hp_ : Kd.R Kd.bool 4 w19 w.heap.size (fun _ => True) (.slice (some ⟨go16, 0, none⟩) x7_1.length co17) y168 := (by rw [hw, Ny168.out]; exact HP18.1); clear HP18; have n0_ := Aside0.mk (hp_); have n1_ := Aside0.mk (Kd.S_over' (v := (.slice (some ⟨go16, 0, none⟩) x7_1.length co17)) (zS HO_8) (Kd.R_typed HO_7.out) (by decide) hg); have n2_ := Aside0.mk ((by rw [hw]; exact below_set (HB.out) GB16.out : Below w.heap.size w w19)); clear HO_7; clear HO_8; clear HB; have HO_7 := n0_; have HO_8 := n1_; have HB := n2_; clear n0_ n1_ n2_; clear hg hw hp_) | ((with_reducible refine gate_dst (N := 35) rfl ?_); refine Kd.R_lit (Kd.int .i64) _ 3 ?hg (N := 35) ?hd (xs := ([x24_1] : List Int)) (inner := [.int .i64 x24_1]) (ok := fun _ => True) (okp := fun _ => True) ?hr ?hp (fun _ hk => hk) trivial (Below.refl _ _) (Nat.le_refl _) (by simp) ?_; (case hd => rfl); (case hg => rfl); (case hr => first | (go_simp; done) | (go_simp; rfl)); (case hp => exact (Reps.one (show Kd.M (Kd.int .i64) _ _ _ x24_1 [.int .i64 x24_1] from rfl) (Reps.none _ _))); intro v170 w20 ho21 hb hg_ hnew_; clear hg_ hnew_; (first | rw [← Ny169.out] at ho21 | (simp only [Int.reduceToNat] at ho21; rw [← Ny169.out] at ho21)); have n0_ := Aside0.mk (Kd.R_below (zR HO_7) hb); have n1_ := Aside0.mk (Kd.S_elder' (zS HO_8) (Kd.R_base ho21) hb); have n2_ := Aside0.mk (Kd.R_lower ho21 (below_size zz55)); have n3_ := Aside0.mk (below_step zz55 hb); clear HO_7; clear HO_8; clear HB; have HO_7 := n0_; have HO_8 := n1_; have HO171 := n2_; have HB := n3_; clear n0_ n1_ n2_ n3_; clear hb ho21))
                  go_loopg [10, 11] k1 (fun kq v10 v11 w' => ∃ (x7_2 : List Bool) (x10_2 : List Int) (x11_2 : Int), v11 = .int .i64 x11_2 ∧ Aside0 (perm_Orbits.l1 kq l1 x7_2 x8_1 x10_2 x11_2 a0 x24_1 = some (r1, r2)) ∧ Aside0 (kq ≤ k1) ∧ Aside0 (Kd.R Kd.bool 4 w' w.heap.size (fun _ => True) (.slice (some ⟨go16, 0, none⟩) x7_1.length co17) x7_2) ∧ Aside0 (Kd.S (Kd.slice 3 (Kd.int .i64)) 22 w' w.heap.size (fun k_ => some k_ ≠ (v10 : Value).ownBlock) u8 x8_1) ∧ Aside0 (Kd.R (Kd.int .i64) 3 w' w.heap.size (fun _ => True) v10 x10_2) ∧ Aside0 (Below w.heap.size w w'))
                  case atStart => exact ⟨(y168), (y169), (0), zz67, H', ⟨Nat.le_refl _⟩, ⟨by (with_reducible repeat (first | apply Kd.R_alloc | apply Kd.R_drewN | apply Kd.R_drew)); exact HO_7.out⟩, ⟨by (with_reducible repeat (first | apply Kd.S_alloc | apply Kd.S_drewN | apply Kd.S_drew)); exact Kd.S_mono HO_8.out (fun _ hk => hk.2)⟩, ⟨by (with_reducible repeat (first | apply Kd.R_alloc | apply Kd.R_drewN | apply Kd.R_drew)); exact HO171.out⟩, ⟨by repeat (first | (with_reducible first | exact HB.out | apply below_alloc | apply pw_below_drewN | apply below_drew1) | exact HB.out)⟩⟩
                  case round =>
                    clear H'; (try clear c1); (try clear p1); (try clear q1); (try clear hx1); (try clear c2); (try clear p2); (try clear c4); (try clear c4b0); (try clear c4b1); (try clear c5); (try clear c5b0); (try clear c5b1); (try clear c6); (try clear c6b0); (try clear c6b1); (try clear p6); (try clear c10); (try clear c10b0); (try clear c11); (try clear c11b0); (try clear c12); (try clear c12b0); (try clear q13); (try clear c14); (try clear p16); (try clear q16); (try clear hx16); (try clear hf16); (try clear hx167_0); (try clear hx16_0); (try clear p16); (try clear p167); (try clear p2); (try clear q16); (try clear q167); obtain ⟨x7_2, x10_2, x11_2, rfl, HA, HK2, HO_7, HO_8, HO_10, HB⟩ := hrel; have hl7_2 := (Kd.R_reads' HO_7.out).1; rw [hl7_2] at HO_7
                    (try simp only [hl7_2])
                    (try simp only [hl7_2] at HO_8)
                    (try simp only [hl7_2] at HO_10)
                    cases gk with
                    | zero => exact absurd HA.out (by simp [perm_Orbits.l1])
                    | succ k2 =>
                      have H := HA.out; clear HA; simp only [perm_Orbits.l1] at H
                      by_cases c22 : x11_2 < (x10_2.length : Int)
                      · rw [if_pos c22] at H; have c22b0 : decide (x11_2 < (x10_2.length : Int)) = true := decide_eq_true c22; clear c22; have H' := Aside0.mk H; clear H; obtain ⟨Ao23, co23, eo23⟩ := Kd.R_slice HO_10.out; subst eo23; go_wp2
                        go_loopg [10, 44] k2 (fun kq v10 v44 w' => ∃ (x7_3 : List Bool) (x10_3 : List Int) (x44_3 : Int), v44 = .int .i64 x44_3 ∧ Aside0 (perm_Orbits.l2 kq l1 x7_3 x8_1 x10_3 x11_2 a0 x24_1 l1 (l1.length : Int) x44_3 = some (r1, r2)) ∧ Aside0 (kq ≤ k2) ∧ Aside0 (Kd.R Kd.bool 4 w' w.heap.size (fun _ => True) (.slice (some ⟨go16, 0, none⟩) x7_2.length co17) x7_3) ∧ Aside0 (Kd.S (Kd.slice 3 (Kd.int .i64)) 22 w' w.heap.size (fun k_ => some k_ ≠ (v10 : Value).ownBlock) u8 x8_1) ∧ Aside0 (Kd.R (Kd.int .i64) 3 w' w.heap.size (fun _ => True) v10 x10_3) ∧ Aside0 (Below w.heap.size w w'))
                        case atStart => exact ⟨(x7_2), (x10_2), (0), zz67, H', ⟨Nat.le_refl _⟩, ⟨by (try simp only [hl7_2]); (with_reducible repeat (first | apply Kd.R_alloc | apply Kd.R_drewN | apply Kd.R_drew)); exact HO_7.out⟩, ⟨by (try simp only [hl7_2]); (with_reducible repeat (first | apply Kd.S_alloc | apply Kd.S_drewN | apply Kd.S_drew)); exact HO_8.out⟩, ⟨by (try simp only [hl7_2]); (with_reducible repeat (first | apply Kd.R_alloc | apply Kd.R_drewN | apply Kd.R_drew)); exact HO_10.out⟩, ⟨by repeat (first | (with_reducible first | exact HB.out | apply below_alloc | apply pw_below_drewN | apply below_drew1) | exact HB.out)⟩⟩
                        case round =>
                          clear H'; (try clear c1); (try clear p1); (try clear q1); (try clear hx1); (try clear c2); (try clear p2); (try clear c4); (try clear c4b0); (try clear c4b1); (try clear c5); (try clear c5b0); (try clear c5b1); (try clear c6); (try clear c6b0); (try clear c6b1); (try clear p6); (try clear c10); (try clear c10b0); (try clear c11); (try clear c11b0); (try clear c12); (try clear c12b0); (try clear q13); (try clear c14); (try clear p16); (try clear q16); (try clear hx16); (try clear hf16); (try clear c22); (try clear c22b0); (try clear hx167_0); (try clear hx16_0); (try clear p1); (try clear p16); (try clear p167); (try clear p2); (try clear p6); (try clear q1); (try clear q13); (try clear q16); (try clear q167); obtain ⟨x7_3, x10_3, x44_3, rfl, HA, HK3, HO_7, HO_8, HO_10, HB⟩ := hrel; have hl7_3 := (Kd.R_reads' HO_7.out).1; rw [hl7_3] at HO_7
                          (try simp only [hl7_3])
                          (try simp only [hl7_3] at HO_8)
                          (try simp only [hl7_3] at HO_10)
                          cases gk with
                          | zero => exact absurd HA.out (by simp [perm_Orbits.l2])
                          | succ k3 =>
                            have H := HA.out; clear HA; simp only [perm_Orbits.l2] at H
                            by_cases c24 : x44_3 < (l1.length : Int)
                            · rw [if_pos c24] at H; have c24b0 : decide (x44_3 < (l1.length : Int)) = true := decide_eq_true c24; clear c24
                              by_cases c25 : 0 ≤ x44_3
                              · rw [if_pos c25] at H; have c25b0 : decide (0 ≤ x44_3) = true := decide_eq_true c25; clear c25
                                by_cases c26 : x44_3 < (l1.length : Int)
                                · rw [if_pos c26] at H; have c26b0 : decide (x44_3 < (l1.length : Int)) = true := decide_eq_true c26; clear c26
                                  by_cases c27 : 0 ≤ x11_2
                                  · rw [if_pos c27] at H; have c27b0 : decide (0 ≤ x11_2) = true := decide_eq_true c27; clear c27
                                    by_cases c28 : x11_2 < (x10_3.length : Int)
                                    · rw [if_pos c28] at H; have c28b0 : decide (x11_2 < (x10_3.length : Int)) = true := decide_eq_true c28; clear c28
                                      by_cases c29 : 0 ≤ (rd x10_3 x11_2)
                                      · rw [if_pos c29] at H; have c29b0 : decide (0 ≤ (rd x10_3 x11_2)) = true := decide_eq_true c29; clear c29
                                        by_cases c30 : (rd x10_3 x11_2) < ((rd_L1 l1 x44_3).length : Int)
                                        · rw [if_pos c30] at H; have c30b0 : decide ((rd x10_3 x11_2) < ((rd_L1 l1 x44_3).length : Int)) = true := decide_eq_true c30; clear c30
                                          by_cases c31 : 0 ≤ (rd (rd_L1 l1 x44_3) (rd x10_3 x11_2))
                                          · rw [if_pos c31] at H; have c31b0 : decide (0 ≤ (rd (rd_L1 l1 x44_3) (rd x10_3 x11_2))) = true := decide_eq_true c31; clear c31
                                            by_cases c32 : (rd (rd_L1 l1 x44_3) (rd x10_3 x11_2)) < (x7_3.length : Int)
                                            · rw [if_pos c32] at H; have c32b0 : decide ((rd (rd_L1 l1 x44_3) (rd x10_3 x11_2)) < (x7_3.length : Int)) = true := decide_eq_true c32; clear c32; obtain ⟨bq33, hbq33⟩ : ∃ b_ : Bool, b_ = (rdOf false x7_3 (rd (rd_L1 l1 x44_3) (rd x10_3 x11_2))) := ⟨_, rfl⟩; replace H : (if (bq33 = true) then (perm_Orbits.l2 k3 l1 x7_3 x8_1 x10_3 x11_2 a0 x24_1 l1 (l1.length : Int) (wrap64 (x44_3 + 1))) else (if x10_3.length < 17592186044416 then (perm_Orbits.l2 k3 l1 (x7_3.set ((rd (rd_L1 l1 x44_3) (rd x10_3 x11_2)) : Int).toNat true) x8_1 (x10_3 ++ [rd (rd_L1 l1 x44_3) (rd x10_3 x11_2)]) x11_2 a0 x24_1 l1 (l1.length : Int) (wrap64 (x44_3 + 1))) else (none))) = some (r1, r2) := by rw [← hbq33] at H; exact H
                                              have Nbq33 := Aside0.mk hbq33; clear hbq33
                                              by_cases c34 : (bq33 = true)
                                              · subst c34; have H1 : (perm_Orbits.l2 k3 l1 x7_3 x8_1 x10_3 x11_2 a0 x24_1 l1 (l1.length : Int) (wrap64 (x44_3 + 1))) = some (r1, r2) := by rw [if_pos rfl] at H; exact H
                                                clear H; have H := H1; clear H1; have H' := Aside0.mk H; clear H; have p176 : 0 ≤ (x44_3 : Int) := of_decide_eq_true zz65; have q176 : x44_3 < (l1.length : Int) := of_decide_eq_true zz65; obtain ⟨ad176, A176_0, c176_0, e176, hx176_0, hl176_0, hi176_0⟩ := at_L1 HR1.out x44_3 p176 q176
                                                cases e176; replace hx176_0 := (HB.out.cell (World.block_lt_of_cell? w _ hx176_0)).trans hx176_0; have HR176_0 := Aside0.mk hi176_0; have HC176_0 := Aside0.mk hl176_0; clear hi176_0 hl176_0; replace p176 := eq_true p176; replace q176 := eq_true q176; obtain ⟨Ao35, co35, eo35⟩ := Kd.R_slice HO_10.out; subst eo35; have p177 : 0 ≤ (x11_2 : Int) := of_decide_eq_true zz65; have q177 : x11_2 < (x10_3.length : Int) := of_decide_eq_true zz65; obtain ⟨ad177, e177, hx177_0⟩ := Kd.at_int (Kd.R_reads' HO_10.out).2.2 x11_2 p177 q177
                                                cases e177; replace p177 := eq_true p177; replace q177 := eq_true q177; have p178 : 0 ≤ ((rd x10_3 x11_2) : Int) := of_decide_eq_true zz65; have q178 : (rd x10_3 x11_2) < ((rd_L1 l1 x44_3).length : Int) := of_decide_eq_true zz65; obtain ⟨ad178, e178, hx178_0⟩ := Kd.at_int HR176_0.out (rd x10_3 x11_2) p178 q178
                                                cases e178; replace hx178_0 := (HB.out.cell (World.block_lt_of_cell? w _ hx178_0)).trans hx178_0; replace p178 := eq_true p178; replace q178 := eq_true q178; have p179 : 0 ≤ ((rd (rd_L1 l1 x44_3) (rd x10_3 x11_2)) : Int) := of_decide_eq_true zz65; have q179 : (rd (rd_L1 l1 x44_3) (rd x10_3 x11_2)) < (x7_3.length : Int) := of_decide_eq_true zz65; obtain ⟨ad179, e179, hx179_0⟩ := Kd.at_bool (Kd.R_reads' HO_7.out).2.2 (rd (rd_L1 l1 x44_3) (rd x10_3 x11_2)) p179 q179
                                                (try rw [← Nbq13.out] at hx179_0)
                                                (try rw [← Nbq33.out] at hx179_0)
                                                obtain rfl : (⟨go16, 0, none⟩ : Addr) = ad179 := (by injection e179)
                                                (first | simp only [add_plain] at hx179_0 | simp only [add_at] at hx179_0 | simp only [Addr.add, Nat.zero_add] at hx179_0 | skip)
                                                replace p179 := eq_true p179; replace q179 := eq_true q179; go_wp2
                                                (try simp only [← hl7_3])
                                                go_roundg k3
                                                case measure => have := HK1.out; have := HK2.out; have := HK3.out; omega
                                                case rel => exact ⟨(x7_3), (x10_3), (wrap64 (x44_3 + 1)), zz67, H', ⟨by have := HK1.out; have := HK2.out; have := HK3.out; omega⟩, ⟨by (try simp only [hl7_2]); (try simp only [hl7_3]); (with_reducible repeat (first | apply Kd.R_alloc | apply Kd.R_drewN | apply Kd.R_drew)); exact HO_7.out⟩, ⟨by (try simp only [hl7_2]); (try simp only [hl7_3]); (with_reducible repeat (first | apply Kd.S_alloc | apply Kd.S_drewN | apply Kd.S_drew)); exact HO_8.out⟩, ⟨by (try simp only [hl7_2]); (try simp only [hl7_3]); (with_reducible repeat (first | apply Kd.R_alloc | apply Kd.R_drewN | apply Kd.R_drew)); exact HO_10.out⟩, ⟨by repeat (first | (with_reducible first | exact HB.out | apply below_alloc | apply pw_below_drewN | apply below_drew1) | exact HB.out)⟩⟩
                                              replace c34 := Bool.eq_false_iff.mpr c34; subst c34; have H1 : (if x10_3.length < 17592186044416 then (perm_Orbits.l2 k3 l1 (x7_3.set ((rd (rd_L1 l1 x44_3) (rd x10_3 x11_2)) : Int).toNat true) x8_1 (x10_3 ++ [rd (rd_L1 l1 x44_3) (rd x10_3 x11_2)]) x11_2 a0 x24_1 l1 (l1.length : Int) (wrap64 (x44_3 + 1))) else (none)) = some (r1, r2) := by rw [if_neg (show ¬ (false = true) by decide)] at H; exact H
                                              clear H; have H := H1; clear H1; obtain ⟨y180, hy180⟩ : ∃ y_ : List Bool, y_ = (x7_3.set ((rd (rd_L1 l1 x44_3) (rd x10_3 x11_2)) : Int).toNat true) := ⟨_, rfl⟩; replace H : (if x10_3.length < 17592186044416 then (perm_Orbits.l2 k3 l1 y180 x8_1 (x10_3 ++ [rd (rd_L1 l1 x44_3) (rd x10_3 x11_2)]) x11_2 a0 x24_1 l1 (l1.length : Int) (wrap64 (x44_3 + 1))) else (none)) = some (r1, r2) := by first | (rw [hy180]; with_reducible exact H) | (have H2_ := (Option.bind_some _ _).symm.trans H; rw [hy180]; with_reducible exact H2_) | (have H2_ := (Option.bind_some _ _).symm.trans H; with_reducible exact H2_) | with_reducible exact H | (rw [hy180]; exact H) | exact H
                                              have Ny180 := Aside0.mk hy180; clear hy180
                                              by_cases c37 : x10_3.length < 17592186044416
                                              · rw [if_pos c37] at H; have LMc37 := Aside0.mk c37; clear c37; obtain ⟨y181, hy181⟩ : ∃ y_ : List Int, y_ = (x10_3 ++ [rd (rd_L1 l1 x44_3) (rd x10_3 x11_2)]) := ⟨_, rfl⟩; replace H : (perm_Orbits.l2 k3 l1 y180 x8_1 y181 x11_2 a0 x24_1 l1 (l1.length : Int) (wrap64 (x44_3 + 1))) = some (r1, r2) := by first | (rw [hy181]; with_reducible exact H) | (have H2_ := (Option.bind_some _ _).symm.trans H; rw [hy181]; with_reducible exact H2_) | (have H2_ := (Option.bind_some _ _).symm.trans H; with_reducible exact H2_) | with_reducible exact H | (rw [hy181]; exact H) | exact H
                                                have Ny181 := Aside0.mk hy181; clear hy181; have H' := Aside0.mk H; clear H; have p176 : 0 ≤ (x44_3 : Int) := of_decide_eq_true zz65; have q176 : x44_3 < (l1.length : Int) := of_decide_eq_true zz65; obtain ⟨ad176, A176_0, c176_0, e176, hx176_0, hl176_0, hi176_0⟩ := at_L1 HR1.out x44_3 p176 q176
                                                cases e176; replace hx176_0 := (HB.out.cell (World.block_lt_of_cell? w _ hx176_0)).trans hx176_0; have HR176_0 := Aside0.mk hi176_0; have HC176_0 := Aside0.mk hl176_0; clear hi176_0 hl176_0; replace p176 := eq_true p176; replace q176 := eq_true q176; obtain ⟨Ao38, co38, eo38⟩ := Kd.R_slice HO_10.out; subst eo38; have p177 : 0 ≤ (x11_2 : Int) := of_decide_eq_true zz65; have q177 : x11_2 < (x10_3.length : Int) := of_decide_eq_true zz65; obtain ⟨ad177, e177, hx177_0⟩ := Kd.at_int (Kd.R_reads' HO_10.out).2.2 x11_2 p177 q177
                                                cases e177; replace p177 := eq_true p177; replace q177 := eq_true q177; have p178 : 0 ≤ ((rd x10_3 x11_2) : Int) := of_decide_eq_true zz65; have q178 : (rd x10_3 x11_2) < ((rd_L1 l1 x44_3).length : Int) := of_decide_eq_true zz65; obtain ⟨ad178, e178, hx178_0⟩ := Kd.at_int HR176_0.out (rd x10_3 x11_2) p178 q178
                                                cases e178; replace hx178_0 := (HB.out.cell (World.block_lt_of_cell? w _ hx178_0)).trans hx178_0; replace p178 := eq_true p178; replace q178 := eq_true q178; have p179 : 0 ≤ ((rd (rd_L1 l1 x44_3) (rd x10_3 x11_2)) : Int) := of_decide_eq_true zz65; have q179 : (rd (rd_L1 l1 x44_3) (rd x10_3 x11_2)) < (x7_3.length : Int) := of_decide_eq_true zz65; obtain ⟨ad179, e179, hx179_0⟩ := Kd.at_bool (Kd.R_reads' HO_7.out).2.2 (rd (rd_L1 l1 x44_3) (rd x10_3 x11_2)) p179 q179
                                                (try rw [← Nbq13.out] at hx179_0)
                                                (try rw [← Nbq33.out] at hx179_0)
                                                obtain rfl : (⟨go16, 0, none⟩ : Addr) = ad179 := (by injection e179)
                                                (first | simp only [add_plain] at hx179_0 | simp only [add_at] at hx179_0 | simp only [Addr.add, Nat.zero_add] at hx179_0 | skip)
                                                replace p179 := eq_true p179; replace q179 := eq_true q179; have p36 : 0 ≤ ((rd (rd_L1 l1 x44_3) (rd x10_3 x11_2)) : Int) := of_decide_eq_true zz65; have q36 : ((rd (rd_L1 l1 x44_3) (rd x10_3 x11_2)) : Int) < ((x7_3.length : Int) : Int) := of_decide_eq_true zz65; obtain ⟨hx36_0, hf36_0⟩ := Kd.R_celln false HO_7.out ((rd (rd_L1 l1 x44_3) (rd x10_3 x11_2)) : Int) p36 q36; replace p36 := eq_true p36; replace q36 := eq_true q36; have HP39 := Kd.R_putg HO_7.out ((rd (rd_L1 l1 x44_3) (rd x10_3 x11_2)) : Int) true
                                                go_wp2_with (first | ((with_reducible refine gate_store (t := 4) (p := 62) rfl ?_); refine store_event (t := 4) (p := 62) (v := ?vo_w40) (w1 := (wr.setCell ⟨go16, ((rd (rd_L1 l1 x44_3) (rd x10_3 x11_2)) : Int).toNat, none⟩ (.bool true))) ?hg ?ho ?hn ?hr ?_; (case ho => rfl); (case hg => rfl); (case hn => rfl); (case hr => first | (go_simp; done) | (go_simp; rfl)); intro w40 hw; have hg : wr.grownBy w40 (some go16) := (by rw [hw]; exact HP39.2); have hp_ : Kd.R Kd.bool 4 w40 w.heap.size (fun _ => True) (.slice (some ⟨go16, 0, none⟩) x7_3.length co17) y180 := (by rw [hw, Ny180.out]; exact HP39.1); clear HP39; have n0_ := Aside0.mk (hp_); have n1_ := Aside0.mk (Kd.S_over' (v := (.slice (some ⟨go16, 0, none⟩) x7_3.length co17)) (zS HO_8) (Kd.R_typed HO_7.out) (by decide) hg); have n2_ := Aside0.mk (Kd.R_over' (v := (.slice (some ⟨go16, 0, none⟩) x7_3.length co17)) (zR HO_10) (Kd.R_typed HO_7.out) (by decide) hg); have n3_ := Aside0.mk ((by rw [hw]; exact below_set (HB.out) GB16.out : Below w.heap.size w w40)); clear HO_7; clear HO_8; clear HO_10; clear HB; have HO_7 := n0_; have HO_8 := n1_; have HO_10 := n2_; have HB := n3_; clear n0_ n1_ n2_ n3_; clear hg hw hp_) | ((with_reducible refine gate_builtin (b := .append) (xs := #[.tmp 63, .tmp 65]) rfl ?_); at_builtin; refine Kd.R_append (Kd.int .i64) (w0 := w) w.heap.size rfl (.tmp 63) (.tmp 65) 22 3 (.int .i64 0) 8 rfl Try.underlying22 info3 rfl (by decide) (by omega) (.slice (some ad177) x10_3.length co38) x10_3 (rd (rd_L1 l1 x44_3) (rd x10_3 x11_2)) [.int .i64 (rd (rd_L1 l1 x44_3) (rd x10_3 x11_2))] (fun _ => True) (fun _ => False) rfl rfl ?aP (fun _ hk => hk.elim) ?aF ?aO ?aB ?aS ?aL ?_; (case aP => exact rfl); (case aB => exact zz55); (case aF => exact (fun _ _ => trivial)); (case aO => exact (zR HO_10)); (case aS => exact (below_size zz55)); (case aL => have := LMc37.out; omega); intro v182 w41 ho hb hg hat; rw [← Ny181.out] at ho; have n0_ := Aside0.mk (Kd.R_over' (zR HO_7) (Kd.R_typed (zR HO_10)) (by decide) hg); have n1_ := Aside0.mk (Kd.S_after (ok := (fun _ => True)) (by (with_reducible repeat (first | apply Kd.S_alloc | apply Kd.S_drewN | apply Kd.S_drew)); exact Kd.S_mono HO_8.out (fun _ hk => ⟨trivial, hk⟩)) hg hat); have n2_ := Aside0.mk (hb); have n3_ := Aside0.mk (ho); clear HO_7; clear HO_8; clear HB; clear HO_10; have HO_7 := n0_; have HO_8 := n1_; have HB := n2_; have HO183 := n3_; clear n0_ n1_ n2_ n3_; clear ho hb hg hat))
                                                (try simp only [← hl7_3])
                                                go_roundg k3
                                                case measure => have := HK1.out; have := HK2.out; have := HK3.out; omega
                                                case rel => exact ⟨(y180), (y181), (wrap64 (x44_3 + 1)), zz67, H', ⟨by have := HK1.out; have := HK2.out; have := HK3.out; omega⟩, ⟨by (try simp only [hl7_2]); (try simp only [hl7_3]); (with_reducible repeat (first | apply Kd.R_alloc | apply Kd.R_drewN | apply Kd.R_drew)); exact HO_7.out⟩, ⟨by (try simp only [hl7_2]); (try simp only [hl7_3]); (with_reducible repeat (first | apply Kd.S_alloc | apply Kd.S_drewN | apply Kd.S_drew)); exact Kd.S_mono HO_8.out (fun _ hk => hk.2)⟩, ⟨by (try simp only [hl7_2]); (try simp only [hl7_3]); (with_reducible repeat (first | apply Kd.R_alloc | apply Kd.R_drewN | apply Kd.R_drew)); exact HO183.out⟩, ⟨by repeat (first | (with_reducible first | exact HB.out | apply below_alloc | apply pw_below_drewN | apply below_drew1) | exact HB.out)⟩⟩
                                              rw [if_neg c37] at H
                                              exact absurd H (by simp)
                                            rw [if_neg c32] at H
                                            exact absurd H (by simp)
                                          rw [if_neg c31] at H
                                          exact absurd H (by simp)
                                        rw [if_neg c30] at H
                                        exact absurd H (by simp)
                                      rw [if_neg c29] at H
                                      exact absurd H (by simp)
                                    rw [if_neg c28] at H
                                    exact absurd H (by simp)
                                  rw [if_neg c27] at H
                                  exact absurd H (by simp)
                                rw [if_neg c26] at H
                                exact absurd H (by simp)
                              rw [if_neg c25] at H
                              exact absurd H (by simp)
                            rw [if_neg c24] at H; have c24b0 : decide (x44_3 < (l1.length : Int)) = false := decide_eq_false c24; clear c24; have H' := Aside0.mk H; clear H; go_wp2
                            (try simp only [← hl7_2, ← hl7_3])
                            go_roundg k3
                            case measure => have := HK1.out; have := HK2.out; have := HK3.out; omega
                            case rel => exact ⟨(x7_3), (x10_3), (wrap64 (x11_2 + 1)), zz67, H', ⟨by have := HK1.out; have := HK2.out; have := HK3.out; omega⟩, ⟨by (try simp only [hl7_2]); (try simp only [hl7_3]); (with_reducible repeat (first | apply Kd.R_alloc | apply Kd.R_drewN | apply Kd.R_drew)); exact HO_7.out⟩, ⟨by (try simp only [hl7_2]); (try simp only [hl7_3]); (with_reducible repeat (first | apply Kd.S_alloc | apply Kd.S_drewN | apply Kd.S_drew)); exact HO_8.out⟩, ⟨by (try simp only [hl7_2]); (try simp only [hl7_3]); (with_reducible repeat (first | apply Kd.R_alloc | apply Kd.R_drewN | apply Kd.R_drew)); exact HO_10.out⟩, ⟨by repeat (first | (with_reducible first | exact HB.out | apply below_alloc | apply pw_below_drewN | apply below_drew1) | exact HB.out)⟩⟩
                      rw [if_neg c22] at H; have c22b0 : decide (x11_2 < (x10_2.length : Int)) = false := decide_eq_false c22; clear c22; replace H := Option.bind_eq_some_iff.mp H; obtain ⟨t172, A420, H⟩ := H; replace H : (if x8_1.length < 5864062014805 then (perm_Orbits.l0 k2 l1 x7_2 (x8_1 ++ [t172]) a0 (wrap64 (x24_1 + 1))) else (none)) = some (r1, r2) := H; have A42 := Aside0.mk A420; clear A420
                      by_cases c43 : x8_1.length < 5864062014805
                      · rw [if_pos c43] at H; have LMc43 := Aside0.mk c43; clear c43; obtain ⟨y173, hy173⟩ : ∃ y_ : List (List Int), y_ = (x8_1 ++ [t172]) := ⟨_, rfl⟩; replace H : (perm_Orbits.l0 k2 l1 x7_2 y173 a0 (wrap64 (x24_1 + 1))) = some (r1, r2) := by first | (rw [hy173]; with_reducible exact H) | (have H2_ := (Option.bind_some _ _).symm.trans H; rw [hy173]; with_reducible exact H2_) | (have H2_ := (Option.bind_some _ _).symm.trans H; with_reducible exact H2_) | with_reducible exact H | (rw [hy173]; exact H) | exact H
                        have Ny173 := Aside0.mk hy173; clear hy173; have H' := Aside0.mk H; clear H; obtain ⟨Ao44, co44, eo44⟩ := Kd.R_slice HO_10.out; subst eo44
                        go_wp2_with (first | ((with_reducible refine gate_callee (f := 58) rfl ?_); refine goesL_ (some 69) rfl rfl Try.func58 (by kernel_rfl) rfl #[.slice Ao44 x10_2.length co44] rfl zz54 ?_; (with_reducible refine (slices_Sort_int_int.calls (fun k_ => some k_ = (.slice Ao44 x10_2.length co44 : Value).ownBlock) (.slice Ao44 x10_2.length co44) x10_2 t172 w _ ?side1 ?side2 A42.out).mono ?_); (case side1 => repeat (first | (with_reducible first | exact HB.out | apply below_alloc | apply pw_below_drewN | apply below_drew1) | exact HB.out)); (case side2 => exact Kd.R_tight rfl HO_10.out); rintro e w45 ⟨rfl, hy0, hb, hkp⟩; refine ⟨_, rfl, ?_⟩; have n0_ := Aside0.mk (Kd.R_mono (ok' := fun k_ => True) (Kd.R_keptB ((Kd.R_apart' HO_7.out (Kd.R_typed HO_10.out) (by decide))) hkp (fun k_ hk_ hs_ => (hk_.2) hs_)) (fun k_ hk_ => trivial)); have n1_ := Aside0.mk (Kd.S_mono (ok' := fun k_ => some k_ ≠ (.slice Ao44 x10_2.length co44 : Value).ownBlock) (Kd.S_keptB (HO_8.out) hkp (fun k_ hk_ hs_ => (hk_) hs_)) (fun k_ hk_ => hk_.1)); have n2_ := Aside0.mk (Kd.R_reok rfl hy0 (fun k_ e_ => HO_10.out.1 k_ e_)); have n3_ := Aside0.mk (hb); clear HO_7; clear HO_8; clear HO_10; clear HB; have HO_7 := n0_; have HO_8 := n1_; have HO_10 := n2_; have HB := n3_; clear n0_ n1_ n2_ n3_; (try clear hb); (try clear hkp); (try clear hy0)) | ((with_reducible refine gate_builtin (b := .append) (xs := #[.tmp 70, .tmp 72]) rfl ?_); at_builtin; refine Kd.S_append (Kd.slice 3 (Kd.int .i64)) (w0 := w) w.heap.size rfl (.tmp 70) (.tmp 72) 28 22 (.slice none 0 0) 24 rfl Try.underlying28 info22 rfl (by decide) (by omega) u8 x8_1 t172 [.slice Ao44 x10_2.length co44] (fun _ => True) (fun k_ => some k_ = (.slice Ao44 x10_2.length co44 : Value).ownBlock) rfl rfl ?aP (fun k_ hk_ => ((Kd.R_mono (ok' := fun k_ => ((fun _ => True)) k_ ∧ some k_ ≠ (u8 : Value).ownBlock) (Kd.R_apart' (HO_10.out) (Kd.S_typed HO_8.out) (by decide)) (fun k_ hk => ⟨trivial, hk.2⟩))).1 k_ hk_.symm) ?aF ?aO ?aB ?aS ?aL ?_; (case aP => exact Kd.M_row (Kd.R_mono (Kd.R_tight rfl (Kd.R_mono (ok' := fun k_ => ((fun _ => True)) k_ ∧ some k_ ≠ (u8 : Value).ownBlock) (Kd.R_apart' (HO_10.out) (Kd.S_typed HO_8.out) (by decide)) (fun k_ hk => ⟨trivial, hk.2⟩))) (fun _ h_ => h_))); (case aB => exact zz55); (case aF => exact (fun _ _ => trivial)); (case aO => exact (by (with_reducible repeat (first | apply Kd.S_alloc | apply Kd.S_drewN | apply Kd.S_drew)); exact Kd.S_mono HO_8.out (fun k_ hk => ⟨trivial, fun e_ => hk e_⟩))); (case aS => exact (below_size zz55)); (case aL => have := LMc43.out; omega); intro v174 w46 ho hb hg hat; rw [← Ny173.out] at ho; have n0_ := Aside0.mk (Kd.R_over' (zR HO_7) (Kd.S_typed (zS HO_8)) (by decide) hg); have n1_ := Aside0.mk (hb); have n2_ := Aside0.mk (ho); clear HO_7; clear HB; clear HO_8; clear HO_10; have HO_7 := n0_; have HB := n1_; have HO175 := n2_; clear n0_ n1_ n2_; clear ho hb hg hat))
                        (try simp only [← hl7_2])
                        go_roundg k2
                        case measure => have := HK1.out; have := HK2.out; omega
                        case rel => exact ⟨(x7_2), (y173), (wrap64 (x24_1 + 1)), zz67, H', ⟨by have := HK1.out; have := HK2.out; omega⟩, ⟨by (try simp only [hl7_2]); (with_reducible repeat (first | apply Kd.R_alloc | apply Kd.R_drewN | apply Kd.R_drew)); exact HO_7.out⟩, ⟨by (try simp only [hl7_2]); (with_reducible repeat (first | apply Kd.S_alloc | apply Kd.S_drewN | apply Kd.S_drew)); exact HO175.out⟩, ⟨by repeat (first | (with_reducible first | exact HB.out | apply below_alloc | apply pw_below_drewN | apply below_drew1) | exact HB.out)⟩⟩
                      rw [if_neg c43] at H
                      exact absurd H (by simp)
                rw [if_neg c12] at H
                exact absurd H (by simp)
              rw [if_neg c11] at H
              exact absurd H (by simp)
            rw [if_neg c10] at H; have c10b0 : decide (x24_1 < a0) = false := decide_eq_false c10; clear c10; simp only [Option.some.injEq, Prod.mk.injEq] at H; obtain ⟨rfl, rfl⟩ := H; go_wp2
            go_ret2
            exact ⟨_, by first | rfl | (simp [errW_none, errW_some] <;> rfl) | (simp [*, errW_none, errW_some] <;> rfl), by (with_reducible repeat (first | apply Kd.S_alloc | apply Kd.S_drewN | apply Kd.S_drew)); exact HO_8.out, by repeat (first | (with_reducible first | exact HB.out | apply below_alloc | apply pw_below_drewN | apply below_drew1) | exact HB.out)⟩
      rw [if_neg c6] at H
      exact absurd H (by simp)
    rw [if_neg c5] at H
    exact absurd H (by simp)
  rw [if_neg c4] at H
  have c4b0 : (t163 == 0) = false := beq_eq_false_iff_ne.mpr c4
  have c4b1 : (t163 != 0) = true := bne_iff_ne.mpr c4
  simp only [Option.some.injEq, Prod.mk.injEq] at H
  obtain ⟨rfl, rfl⟩ := H
  go_enter Try.func28, Try.ntmps28
  go_wp2_with (first | ((with_reducible refine gate_callee (f := 57) rfl ?_); refine goesL_ (some 17) rfl rfl Try.func57 (by kernel_rfl) rfl #[.int .i64 a0, .slice A1 l1.length c1] rfl zz54 ?_; (with_reducible refine (perm_generators.calls a0 _ _ l1 t163 _ ?side1 ?side2 A3.out).mono ?_); (case side1 => repeat (first | exact HR1.out | (with_reducible refine Kd.C_alloc ?_ _) | (with_reducible refine Kd.C_drewN ?_ _) | (with_reducible refine Kd.C_drew ?_))); (case side2 => exact HC1.out); rintro e w47 ⟨rfl, hb⟩; refine ⟨_, rfl, ?_⟩; have n0_ := Aside0.mk (below_step zz55 hb); clear HB; have HB := n0_; clear n0_; (try clear hb); (try clear hb2); (try clear hk); (try clear hi)))
  go_ret2
  exact ⟨_, by first | rfl | (simp [errW_none, errW_some] <;> rfl) | (simp [*, errW_none, errW_some] <;> rfl), by first | exact Kd.S_nil _ _ _ _ _ | exact Kd.N_nil _ _ _ _ _ | exact Kd.V_nil _ _ _ _ _ | exact Kd.Q_nil _ _ _ _ _ | exact Kd.R_nil _ _ _ _ _, by repeat (first | (with_reducible first | exact HB.out | apply below_alloc | apply pw_below_drewN | apply below_drew1) | exact HB.out)⟩
end
section
attribute [local go_sem] max2_int min2_int max_two min_two max_three min_three max_four min_four
mutual
def codewrightref30_Same.j0 : Nat → Bool → Int → List (S74) → Int → List (S74) → Option (Bool)
  | 0, _, _, _, _, _ => none
  | k + 1, x21, x213000, x213001, x214000, x214001 => if x21 = true then (some false) else (codewrightref30_Same.l0 k 0 x213000 x213001 x214000 x214001)
def codewrightref30_Same.l0 : Nat → Int → Int → List (S74) → Int → List (S74) → Option (Bool)
  | 0, _, _, _, _, _ => none
  | k + 1, x5, x213000, x213001, x214000, x214001 => if x5 < (x213001.length : Int) then (if 0 ≤ x5 then (if x5 < (x214001.length : Int) then (if ((rd_T74 x213001 x5).f0) = ((rd_T74 x214001 x5).f0) then ((codewrightref09_SameInts.f k ((rd_T74 x213001 x5).f1) ((rd_T74 x214001 x5).f1)).bind fun t218 => (if t218 = true then ((codewrightref09_SameRows.f k ((rd_T74 x213001 x5).f2) ((rd_T74 x214001 x5).f2)).bind fun t219 => (codewrightref30_Same.j2 k x5 (!t219) x213000 x213001 x214000 x214001)) else (codewrightref30_Same.j2 k x5 true x213000 x213001 x214000 x214001))) else (codewrightref30_Same.j2 k x5 true x213000 x213001 x214000 x214001)) else (none)) else (none)) else (some true)
def codewrightref30_Same.j2 : Nat → Int → Bool → Int → List (S74) → Int → List (S74) → Option (Bool)
  | 0, _, _, _, _, _, _ => none
  | k + 1, x5, x59, x213000, x213001, x214000, x214001 => if x59 = true then (some false) else (codewrightref30_Same.l0 k (wrap64 (x5 + 1)) x213000 x213001 x214000 x214001)
end
def codewrightref30_Same.f (k : Nat) (a0_0 : Int) (l0_1 : List (S74)) (a1_0 : Int) (l1_1 : List (S74)) : Option (Bool) := if a0_0 = a1_0 then (codewrightref30_Same.j0 k ((l0_1.length : Int) != (l1_1.length : Int)) a0_0 l0_1 a1_0 l1_1) else (codewrightref30_Same.j0 k true a0_0 l0_1 a1_0 l1_1)
def codewrightref30_Same.T6 : Bool × List (List Nat × List Nat) := (true, [([], []), ([0], [0]), ([], []), ([1, 2], [1, 2]), ([3], [3]), ([], []), ([5], [5]), ([], []), ([6, 7], [6, 7]), ([8], [8]), ([], []), ([], []), ([10, 4, 0, 1, 2, 3, 4, 10, 11], [4, 10]), ([11, 9, 12, 0, 1, 2, 3, 4, 5, 6, 7, 8, 9, 10, 11, 12], [9, 11])])
def codewrightref30_Same.B6 : List Nat := [0, 1, 0, 7, 15, 0, 32, 0, 224, 480, 0, 0, 3103, 8191]
theorem codewrightref30_Same.tab6 : rtab .any (opsOf Try.f32 6) = codewrightref30_Same.T6 := by kernel_rfl
theorem codewrightref30_Same.bits6 : waitsOk codewrightref30_Same.T6.2 codewrightref30_Same.B6 = true := by kernel_rfl
theorem codewrightref30_Same.calls (k : Nat) (a0_0 : Int) (A0_1 : Option Addr) (c0_1 : Nat) (l0_1 : List (S74)) (a1_0 : Int) (A1_1 : Option Addr) (c1_1 : Nat) (l1_1 : List (S74)) (r : Bool) (w : World) (hr0_1 : Kd.C k74 w A0_1 l0_1.length l0_1) (hc0_1 : l0_1.length ≤ c0_1) (hr1_1 : Kd.C k74 w A1_1 l1_1.length l1_1) (hc1_1 : l1_1.length ≤ c1_1) (h : codewrightref30_Same.f k a0_0 l0_1 a1_0 l1_1 = some r) :
    Calls Try.prog 32 #[.agg #[.int .i64 a0_0, .slice A0_1 l0_1.length c0_1], .agg #[.int .i64 a1_0, .slice A1_1 l1_1.length c1_1]] w fun e w' => e = .returned (.bool r) ∧ Below w.heap.size w w' := by
  have hu46 := Try.underlying46
  have hu74 := Try.underlying74
  have HR0_1 := Aside0.mk hr0_1
  have HC0_1 := Aside0.mk hc0_1
  clear hr0_1 hc0_1
  have HR1_1 := Aside0.mk hr1_1
  have HC1_1 := Aside0.mk hc1_1
  clear hr1_1 hc1_1
  have HB := Aside0.mk (Below.refl w.heap.size w)
  have H : (if a0_0 = a1_0 then (codewrightref30_Same.j0 k ((l0_1.length : Int) != (l1_1.length : Int)) a0_0 l0_1 a1_0 l1_1) else (codewrightref30_Same.j0 k true a0_0 l0_1 a1_0 l1_1)) = some r := h
  clear h
  have HC3 := Aside0.mk H
  clear H
  go_enter Try.func32, Try.ntmps32
  go_upto_region 1 with (first | ((with_reducible refine gate_dst (N := 2) rfl ?_); (try (refine gate_guard (by rfl) ?_; dsimp only)); refine box_event ?hg (N := 2) ?hd (cs := #[.int .i64 a0_0, .slice A0_1 l0_1.length c0_1]) (t := 46) ?hr ?_; (case hd => rfl); (case hg => rfl); (case hr => first | (go_simp; done) | (go_simp; rfl)); intro gb212 hg w4 hbox hb; have n0_ := Aside0.mk (below_step zz55 hb); have n1_ := Aside0.mk (hbox); have n2_ := Aside0.mk ((by rw [hg]; exact (below_size zz55) : w.heap.size ≤ gb212)); have n3_ := Aside0.mk ((by rw [hg]; exact (below_size zz55) : w.heap.size ≤ gb212)); clear HB; have HB := n0_; have BK212 := n1_; have GW212 := n2_; have GE212 := n3_; clear n0_ n1_ n2_ n3_; clear hb hbox hg) | ((with_reducible refine gate_dst (N := 3) rfl ?_); (try (refine gate_guard (by rfl) ?_; dsimp only)); refine box_event ?hg (N := 3) ?hd (cs := #[.int .i64 a1_0, .slice A1_1 l1_1.length c1_1]) (t := 46) ?hr ?_; (case hd => rfl); (case hg => rfl); (case hr => first | (go_simp; done) | (go_simp; rfl)); intro gb213 hg w5 hbox hb; have n0_ := Aside0.mk (blk_below (g := gb212) (o := .cells #[.int .i64 a0_0, .slice A0_1 l0_1.length c0_1] 46 (0, 0)) (zB BK212) hb); have n1_ := Aside0.mk (below_step zz44 hb); have n2_ := Aside0.mk (hbox); have n3_ := Aside0.mk ((by rw [hg]; exact (below_size zz44) : w.heap.size ≤ gb213)); have n4_ := Aside0.mk ((by rw [hg]; exact (below_size zz44) : w.heap.size ≤ gb213)); have n5_ := Aside0.mk ((by rw [hg]; exact Nat.ne_of_lt (blk_lt (g := gb212) (o := .cells #[.int .i64 a0_0, .slice A0_1 l0_1.length c0_1] 46 (0, 0)) (zB BK212)) : gb212 ≠ gb213)); have n6_ := Aside0.mk ((by rw [hg]; exact Nat.ne_of_gt (blk_lt (g := gb212) (o := .cells #[.int .i64 a0_0, .slice A0_1 l0_1.length c0_1] 46 (0, 0)) (zB BK212)) : gb213 ≠ gb212)); clear BK212; clear HB; have BK212 := n0_; have HB := n1_; have BK213 := n2_; have GW213 := n3_; have GE213 := n4_; have NB212_213 := n5_; have NB213_212 := n6_; clear n0_ n1_ n2_ n3_ n4_ n5_ n6_; clear hb hbox hg))
  (try simp only [Act.put, List.setIfInBounds_toArray, List.set_cons_zero, List.set_cons_succ])
  go_cut [21] (fun v21 wc => ∃ (kq : Nat) (x21_2 : Bool), v21 = .bool x21_2 ∧ Aside0 (codewrightref30_Same.j0 kq x21_2 a0_0 l0_1 a1_0 l1_1 = some r) ∧ Aside0 (kq ≤ k) ∧ Aside0 (wc.heap[gb212]? = some (.cells #[.int .i64 a0_0, (.slice A0_1 l0_1.length c0_1)] 46 (0, 0))) ∧ Aside0 (wc.heap[gb213]? = some (.cells #[.int .i64 a1_0, (.slice A1_1 l1_1.length c1_1)] 46 (0, 0))) ∧ Aside0 (Below w.heap.size w wc))
  case first =>
    have H := HC3.out; clear HC3
    by_cases c6 : a0_0 = a1_0
    · rw [if_pos c6] at H; have c6b0 : (a0_0 == a1_0) = true := beq_iff_eq.mpr c6; have c6b1 : (a0_0 != a1_0) = false := bne_eq_false_iff_eq.mpr c6; clear c6
      (first | rw [c6b0] | (simp only [i64_w, i32_w]; rw [c6b0]) | skip)
      have H' := Aside0.mk H; clear H; have hnb7 := NB212_213.out; have hnc7 := NB213_212.out; have hcz8_0 : w5.cell? ⟨gb212, 0, none⟩ = some (.int .i64 a0_0) := (blk_cell BK212.out 0).trans rfl; have hcz8_1 : w5.cell? ⟨gb212, 1, none⟩ = some (.slice A0_1 l0_1.length c0_1) := (blk_cell BK212.out 1).trans rfl; have hfz8_0 := blk_frozen BK212.out 0; have hfz8_1 := blk_frozen BK212.out 1; have hcz9_0 : w5.cell? ⟨gb213, 0, none⟩ = some (.int .i64 a1_0) := (blk_cell BK213.out 0).trans rfl; have hcz9_1 : w5.cell? ⟨gb213, 1, none⟩ = some (.slice A1_1 l1_1.length c1_1) := (blk_cell BK213.out 1).trans rfl; have hfz9_0 := blk_frozen BK213.out 0; have hfz9_1 := blk_frozen BK213.out 1; go_wp2; go_meet
      case rel => exact ⟨_, (((l0_1.length : Int) != (l1_1.length : Int))), zz67, H', ⟨by first | omega | exact Nat.le_refl _⟩, ⟨by (with_reducible repeat (first | refine blk_drewN ?_ _ | refine blk_drew ?_ | refine blk_alloc ?_ _)); exact BK212.out⟩, ⟨by (with_reducible repeat (first | refine blk_drewN ?_ _ | refine blk_drew ?_ | refine blk_alloc ?_ _)); exact BK213.out⟩, ⟨by repeat (first | (with_reducible first | exact HB.out | apply below_alloc | apply pw_below_drewN | apply below_drew1 | refine below_set ?_ GE212.out | refine below_set ?_ GE213.out) | exact HB.out)⟩⟩
    rw [if_neg c6] at H; have c6b0 : (a0_0 == a1_0) = false := beq_eq_false_iff_ne.mpr c6; have c6b1 : (a0_0 != a1_0) = true := bne_iff_ne.mpr c6
    (first | rw [c6b0] | (simp only [i64_w, i32_w]; rw [c6b0]) | skip)
    have H' := Aside0.mk H; clear H; have hnb10 := NB212_213.out; have hnc10 := NB213_212.out; have hcz11_0 : w5.cell? ⟨gb212, 0, none⟩ = some (.int .i64 a0_0) := (blk_cell BK212.out 0).trans rfl; have hcz11_1 : w5.cell? ⟨gb212, 1, none⟩ = some (.slice A0_1 l0_1.length c0_1) := (blk_cell BK212.out 1).trans rfl; have hfz11_0 := blk_frozen BK212.out 0; have hfz11_1 := blk_frozen BK212.out 1; have hcz12_0 : w5.cell? ⟨gb213, 0, none⟩ = some (.int .i64 a1_0) := (blk_cell BK213.out 0).trans rfl; have hcz12_1 : w5.cell? ⟨gb213, 1, none⟩ = some (.slice A1_1 l1_1.length c1_1) := (blk_cell BK213.out 1).trans rfl; have hfz12_0 := blk_frozen BK213.out 0; have hfz12_1 := blk_frozen BK213.out 1; go_wp2; go_meet
    case rel => exact ⟨_, (true), zz67, H', ⟨by first | omega | exact Nat.le_refl _⟩, ⟨by (with_reducible repeat (first | refine blk_drewN ?_ _ | refine blk_drew ?_ | refine blk_alloc ?_ _)); exact BK212.out⟩, ⟨by (with_reducible repeat (first | refine blk_drewN ?_ _ | refine blk_drew ?_ | refine blk_alloc ?_ _)); exact BK213.out⟩, ⟨by repeat (first | (with_reducible first | exact HB.out | apply below_alloc | apply pw_below_drewN | apply below_drew1 | refine below_set ?_ GE212.out | refine below_set ?_ GE213.out) | exact HB.out)⟩⟩
  case rest =>
    clear HC3; (try clear c1); (try clear p2); (try clear c3); (try clear c6); (try clear c6b0); (try clear c6b1); (try clear c7); (try clear c10); (try clear hcz11_0); (try clear hcz11_1); (try clear hcz12_0); (try clear hcz12_1); (try clear hcz8_0); (try clear hcz8_1); (try clear hcz9_0); (try clear hcz9_1); (try clear hfz11_0); (try clear hfz11_1); (try clear hfz12_0); (try clear hfz12_1); (try clear hfz8_0); (try clear hfz8_1); (try clear hfz9_0); (try clear hfz9_1); obtain ⟨kq, x21_2, rfl, HA, HJ2, BK212, BK213, HB⟩ := hcut
    cases kq with
    | zero => exact absurd HA.out (by simp [codewrightref30_Same.j0])
    | succ kj2 =>
      have H := HA.out; clear HA; simp only [codewrightref30_Same.j0] at H
      by_cases c13 : x21_2 = true
      · subst c13; have H1 : (some false) = some r := by rw [if_pos rfl] at H; exact H
        clear H; have H := H1; clear H1; obtain rfl := Option.some.inj H; go_wp2; go_ret
        exact ⟨by first | rfl | (simp [errW_none, errW_some] <;> rfl) | (simp [*, errW_none, errW_some] <;> rfl), by repeat (first | (with_reducible first | exact HB.out | apply below_alloc | apply pw_below_drewN | apply below_drew1 | refine below_set ?_ GE212.out | refine below_set ?_ GE213.out) | exact HB.out)⟩
      replace c13 := Bool.eq_false_iff.mpr c13; subst c13; have H1 : (codewrightref30_Same.l0 kj2 0 a0_0 l0_1 a1_0 l1_1) = some r := by rw [if_neg (show ¬ (false = true) by decide)] at H; exact H
      clear H; have H := H1; clear H1; have H' := Aside0.mk H; clear H; go_wp2
      go_loopg [5] kj2 (fun kq v5 w' => ∃ (x5_2 : Int), v5 = .int .i64 x5_2 ∧ Aside0 (codewrightref30_Same.l0 kq x5_2 a0_0 l0_1 a1_0 l1_1 = some r) ∧ Aside0 (kq ≤ kj2) ∧ Aside0 (w'.heap[gb212]? = some (.cells #[.int .i64 a0_0, (.slice A0_1 l0_1.length c0_1)] 46 (0, 0))) ∧ Aside0 (w'.heap[gb213]? = some (.cells #[.int .i64 a1_0, (.slice A1_1 l1_1.length c1_1)] 46 (0, 0))) ∧ Aside0 (Below w.heap.size w w'))
      case atStart => exact ⟨(0), zz67, H', ⟨Nat.le_refl _⟩, ⟨by (with_reducible repeat (first | refine blk_drewN ?_ _ | refine blk_drew ?_ | refine blk_alloc ?_ _)); exact BK212.out⟩, ⟨by (with_reducible repeat (first | refine blk_drewN ?_ _ | refine blk_drew ?_ | refine blk_alloc ?_ _)); exact BK213.out⟩, ⟨by repeat (first | (with_reducible first | exact HB.out | apply below_alloc | apply pw_below_drewN | apply below_drew1 | refine below_set ?_ GE212.out | refine below_set ?_ GE213.out) | exact HB.out)⟩⟩
      case round =>
        clear H'; (try clear c1); (try clear p2); (try clear c3); (try clear c6); (try clear c6b0); (try clear c6b1); (try clear c7); (try clear c10); (try clear c13); (try clear hcz11_0); (try clear hcz11_1); (try clear hcz12_0); (try clear hcz12_1); (try clear hcz8_0); (try clear hcz8_1); (try clear hcz9_0); (try clear hcz9_1); (try clear hfz11_0); (try clear hfz11_1); (try clear hfz12_0); (try clear hfz12_1); (try clear hfz8_0); (try clear hfz8_1); (try clear hfz9_0); (try clear hfz9_1); (try clear p2); obtain ⟨x5_2, rfl, HA, HK2, BK212, BK213, HB⟩ := hrel
        cases gk with
        | zero => exact absurd HA.out (by simp [codewrightref30_Same.l0])
        | succ k2 =>
          have H := HA.out; clear HA; simp only [codewrightref30_Same.l0] at H
          by_cases c14 : x5_2 < (l0_1.length : Int)
          · rw [if_pos c14] at H; have c14b0 : decide (x5_2 < (l0_1.length : Int)) = true := decide_eq_true c14; clear c14
            by_cases c15 : 0 ≤ x5_2
            · rw [if_pos c15] at H; have c15b0 : decide (0 ≤ x5_2) = true := decide_eq_true c15; clear c15
              by_cases c16 : x5_2 < (l1_1.length : Int)
              · rw [if_pos c16] at H; have c16b0 : decide (x5_2 < (l1_1.length : Int)) = true := decide_eq_true c16; clear c16; have HC17 := Aside0.mk H; clear H; have hnb18 := NB212_213.out; have hnc18 := NB213_212.out; have hcz19_0 : wr.cell? ⟨gb212, 0, none⟩ = some (.int .i64 a0_0) := (blk_cell BK212.out 0).trans rfl; have hcz19_1 : wr.cell? ⟨gb212, 1, none⟩ = some (.slice A0_1 l0_1.length c0_1) := (blk_cell BK212.out 1).trans rfl; have hfz19_0 := blk_frozen BK212.out 0; have hfz19_1 := blk_frozen BK212.out 1
                try go_wp2
                have n0_ := Aside0.mk (blk_drew BK212.out); have n1_ := Aside0.mk (blk_drew BK213.out); have n2_ := Aside0.mk (below_drew1 HB.out); clear BK212; clear BK213; clear HB; have BK212 := n0_; have BK213 := n1_; have HB := n2_; clear n0_ n1_ n2_; have p214 : 0 ≤ (x5_2 : Int) := of_decide_eq_true zz65; have q214 : x5_2 < (l0_1.length : Int) := of_decide_eq_true zz65; obtain ⟨ad214, A214_1, c214_1, A214_2, c214_2, e214, hx214_0, hx214_1, hx214_2, hl214_1, hi214_1, hl214_2, hi214_2⟩ := at_T74 HR0_1.out x5_2 p214 q214; have hw214_2 := hx214_2; have hw214_1 := hx214_1; have hw214_0 := hx214_0
                cases e214; replace hx214_0 := (HB.out.cell (World.block_lt_of_cell? w _ hx214_0)).trans hx214_0; replace hx214_1 := (HB.out.cell (World.block_lt_of_cell? w _ hx214_1)).trans hx214_1; replace hx214_2 := (HB.out.cell (World.block_lt_of_cell? w _ hx214_2)).trans hx214_2; have HR214_1 := Aside0.mk hi214_1; have HC214_1 := Aside0.mk hl214_1; clear hi214_1 hl214_1; have HR214_2 := Aside0.mk hi214_2; have HC214_2 := Aside0.mk hl214_2; clear hi214_2 hl214_2; replace p214 := eq_true p214; replace q214 := eq_true q214; have p215 : 0 ≤ (x5_2 : Int) := of_decide_eq_true zz65; have q215 : x5_2 < (l1_1.length : Int) := of_decide_eq_true zz65; obtain ⟨ad215, A215_1, c215_1, A215_2, c215_2, e215, hx215_0, hx215_1, hx215_2, hl215_1, hi215_1, hl215_2, hi215_2⟩ := at_T74 HR1_1.out x5_2 p215 q215; have hw215_2 := hx215_2; have hw215_1 := hx215_1; have hw215_0 := hx215_0
                cases e215; replace hx215_0 := (HB.out.cell (World.block_lt_of_cell? w _ hx215_0)).trans hx215_0; replace hx215_1 := (HB.out.cell (World.block_lt_of_cell? w _ hx215_1)).trans hx215_1; replace hx215_2 := (HB.out.cell (World.block_lt_of_cell? w _ hx215_2)).trans hx215_2; have HR215_1 := Aside0.mk hi215_1; have HC215_1 := Aside0.mk hl215_1; clear hi215_1 hl215_1; have HR215_2 := Aside0.mk hi215_2; have HC215_2 := Aside0.mk hl215_2; clear hi215_2 hl215_2; replace p215 := eq_true p215; replace q215 := eq_true q215
                refine start_ (n := 14) (S := fun w' => w'.cell? ⟨gb212, 0, none⟩ = some (.int .i64 a0_0) ∧ w'.cell? ⟨gb212, 1, none⟩ = some (.slice (some ad214) l0_1.length c0_1) ∧ w'.cell? ⟨gb213, 0, none⟩ = some (.int .i64 a1_0) ∧ w'.cell? ⟨gb213, 1, none⟩ = some (.slice (some ad215) l1_1.length c1_1) ∧ w'.cell? (ad214.add ((x5_2).toNat * 3)) = some (.int .i64 ((rd_T74 l0_1 x5_2).f0)) ∧ w'.cell? ⟨(ad214.add ((x5_2).toNat * 3)).block, (ad214.add ((x5_2).toNat * 3)).off + 1, none⟩ = some (.slice A214_1 ((rd_T74 l0_1 x5_2).f1).length c214_1) ∧ w'.cell? ⟨(ad214.add ((x5_2).toNat * 3)).block, (ad214.add ((x5_2).toNat * 3)).off + 2, none⟩ = some (.slice A214_2 ((rd_T74 l0_1 x5_2).f2).length c214_2) ∧ w'.cell? (ad215.add ((x5_2).toNat * 3)) = some (.int .i64 ((rd_T74 l1_1 x5_2).f0)) ∧ w'.cell? ⟨(ad215.add ((x5_2).toNat * 3)).block, (ad215.add ((x5_2).toNat * 3)).off + 1, none⟩ = some (.slice A215_1 ((rd_T74 l1_1 x5_2).f1).length c215_1) ∧ w'.cell? ⟨(ad215.add ((x5_2).toNat * 3)).block, (ad215.add ((x5_2).toNat * 3)).off + 2, none⟩ = some (.slice A215_2 ((rd_T74 l1_1 x5_2).f2).length c215_2)) (ds := []) #[false, false, false, false, false, false, false, false, false, false, false, false, false, false] (by kernel_rfl) rfl rfl ⟨(blk_cell BK212.out 0).trans rfl, (blk_cell BK212.out 1).trans rfl, (blk_cell BK213.out 0).trans rfl, (blk_cell BK213.out 1).trans rfl, ((HB.out.cell (World.block_lt_of_cell? w _ hw214_0)).trans hw214_0), ((HB.out.cell (World.block_lt_of_cell? w _ hw214_1)).trans hw214_1), ((HB.out.cell (World.block_lt_of_cell? w _ hw214_2)).trans hw214_2), ((HB.out.cell (World.block_lt_of_cell? w _ hw215_0)).trans hw215_0), ((HB.out.cell (World.block_lt_of_cell? w _ hw215_1)).trans hw215_1), ((HB.out.cell (World.block_lt_of_cell? w _ hw215_2)).trans hw215_2)⟩ (fun hHeld => ?_); refine with_tabW codewrightref30_Same.tab6 codewrightref30_Same.bits6 (fun HT_ HW_ => ?_); generalize wr.drew = w20 at BK212 BK213 HB HR214_1 HR214_2 HR215_1 HR215_2 hx214_0 hx214_1 hx214_2 hx215_0 hx215_1 hx215_2 hHeld ⊢
                refine pure_ (i := 0) (N := some 29) (v := ?_) (a' := ?_) #[true, false, false, false, false, false, false, false, false, false, false, false, false, false] rfl rfl (any_of HT_.out (by kernel_rfl)) (fun _ _ _ h => h) (Or.inl ⟨by rfl, ?_⟩) ?_ ?_
                rotate_left
                · intro w'
                  go_simp
                  with_reducible rfl
                rotate_left
                · simp only [Act.put, List.setIfInBounds_toArray, List.set_cons_zero, List.set_cons_succ, i64_w, i32_w]
                  rfl
                refine pure_ (i := 2) (N := some 31) (v := ?_) (a' := ?_) #[true, false, true, false, false, false, false, false, false, false, false, false, false, false] rfl rfl (any_of HT_.out (by kernel_rfl)) (fun _ _ _ h => h) (Or.inl ⟨by rfl, ?_⟩) ?_ ?_
                rotate_left
                · intro w'
                  go_simp
                  with_reducible rfl
                rotate_left
                · simp only [Act.put, List.setIfInBounds_toArray, List.set_cons_zero, List.set_cons_succ, i64_w, i32_w]
                  rfl
                refine pure_ (i := 5) (N := some 34) (v := ?_) (a' := ?_) #[true, false, true, false, false, true, false, false, false, false, false, false, false, false] rfl rfl (any_of HT_.out (by kernel_rfl)) (fun _ _ _ h => h) (Or.inl ⟨by rfl, ?_⟩) ?_ ?_
                rotate_left
                · intro w'
                  go_simp
                  with_reducible rfl
                rotate_left
                · simp only [Act.put, List.setIfInBounds_toArray, List.set_cons_zero, List.set_cons_succ, i64_w, i32_w]
                  rfl
                refine pure_ (i := 7) (N := some 36) (v := ?_) (a' := ?_) #[true, false, true, false, false, true, false, true, false, false, false, false, false, false] rfl rfl (any_of HT_.out (by kernel_rfl)) (fun _ _ _ h => h) (Or.inl ⟨by rfl, ?_⟩) ?_ ?_
                rotate_left
                · intro w'
                  go_simp
                  with_reducible rfl
                rotate_left
                · simp only [Act.put, List.setIfInBounds_toArray, List.set_cons_zero, List.set_cons_succ, i64_w, i32_w]
                  rfl
                refine take_ (i := 1) (N := some 30) (v := ?_) (a' := ?_) #[true, true, true, false, false, true, false, true, false, false, false, false, false, false] rfl rfl (take_ofW HT_.out HW_.out (by kernel_rfl)) (fun _ _ _ h => h) (Or.inl ⟨by rfl, ?_⟩) hHeld ?_ ?_
                rotate_left
                · rintro w' ⟨s0, s1, s2, s3, s4, s5, s6, s7, s8, s9⟩
                  go_simp
                  with_reducible rfl
                rotate_left
                · simp only [Act.put, List.setIfInBounds_toArray, List.set_cons_zero, List.set_cons_succ, i64_w, i32_w]
                  rfl
                refine pure_ (i := 3) (N := some 32) (v := ?_) (a' := ?_) #[true, true, true, true, false, true, false, true, false, false, false, false, false, false] rfl rfl (any_of HT_.out (by kernel_rfl)) (fun _ _ _ h => h) (Or.inl ⟨by rfl, ?_⟩) ?_ ?_
                rotate_left
                · intro w'
                  go_simp
                  with_reducible rfl
                rotate_left
                · simp only [Act.put, List.setIfInBounds_toArray, List.set_cons_zero, List.set_cons_succ, i64_w, i32_w]
                  rfl
                refine take_ (i := 4) (N := some 33) (v := ?_) (a' := ?_) #[true, true, true, true, true, true, false, true, false, false, false, false, false, false] rfl rfl (take_ofW HT_.out HW_.out (by kernel_rfl)) (fun _ _ _ h => h) (Or.inl ⟨by rfl, ?_⟩) hHeld ?_ ?_
                rotate_left
                · rintro w' ⟨s0, s1, s2, s3, s4, s5, s6, s7, s8, s9⟩
                  go_simp
                  with_reducible rfl
                rotate_left
                · simp only [Act.put, List.setIfInBounds_toArray, List.set_cons_zero, List.set_cons_succ, i64_w, i32_w]
                  rfl
                refine take_ (i := 6) (N := some 35) (v := ?_) (a' := ?_) #[true, true, true, true, true, true, true, true, false, false, false, false, false, false] rfl rfl (take_ofW HT_.out HW_.out (by kernel_rfl)) (fun _ _ _ h => h) (Or.inl ⟨by rfl, ?_⟩) hHeld ?_ ?_
                rotate_left
                · rintro w' ⟨s0, s1, s2, s3, s4, s5, s6, s7, s8, s9⟩
                  go_simp
                  with_reducible rfl
                rotate_left
                · simp only [Act.put, List.setIfInBounds_toArray, List.set_cons_zero, List.set_cons_succ, i64_w, i32_w]
                  rfl
                refine pure_ (i := 8) (N := some 37) (v := ?_) (a' := ?_) #[true, true, true, true, true, true, true, true, true, false, false, false, false, false] rfl rfl (any_of HT_.out (by kernel_rfl)) (fun _ _ _ h => h) (Or.inl ⟨by rfl, ?_⟩) ?_ ?_
                rotate_left
                · intro w'
                  go_simp
                  with_reducible rfl
                rotate_left
                · simp only [Act.put, List.setIfInBounds_toArray, List.set_cons_zero, List.set_cons_succ, i64_w, i32_w]
                  rfl
                refine take_ (i := 9) (N := some 38) (v := ?_) (a' := ?_) #[true, true, true, true, true, true, true, true, true, true, false, false, false, false] rfl rfl (take_ofW HT_.out HW_.out (by kernel_rfl)) (fun _ _ _ h => h) (Or.inl ⟨by rfl, ?_⟩) hHeld ?_ ?_
                rotate_left
                · rintro w' ⟨s0, s1, s2, s3, s4, s5, s6, s7, s8, s9⟩
                  go_simp
                  with_reducible rfl
                rotate_left
                · simp only [Act.put, List.setIfInBounds_toArray, List.set_cons_zero, List.set_cons_succ, i64_w, i32_w]
                  rfl
                refine join_ (σ := Nat × Nat) 2 #[true, true, true, true, true, true, true, true, true, true, true, true, false, false] (fun s_ => [(6, .pointer (some ⟨s_.1, 0, none⟩)), (7, .pointer (some ⟨s_.2, 0, none⟩))]) (fun s_ w' => (w'.cell? ⟨gb212, 0, none⟩ = some (.int .i64 a0_0) ∧ w'.cell? ⟨gb212, 1, none⟩ = some (.slice (some ad214) l0_1.length c0_1) ∧ w'.cell? ⟨gb213, 0, none⟩ = some (.int .i64 a1_0) ∧ w'.cell? ⟨gb213, 1, none⟩ = some (.slice (some ad215) l1_1.length c1_1) ∧ w'.cell? (ad214.add ((x5_2).toNat * 3)) = some (.int .i64 ((rd_T74 l0_1 x5_2).f0)) ∧ w'.cell? ⟨(ad214.add ((x5_2).toNat * 3)).block, (ad214.add ((x5_2).toNat * 3)).off + 1, none⟩ = some (.slice A214_1 ((rd_T74 l0_1 x5_2).f1).length c214_1) ∧ w'.cell? ⟨(ad214.add ((x5_2).toNat * 3)).block, (ad214.add ((x5_2).toNat * 3)).off + 2, none⟩ = some (.slice A214_2 ((rd_T74 l0_1 x5_2).f2).length c214_2) ∧ w'.cell? (ad215.add ((x5_2).toNat * 3)) = some (.int .i64 ((rd_T74 l1_1 x5_2).f0)) ∧ w'.cell? ⟨(ad215.add ((x5_2).toNat * 3)).block, (ad215.add ((x5_2).toNat * 3)).off + 1, none⟩ = some (.slice A215_1 ((rd_T74 l1_1 x5_2).f1).length c215_1) ∧ w'.cell? ⟨(ad215.add ((x5_2).toNat * 3)).block, (ad215.add ((x5_2).toNat * 3)).off + 2, none⟩ = some (.slice A215_2 ((rd_T74 l1_1 x5_2).f2).length c215_2)) ∧ (w'.heap[gb212]? = some (.cells #[.int .i64 a0_0, .slice (some ad214) l0_1.length c0_1] 46 (0, 0))) ∧ (w'.heap[gb213]? = some (.cells #[.int .i64 a1_0, .slice (some ad215) l1_1.length c1_1] 46 (0, 0))) ∧ (w'.heap[s_.1]? = some (.cells #[.int .i64 0, .slice none 0 0, .slice none 0 0] 74 (0, 0))) ∧ (w'.heap[s_.2]? = some (.cells #[.int .i64 0, .slice none 0 0, .slice none 0 0] 74 (0, 0))) ∧ (w.heap.size ≤ s_.1) ∧ (w.heap.size ≤ s_.1) ∧ (gb212 ≠ s_.1) ∧ (s_.1 ≠ gb212) ∧ (gb213 ≠ s_.1) ∧ (s_.1 ≠ gb213) ∧ (s_.2 ≠ s_.1) ∧ (s_.1 ≠ s_.2) ∧ (w.heap.size ≤ s_.2) ∧ (w.heap.size ≤ s_.2) ∧ (gb212 ≠ s_.2) ∧ (s_.2 ≠ gb212) ∧ (gb213 ≠ s_.2) ∧ (s_.2 ≠ gb213) ∧ (Below w.heap.size w w')) ?_ ?_
                rotate_left
                · intro hCont
                  refine two_ (i := 10) (j := 11) (Ni := some 6) (Nj := some 7) #[true, true, true, true, true, true, true, true, true, true, true, false, false, false] #[true, true, true, true, true, true, true, true, true, true, false, true, false, false] rfl rfl rfl rfl (two_of HT_.out (by kernel_rfl)) (by decide) (by decide) (fun K hK => ?_) (fun K hK => ?_)
                  · skip
                    refine box_step ?hg (N := 6) ?hd (cs := #[.int .i64 0, .slice none 0 0, .slice none 0 0]) (t := 74) ?hr ?_; (case hd => rfl); (case hg => rfl); (case hr => first | (go_simp; done) | (go_simp; rfl))
                    intro gb216 hg w21 hbox hb
                    have n0_ := Aside0.mk (blk_below (g := gb212) (o := .cells #[.int .i64 a0_0, .slice (some ad214) l0_1.length c0_1] 46 (0, 0)) (zB BK212) hb); have n1_ := Aside0.mk (blk_below (g := gb213) (o := .cells #[.int .i64 a1_0, .slice (some ad215) l1_1.length c1_1] 46 (0, 0)) (zB BK213) hb); have n2_ := Aside0.mk (below_step zz38 hb); have n3_ := Aside0.mk (hbox); have n4_ := Aside0.mk ((by rw [hg]; exact (below_size zz38) : w.heap.size ≤ gb216)); have n5_ := Aside0.mk ((by rw [hg]; exact (below_size zz38) : w.heap.size ≤ gb216)); have n6_ := Aside0.mk ((by rw [hg]; exact Nat.ne_of_lt (blk_lt (g := gb212) (o := .cells #[.int .i64 a0_0, .slice (some ad214) l0_1.length c0_1] 46 (0, 0)) (zB BK212)) : gb212 ≠ gb216)); have n7_ := Aside0.mk ((by rw [hg]; exact Nat.ne_of_gt (blk_lt (g := gb212) (o := .cells #[.int .i64 a0_0, .slice (some ad214) l0_1.length c0_1] 46 (0, 0)) (zB BK212)) : gb216 ≠ gb212)); have n8_ := Aside0.mk ((by rw [hg]; exact Nat.ne_of_lt (blk_lt (g := gb213) (o := .cells #[.int .i64 a1_0, .slice (some ad215) l1_1.length c1_1] 46 (0, 0)) (zB BK213)) : gb213 ≠ gb216)); have n9_ := Aside0.mk ((by rw [hg]; exact Nat.ne_of_gt (blk_lt (g := gb213) (o := .cells #[.int .i64 a1_0, .slice (some ad215) l1_1.length c1_1] 46 (0, 0)) (zB BK213)) : gb216 ≠ gb213)); clear BK212; clear BK213; clear HB; have BK212 := n0_; have BK213 := n1_; have HB := n2_; have BK216 := n3_; have GW216 := n4_; have GE216 := n5_; have NB212_216 := n6_; have NB216_212 := n7_; have NB213_216 := n8_; have NB216_213 := n9_; clear n0_ n1_ n2_ n3_ n4_ n5_ n6_ n7_ n8_ n9_; clear hb hbox hg
                    refine hK.out _ _ ⟨(blk_cell BK212.out 0).trans rfl, (blk_cell BK212.out 1).trans rfl, (blk_cell BK213.out 0).trans rfl, (blk_cell BK213.out 1).trans rfl, ((HB.out.cell (World.block_lt_of_cell? w _ hw214_0)).trans hw214_0), ((HB.out.cell (World.block_lt_of_cell? w _ hw214_1)).trans hw214_1), ((HB.out.cell (World.block_lt_of_cell? w _ hw214_2)).trans hw214_2), ((HB.out.cell (World.block_lt_of_cell? w _ hw215_0)).trans hw215_0), ((HB.out.cell (World.block_lt_of_cell? w _ hw215_1)).trans hw215_1), ((HB.out.cell (World.block_lt_of_cell? w _ hw215_2)).trans hw215_2)⟩ (fun hHeld => ?_); clear hK K
                    refine norm_ (a' := ?_) ?_ ?_
                    rotate_left
                    · show Act.put _ (some 6) _ = _
                      simp only [Act.put, List.setIfInBounds_toArray, List.set_cons_zero, List.set_cons_succ, i64_w, i32_w]
                      rfl
                    refine one_ (i := 11) (N := some 7) #[true, true, true, true, true, true, true, true, true, true, true, true, false, false] rfl rfl (one_of HT_.out (by kernel_rfl)) (by decide) (fun K hK => ?_)
                    refine box_step ?hg (N := 7) ?hd (cs := #[.int .i64 0, .slice none 0 0, .slice none 0 0]) (t := 74) ?hr ?_; (case hd => rfl); (case hg => rfl); (case hr => first | (go_simp; done) | (go_simp; rfl))
                    intro gb217 hg w22 hbox hb
                    have n0_ := Aside0.mk (blk_below (g := gb212) (o := .cells #[.int .i64 a0_0, .slice (some ad214) l0_1.length c0_1] 46 (0, 0)) (zB BK212) hb); have n1_ := Aside0.mk (blk_below (g := gb213) (o := .cells #[.int .i64 a1_0, .slice (some ad215) l1_1.length c1_1] 46 (0, 0)) (zB BK213) hb); have n2_ := Aside0.mk (blk_below (g := gb216) (o := .cells #[.int .i64 0, .slice none 0 0, .slice none 0 0] 74 (0, 0)) (zB BK216) hb); have n3_ := Aside0.mk (below_step zz35 hb); have n4_ := Aside0.mk (hbox); have n5_ := Aside0.mk ((by rw [hg]; exact (below_size zz35) : w.heap.size ≤ gb217)); have n6_ := Aside0.mk ((by rw [hg]; exact (below_size zz35) : w.heap.size ≤ gb217)); have n7_ := Aside0.mk ((by rw [hg]; exact Nat.ne_of_lt (blk_lt (g := gb212) (o := .cells #[.int .i64 a0_0, .slice (some ad214) l0_1.length c0_1] 46 (0, 0)) (zB BK212)) : gb212 ≠ gb217)); have n8_ := Aside0.mk ((by rw [hg]; exact Nat.ne_of_gt (blk_lt (g := gb212) (o := .cells #[.int .i64 a0_0, .slice (some ad214) l0_1.length c0_1] 46 (0, 0)) (zB BK212)) : gb217 ≠ gb212)); have n9_ := Aside0.mk ((by rw [hg]; exact Nat.ne_of_lt (blk_lt (g := gb213) (o := .cells #[.int .i64 a1_0, .slice (some ad215) l1_1.length c1_1] 46 (0, 0)) (zB BK213)) : gb213 ≠ gb217)); have n10_ := Aside0.mk ((by rw [hg]; exact Nat.ne_of_gt (blk_lt (g := gb213) (o := .cells #[.int .i64 a1_0, .slice (some ad215) l1_1.length c1_1] 46 (0, 0)) (zB BK213)) : gb217 ≠ gb213)); have n11_ := Aside0.mk ((by rw [hg]; exact Nat.ne_of_lt (blk_lt (g := gb216) (o := .cells #[.int .i64 0, .slice none 0 0, .slice none 0 0] 74 (0, 0)) (zB BK216)) : gb216 ≠ gb217)); have n12_ := Aside0.mk ((by rw [hg]; exact Nat.ne_of_gt (blk_lt (g := gb216) (o := .cells #[.int .i64 0, .slice none 0 0, .slice none 0 0] 74 (0, 0)) (zB BK216)) : gb217 ≠ gb216)); clear BK212; clear BK213; clear BK216; clear HB; have BK212 := n0_; have BK213 := n1_; have BK216 := n2_; have HB := n3_; have BK217 := n4_; have GW217 := n5_; have GE217 := n6_; have NB212_217 := n7_; have NB217_212 := n8_; have NB213_217 := n9_; have NB217_213 := n10_; have NB216_217 := n11_; have NB217_216 := n12_; clear n0_ n1_ n2_ n3_ n4_ n5_ n6_ n7_ n8_ n9_ n10_ n11_ n12_; clear hb hbox hg
                    refine hK.out _ _ ⟨(blk_cell BK212.out 0).trans rfl, (blk_cell BK212.out 1).trans rfl, (blk_cell BK213.out 0).trans rfl, (blk_cell BK213.out 1).trans rfl, ((HB.out.cell (World.block_lt_of_cell? w _ hw214_0)).trans hw214_0), ((HB.out.cell (World.block_lt_of_cell? w _ hw214_1)).trans hw214_1), ((HB.out.cell (World.block_lt_of_cell? w _ hw214_2)).trans hw214_2), ((HB.out.cell (World.block_lt_of_cell? w _ hw215_0)).trans hw215_0), ((HB.out.cell (World.block_lt_of_cell? w _ hw215_1)).trans hw215_1), ((HB.out.cell (World.block_lt_of_cell? w _ hw215_2)).trans hw215_2)⟩ (fun hHeld => ?_); clear hK K
                    refine norm_ (a' := ?_) ?_ ?_
                    rotate_left
                    · show Act.put _ (some 7) _ = _
                      simp only [Act.put, List.setIfInBounds_toArray, List.set_cons_zero, List.set_cons_succ, i64_w, i32_w]
                      rfl
                    exact norm_ zz64 (hCont (gb216, gb217) _ ⟨hHeld, (zB BK212), (zB BK213), (zB BK216), (zB BK217), GW216.out, GE216.out, NB212_216.out, NB216_212.out, NB213_216.out, NB216_213.out, NB217_216.out, NB216_217.out, GW217.out, GE217.out, NB212_217.out, NB217_212.out, NB213_217.out, NB217_213.out, zz27⟩)
                  · skip
                    refine box_step ?hg (N := 7) ?hd (cs := #[.int .i64 0, .slice none 0 0, .slice none 0 0]) (t := 74) ?hr ?_; (case hd => rfl); (case hg => rfl); (case hr => first | (go_simp; done) | (go_simp; rfl))
                    intro gb217 hg w21 hbox hb
                    have n0_ := Aside0.mk (blk_below (g := gb212) (o := .cells #[.int .i64 a0_0, .slice (some ad214) l0_1.length c0_1] 46 (0, 0)) (zB BK212) hb); have n1_ := Aside0.mk (blk_below (g := gb213) (o := .cells #[.int .i64 a1_0, .slice (some ad215) l1_1.length c1_1] 46 (0, 0)) (zB BK213) hb); have n2_ := Aside0.mk (below_step zz38 hb); have n3_ := Aside0.mk (hbox); have n4_ := Aside0.mk ((by rw [hg]; exact (below_size zz38) : w.heap.size ≤ gb217)); have n5_ := Aside0.mk ((by rw [hg]; exact (below_size zz38) : w.heap.size ≤ gb217)); have n6_ := Aside0.mk ((by rw [hg]; exact Nat.ne_of_lt (blk_lt (g := gb212) (o := .cells #[.int .i64 a0_0, .slice (some ad214) l0_1.length c0_1] 46 (0, 0)) (zB BK212)) : gb212 ≠ gb217)); have n7_ := Aside0.mk ((by rw [hg]; exact Nat.ne_of_gt (blk_lt (g := gb212) (o := .cells #[.int .i64 a0_0, .slice (some ad214) l0_1.length c0_1] 46 (0, 0)) (zB BK212)) : gb217 ≠ gb212)); have n8_ := Aside0.mk ((by rw [hg]; exact Nat.ne_of_lt (blk_lt (g := gb213) (o := .cells #[.int .i64 a1_0, .slice (some ad215) l1_1.length c1_1] 46 (0, 0)) (zB BK213)) : gb213 ≠ gb217)); have n9_ := Aside0.mk ((by rw [hg]; exact Nat.ne_of_gt (blk_lt (g := gb213) (o := .cells #[.int .i64 a1_0, .slice (some ad215) l1_1.length c1_1] 46 (0, 0)) (zB BK213)) : gb217 ≠ gb213)); clear BK212; clear BK213; clear HB; have BK212 := n0_; have BK213 := n1_; have HB := n2_; have BK217 := n3_; have GW217 := n4_; have GE217 := n5_; have NB212_217 := n6_; have NB217_212 := n7_; have NB213_217 := n8_; have NB217_213 := n9_; clear n0_ n1_ n2_ n3_ n4_ n5_ n6_ n7_ n8_ n9_; clear hb hbox hg
                    refine hK.out _ _ ⟨(blk_cell BK212.out 0).trans rfl, (blk_cell BK212.out 1).trans rfl, (blk_cell BK213.out 0).trans rfl, (blk_cell BK213.out 1).trans rfl, ((HB.out.cell (World.block_lt_of_cell? w _ hw214_0)).trans hw214_0), ((HB.out.cell (World.block_lt_of_cell? w _ hw214_1)).trans hw214_1), ((HB.out.cell (World.block_lt_of_cell? w _ hw214_2)).trans hw214_2), ((HB.out.cell (World.block_lt_of_cell? w _ hw215_0)).trans hw215_0), ((HB.out.cell (World.block_lt_of_cell? w _ hw215_1)).trans hw215_1), ((HB.out.cell (World.block_lt_of_cell? w _ hw215_2)).trans hw215_2)⟩ (fun hHeld => ?_); clear hK K
                    refine norm_ (a' := ?_) ?_ ?_
                    rotate_left
                    · show Act.put _ (some 7) _ = _
                      simp only [Act.put, List.setIfInBounds_toArray, List.set_cons_zero, List.set_cons_succ, i64_w, i32_w]
                      rfl
                    refine one_ (i := 10) (N := some 6) #[true, true, true, true, true, true, true, true, true, true, true, true, false, false] rfl rfl (one_of HT_.out (by kernel_rfl)) (by decide) (fun K hK => ?_)
                    refine box_step ?hg (N := 6) ?hd (cs := #[.int .i64 0, .slice none 0 0, .slice none 0 0]) (t := 74) ?hr ?_; (case hd => rfl); (case hg => rfl); (case hr => first | (go_simp; done) | (go_simp; rfl))
                    intro gb216 hg w22 hbox hb
                    have n0_ := Aside0.mk (blk_below (g := gb212) (o := .cells #[.int .i64 a0_0, .slice (some ad214) l0_1.length c0_1] 46 (0, 0)) (zB BK212) hb); have n1_ := Aside0.mk (blk_below (g := gb213) (o := .cells #[.int .i64 a1_0, .slice (some ad215) l1_1.length c1_1] 46 (0, 0)) (zB BK213) hb); have n2_ := Aside0.mk (blk_below (g := gb217) (o := .cells #[.int .i64 0, .slice none 0 0, .slice none 0 0] 74 (0, 0)) (zB BK217) hb); have n3_ := Aside0.mk (below_step zz36 hb); have n4_ := Aside0.mk (hbox); have n5_ := Aside0.mk ((by rw [hg]; exact (below_size zz36) : w.heap.size ≤ gb216)); have n6_ := Aside0.mk ((by rw [hg]; exact (below_size zz36) : w.heap.size ≤ gb216)); have n7_ := Aside0.mk ((by rw [hg]; exact Nat.ne_of_lt (blk_lt (g := gb212) (o := .cells #[.int .i64 a0_0, .slice (some ad214) l0_1.length c0_1] 46 (0, 0)) (zB BK212)) : gb212 ≠ gb216)); have n8_ := Aside0.mk ((by rw [hg]; exact Nat.ne_of_gt (blk_lt (g := gb212) (o := .cells #[.int .i64 a0_0, .slice (some ad214) l0_1.length c0_1] 46 (0, 0)) (zB BK212)) : gb216 ≠ gb212)); have n9_ := Aside0.mk ((by rw [hg]; exact Nat.ne_of_lt (blk_lt (g := gb213) (o := .cells #[.int .i64 a1_0, .slice (some ad215) l1_1.length c1_1] 46 (0, 0)) (zB BK213)) : gb213 ≠ gb216)); have n10_ := Aside0.mk ((by rw [hg]; exact Nat.ne_of_gt (blk_lt (g := gb213) (o := .cells #[.int .i64 a1_0, .slice (some ad215) l1_1.length c1_1] 46 (0, 0)) (zB BK213)) : gb216 ≠ gb213)); have n11_ := Aside0.mk ((by rw [hg]; exact Nat.ne_of_lt (blk_lt (g := gb217) (o := .cells #[.int .i64 0, .slice none 0 0, .slice none 0 0] 74 (0, 0)) (zB BK217)) : gb217 ≠ gb216)); have n12_ := Aside0.mk ((by rw [hg]; exact Nat.ne_of_gt (blk_lt (g := gb217) (o := .cells #[.int .i64 0, .slice none 0 0, .slice none 0 0] 74 (0, 0)) (zB BK217)) : gb216 ≠ gb217)); clear BK212; clear BK213; clear BK217; clear HB; have BK212 := n0_; have BK213 := n1_; have BK217 := n2_; have HB := n3_; have BK216 := n4_; have GW216 := n5_; have GE216 := n6_; have NB212_216 := n7_; have NB216_212 := n8_; have NB213_216 := n9_; have NB216_213 := n10_; have NB217_216 := n11_; have NB216_217 := n12_; clear n0_ n1_ n2_ n3_ n4_ n5_ n6_ n7_ n8_ n9_ n10_ n11_ n12_; clear hb hbox hg
                    refine hK.out _ _ ⟨(blk_cell BK212.out 0).trans rfl, (blk_cell BK212.out 1).trans rfl, (blk_cell BK213.out 0).trans rfl, (blk_cell BK213.out 1).trans rfl, ((HB.out.cell (World.block_lt_of_cell? w _ hw214_0)).trans hw214_0), ((HB.out.cell (World.block_lt_of_cell? w _ hw214_1)).trans hw214_1), ((HB.out.cell (World.block_lt_of_cell? w _ hw214_2)).trans hw214_2), ((HB.out.cell (World.block_lt_of_cell? w _ hw215_0)).trans hw215_0), ((HB.out.cell (World.block_lt_of_cell? w _ hw215_1)).trans hw215_1), ((HB.out.cell (World.block_lt_of_cell? w _ hw215_2)).trans hw215_2)⟩ (fun hHeld => ?_); clear hK K
                    refine norm_ (a' := ?_) ?_ ?_
                    rotate_left
                    · show Act.put _ (some 6) _ = _
                      simp only [Act.put, List.setIfInBounds_toArray, List.set_cons_zero, List.set_cons_succ, i64_w, i32_w]
                      rfl
                    exact norm_ zz64 (hCont (gb216, gb217) _ ⟨hHeld, (zB BK212), (zB BK213), (zB BK216), (zB BK217), GW216.out, GE216.out, NB212_216.out, NB216_212.out, NB213_216.out, NB216_213.out, NB217_216.out, NB216_217.out, GW217.out, GE217.out, NB212_217.out, NB217_212.out, NB213_217.out, NB217_213.out, (by repeat (first | (with_reducible first | exact HB.out | apply below_alloc | apply pw_below_drewN | apply below_drew1 | refine below_set ?_ GE212.out | refine below_set ?_ GE213.out | refine below_set ?_ GE217.out | refine below_set ?_ GE216.out) | exact HB.out))⟩)
                rintro ⟨gb216, gb217⟩ w23 ⟨hS_, h0_, h1_, h2_, h3_, h4_, h5_, h6_, h7_, h8_, h9_, h10_, h11_, h12_, h13_, h14_, h15_, h16_, h17_, h18_⟩
                have n0_ : Aside0 (w23.heap[gb212]? = some (.cells #[.int .i64 a0_0, .slice (some ad214) l0_1.length c0_1] 46 (0, 0))) := ⟨h0_⟩; have n1_ : Aside0 (w23.heap[gb213]? = some (.cells #[.int .i64 a1_0, .slice (some ad215) l1_1.length c1_1] 46 (0, 0))) := ⟨h1_⟩; have n2_ : Aside0 (w23.heap[gb216]? = some (.cells #[.int .i64 0, .slice none 0 0, .slice none 0 0] 74 (0, 0))) := ⟨h2_⟩; have n3_ : Aside0 (w23.heap[gb217]? = some (.cells #[.int .i64 0, .slice none 0 0, .slice none 0 0] 74 (0, 0))) := ⟨h3_⟩; have n4_ : Aside0 (w.heap.size ≤ gb216) := ⟨h4_⟩; have n5_ : Aside0 (w.heap.size ≤ gb216) := ⟨h5_⟩; have n6_ : Aside0 (gb212 ≠ gb216) := ⟨h6_⟩; have n7_ : Aside0 (gb216 ≠ gb212) := ⟨h7_⟩; have n8_ : Aside0 (gb213 ≠ gb216) := ⟨h8_⟩; have n9_ : Aside0 (gb216 ≠ gb213) := ⟨h9_⟩; have n10_ : Aside0 (gb217 ≠ gb216) := ⟨h10_⟩; have n11_ : Aside0 (gb216 ≠ gb217) := ⟨h11_⟩; have n12_ : Aside0 (w.heap.size ≤ gb217) := ⟨h12_⟩; have n13_ : Aside0 (w.heap.size ≤ gb217) := ⟨h13_⟩; have n14_ : Aside0 (gb212 ≠ gb217) := ⟨h14_⟩; have n15_ : Aside0 (gb217 ≠ gb212) := ⟨h15_⟩; have n16_ : Aside0 (gb213 ≠ gb217) := ⟨h16_⟩; have n17_ : Aside0 (gb217 ≠ gb213) := ⟨h17_⟩; have n18_ : Aside0 (Below w.heap.size w w23) := ⟨h18_⟩; clear BK212; clear BK213; clear HB; clear h0_ h1_ h2_ h3_ h4_ h5_ h6_ h7_ h8_ h9_ h10_ h11_ h12_ h13_ h14_ h15_ h16_ h17_ h18_; have BK212 := n0_; have BK213 := n1_; have BK216 := n2_; have BK217 := n3_; have GW216 := n4_; have GE216 := n5_; have NB212_216 := n6_; have NB216_212 := n7_; have NB213_216 := n8_; have NB216_213 := n9_; have NB217_216 := n10_; have NB216_217 := n11_; have GW217 := n12_; have GE217 := n13_; have NB212_217 := n14_; have NB217_212 := n15_; have NB213_217 := n16_; have NB217_213 := n17_; have HB := n18_; clear n0_ n1_ n2_ n3_ n4_ n5_ n6_ n7_ n8_ n9_ n10_ n11_ n12_ n13_ n14_ n15_ n16_ n17_ n18_; have hHeld : w23.cell? ⟨gb212, 0, none⟩ = some (.int .i64 a0_0) ∧ w23.cell? ⟨gb212, 1, none⟩ = some (.slice (some ad214) l0_1.length c0_1) ∧ w23.cell? ⟨gb213, 0, none⟩ = some (.int .i64 a1_0) ∧ w23.cell? ⟨gb213, 1, none⟩ = some (.slice (some ad215) l1_1.length c1_1) ∧ w23.cell? (ad214.add ((x5_2).toNat * 3)) = some (.int .i64 ((rd_T74 l0_1 x5_2).f0)) ∧ w23.cell? ⟨(ad214.add ((x5_2).toNat * 3)).block, (ad214.add ((x5_2).toNat * 3)).off + 1, none⟩ = some (.slice A214_1 ((rd_T74 l0_1 x5_2).f1).length c214_1) ∧ w23.cell? ⟨(ad214.add ((x5_2).toNat * 3)).block, (ad214.add ((x5_2).toNat * 3)).off + 2, none⟩ = some (.slice A214_2 ((rd_T74 l0_1 x5_2).f2).length c214_2) ∧ w23.cell? (ad215.add ((x5_2).toNat * 3)) = some (.int .i64 ((rd_T74 l1_1 x5_2).f0)) ∧ w23.cell? ⟨(ad215.add ((x5_2).toNat * 3)).block, (ad215.add ((x5_2).toNat * 3)).off + 1, none⟩ = some (.slice A215_1 ((rd_T74 l1_1 x5_2).f1).length c215_1) ∧ w23.cell? ⟨(ad215.add ((x5_2).toNat * 3)).block, (ad215.add ((x5_2).toNat * 3)).off + 2, none⟩ = some (.slice A215_2 ((rd_T74 l1_1 x5_2).f2).length c215_2) := hS_
                refine norm_ (a' := ?_) ?_ ?_
                rotate_left
                · simp only [putAll, Act.put, List.setIfInBounds_toArray, List.set_cons_zero, List.set_cons_succ]
                  rfl
                refine one_ (i := 12) (N := none) #[true, true, true, true, true, true, true, true, true, true, true, true, true, false] rfl rfl (one_of HT_.out (by kernel_rfl)) (by decide) (fun K hK => ?_); have hs24 : w23.cell? ⟨gb216, 0, none⟩ = some (.int .i64 0) := (blk_cell BK216.out 0).trans rfl; have hfs24 := blk_frozen BK216.out 0; have hns24_0 := NB212_216.out; have hns24_1 := NB213_216.out; have hns24_3 := NB217_216.out; have hms24_0 := NB216_212.out; have hms24_1 := NB216_213.out; have hms24_3 := NB216_217.out; have hs25 : w23.cell? ⟨gb216, 1, none⟩ = some (.slice none 0 0) := (blk_cell BK216.out 1).trans rfl; have hfs25 := blk_frozen BK216.out 1; have hns25_0 := NB212_216.out; have hns25_1 := NB213_216.out; have hns25_3 := NB217_216.out; have hms25_0 := NB216_212.out; have hms25_1 := NB216_213.out; have hms25_3 := NB216_217.out; have hs26 : w23.cell? ⟨gb216, 2, none⟩ = some (.slice none 0 0) := (blk_cell BK216.out 2).trans rfl; have hfs26 := blk_frozen BK216.out 2; have hns26_0 := NB212_216.out; have hns26_1 := NB213_216.out; have hns26_3 := NB217_216.out; have hms26_0 := NB216_212.out; have hms26_1 := NB216_213.out; have hms26_3 := NB216_217.out
                refine skip_ (w1 := ?_) (by rfl) rfl ?_ ?_
                rotate_left
                · go_simp
                  rfl
                refine hK.out _ _ ⟨((cell_far (p := ⟨gb216, _, none⟩) NB212_216.out _).trans (((cell_far (p := ⟨gb216, _, none⟩) NB212_216.out _).trans (((cell_far (p := ⟨gb216, _, none⟩) NB212_216.out _).trans (hHeld.1)))))), ((cell_far (p := ⟨gb216, _, none⟩) NB212_216.out _).trans (((cell_far (p := ⟨gb216, _, none⟩) NB212_216.out _).trans (((cell_far (p := ⟨gb216, _, none⟩) NB212_216.out _).trans (hHeld.2.1)))))), ((cell_far (p := ⟨gb216, _, none⟩) NB213_216.out _).trans (((cell_far (p := ⟨gb216, _, none⟩) NB213_216.out _).trans (((cell_far (p := ⟨gb216, _, none⟩) NB213_216.out _).trans (hHeld.2.2.1)))))), ((cell_far (p := ⟨gb216, _, none⟩) NB213_216.out _).trans (((cell_far (p := ⟨gb216, _, none⟩) NB213_216.out _).trans (((cell_far (p := ⟨gb216, _, none⟩) NB213_216.out _).trans (hHeld.2.2.2.1)))))), ((cell_far (p := ⟨gb216, _, none⟩) (by first | exact Nat.ne_of_lt (Nat.lt_of_lt_of_le (by have := World.block_lt_of_cell? _ _ hw214_0; first | rwa [add_block] at this | exact this) GW216.out) | (rw [add_block]; exact Nat.ne_of_lt (Nat.lt_of_lt_of_le (by have := World.block_lt_of_cell? _ _ hw214_0; first | rwa [add_block] at this | exact this) GW216.out)) | (show (Addr.add _ _).block ≠ _; rw [add_block]; exact Nat.ne_of_lt (Nat.lt_of_lt_of_le (by have := World.block_lt_of_cell? _ _ hw214_0; first | rwa [add_block] at this | exact this) GW216.out)) | (dsimp only; exact Nat.ne_of_lt (Nat.lt_of_lt_of_le (by have := World.block_lt_of_cell? _ _ hw214_0; first | rwa [add_block] at this | exact this) GW216.out))) _).trans (((cell_far (p := ⟨gb216, _, none⟩) (by first | exact Nat.ne_of_lt (Nat.lt_of_lt_of_le (by have := World.block_lt_of_cell? _ _ hw214_0; first | rwa [add_block] at this | exact this) GW216.out) | (rw [add_block]; exact Nat.ne_of_lt (Nat.lt_of_lt_of_le (by have := World.block_lt_of_cell? _ _ hw214_0; first | rwa [add_block] at this | exact this) GW216.out)) | (show (Addr.add _ _).block ≠ _; rw [add_block]; exact Nat.ne_of_lt (Nat.lt_of_lt_of_le (by have := World.block_lt_of_cell? _ _ hw214_0; first | rwa [add_block] at this | exact this) GW216.out)) | (dsimp only; exact Nat.ne_of_lt (Nat.lt_of_lt_of_le (by have := World.block_lt_of_cell? _ _ hw214_0; first | rwa [add_block] at this | exact this) GW216.out))) _).trans (((cell_far (p := ⟨gb216, _, none⟩) (by first | exact Nat.ne_of_lt (Nat.lt_of_lt_of_le (by have := World.block_lt_of_cell? _ _ hw214_0; first | rwa [add_block] at this | exact this) GW216.out) | (rw [add_block]; exact Nat.ne_of_lt (Nat.lt_of_lt_of_le (by have := World.block_lt_of_cell? _ _ hw214_0; first | rwa [add_block] at this | exact this) GW216.out)) | (show (Addr.add _ _).block ≠ _; rw [add_block]; exact Nat.ne_of_lt (Nat.lt_of_lt_of_le (by have := World.block_lt_of_cell? _ _ hw214_0; first | rwa [add_block] at this | exact this) GW216.out)) | (dsimp only; exact Nat.ne_of_lt (Nat.lt_of_lt_of_le (by have := World.block_lt_of_cell? _ _ hw214_0; first | rwa [add_block] at this | exact this) GW216.out))) _).trans (hHeld.2.2.2.2.1)))))), ((cell_far (p := ⟨gb216, _, none⟩) (by first | exact Nat.ne_of_lt (Nat.lt_of_lt_of_le (by have := World.block_lt_of_cell? _ _ hw214_1; first | rwa [add_block] at this | exact this) GW216.out) | (rw [add_block]; exact Nat.ne_of_lt (Nat.lt_of_lt_of_le (by have := World.block_lt_of_cell? _ _ hw214_1; first | rwa [add_block] at this | exact this) GW216.out)) | (show (Addr.add _ _).block ≠ _; rw [add_block]; exact Nat.ne_of_lt (Nat.lt_of_lt_of_le (by have := World.block_lt_of_cell? _ _ hw214_1; first | rwa [add_block] at this | exact this) GW216.out)) | (dsimp only; exact Nat.ne_of_lt (Nat.lt_of_lt_of_le (by have := World.block_lt_of_cell? _ _ hw214_1; first | rwa [add_block] at this | exact this) GW216.out))) _).trans (((cell_far (p := ⟨gb216, _, none⟩) (by first | exact Nat.ne_of_lt (Nat.lt_of_lt_of_le (by have := World.block_lt_of_cell? _ _ hw214_1; first | rwa [add_block] at this | exact this) GW216.out) | (rw [add_block]; exact Nat.ne_of_lt (Nat.lt_of_lt_of_le (by have := World.block_lt_of_cell? _ _ hw214_1; first | rwa [add_block] at this | exact this) GW216.out)) | (show (Addr.add _ _).block ≠ _; rw [add_block]; exact Nat.ne_of_lt (Nat.lt_of_lt_of_le (by have := World.block_lt_of_cell? _ _ hw214_1; first | rwa [add_block] at this | exact this) GW216.out)) | (dsimp only; exact Nat.ne_of_lt (Nat.lt_of_lt_of_le (by have := World.block_lt_of_cell? _ _ hw214_1; first | rwa [add_block] at this | exact this) GW216.out))) _).trans (((cell_far (p := ⟨gb216, _, none⟩) (by first | exact Nat.ne_of_lt (Nat.lt_of_lt_of_le (by have := World.block_lt_of_cell? _ _ hw214_1; first | rwa [add_block] at this | exact this) GW216.out) | (rw [add_block]; exact Nat.ne_of_lt (Nat.lt_of_lt_of_le (by have := World.block_lt_of_cell? _ _ hw214_1; first | rwa [add_block] at this | exact this) GW216.out)) | (show (Addr.add _ _).block ≠ _; rw [add_block]; exact Nat.ne_of_lt (Nat.lt_of_lt_of_le (by have := World.block_lt_of_cell? _ _ hw214_1; first | rwa [add_block] at this | exact this) GW216.out)) | (dsimp only; exact Nat.ne_of_lt (Nat.lt_of_lt_of_le (by have := World.block_lt_of_cell? _ _ hw214_1; first | rwa [add_block] at this | exact this) GW216.out))) _).trans (hHeld.2.2.2.2.2.1)))))), ((cell_far (p := ⟨gb216, _, none⟩) (by first | exact Nat.ne_of_lt (Nat.lt_of_lt_of_le (by have := World.block_lt_of_cell? _ _ hw214_2; first | rwa [add_block] at this | exact this) GW216.out) | (rw [add_block]; exact Nat.ne_of_lt (Nat.lt_of_lt_of_le (by have := World.block_lt_of_cell? _ _ hw214_2; first | rwa [add_block] at this | exact this) GW216.out)) | (show (Addr.add _ _).block ≠ _; rw [add_block]; exact Nat.ne_of_lt (Nat.lt_of_lt_of_le (by have := World.block_lt_of_cell? _ _ hw214_2; first | rwa [add_block] at this | exact this) GW216.out)) | (dsimp only; exact Nat.ne_of_lt (Nat.lt_of_lt_of_le (by have := World.block_lt_of_cell? _ _ hw214_2; first | rwa [add_block] at this | exact this) GW216.out))) _).trans (((cell_far (p := ⟨gb216, _, none⟩) (by first | exact Nat.ne_of_lt (Nat.lt_of_lt_of_le (by have := World.block_lt_of_cell? _ _ hw214_2; first | rwa [add_block] at this | exact this) GW216.out) | (rw [add_block]; exact Nat.ne_of_lt (Nat.lt_of_lt_of_le (by have := World.block_lt_of_cell? _ _ hw214_2; first | rwa [add_block] at this | exact this) GW216.out)) | (show (Addr.add _ _).block ≠ _; rw [add_block]; exact Nat.ne_of_lt (Nat.lt_of_lt_of_le (by have := World.block_lt_of_cell? _ _ hw214_2; first | rwa [add_block] at this | exact this) GW216.out)) | (dsimp only; exact Nat.ne_of_lt (Nat.lt_of_lt_of_le (by have := World.block_lt_of_cell? _ _ hw214_2; first | rwa [add_block] at this | exact this) GW216.out))) _).trans (((cell_far (p := ⟨gb216, _, none⟩) (by first | exact Nat.ne_of_lt (Nat.lt_of_lt_of_le (by have := World.block_lt_of_cell? _ _ hw214_2; first | rwa [add_block] at this | exact this) GW216.out) | (rw [add_block]; exact Nat.ne_of_lt (Nat.lt_of_lt_of_le (by have := World.block_lt_of_cell? _ _ hw214_2; first | rwa [add_block] at this | exact this) GW216.out)) | (show (Addr.add _ _).block ≠ _; rw [add_block]; exact Nat.ne_of_lt (Nat.lt_of_lt_of_le (by have := World.block_lt_of_cell? _ _ hw214_2; first | rwa [add_block] at this | exact this) GW216.out)) | (dsimp only; exact Nat.ne_of_lt (Nat.lt_of_lt_of_le (by have := World.block_lt_of_cell? _ _ hw214_2; first | rwa [add_block] at this | exact this) GW216.out))) _).trans (hHeld.2.2.2.2.2.2.1)))))), ((cell_far (p := ⟨gb216, _, none⟩) (by first | exact Nat.ne_of_lt (Nat.lt_of_lt_of_le (by have := World.block_lt_of_cell? _ _ hw215_0; first | rwa [add_block] at this | exact this) GW216.out) | (rw [add_block]; exact Nat.ne_of_lt (Nat.lt_of_lt_of_le (by have := World.block_lt_of_cell? _ _ hw215_0; first | rwa [add_block] at this | exact this) GW216.out)) | (show (Addr.add _ _).block ≠ _; rw [add_block]; exact Nat.ne_of_lt (Nat.lt_of_lt_of_le (by have := World.block_lt_of_cell? _ _ hw215_0; first | rwa [add_block] at this | exact this) GW216.out)) | (dsimp only; exact Nat.ne_of_lt (Nat.lt_of_lt_of_le (by have := World.block_lt_of_cell? _ _ hw215_0; first | rwa [add_block] at this | exact this) GW216.out))) _).trans (((cell_far (p := ⟨gb216, _, none⟩) (by first | exact Nat.ne_of_lt (Nat.lt_of_lt_of_le (by have := World.block_lt_of_cell? _ _ hw215_0; first | rwa [add_block] at this | exact this) GW216.out) | (rw [add_block]; exact Nat.ne_of_lt (Nat.lt_of_lt_of_le (by have := World.block_lt_of_cell? _ _ hw215_0; first | rwa [add_block] at this | exact this) GW216.out)) | (show (Addr.add _ _).block ≠ _; rw [add_block]; exact Nat.ne_of_lt (Nat.lt_of_lt_of_le (by have := World.block_lt_of_cell? _ _ hw215_0; first | rwa [add_block] at this | exact this) GW216.out)) | (dsimp only; exact Nat.ne_of_lt (Nat.lt_of_lt_of_le (by have := World.block_lt_of_cell? _ _ hw215_0; first | rwa [add_block] at this | exact this) GW216.out))) _).trans (((cell_far (p := ⟨gb216, _, none⟩) (by first | exact Nat.ne_of_lt (Nat.lt_of_lt_of_le (by have := World.block_lt_of_cell? _ _ hw215_0; first | rwa [add_block] at this | exact this) GW216.out) | (rw [add_block]; exact Nat.ne_of_lt (Nat.lt_of_lt_of_le (by have := World.block_lt_of_cell? _ _ hw215_0; first | rwa [add_block] at this | exact this) GW216.out)) | (show (Addr.add _ _).block ≠ _; rw [add_block]; exact Nat.ne_of_lt (Nat.lt_of_lt_of_le (by have := World.block_lt_of_cell? _ _ hw215_0; first | rwa [add_block] at this | exact this) GW216.out)) | (dsimp only; exact Nat.ne_of_lt (Nat.lt_of_lt_of_le (by have := World.block_lt_of_cell? _ _ hw215_0; first | rwa [add_block] at this | exact this) GW216.out))) _).trans (hHeld.2.2.2.2.2.2.2.1)))))), ((cell_far (p := ⟨gb216, _, none⟩) (by first | exact Nat.ne_of_lt (Nat.lt_of_lt_of_le (by have := World.block_lt_of_cell? _ _ hw215_1; first | rwa [add_block] at this | exact this) GW216.out) | (rw [add_block]; exact Nat.ne_of_lt (Nat.lt_of_lt_of_le (by have := World.block_lt_of_cell? _ _ hw215_1; first | rwa [add_block] at this | exact this) GW216.out)) | (show (Addr.add _ _).block ≠ _; rw [add_block]; exact Nat.ne_of_lt (Nat.lt_of_lt_of_le (by have := World.block_lt_of_cell? _ _ hw215_1; first | rwa [add_block] at this | exact this) GW216.out)) | (dsimp only; exact Nat.ne_of_lt (Nat.lt_of_lt_of_le (by have := World.block_lt_of_cell? _ _ hw215_1; first | rwa [add_block] at this | exact this) GW216.out))) _).trans (((cell_far (p := ⟨gb216, _, none⟩) (by first | exact Nat.ne_of_lt (Nat.lt_of_lt_of_le (by have := World.block_lt_of_cell? _ _ hw215_1; first | rwa [add_block] at this | exact this) GW216.out) | (rw [add_block]; exact Nat.ne_of_lt (Nat.lt_of_lt_of_le (by have := World.block_lt_of_cell? _ _ hw215_1; first | rwa [add_block] at this | exact this) GW216.out)) | (show (Addr.add _ _).block ≠ _; rw [add_block]; exact Nat.ne_of_lt (Nat.lt_of_lt_of_le (by have := World.block_lt_of_cell? _ _ hw215_1; first | rwa [add_block] at this | exact this) GW216.out)) | (dsimp only; exact Nat.ne_of_lt (Nat.lt_of_lt_of_le (by have := World.block_lt_of_cell? _ _ hw215_1; first | rwa [add_block] at this | exact this) GW216.out))) _).trans (((cell_far (p := ⟨gb216, _, none⟩) (by first | exact Nat.ne_of_lt (Nat.lt_of_lt_of_le (by have := World.block_lt_of_cell? _ _ hw215_1; first | rwa [add_block] at this | exact this) GW216.out) | (rw [add_block]; exact Nat.ne_of_lt (Nat.lt_of_lt_of_le (by have := World.block_lt_of_cell? _ _ hw215_1; first | rwa [add_block] at this | exact this) GW216.out)) | (show (Addr.add _ _).block ≠ _; rw [add_block]; exact Nat.ne_of_lt (Nat.lt_of_lt_of_le (by have := World.block_lt_of_cell? _ _ hw215_1; first | rwa [add_block] at this | exact this) GW216.out)) | (dsimp only; exact Nat.ne_of_lt (Nat.lt_of_lt_of_le (by have := World.block_lt_of_cell? _ _ hw215_1; first | rwa [add_block] at this | exact this) GW216.out))) _).trans (hHeld.2.2.2.2.2.2.2.2.1)))))), ((cell_far (p := ⟨gb216, _, none⟩) (by first | exact Nat.ne_of_lt (Nat.lt_of_lt_of_le (by have := World.block_lt_of_cell? _ _ hw215_2; first | rwa [add_block] at this | exact this) GW216.out) | (rw [add_block]; exact Nat.ne_of_lt (Nat.lt_of_lt_of_le (by have := World.block_lt_of_cell? _ _ hw215_2; first | rwa [add_block] at this | exact this) GW216.out)) | (show (Addr.add _ _).block ≠ _; rw [add_block]; exact Nat.ne_of_lt (Nat.lt_of_lt_of_le (by have := World.block_lt_of_cell? _ _ hw215_2; first | rwa [add_block] at this | exact this) GW216.out)) | (dsimp only; exact Nat.ne_of_lt (Nat.lt_of_lt_of_le (by have := World.block_lt_of_cell? _ _ hw215_2; first | rwa [add_block] at this | exact this) GW216.out))) _).trans (((cell_far (p := ⟨gb216, _, none⟩) (by first | exact Nat.ne_of_lt (Nat.lt_of_lt_of_le (by have := World.block_lt_of_cell? _ _ hw215_2; first | rwa [add_block] at this | exact this) GW216.out) | (rw [add_block]; exact Nat.ne_of_lt (Nat.lt_of_lt_of_le (by have := World.block_lt_of_cell? _ _ hw215_2; first | rwa [add_block] at this | exact this) GW216.out)) | (show (Addr.add _ _).block ≠ _; rw [add_block]; exact Nat.ne_of_lt (Nat.lt_of_lt_of_le (by have := World.block_lt_of_cell? _ _ hw215_2; first | rwa [add_block] at this | exact this) GW216.out)) | (dsimp only; exact Nat.ne_of_lt (Nat.lt_of_lt_of_le (by have := World.block_lt_of_cell? _ _ hw215_2; first | rwa [add_block] at this | exact this) GW216.out))) _).trans (((cell_far (p := ⟨gb216, _, none⟩) (by first | exact Nat.ne_of_lt (Nat.lt_of_lt_of_le (by have := World.block_lt_of_cell? _ _ hw215_2; first | rwa [add_block] at this | exact this) GW216.out) | (rw [add_block]; exact Nat.ne_of_lt (Nat.lt_of_lt_of_le (by have := World.block_lt_of_cell? _ _ hw215_2; first | rwa [add_block] at this | exact this) GW216.out)) | (show (Addr.add _ _).block ≠ _; rw [add_block]; exact Nat.ne_of_lt (Nat.lt_of_lt_of_le (by have := World.block_lt_of_cell? _ _ hw215_2; first | rwa [add_block] at this | exact this) GW216.out)) | (dsimp only; exact Nat.ne_of_lt (Nat.lt_of_lt_of_le (by have := World.block_lt_of_cell? _ _ hw215_2; first | rwa [add_block] at this | exact this) GW216.out))) _).trans (hHeld.2.2.2.2.2.2.2.2.2))))))⟩ (fun hHeld => ?_); clear hK K
                refine one_ (i := 13) (N := none) #[true, true, true, true, true, true, true, true, true, true, true, true, true, true] rfl rfl (one_of HT_.out (by kernel_rfl)) (by decide) (fun K hK => ?_); have hs27 : w23.cell? ⟨gb217, 0, none⟩ = some (.int .i64 0) := (blk_cell BK217.out 0).trans rfl; have hfs27 := blk_frozen BK217.out 0; have hns27_0 := NB212_217.out; have hns27_1 := NB213_217.out; have hns27_2 := NB216_217.out; have hms27_0 := NB217_212.out; have hms27_1 := NB217_213.out; have hms27_2 := NB217_216.out; have hs28 : w23.cell? ⟨gb217, 1, none⟩ = some (.slice none 0 0) := (blk_cell BK217.out 1).trans rfl; have hfs28 := blk_frozen BK217.out 1; have hns28_0 := NB212_217.out; have hns28_1 := NB213_217.out; have hns28_2 := NB216_217.out; have hms28_0 := NB217_212.out; have hms28_1 := NB217_213.out; have hms28_2 := NB217_216.out; have hs29 : w23.cell? ⟨gb217, 2, none⟩ = some (.slice none 0 0) := (blk_cell BK217.out 2).trans rfl; have hfs29 := blk_frozen BK217.out 2; have hns29_0 := NB212_217.out; have hns29_1 := NB213_217.out; have hns29_2 := NB216_217.out; have hms29_0 := NB217_212.out; have hms29_1 := NB217_213.out; have hms29_2 := NB217_216.out
                refine skip_ (w1 := ?_) (by rfl) rfl ?_ ?_
                rotate_left
                · go_simp
                  rfl
                refine hK.out _ _ ⟨((cell_far (p := ⟨gb217, _, none⟩) NB212_217.out _).trans (((cell_far (p := ⟨gb217, _, none⟩) NB212_217.out _).trans (((cell_far (p := ⟨gb217, _, none⟩) NB212_217.out _).trans (hHeld.1)))))), ((cell_far (p := ⟨gb217, _, none⟩) NB212_217.out _).trans (((cell_far (p := ⟨gb217, _, none⟩) NB212_217.out _).trans (((cell_far (p := ⟨gb217, _, none⟩) NB212_217.out _).trans (hHeld.2.1)))))), ((cell_far (p := ⟨gb217, _, none⟩) NB213_217.out _).trans (((cell_far (p := ⟨gb217, _, none⟩) NB213_217.out _).trans (((cell_far (p := ⟨gb217, _, none⟩) NB213_217.out _).trans (hHeld.2.2.1)))))), ((cell_far (p := ⟨gb217, _, none⟩) NB213_217.out _).trans (((cell_far (p := ⟨gb217, _, none⟩) NB213_217.out _).trans (((cell_far (p := ⟨gb217, _, none⟩) NB213_217.out _).trans (hHeld.2.2.2.1)))))), ((cell_far (p := ⟨gb217, _, none⟩) (by first | exact Nat.ne_of_lt (Nat.lt_of_lt_of_le (by have := World.block_lt_of_cell? _ _ hw214_0; first | rwa [add_block] at this | exact this) GW217.out) | (rw [add_block]; exact Nat.ne_of_lt (Nat.lt_of_lt_of_le (by have := World.block_lt_of_cell? _ _ hw214_0; first | rwa [add_block] at this | exact this) GW217.out)) | (show (Addr.add _ _).block ≠ _; rw [add_block]; exact Nat.ne_of_lt (Nat.lt_of_lt_of_le (by have := World.block_lt_of_cell? _ _ hw214_0; first | rwa [add_block] at this | exact this) GW217.out)) | (dsimp only; exact Nat.ne_of_lt (Nat.lt_of_lt_of_le (by have := World.block_lt_of_cell? _ _ hw214_0; first | rwa [add_block] at this | exact this) GW217.out))) _).trans (((cell_far (p := ⟨gb217, _, none⟩) (by first | exact Nat.ne_of_lt (Nat.lt_of_lt_of_le (by have := World.block_lt_of_cell? _ _ hw214_0; first | rwa [add_block] at this | exact this) GW217.out) | (rw [add_block]; exact Nat.ne_of_lt (Nat.lt_of_lt_of_le (by have := World.block_lt_of_cell? _ _ hw214_0; first | rwa [add_block] at this | exact this) GW217.out)) | (show (Addr.add _ _).block ≠ _; rw [add_block]; exact Nat.ne_of_lt (Nat.lt_of_lt_of_le (by have := World.block_lt_of_cell? _ _ hw214_0; first | rwa [add_block] at this | exact this) GW217.out)) | (dsimp only; exact Nat.ne_of_lt (Nat.lt_of_lt_of_le (by have := World.block_lt_of_cell? _ _ hw214_0; first | rwa [add_block] at this | exact this) GW217.out))) _).trans (((cell_far (p := ⟨gb217, _, none⟩) (by first | exact Nat.ne_of_lt (Nat.lt_of_lt_of_le (by have := World.block_lt_of_cell? _ _ hw214_0; first | rwa [add_block] at this | exact this) GW217.out) | (rw [add_block]; exact Nat.ne_of_lt (Nat.lt_of_lt_of_le (by have := World.block_lt_of_cell? _ _ hw214_0; first | rwa [add_block] at this | exact this) GW217.out)) | (show (Addr.add _ _).block ≠ _; rw [add_block]; exact Nat.ne_of_lt (Nat.lt_of_lt_of_le (by have := World.block_lt_of_cell? _ _ hw214_0; first | rwa [add_block] at this | exact this) GW217.out)) | (dsimp only; exact Nat.ne_of_lt (Nat.lt_of_lt_of_le (by have := World.block_lt_of_cell? _ _ hw214_0; first | rwa [add_block] at this | exact this) GW217.out))) _).trans (hHeld.2.2.2.2.1)))))), ((cell_far (p := ⟨gb217, _, none⟩) (by first | exact Nat.ne_of_lt (Nat.lt_of_lt_of_le (by have := World.block_lt_of_cell? _ _ hw214_1; first | rwa [add_block] at this | exact this) GW217.out) | (rw [add_block]; exact Nat.ne_of_lt (Nat.lt_of_lt_of_le (by have := World.block_lt_of_cell? _ _ hw214_1; first | rwa [add_block] at this | exact this) GW217.out)) | (show (Addr.add _ _).block ≠ _; rw [add_block]; exact Nat.ne_of_lt (Nat.lt_of_lt_of_le (by have := World.block_lt_of_cell? _ _ hw214_1; first | rwa [add_block] at this | exact this) GW217.out)) | (dsimp only; exact Nat.ne_of_lt (Nat.lt_of_lt_of_le (by have := World.block_lt_of_cell? _ _ hw214_1; first | rwa [add_block] at this | exact this) GW217.out))) _).trans (((cell_far (p := ⟨gb217, _, none⟩) (by first | exact Nat.ne_of_lt (Nat.lt_of_lt_of_le (by have := World.block_lt_of_cell? _ _ hw214_1; first | rwa [add_block] at this | exact this) GW217.out) | (rw [add_block]; exact Nat.ne_of_lt (Nat.lt_of_lt_of_le (by have := World.block_lt_of_cell? _ _ hw214_1; first | rwa [add_block] at this | exact this) GW217.out)) | (show (Addr.add _ _).block ≠ _; rw [add_block]; exact Nat.ne_of_lt (Nat.lt_of_lt_of_le (by have := World.block_lt_of_cell? _ _ hw214_1; first | rwa [add_block] at this | exact this) GW217.out)) | (dsimp only; exact Nat.ne_of_lt (Nat.lt_of_lt_of_le (by have := World.block_lt_of_cell? _ _ hw214_1; first | rwa [add_block] at this | exact this) GW217.out))) _).trans (((cell_far (p := ⟨gb217, _, none⟩) (by first | exact Nat.ne_of_lt (Nat.lt_of_lt_of_le (by have := World.block_lt_of_cell? _ _ hw214_1; first | rwa [add_block] at this | exact this) GW217.out) | (rw [add_block]; exact Nat.ne_of_lt (Nat.lt_of_lt_of_le (by have := World.block_lt_of_cell? _ _ hw214_1; first | rwa [add_block] at this | exact this) GW217.out)) | (show (Addr.add _ _).block ≠ _; rw [add_block]; exact Nat.ne_of_lt (Nat.lt_of_lt_of_le (by have := World.block_lt_of_cell? _ _ hw214_1; first | rwa [add_block] at this | exact this) GW217.out)) | (dsimp only; exact Nat.ne_of_lt (Nat.lt_of_lt_of_le (by have := World.block_lt_of_cell? _ _ hw214_1; first | rwa [add_block] at this | exact this) GW217.out))) _).trans (hHeld.2.2.2.2.2.1)))))), ((cell_far (p := ⟨gb217, _, none⟩) (by first | exact Nat.ne_of_lt (Nat.lt_of_lt_of_le (by have := World.block_lt_of_cell? _ _ hw214_2; first | rwa [add_block] at this | exact this) GW217.out) | (rw [add_block]; exact Nat.ne_of_lt (Nat.lt_of_lt_of_le (by have := World.block_lt_of_cell? _ _ hw214_2; first | rwa [add_block] at this | exact this) GW217.out)) | (show (Addr.add _ _).block ≠ _; rw [add_block]; exact Nat.ne_of_lt (Nat.lt_of_lt_of_le (by have := World.block_lt_of_cell? _ _ hw214_2; first | rwa [add_block] at this | exact this) GW217.out)) | (dsimp only; exact Nat.ne_of_lt (Nat.lt_of_lt_of_le (by have := World.block_lt_of_cell? _ _ hw214_2; first | rwa [add_block] at this | exact this) GW217.out))) _).trans (((cell_far (p := ⟨gb217, _, none⟩) (by first | exact Nat.ne_of_lt (Nat.lt_of_lt_of_le (by have := World.block_lt_of_cell? _ _ hw214_2; first | rwa [add_block] at this | exact this) GW217.out) | (rw [add_block]; exact Nat.ne_of_lt (Nat.lt_of_lt_of_le (by have := World.block_lt_of_cell? _ _ hw214_2; first | rwa [add_block] at this | exact this) GW217.out)) | (show (Addr.add _ _).block ≠ _; rw [add_block]; exact Nat.ne_of_lt (Nat.lt_of_lt_of_le (by have := World.block_lt_of_cell? _ _ hw214_2; first | rwa [add_block] at this | exact this) GW217.out)) | (dsimp only; exact Nat.ne_of_lt (Nat.lt_of_lt_of_le (by have := World.block_lt_of_cell? _ _ hw214_2; first | rwa [add_block] at this | exact this) GW217.out))) _).trans (((cell_far (p := ⟨gb217, _, none⟩) (by first | exact Nat.ne_of_lt (Nat.lt_of_lt_of_le (by have := World.block_lt_of_cell? _ _ hw214_2; first | rwa [add_block] at this | exact this) GW217.out) | (rw [add_block]; exact Nat.ne_of_lt (Nat.lt_of_lt_of_le (by have := World.block_lt_of_cell? _ _ hw214_2; first | rwa [add_block] at this | exact this) GW217.out)) | (show (Addr.add _ _).block ≠ _; rw [add_block]; exact Nat.ne_of_lt (Nat.lt_of_lt_of_le (by have := World.block_lt_of_cell? _ _ hw214_2; first | rwa [add_block] at this | exact this) GW217.out)) | (dsimp only; exact Nat.ne_of_lt (Nat.lt_of_lt_of_le (by have := World.block_lt_of_cell? _ _ hw214_2; first | rwa [add_block] at this | exact this) GW217.out))) _).trans (hHeld.2.2.2.2.2.2.1)))))), ((cell_far (p := ⟨gb217, _, none⟩) (by first | exact Nat.ne_of_lt (Nat.lt_of_lt_of_le (by have := World.block_lt_of_cell? _ _ hw215_0; first | rwa [add_block] at this | exact this) GW217.out) | (rw [add_block]; exact Nat.ne_of_lt (Nat.lt_of_lt_of_le (by have := World.block_lt_of_cell? _ _ hw215_0; first | rwa [add_block] at this | exact this) GW217.out)) | (show (Addr.add _ _).block ≠ _; rw [add_block]; exact Nat.ne_of_lt (Nat.lt_of_lt_of_le (by have := World.block_lt_of_cell? _ _ hw215_0; first | rwa [add_block] at this | exact this) GW217.out)) | (dsimp only; exact Nat.ne_of_lt (Nat.lt_of_lt_of_le (by have := World.block_lt_of_cell? _ _ hw215_0; first | rwa [add_block] at this | exact this) GW217.out))) _).trans (((cell_far (p := ⟨gb217, _, none⟩) (by first | exact Nat.ne_of_lt (Nat.lt_of_lt_of_le (by have := World.block_lt_of_cell? _ _ hw215_0; first | rwa [add_block] at this | exact this) GW217.out) | (rw [add_block]; exact Nat.ne_of_lt (Nat.lt_of_lt_of_le (by have := World.block_lt_of_cell? _ _ hw215_0; first | rwa [add_block] at this | exact this) GW217.out)) | (show (Addr.add _ _).block ≠ _; rw [add_block]; exact Nat.ne_of_lt (Nat.lt_of_lt_of_le (by have := World.block_lt_of_cell? _ _ hw215_0; first | rwa [add_block] at this | exact this) GW217.out)) | (dsimp only; exact Nat.ne_of_lt (Nat.lt_of_lt_of_le (by have := World.block_lt_of_cell? _ _ hw215_0; first | rwa [add_block] at this | exact this) GW217.out))) _).trans (((cell_far (p := ⟨gb217, _, none⟩) (by first | exact Nat.ne_of_lt (Nat.lt_of_lt_of_le (by have := World.block_lt_of_cell? _ _ hw215_0; first | rwa [add_block] at this | exact this) GW217.out) | (rw [add_block]; exact Nat.ne_of_lt (Nat.lt_of_lt_of_le (by have := World.block_lt_of_cell? _ _ hw215_0; first | rwa [add_block] at this | exact this) GW217.out)) | (show (Addr.add _ _).block ≠ _; rw [add_block]; exact Nat.ne_of_lt (Nat.lt_of_lt_of_le (by have := World.block_lt_of_cell? _ _ hw215_0; first | rwa [add_block] at this | exact this) GW217.out)) | (dsimp only; exact Nat.ne_of_lt (Nat.lt_of_lt_of_le (by have := World.block_lt_of_cell? _ _ hw215_0; first | rwa [add_block] at this | exact this) GW217.out))) _).trans (hHeld.2.2.2.2.2.2.2.1)))))), ((cell_far (p := ⟨gb217, _, none⟩) (by first | exact Nat.ne_of_lt (Nat.lt_of_lt_of_le (by have := World.block_lt_of_cell? _ _ hw215_1; first | rwa [add_block] at this | exact this) GW217.out) | (rw [add_block]; exact Nat.ne_of_lt (Nat.lt_of_lt_of_le (by have := World.block_lt_of_cell? _ _ hw215_1; first | rwa [add_block] at this | exact this) GW217.out)) | (show (Addr.add _ _).block ≠ _; rw [add_block]; exact Nat.ne_of_lt (Nat.lt_of_lt_of_le (by have := World.block_lt_of_cell? _ _ hw215_1; first | rwa [add_block] at this | exact this) GW217.out)) | (dsimp only; exact Nat.ne_of_lt (Nat.lt_of_lt_of_le (by have := World.block_lt_of_cell? _ _ hw215_1; first | rwa [add_block] at this | exact this) GW217.out))) _).trans (((cell_far (p := ⟨gb217, _, none⟩) (by first | exact Nat.ne_of_lt (Nat.lt_of_lt_of_le (by have := World.block_lt_of_cell? _ _ hw215_1; first | rwa [add_block] at this | exact this) GW217.out) | (rw [add_block]; exact Nat.ne_of_lt (Nat.lt_of_lt_of_le (by have := World.block_lt_of_cell? _ _ hw215_1; first | rwa [add_block] at this | exact this) GW217.out)) | (show (Addr.add _ _).block ≠ _; rw [add_block]; exact Nat.ne_of_lt (Nat.lt_of_lt_of_le (by have := World.block_lt_of_cell? _ _ hw215_1; first | rwa [add_block] at this | exact this) GW217.out)) | (dsimp only; exact Nat.ne_of_lt (Nat.lt_of_lt_of_le (by have := World.block_lt_of_cell? _ _ hw215_1; first | rwa [add_block] at this | exact this) GW217.out))) _).trans (((cell_far (p := ⟨gb217, _, none⟩) (by first | exact Nat.ne_of_lt (Nat.lt_of_lt_of_le (by have := World.block_lt_of_cell? _ _ hw215_1; first | rwa [add_block] at this | exact this) GW217.out) | (rw [add_block]; exact Nat.ne_of_lt (Nat.lt_of_lt_of_le (by have := World.block_lt_of_cell? _ _ hw215_1; first | rwa [add_block] at this | exact this) GW217.out)) | (show (Addr.add _ _).block ≠ _; rw [add_block]; exact Nat.ne_of_lt (Nat.lt_of_lt_of_le (by have := World.block_lt_of_cell? _ _ hw215_1; first | rwa [add_block] at this | exact this) GW217.out)) | (dsimp only; exact Nat.ne_of_lt (Nat.lt_of_lt_of_le (by have := World.block_lt_of_cell? _ _ hw215_1; first | rwa [add_block] at this | exact this) GW217.out))) _).trans (hHeld.2.2.2.2.2.2.2.2.1)))))), ((cell_far (p := ⟨gb217, _, none⟩) (by first | exact Nat.ne_of_lt (Nat.lt_of_lt_of_le (by have := World.block_lt_of_cell? _ _ hw215_2; first | rwa [add_block] at this | exact this) GW217.out) | (rw [add_block]; exact Nat.ne_of_lt (Nat.lt_of_lt_of_le (by have := World.block_lt_of_cell? _ _ hw215_2; first | rwa [add_block] at this | exact this) GW217.out)) | (show (Addr.add _ _).block ≠ _; rw [add_block]; exact Nat.ne_of_lt (Nat.lt_of_lt_of_le (by have := World.block_lt_of_cell? _ _ hw215_2; first | rwa [add_block] at this | exact this) GW217.out)) | (dsimp only; exact Nat.ne_of_lt (Nat.lt_of_lt_of_le (by have := World.block_lt_of_cell? _ _ hw215_2; first | rwa [add_block] at this | exact this) GW217.out))) _).trans (((cell_far (p := ⟨gb217, _, none⟩) (by first | exact Nat.ne_of_lt (Nat.lt_of_lt_of_le (by have := World.block_lt_of_cell? _ _ hw215_2; first | rwa [add_block] at this | exact this) GW217.out) | (rw [add_block]; exact Nat.ne_of_lt (Nat.lt_of_lt_of_le (by have := World.block_lt_of_cell? _ _ hw215_2; first | rwa [add_block] at this | exact this) GW217.out)) | (show (Addr.add _ _).block ≠ _; rw [add_block]; exact Nat.ne_of_lt (Nat.lt_of_lt_of_le (by have := World.block_lt_of_cell? _ _ hw215_2; first | rwa [add_block] at this | exact this) GW217.out)) | (dsimp only; exact Nat.ne_of_lt (Nat.lt_of_lt_of_le (by have := World.block_lt_of_cell? _ _ hw215_2; first | rwa [add_block] at this | exact this) GW217.out))) _).trans (((cell_far (p := ⟨gb217, _, none⟩) (by first | exact Nat.ne_of_lt (Nat.lt_of_lt_of_le (by have := World.block_lt_of_cell? _ _ hw215_2; first | rwa [add_block] at this | exact this) GW217.out) | (rw [add_block]; exact Nat.ne_of_lt (Nat.lt_of_lt_of_le (by have := World.block_lt_of_cell? _ _ hw215_2; first | rwa [add_block] at this | exact this) GW217.out)) | (show (Addr.add _ _).block ≠ _; rw [add_block]; exact Nat.ne_of_lt (Nat.lt_of_lt_of_le (by have := World.block_lt_of_cell? _ _ hw215_2; first | rwa [add_block] at this | exact this) GW217.out)) | (dsimp only; exact Nat.ne_of_lt (Nat.lt_of_lt_of_le (by have := World.block_lt_of_cell? _ _ hw215_2; first | rwa [add_block] at this | exact this) GW217.out))) _).trans (hHeld.2.2.2.2.2.2.2.2.2))))))⟩ (fun hHeld => ?_); clear hK K
                refine done_ (done_of HT_.out (by kernel_rfl)) ?_
                go_upto_region 7 with (fail)
                go_cut [59] (fun v59 wc => ∃ (kq : Nat) (x59_16 : Bool), v59 = .bool x59_16 ∧ Aside0 (codewrightref30_Same.j2 kq x5_2 x59_16 a0_0 l0_1 a1_0 l1_1 = some r) ∧ Aside0 (kq ≤ k2) ∧ Aside0 (wc.heap[gb212]? = some (.cells #[.int .i64 a0_0, (.slice (some ad214) l0_1.length c0_1)] 46 (0, 0))) ∧ Aside0 (wc.heap[gb213]? = some (.cells #[.int .i64 a1_0, (.slice (some ad215) l1_1.length c1_1)] 46 (0, 0))) ∧ Aside0 (wc.heap[gb216]? = some (.cells #[.int .i64 ((rd_T74 l0_1 x5_2).f0), (.slice A214_1 ((rd_T74 l0_1 x5_2).f1).length c214_1), (.slice A214_2 ((rd_T74 l0_1 x5_2).f2).length c214_2)] 74 (0, 0))) ∧ Aside0 (wc.heap[gb217]? = some (.cells #[.int .i64 ((rd_T74 l1_1 x5_2).f0), (.slice A215_1 ((rd_T74 l1_1 x5_2).f1).length c215_1), (.slice A215_2 ((rd_T74 l1_1 x5_2).f2).length c215_2)] 74 (0, 0))) ∧ Aside0 (Below w.heap.size w wc))
                case first =>
                  have H := HC17.out; clear HC17
                  by_cases c30 : ((rd_T74 l0_1 x5_2).f0) = ((rd_T74 l1_1 x5_2).f0)
                  · rw [if_pos c30] at H; have c30b0 : (((rd_T74 l0_1 x5_2).f0) == ((rd_T74 l1_1 x5_2).f0)) = true := beq_iff_eq.mpr c30; have c30b1 : (((rd_T74 l0_1 x5_2).f0) != ((rd_T74 l1_1 x5_2).f0)) = false := bne_eq_false_iff_eq.mpr c30; clear c30
                    (first | rw [c30b0] | (simp only [i64_w, i32_w]; rw [c30b0]) | skip)
                    replace H := Option.bind_eq_some_iff.mp H; obtain ⟨t218, A310, H⟩ := H; replace H : (if t218 = true then ((codewrightref09_SameRows.f k2 ((rd_T74 l0_1 x5_2).f2) ((rd_T74 l1_1 x5_2).f2)).bind fun t219 => (codewrightref30_Same.j2 k2 x5_2 (!t219) a0_0 l0_1 a1_0 l1_1)) else (codewrightref30_Same.j2 k2 x5_2 true a0_0 l0_1 a1_0 l1_1)) = some r := H; have A31 := Aside0.mk A310; clear A310
                    by_cases c32 : t218 = true
                    · subst c32; have H1 : ((codewrightref09_SameRows.f k2 ((rd_T74 l0_1 x5_2).f2) ((rd_T74 l1_1 x5_2).f2)).bind fun t219 => (codewrightref30_Same.j2 k2 x5_2 (!t219) a0_0 l0_1 a1_0 l1_1)) = some r := by rw [if_pos rfl] at H; exact H
                      clear H; have H := H1; clear H1; replace H := Option.bind_eq_some_iff.mp H; obtain ⟨t219, A330, H⟩ := H; replace H : (codewrightref30_Same.j2 k2 x5_2 (!t219) a0_0 l0_1 a1_0 l1_1) = some r := H; have A33 := Aside0.mk A330; clear A330; have H' := Aside0.mk H; clear H; have hnb34 := NB216_212.out; have hnc34 := NB212_216.out; have hnb35 := NB216_213.out; have hnc35 := NB213_216.out; have hnb36 := NB216_217.out; have hnc36 := NB217_216.out; have hcz37_0 : w23.cell? ⟨gb216, 0, none⟩ = some (.int .i64 0) := (blk_cell BK216.out 0).trans rfl; have hcz37_1 : w23.cell? ⟨gb216, 1, none⟩ = some (.slice none 0 0) := (blk_cell BK216.out 1).trans rfl; have hcz37_2 : w23.cell? ⟨gb216, 2, none⟩ = some (.slice none 0 0) := (blk_cell BK216.out 2).trans rfl; have hfz37_0 := blk_frozen BK216.out 0; have hfz37_1 := blk_frozen BK216.out 1; have hfz37_2 := blk_frozen BK216.out 2; have hnb38 := NB217_212.out; have hnc38 := NB212_217.out; have hnb39 := NB217_213.out; have hnc39 := NB213_217.out; have hcz40_0 : w23.cell? ⟨gb217, 0, none⟩ = some (.int .i64 0) := (blk_cell BK217.out 0).trans rfl; have hcz40_1 : w23.cell? ⟨gb217, 1, none⟩ = some (.slice none 0 0) := (blk_cell BK217.out 1).trans rfl; have hcz40_2 : w23.cell? ⟨gb217, 2, none⟩ = some (.slice none 0 0) := (blk_cell BK217.out 2).trans rfl; have hfz40_0 := blk_frozen BK217.out 0; have hfz40_1 := blk_frozen BK217.out 1; have hfz40_2 := blk_frozen BK217.out 2
                      go_wp2_with (first | (go_at_call 15; (with_reducible refine (codewrightref09_SameInts.calls k2 _ _ ((rd_T74 l0_1 x5_2).f1) _ _ ((rd_T74 l1_1 x5_2).f1) true _ ?side1 ?side2 ?side3 ?side4 A31.out).mono ?_); (case side1 => exact Kd.C_below HR214_1.out zz27); (case side2 => exact HC214_1.out); (case side3 => exact Kd.C_below HR215_1.out zz27); (case side4 => exact HC215_1.out); rintro e w' ⟨rfl, ⟨nd, rfl⟩⟩) | (go_at_call 24; (with_reducible refine (codewrightref09_SameRows.calls k2 _ _ ((rd_T74 l0_1 x5_2).f2) _ _ ((rd_T74 l1_1 x5_2).f2) t219 _ ?side1 ?side2 ?side3 ?side4 A33.out).mono ?_); (case side1 => exact Kd.C_below HR214_2.out zz27); (case side2 => exact HC214_2.out); (case side3 => exact Kd.C_below HR215_2.out zz27); (case side4 => exact HC215_2.out); rintro e w' ⟨rfl, ⟨nd, rfl⟩⟩))
                      go_meet
                      case rel => exact ⟨_, (!t219), zz67, H', ⟨by have := HJ2.out; have := HK2.out; first | omega | exact Nat.le_refl _⟩, ⟨by (with_reducible repeat (first | refine blk_drewN ?_ _ | refine blk_drew ?_ | refine blk_alloc ?_ _)); refine blk_far ?_ NB212_217.out _; (with_reducible repeat (first | refine blk_drewN ?_ _ | refine blk_drew ?_ | refine blk_alloc ?_ _)); refine blk_far ?_ NB212_217.out _; (with_reducible repeat (first | refine blk_drewN ?_ _ | refine blk_drew ?_ | refine blk_alloc ?_ _)); refine blk_far ?_ NB212_217.out _; (with_reducible repeat (first | refine blk_drewN ?_ _ | refine blk_drew ?_ | refine blk_alloc ?_ _)); refine blk_far ?_ NB212_216.out _; (with_reducible repeat (first | refine blk_drewN ?_ _ | refine blk_drew ?_ | refine blk_alloc ?_ _)); refine blk_far ?_ NB212_216.out _; (with_reducible repeat (first | refine blk_drewN ?_ _ | refine blk_drew ?_ | refine blk_alloc ?_ _)); refine blk_far ?_ NB212_216.out _; (with_reducible repeat (first | refine blk_drewN ?_ _ | refine blk_drew ?_ | refine blk_alloc ?_ _)); exact BK212.out⟩, ⟨by (with_reducible repeat (first | refine blk_drewN ?_ _ | refine blk_drew ?_ | refine blk_alloc ?_ _)); refine blk_far ?_ NB213_217.out _; (with_reducible repeat (first | refine blk_drewN ?_ _ | refine blk_drew ?_ | refine blk_alloc ?_ _)); refine blk_far ?_ NB213_217.out _; (with_reducible repeat (first | refine blk_drewN ?_ _ | refine blk_drew ?_ | refine blk_alloc ?_ _)); refine blk_far ?_ NB213_217.out _; (with_reducible repeat (first | refine blk_drewN ?_ _ | refine blk_drew ?_ | refine blk_alloc ?_ _)); refine blk_far ?_ NB213_216.out _; (with_reducible repeat (first | refine blk_drewN ?_ _ | refine blk_drew ?_ | refine blk_alloc ?_ _)); refine blk_far ?_ NB213_216.out _; (with_reducible repeat (first | refine blk_drewN ?_ _ | refine blk_drew ?_ | refine blk_alloc ?_ _)); refine blk_far ?_ NB213_216.out _; (with_reducible repeat (first | refine blk_drewN ?_ _ | refine blk_drew ?_ | refine blk_alloc ?_ _)); exact BK213.out⟩, ⟨by (with_reducible repeat (first | refine blk_drewN ?_ _ | refine blk_drew ?_ | refine blk_alloc ?_ _)); refine blk_far ?_ NB216_217.out _; (with_reducible repeat (first | refine blk_drewN ?_ _ | refine blk_drew ?_ | refine blk_alloc ?_ _)); refine blk_far ?_ NB216_217.out _; (with_reducible repeat (first | refine blk_drewN ?_ _ | refine blk_drew ?_ | refine blk_alloc ?_ _)); refine blk_far ?_ NB216_217.out _; (with_reducible repeat (first | refine blk_drewN ?_ _ | refine blk_drew ?_ | refine blk_alloc ?_ _)); refine blk_put (cs := #[.int .i64 ((rd_T74 l0_1 x5_2).f0), .slice A214_1 ((rd_T74 l0_1 x5_2).f1).length c214_1, .slice none 0 0]) ?_ 2 _ rfl; (with_reducible repeat (first | refine blk_drewN ?_ _ | refine blk_drew ?_ | refine blk_alloc ?_ _)); refine blk_put (cs := #[.int .i64 ((rd_T74 l0_1 x5_2).f0), .slice none 0 0, .slice none 0 0]) ?_ 1 _ rfl; (with_reducible repeat (first | refine blk_drewN ?_ _ | refine blk_drew ?_ | refine blk_alloc ?_ _)); refine blk_put (cs := #[.int .i64 0, .slice none 0 0, .slice none 0 0]) ?_ 0 _ rfl; (with_reducible repeat (first | refine blk_drewN ?_ _ | refine blk_drew ?_ | refine blk_alloc ?_ _)); exact BK216.out⟩, ⟨by (with_reducible repeat (first | refine blk_drewN ?_ _ | refine blk_drew ?_ | refine blk_alloc ?_ _)); refine blk_put (cs := #[.int .i64 ((rd_T74 l1_1 x5_2).f0), .slice A215_1 ((rd_T74 l1_1 x5_2).f1).length c215_1, .slice none 0 0]) ?_ 2 _ rfl; (with_reducible repeat (first | refine blk_drewN ?_ _ | refine blk_drew ?_ | refine blk_alloc ?_ _)); refine blk_put (cs := #[.int .i64 ((rd_T74 l1_1 x5_2).f0), .slice none 0 0, .slice none 0 0]) ?_ 1 _ rfl; (with_reducible repeat (first | refine blk_drewN ?_ _ | refine blk_drew ?_ | refine blk_alloc ?_ _)); refine blk_put (cs := #[.int .i64 0, .slice none 0 0, .slice none 0 0]) ?_ 0 _ rfl; (with_reducible repeat (first | refine blk_drewN ?_ _ | refine blk_drew ?_ | refine blk_alloc ?_ _)); refine blk_far ?_ NB217_216.out _; (with_reducible repeat (first | refine blk_drewN ?_ _ | refine blk_drew ?_ | refine blk_alloc ?_ _)); refine blk_far ?_ NB217_216.out _; (with_reducible repeat (first | refine blk_drewN ?_ _ | refine blk_drew ?_ | refine blk_alloc ?_ _)); refine blk_far ?_ NB217_216.out _; (with_reducible repeat (first | refine blk_drewN ?_ _ | refine blk_drew ?_ | refine blk_alloc ?_ _)); exact BK217.out⟩, ⟨by repeat (first | (with_reducible first | exact HB.out | apply below_alloc | apply pw_below_drewN | apply below_drew1 | refine below_set ?_ GE212.out | refine below_set ?_ GE213.out | refine below_set ?_ GE216.out | refine below_set ?_ GE217.out) | exact HB.out)⟩⟩
                    replace c32 := Bool.eq_false_iff.mpr c32; subst c32; have H1 : (codewrightref30_Same.j2 k2 x5_2 true a0_0 l0_1 a1_0 l1_1) = some r := by rw [if_neg (show ¬ (false = true) by decide)] at H; exact H
                    clear H; have H := H1; clear H1; have H' := Aside0.mk H; clear H; have hnb41 := NB216_212.out; have hnc41 := NB212_216.out; have hnb42 := NB216_213.out; have hnc42 := NB213_216.out; have hnb43 := NB216_217.out; have hnc43 := NB217_216.out; have hcz44_0 : w23.cell? ⟨gb216, 0, none⟩ = some (.int .i64 0) := (blk_cell BK216.out 0).trans rfl; have hcz44_1 : w23.cell? ⟨gb216, 1, none⟩ = some (.slice none 0 0) := (blk_cell BK216.out 1).trans rfl; have hcz44_2 : w23.cell? ⟨gb216, 2, none⟩ = some (.slice none 0 0) := (blk_cell BK216.out 2).trans rfl; have hfz44_0 := blk_frozen BK216.out 0; have hfz44_1 := blk_frozen BK216.out 1; have hfz44_2 := blk_frozen BK216.out 2; have hnb45 := NB217_212.out; have hnc45 := NB212_217.out; have hnb46 := NB217_213.out; have hnc46 := NB213_217.out; have hcz47_0 : w23.cell? ⟨gb217, 0, none⟩ = some (.int .i64 0) := (blk_cell BK217.out 0).trans rfl; have hcz47_1 : w23.cell? ⟨gb217, 1, none⟩ = some (.slice none 0 0) := (blk_cell BK217.out 1).trans rfl; have hcz47_2 : w23.cell? ⟨gb217, 2, none⟩ = some (.slice none 0 0) := (blk_cell BK217.out 2).trans rfl; have hfz47_0 := blk_frozen BK217.out 0; have hfz47_1 := blk_frozen BK217.out 1; have hfz47_2 := blk_frozen BK217.out 2
                    go_wp2_with (first | (go_at_call 15; (with_reducible refine (codewrightref09_SameInts.calls k2 _ _ ((rd_T74 l0_1 x5_2).f1) _ _ ((rd_T74 l1_1 x5_2).f1) false _ ?side1 ?side2 ?side3 ?side4 A31.out).mono ?_); (case side1 => exact Kd.C_below HR214_1.out zz27); (case side2 => exact HC214_1.out); (case side3 => exact Kd.C_below HR215_1.out zz27); (case side4 => exact HC215_1.out); rintro e w' ⟨rfl, ⟨nd, rfl⟩⟩))
                    go_meet
                    case rel => exact ⟨_, (true), zz67, H', ⟨by have := HJ2.out; have := HK2.out; first | omega | exact Nat.le_refl _⟩, ⟨by (with_reducible repeat (first | refine blk_drewN ?_ _ | refine blk_drew ?_ | refine blk_alloc ?_ _)); refine blk_far ?_ NB212_217.out _; (with_reducible repeat (first | refine blk_drewN ?_ _ | refine blk_drew ?_ | refine blk_alloc ?_ _)); refine blk_far ?_ NB212_217.out _; (with_reducible repeat (first | refine blk_drewN ?_ _ | refine blk_drew ?_ | refine blk_alloc ?_ _)); refine blk_far ?_ NB212_217.out _; (with_reducible repeat (first | refine blk_drewN ?_ _ | refine blk_drew ?_ | refine blk_alloc ?_ _)); refine blk_far ?_ NB212_216.out _; (with_reducible repeat (first | refine blk_drewN ?_ _ | refine blk_drew ?_ | refine blk_alloc ?_ _)); refine blk_far ?_ NB212_216.out _; (with_reducible repeat (first | refine blk_drewN ?_ _ | refine blk_drew ?_ | refine blk_alloc ?_ _)); refine blk_far ?_ NB212_216.out _; (with_reducible repeat (first | refine blk_drewN ?_ _ | refine blk_drew ?_ | refine blk_alloc ?_ _)); exact BK212.out⟩, ⟨by (with_reducible repeat (first | refine blk_drewN ?_ _ | refine blk_drew ?_ | refine blk_alloc ?_ _)); refine blk_far ?_ NB213_217.out _; (with_reducible repeat (first | refine blk_drewN ?_ _ | refine blk_drew ?_ | refine blk_alloc ?_ _)); refine blk_far ?_ NB213_217.out _; (with_reducible repeat (first | refine blk_drewN ?_ _ | refine blk_drew ?_ | refine blk_alloc ?_ _)); refine blk_far ?_ NB213_217.out _; (with_reducible repeat (first | refine blk_drewN ?_ _ | refine blk_drew ?_ | refine blk_alloc ?_ _)); refine blk_far ?_ NB213_216.out _; (with_reducible repeat (first | refine blk_drewN ?_ _ | refine blk_drew ?_ | refine blk_alloc ?_ _)); refine blk_far ?_ NB213_216.out _; (with_reducible repeat (first | refine blk_drewN ?_ _ | refine blk_drew ?_ | refine blk_alloc ?_ _)); refine blk_far ?_ NB213_216.out _; (with_reducible repeat (first | refine blk_drewN ?_ _ | refine blk_drew ?_ | refine blk_alloc ?_ _)); exact BK213.out⟩, ⟨by (with_reducible repeat (first | refine blk_drewN ?_ _ | refine blk_drew ?_ | refine blk_alloc ?_ _)); refine blk_far ?_ NB216_217.out _; (with_reducible repeat (first | refine blk_drewN ?_ _ | refine blk_drew ?_ | refine blk_alloc ?_ _)); refine blk_far ?_ NB216_217.out _; (with_reducible repeat (first | refine blk_drewN ?_ _ | refine blk_drew ?_ | refine blk_alloc ?_ _)); refine blk_far ?_ NB216_217.out _; (with_reducible repeat (first | refine blk_drewN ?_ _ | refine blk_drew ?_ | refine blk_alloc ?_ _)); refine blk_put (cs := #[.int .i64 ((rd_T74 l0_1 x5_2).f0), .slice A214_1 ((rd_T74 l0_1 x5_2).f1).length c214_1, .slice none 0 0]) ?_ 2 _ rfl; (with_reducible repeat (first | refine blk_drewN ?_ _ | refine blk_drew ?_ | refine blk_alloc ?_ _)); refine blk_put (cs := #[.int .i64 ((rd_T74 l0_1 x5_2).f0), .slice none 0 0, .slice none 0 0]) ?_ 1 _ rfl; (with_reducible repeat (first | refine blk_drewN ?_ _ | refine blk_drew ?_ | refine blk_alloc ?_ _)); refine blk_put (cs := #[.int .i64 0, .slice none 0 0, .slice none 0 0]) ?_ 0 _ rfl; (with_reducible repeat (first | refine blk_drewN ?_ _ | refine blk_drew ?_ | refine blk_alloc ?_ _)); exact BK216.out⟩, ⟨by (with_reducible repeat (first | refine blk_drewN ?_ _ | refine blk_drew ?_ | refine blk_alloc ?_ _)); refine blk_put (cs := #[.int .i64 ((rd_T74 l1_1 x5_2).f0), .slice A215_1 ((rd_T74 l1_1 x5_2).f1).length c215_1, .slice none 0 0]) ?_ 2 _ rfl; (with_reducible repeat (first | refine blk_drewN ?_ _ | refine blk_drew ?_ | refine blk_alloc ?_ _)); refine blk_put (cs := #[.int .i64 ((rd_T74 l1_1 x5_2).f0), .slice none 0 0, .slice none 0 0]) ?_ 1 _ rfl; (with_reducible repeat (first | refine blk_drewN ?_ _ | refine blk_drew ?_ | refine blk_alloc ?_ _)); refine blk_put (cs := #[.int .i64 0, .slice none 0 0, .slice none 0 0]) ?_ 0 _ rfl; (with_reducible repeat (first | refine blk_drewN ?_ _ | refine blk_drew ?_ | refine blk_alloc ?_ _)); refine blk_far ?_ NB217_216.out _; (with_reducible repeat (first | refine blk_drewN ?_ _ | refine blk_drew ?_ | refine blk_alloc ?_ _)); refine blk_far ?_ NB217_216.out _; (with_reducible repeat (first | refine blk_drewN ?_ _ | refine blk_drew ?_ | refine blk_alloc ?_ _)); refine blk_far ?_ NB217_216.out _; (with_reducible repeat (first | refine blk_drewN ?_ _ | refine blk_drew ?_ | refine blk_alloc ?_ _)); exact BK217.out⟩, ⟨by repeat (first | (with_reducible first | exact HB.out | apply below_alloc | apply pw_below_drewN | apply below_drew1 | refine below_set ?_ GE212.out | refine below_set ?_ GE213.out | refine below_set ?_ GE216.out | refine below_set ?_ GE217.out) | exact HB.out)⟩⟩
                  rw [if_neg c30] at H; have c30b0 : (((rd_T74 l0_1 x5_2).f0) == ((rd_T74 l1_1 x5_2).f0)) = false := beq_eq_false_iff_ne.mpr c30; have c30b1 : (((rd_T74 l0_1 x5_2).f0) != ((rd_T74 l1_1 x5_2).f0)) = true := bne_iff_ne.mpr c30
                  (first | rw [c30b0] | (simp only [i64_w, i32_w]; rw [c30b0]) | skip)
                  have H' := Aside0.mk H; clear H; have hnb48 := NB216_212.out; have hnc48 := NB212_216.out; have hnb49 := NB216_213.out; have hnc49 := NB213_216.out; have hnb50 := NB216_217.out; have hnc50 := NB217_216.out; have hcz51_0 : w23.cell? ⟨gb216, 0, none⟩ = some (.int .i64 0) := (blk_cell BK216.out 0).trans rfl; have hcz51_1 : w23.cell? ⟨gb216, 1, none⟩ = some (.slice none 0 0) := (blk_cell BK216.out 1).trans rfl; have hcz51_2 : w23.cell? ⟨gb216, 2, none⟩ = some (.slice none 0 0) := (blk_cell BK216.out 2).trans rfl; have hfz51_0 := blk_frozen BK216.out 0; have hfz51_1 := blk_frozen BK216.out 1; have hfz51_2 := blk_frozen BK216.out 2; have hnb52 := NB217_212.out; have hnc52 := NB212_217.out; have hnb53 := NB217_213.out; have hnc53 := NB213_217.out; have hcz54_0 : w23.cell? ⟨gb217, 0, none⟩ = some (.int .i64 0) := (blk_cell BK217.out 0).trans rfl; have hcz54_1 : w23.cell? ⟨gb217, 1, none⟩ = some (.slice none 0 0) := (blk_cell BK217.out 1).trans rfl; have hcz54_2 : w23.cell? ⟨gb217, 2, none⟩ = some (.slice none 0 0) := (blk_cell BK217.out 2).trans rfl; have hfz54_0 := blk_frozen BK217.out 0; have hfz54_1 := blk_frozen BK217.out 1; have hfz54_2 := blk_frozen BK217.out 2; go_wp2; go_meet
                  case rel => exact ⟨_, (true), zz67, H', ⟨by have := HJ2.out; have := HK2.out; first | omega | exact Nat.le_refl _⟩, ⟨by (with_reducible repeat (first | refine blk_drewN ?_ _ | refine blk_drew ?_ | refine blk_alloc ?_ _)); refine blk_far ?_ NB212_217.out _; (with_reducible repeat (first | refine blk_drewN ?_ _ | refine blk_drew ?_ | refine blk_alloc ?_ _)); refine blk_far ?_ NB212_217.out _; (with_reducible repeat (first | refine blk_drewN ?_ _ | refine blk_drew ?_ | refine blk_alloc ?_ _)); refine blk_far ?_ NB212_217.out _; (with_reducible repeat (first | refine blk_drewN ?_ _ | refine blk_drew ?_ | refine blk_alloc ?_ _)); refine blk_far ?_ NB212_216.out _; (with_reducible repeat (first | refine blk_drewN ?_ _ | refine blk_drew ?_ | refine blk_alloc ?_ _)); refine blk_far ?_ NB212_216.out _; (with_reducible repeat (first | refine blk_drewN ?_ _ | refine blk_drew ?_ | refine blk_alloc ?_ _)); refine blk_far ?_ NB212_216.out _; (with_reducible repeat (first | refine blk_drewN ?_ _ | refine blk_drew ?_ | refine blk_alloc ?_ _)); exact BK212.out⟩, ⟨by (with_reducible repeat (first | refine blk_drewN ?_ _ | refine blk_drew ?_ | refine blk_alloc ?_ _)); refine blk_far ?_ NB213_217.out _; (with_reducible repeat (first | refine blk_drewN ?_ _ | refine blk_drew ?_ | refine blk_alloc ?_ _)); refine blk_far ?_ NB213_217.out _; (with_reducible repeat (first | refine blk_drewN ?_ _ | refine blk_drew ?_ | refine blk_alloc ?_ _)); refine blk_far ?_ NB213_217.out _; (with_reducible repeat (first | refine blk_drewN ?_ _ | refine blk_drew ?_ | refine blk_alloc ?_ _)); refine blk_far ?_ NB213_216.out _; (with_reducible repeat (first | refine blk_drewN ?_ _ | refine blk_drew ?_ | refine blk_alloc ?_ _)); refine blk_far ?_ NB213_216.out _; (with_reducible repeat (first | refine blk_drewN ?_ _ | refine blk_drew ?_ | refine blk_alloc ?_ _)); refine blk_far ?_ NB213_216.out _; (with_reducible repeat (first | refine blk_drewN ?_ _ | refine blk_drew ?_ | refine blk_alloc ?_ _)); exact BK213.out⟩, ⟨by (with_reducible repeat (first | refine blk_drewN ?_ _ | refine blk_drew ?_ | refine blk_alloc ?_ _)); refine blk_far ?_ NB216_217.out _; (with_reducible repeat (first | refine blk_drewN ?_ _ | refine blk_drew ?_ | refine blk_alloc ?_ _)); refine blk_far ?_ NB216_217.out _; (with_reducible repeat (first | refine blk_drewN ?_ _ | refine blk_drew ?_ | refine blk_alloc ?_ _)); refine blk_far ?_ NB216_217.out _; (with_reducible repeat (first | refine blk_drewN ?_ _ | refine blk_drew ?_ | refine blk_alloc ?_ _)); refine blk_put (cs := #[.int .i64 ((rd_T74 l0_1 x5_2).f0), .slice A214_1 ((rd_T74 l0_1 x5_2).f1).length c214_1, .slice none 0 0]) ?_ 2 _ rfl; (with_reducible repeat (first | refine blk_drewN ?_ _ | refine blk_drew ?_ | refine blk_alloc ?_ _)); refine blk_put (cs := #[.int .i64 ((rd_T74 l0_1 x5_2).f0), .slice none 0 0, .slice none 0 0]) ?_ 1 _ rfl; (with_reducible repeat (first | refine blk_drewN ?_ _ | refine blk_drew ?_ | refine blk_alloc ?_ _)); refine blk_put (cs := #[.int .i64 0, .slice none 0 0, .slice none 0 0]) ?_ 0 _ rfl; (with_reducible repeat (first | refine blk_drewN ?_ _ | refine blk_drew ?_ | refine blk_alloc ?_ _)); exact BK216.out⟩, ⟨by (with_reducible repeat (first | refine blk_drewN ?_ _ | refine blk_drew ?_ | refine blk_alloc ?_ _)); refine blk_put (cs := #[.int .i64 ((rd_T74 l1_1 x5_2).f0), .slice A215_1 ((rd_T74 l1_1 x5_2).f1).length c215_1, .slice none 0 0]) ?_ 2 _ rfl; (with_reducible repeat (first | refine blk_drewN ?_ _ | refine blk_drew ?_ | refine blk_alloc ?_ _)); refine blk_put (cs := #[.int .i64 ((rd_T74 l1_1 x5_2).f0), .slice none 0 0, .slice none 0 0]) ?_ 1 _ rfl; (with_reducible repeat (first | refine blk_drewN ?_ _ | refine blk_drew ?_ | refine blk_alloc ?_ _)); refine blk_put (cs := #[.int .i64 0, .slice none 0 0, .slice none 0 0]) ?_ 0 _ rfl; (with_reducible repeat (first | refine blk_drewN ?_ _ | refine blk_drew ?_ | refine blk_alloc ?_ _)); refine blk_far ?_ NB217_216.out _; (with_reducible repeat (first | refine blk_drewN ?_ _ | refine blk_drew ?_ | refine blk_alloc ?_ _)); refine blk_far ?_ NB217_216.out _; (with_reducible repeat (first | refine blk_drewN ?_ _ | refine blk_drew ?_ | refine blk_alloc ?_ _)); refine blk_far ?_ NB217_216.out _; (with_reducible repeat (first | refine blk_drewN ?_ _ | refine blk_drew ?_ | refine blk_alloc ?_ _)); exact BK217.out⟩, ⟨by repeat (first | (with_reducible first | exact HB.out | apply below_alloc | apply pw_below_drewN | apply below_drew1 | refine below_set ?_ GE212.out | refine below_set ?_ GE213.out | refine below_set ?_ GE216.out | refine below_set ?_ GE217.out) | exact HB.out)⟩⟩
                case rest =>
                  clear HC17; (try clear c1); (try clear c2); (try clear p2); (try clear q2); (try clear hx2); (try clear c3); (try clear c4); (try clear c5); (try clear c6); (try clear c6b0); (try clear c6b1); (try clear c7); (try clear c10); (try clear c13); (try clear c14); (try clear c14b0); (try clear c15); (try clear c15b0); (try clear c16); (try clear c16b0); (try clear c18); (try clear c21); (try clear p21); (try clear q21); (try clear hx21); (try clear c30); (try clear c30b0); (try clear c30b1); (try clear c32); (try clear c34); (try clear c35); (try clear c36); (try clear c38); (try clear c39); (try clear c41); (try clear c42); (try clear c43); (try clear c45); (try clear c46); (try clear c48); (try clear c49); (try clear c50); (try clear c52); (try clear c53); (try clear hcz11_0); (try clear hcz11_1); (try clear hcz12_0); (try clear hcz12_1); (try clear hcz19_0); (try clear hcz19_1); (try clear hcz37_0); (try clear hcz37_1); (try clear hcz37_2); (try clear hcz40_0); (try clear hcz40_1); (try clear hcz40_2); (try clear hcz44_0); (try clear hcz44_1); (try clear hcz44_2); (try clear hcz47_0); (try clear hcz47_1); (try clear hcz47_2); (try clear hcz51_0); (try clear hcz51_1); (try clear hcz51_2); (try clear hcz54_0); (try clear hcz54_1); (try clear hcz54_2); (try clear hcz8_0); (try clear hcz8_1); (try clear hcz9_0); (try clear hcz9_1); (try clear hfz11_0); (try clear hfz11_1); (try clear hfz12_0); (try clear hfz12_1); (try clear hfz19_0); (try clear hfz19_1); (try clear hfz37_0); (try clear hfz37_1); (try clear hfz37_2); (try clear hfz40_0); (try clear hfz40_1); (try clear hfz40_2); (try clear hfz44_0); (try clear hfz44_1); (try clear hfz44_2); (try clear hfz47_0); (try clear hfz47_1); (try clear hfz47_2); (try clear hfz51_0); (try clear hfz51_1); (try clear hfz51_2); (try clear hfz54_0); (try clear hfz54_1); (try clear hfz54_2); (try clear hfz8_0); (try clear hfz8_1); (try clear hfz9_0); (try clear hfz9_1); (try clear hx214_0); (try clear hx214_1); (try clear hx214_2); (try clear hx215_0); (try clear hx215_1); (try clear hx215_2); (try clear p2); (try clear p214); (try clear p215); (try clear q214); (try clear q215); obtain ⟨kq, x59_16, rfl, HA, HJ16, BK212, BK213, BK216, BK217, HB⟩ := hcut
                  cases kq with
                  | zero => exact absurd HA.out (by simp [codewrightref30_Same.j2])
                  | succ kj16 =>
                    have H := HA.out; clear HA; simp only [codewrightref30_Same.j2] at H
                    by_cases c55 : x59_16 = true
                    · subst c55; have H1 : (some false) = some r := by rw [if_pos rfl] at H; exact H
                      clear H; have H := H1; clear H1; obtain rfl := Option.some.inj H; go_wp2; go_ret
                      exact ⟨by first | rfl | (simp [errW_none, errW_some] <;> rfl) | (simp [*, errW_none, errW_some] <;> rfl), by repeat (first | (with_reducible first | exact HB.out | apply below_alloc | apply pw_below_drewN | apply below_drew1 | refine below_set ?_ GE212.out | refine below_set ?_ GE213.out | refine below_set ?_ GE216.out | refine below_set ?_ GE217.out) | exact HB.out)⟩
                    replace c55 := Bool.eq_false_iff.mpr c55; subst c55; have H1 : (codewrightref30_Same.l0 kj16 (wrap64 (x5_2 + 1)) a0_0 l0_1 a1_0 l1_1) = some r := by rw [if_neg (show ¬ (false = true) by decide)] at H; exact H
                    clear H; have H := H1; clear H1; have H' := Aside0.mk H; clear H; go_wp2
                    go_roundg kj16
                    case measure => have := HJ2.out; have := HK2.out; have := HJ16.out; omega
                    case rel => exact ⟨(wrap64 (x5_2 + 1)), zz67, H', ⟨by have := HJ2.out; have := HK2.out; have := HJ16.out; omega⟩, ⟨by (with_reducible repeat (first | refine blk_drewN ?_ _ | refine blk_drew ?_ | refine blk_alloc ?_ _)); exact BK212.out⟩, ⟨by (with_reducible repeat (first | refine blk_drewN ?_ _ | refine blk_drew ?_ | refine blk_alloc ?_ _)); exact BK213.out⟩, ⟨by repeat (first | (with_reducible first | exact HB.out | apply below_alloc | apply pw_below_drewN | apply below_drew1 | refine below_set ?_ GE212.out | refine below_set ?_ GE213.out | refine below_set ?_ GE216.out | refine below_set ?_ GE217.out) | exact HB.out)⟩⟩
              rw [if_neg c16] at H
              exact absurd H (by simp)
            rw [if_neg c15] at H
            exact absurd H (by simp)
          rw [if_neg c14] at H; have c14b0 : decide (x5_2 < (l0_1.length : Int)) = false := decide_eq_false c14; clear c14; obtain rfl := Option.some.inj H; have hnb56 := NB212_213.out; have hnc56 := NB213_212.out; have hcz57_0 : wr.cell? ⟨gb212, 0, none⟩ = some (.int .i64 a0_0) := (blk_cell BK212.out 0).trans rfl; have hcz57_1 : wr.cell? ⟨gb212, 1, none⟩ = some (.slice A0_1 l0_1.length c0_1) := (blk_cell BK212.out 1).trans rfl; have hfz57_0 := blk_frozen BK212.out 0; have hfz57_1 := blk_frozen BK212.out 1; go_wp2; go_ret
          exact ⟨by first | rfl | (simp [errW_none, errW_some] <;> rfl) | (simp [*, errW_none, errW_some] <;> rfl), by repeat (first | (with_reducible first | exact HB.out | apply below_alloc | apply pw_below_drewN | apply below_drew1 | refine below_set ?_ GE212.out | refine below_set ?_ GE213.out) | exact HB.out)⟩
end
section
def shortL (l : List Int) : List Int := (l.reverse.dropWhile (fun x => x == 0)).reverse
def nat_short.f (l0 : List Int) : Option (List Int) := some (shortL l0)
theorem shortL_snoc0 (l : List Int) : shortL (l ++ [0]) = shortL l := by simp [shortL]
theorem shortL_snoc (l : List Int) {x : Int} (h : x ≠ 0) : shortL (l ++ [x]) = l ++ [x] := by simp [shortL, h]
theorem shortL_take0 (l : List Int) {n : Nat} (hn : n < l.length) (h : rd l (n : Int) = 0) : shortL (l.take (n + 1)) = shortL (l.take n) := by
  have h1 : l[n] = 0 := by simpa [rd, List.getD_eq_getElem?_getD, hn] using h
  rw [List.take_succ_eq_append_getElem hn, h1, shortL_snoc0]
theorem shortL_take (l : List Int) {n : Nat} (hn : n < l.length) (h : rd l (n : Int) ≠ 0) : shortL (l.take (n + 1)) = l.take (n + 1) := by
  have h1 : l[n] ≠ 0 := by simpa [rd, List.getD_eq_getElem?_getD, hn] using h
  rw [List.take_succ_eq_append_getElem hn, shortL_snoc _ h1]
theorem short_slice3 (t e : TypeId) (kl : IntKind) {i : TypeInfo} (ht : Try.prog.underlying t = some (.slice e)) (hi : Try.prog.info? e = some i) (hsz : i.size = 1) (A : Option Addr) (c len : Nat) (n : Nat) (hc : n ≤ c) :
    ∀ W : World, (Instr.slice t (.slice A len c) none (some (.int kl (n : Int))) (some (.int kl (n : Int)))).run Try.prog W = .ok (.slice A n n) W := by
  intro W
  have hel : Try.prog.elem t = e := by simp [Program.elem, ht]
  have hu : Try.prog.underlying t = some (.slice (Try.prog.elem t)) := by rw [hel]; exact ht
  have ha : (A.map fun x => x.add 0) = A := by cases A <;> simp [Addr.add]
  rw [run_slice_hm W t A len c hu kl kl n n (by omega) (by omega) (by omega), hel]
  simp [sizeOf, typeInfo, hi, hsz, sliced, Result.andThen, ha]
theorem nat_short.calls (P0_ : Nat → Prop) (A0 : Option Addr) (c0 : Nat) (l0 : List Int) (r : List Int) (w : World) (hs0 : Kd.V (Kd.int .u32) 72 w w.heap.size (fun k_ => P0_ k_) (.slice A0 l0.length c0) l0) (h : nat_short.f l0 = some r) :
    Calls Try.prog 73 #[.slice A0 l0.length c0] w fun e w' => ∃ v0_ : Value, e = .returned (v0_) ∧ Kd.V (Kd.int .u32) 72 w' w.heap.size (fun k_ => (P0_ k_ ∨ w.heap.size ≤ k_)) v0_ r ∧ Below w.heap.size w w' := by
  have HS := Aside0.mk hs0
  obtain ⟨_, hc, hC⟩ := Kd.V_reads' hs0
  have hlen : l0.length ≤ 9223372036854775807 := by have := hC.2.1; omega
  have HR0 := Aside0.mk hC
  have HC0 := Aside0.mk hc
  have HB := Aside0.mk (Below.refl w.heap.size w)
  have HQ : Aside0 (shortL (l0.take l0.length) = r) := ⟨by rw [List.take_length]; exact Option.some.inj h⟩
  have HN := Aside0.mk hlen
  clear h hs0 hc hC hlen
  go_enter Try.func73, Try.ntmps73
  go_wp2
  go_loopg [3] (l0.length + 1) (fun kq v3 w' => ∃ x3 : Int, v3 = .int .i64 x3 ∧ Aside0 (0 ≤ x3 ∧ x3.toNat < kq ∧ x3 ≤ l0.length) ∧ Aside0 (shortL (l0.take x3.toNat) = r) ∧ Aside0 (Below w.heap.size w w'))
  case atStart => exact ⟨(l0.length : Int), rfl, ⟨by omega⟩, by simpa using HQ, HB⟩
  case round =>
    clear HQ; obtain ⟨x3, rfl, HK1, HQ, HB⟩ := hrel
    cases gk with
    | zero => exact absurd HK1.out.2.1 (by omega)
    | succ k1 =>
      have HF : Aside0 (shortL (l0.take x3.toNat) = l0.take x3.toNat → ∀ W, Below w.heap.size w W → Kd.V (Kd.int .u32) 72 W w.heap.size (fun k_ => (P0_ k_ ∨ w.heap.size ≤ k_)) (.slice A0 x3.toNat x3.toNat) r) := by
        refine ⟨?_⟩
        intro hq W hW
        have hl : (l0.take x3.toNat).length = x3.toNat := by rw [List.length_take]; have := HK1.out; omega
        have := Kd.V_mk (e := 72) (base := w.heap.size) (c := x3.toNat) (by omega) (Kd.F_take (Kd.V_F HS.out) (m := x3.toNat) zz72); rw [hl] at this; rw [← HQ.out, hq]
        exact Kd.V_below (Kd.V_mono this (fun _ hk => .inl hk)) hW
      have hs : ∀ W : World, (Instr.slice 53 (.slice A0 l0.length c0) none (some (.int .i64 x3)) (some (.int .i64 x3))).run Try.prog W = .ok (.slice A0 x3.toNat x3.toNat) W := by
        have h0 := short_slice3 53 72 .i64 Try.underlying53 (info_parts info72).choose_spec.1 (info_parts info72).choose_spec.2.2.1 A0 c0 l0.length x3.toNat (by have := HK1.out; have := HC0.out; omega); rw [show ((x3.toNat : Nat) : Int) = x3 from by have := HK1.out; omega] at h0
        exact h0
      by_cases c2 : x3 > 0
      · have c2b0 : decide (0 < x3) = true := decide_eq_true c2; obtain ⟨ji3, hji3⟩ : ∃ j_ : Int, (wrap64 (x3 - 1)) = j_ := ⟨_, rfl⟩; have hji3w : (IntKind.i64.wrap (x3 - 1)) = ji3 := (i64_w _).trans hji3
        have hj : ji3 = x3 - 1 := by
          rw [← hji3]; have := HN.out; have := HK1.out; unfold wrap64; omega
        have p0 : (0 : Int) ≤ ji3 := by omega
        have q0 : ji3 < (l0.length : Int) := by have := HK1.out; omega
        obtain ⟨ad, e1, hx⟩ := Kd.at_int HR0.out ji3 p0 q0
        cases e1; replace hx := (HB.out.cell (World.block_lt_of_cell? w _ hx)).trans hx; have HJ := Aside0.mk hj; replace p0 := eq_true p0; replace q0 := eq_true q0; clear hj c2
        by_cases c6 : rd l0 ji3 = 0
        · have c6b0 : (rd l0 ji3 == 0) = true := beq_iff_eq.mpr c6; have HZ := Aside0.mk c6; clear c6; go_wp2
          go_roundg k1
          case measure => have := HK1.out; omega
          case rel => 
            have p0' : (0:Int) ≤ ji3 := of_eq_true p0; have hjn : x3.toNat = ji3.toNat + 1 := by have := HJ.out; omega
            refine ⟨ji3, (by first | rfl | (simp only [← hji3] <;> (first | rfl | simp)) | (simp [*]; done)), ⟨by have := HK1.out; have := HJ.out; omega⟩, ⟨?_⟩, ⟨by first | exact HB.out | exact pw_below_drewN HB.out _⟩⟩; rw [← HQ.out, hjn]
            exact (shortL_take0 l0 zz72 (by rw [show ((ji3.toNat : Nat) : Int) = ji3 from by omega]; exact HZ.out)).symm
        have c6b0 : (rd l0 ji3 == 0) = false := beq_eq_false_iff_ne.mpr c6; have hjn : x3.toNat = ji3.toNat + 1 := by have := HJ.out; have := of_eq_true p0; omega
        have HE : Aside0 (shortL (l0.take x3.toNat) = l0.take x3.toNat) := ⟨by rw [hjn]; exact shortL_take l0 (by have := HK1.out; have := HJ.out; have := of_eq_true p0; omega) (by rw [show ((ji3.toNat : Nat) : Int) = ji3 from by have := of_eq_true p0; omega]; exact c6)⟩; clear c6 hjn; go_wp2; go_ret
        exact ⟨_, rfl, HF.out HE.out _ (by first | exact HB.out | exact pw_below_drewN HB.out _), by first | exact HB.out | exact pw_below_drewN HB.out _⟩
      have c2b0 : decide (0 < x3) = false := decide_eq_false c2; have HE : Aside0 (shortL (l0.take x3.toNat) = l0.take x3.toNat) := ⟨by rw [show x3.toNat = 0 from by omega]; simp [shortL]⟩; clear c2; go_wp2; go_ret
      exact ⟨_, rfl, HF.out HE.out _ (by first | exact HB.out | exact pw_below_drewN HB.out _), by first | exact HB.out | exact pw_below_drewN HB.out _⟩
end
section
attribute [local go_sem] max2_int min2_int max_two min_two max_three min_three max_four min_four
mutual
def nat_times.l0 : Nat → List Int → List Int → List Int → Int → Int → Option (List Int)
  | 0, _, _, _, _, _ => none
  | k + 1, x1, x5, x18, x19, x20 => if x20 < x19 then (if 0 ≤ x20 then (if x20 < (x18.length : Int) then (nat_times.l1 k x1 x5 x20 (rd x18 x20) 0 x18 x19 x20 x1 (x1.length : Int) 0) else (none)) else (none)) else ((nat_short.f x5).bind fun t225 => (some t225))
def nat_times.l1 : Nat → List Int → List Int → Int → Int → Int → List Int → Int → Int → List Int → Int → Int → Option (List Int)
  | 0, _, _, _, _, _, _, _, _, _, _, _ => none
  | k + 1, x1, x5, x6, x7, x8, x18, x19, x20, x25, x26, x27 => if x27 < x26 then (if 0 ≤ x27 then (if x27 < (x25.length : Int) then (if 0 ≤ (wrap64 (x6 + x27)) then (if (wrap64 (x6 + x27)) < (x5.length : Int) then (nat_times.l1 k x1 (x5.set ((wrap64 (x6 + x27)) : Int).toNat ((IntKind.u64.wrap ((IntKind.u64.wrap ((IntKind.u64.wrap ((IntKind.u64.wrap (x7)) * (IntKind.u64.wrap (rd x25 x27)))) + (IntKind.u64.wrap (rd x5 (wrap64 (x6 + x27)))))) + x8)) % 4294967296)) x6 x7 ((IntKind.u64.wrap ((IntKind.u64.wrap ((IntKind.u64.wrap ((IntKind.u64.wrap (x7)) * (IntKind.u64.wrap (rd x25 x27)))) + (IntKind.u64.wrap (rd x5 (wrap64 (x6 + x27)))))) + x8)) / 4294967296) x18 x19 x20 x25 x26 (wrap64 (x27 + 1))) else (none)) else (none)) else (none)) else (none)) else (if 0 ≤ (wrap64 (x6 + (x1.length : Int))) then (if (wrap64 (x6 + (x1.length : Int))) < (x5.length : Int) then (nat_times.l0 k x1 (x5.set ((wrap64 (x6 + (x1.length : Int))) : Int).toNat ((x8) % 4294967296)) x18 x19 (wrap64 (x20 + 1))) else (none)) else (none))
end
def nat_times.f (k : Nat) (l0 : List Int) (l1 : List Int) : Option (List Int) := if 0 ≤ (wrap64 ((l0.length : Int) + (l1.length : Int))) then (if (wrap64 ((l0.length : Int) + (l1.length : Int)) : Int).toNat ≤ 70368744177664 then (nat_times.l0 k l1 (List.replicate (wrap64 ((l0.length : Int) + (l1.length : Int)) : Int).toNat 0) l0 (l0.length : Int) 0) else (none)) else (none)
theorem nat_times.calls (k : Nat) (A0 : Option Addr) (c0 : Nat) (l0 : List Int) (A1 : Option Addr) (c1 : Nat) (l1 : List Int) (r : List Int) (w : World) (hr0 : Kd.C (Kd.int .u32) w A0 l0.length l0) (hc0 : l0.length ≤ c0) (hr1 : Kd.C (Kd.int .u32) w A1 l1.length l1) (hc1 : l1.length ≤ c1) (h : nat_times.f k l0 l1 = some r) :
    Calls Try.prog 72 #[.slice A0 l0.length c0, .slice A1 l1.length c1] w fun e w' => ∃ v0_ : Value, e = .returned (v0_) ∧ Kd.V (Kd.int .u32) 72 w' w.heap.size (fun k_ => (w.heap.size ≤ k_)) v0_ r ∧ Below w.heap.size w w' := by
  have HR0 := Aside0.mk hr0
  have HC0 := Aside0.mk hc0
  clear hr0 hc0
  have HR1 := Aside0.mk hr1
  have HC1 := Aside0.mk hc1
  clear hr1 hc1
  have HB := Aside0.mk (Below.refl w.heap.size w)
  have H : (if 0 ≤ (wrap64 ((l0.length : Int) + (l1.length : Int))) then (if (wrap64 ((l0.length : Int) + (l1.length : Int)) : Int).toNat ≤ 70368744177664 then (nat_times.l0 k l1 (List.replicate (wrap64 ((l0.length : Int) + (l1.length : Int)) : Int).toNat 0) l0 (l0.length : Int) 0) else (none)) else (none)) = some r := h
  clear h
  obtain ⟨ji3, hji3⟩ : ∃ j_ : Int, (wrap64 ((l0.length : Int) + (l1.length : Int))) = j_ := ⟨_, rfl⟩
  replace H : (if 0 ≤ (ji3) then (if (ji3 : Int).toNat ≤ 70368744177664 then (nat_times.l0 k l1 (List.replicate (ji3 : Int).toNat 0) l0 (l0.length : Int) 0) else (none)) else (none)) = some r := by first | (rw [hji3] at H; exact H) | (simp only [hji3] at H ⊢; exact H)
  have hji3w : (IntKind.i64.wrap ((l0.length : Int) + (l1.length : Int))) = ji3 := (i64_w _).trans hji3
  by_cases c4 : 0 ≤ (ji3)
  · rw [if_pos c4] at H
    have c4b0 := eq_true c4; have c4b1 : decide (0 ≤ (ji3)) = true := decide_eq_true c4; clear c4
    by_cases c5 : (ji3 : Int).toNat ≤ 70368744177664
    · rw [if_pos c5] at H; have c5b0 := eq_true c5; have c5b1 : decide ((ji3 : Int).toNat ≤ 70368744177664) = true := decide_eq_true c5; clear c5; obtain ⟨y222, hy222⟩ : ∃ y_ : List Int, y_ = (List.replicate (ji3 : Int).toNat 0) := ⟨_, rfl⟩; replace H : (nat_times.l0 k l1 y222 l0 (l0.length : Int) 0) = some r := by first | (rw [hy222]; with_reducible exact H) | (have H2_ := (Option.bind_some _ _).symm.trans H; rw [hy222]; with_reducible exact H2_) | (have H2_ := (Option.bind_some _ _).symm.trans H; with_reducible exact H2_) | with_reducible exact H | (rw [hy222]; exact H) | exact H
      have Ny222 := Aside0.mk hy222; clear hy222; have H' := Aside0.mk H; clear H
      go_enter Try.func72, Try.ntmps72
      go_wp2_with (first | ((with_reducible refine gate_dst (N := 17) rfl ?_); refine Kd.R_make (Kd.int .u32) _ 72 rfl (N := 17) rfl 53 _ _ rfl ji3 rfl rfl Try.underlying53 (.int .u32 0) 4 info72 rfl (by decide) (by omega) 0 (ok := fun _ => True) (okp := fun _ => True) rfl (fun _ hk => hk) trivial (of_decide_eq_true zz65) (Nat.le_trans (Nat.mul_le_mul_right _ (of_decide_eq_true zz65 : ji3.toNat ≤ 70368744177664)) (by omega)) (Below.refl _ _) (Nat.le_refl _) ?_; intro v223 w6 ho7 hb hg_ hnew_; clear hg_ hnew_; (first | rw [← Ny222.out] at ho7 | (simp only [Int.reduceToNat] at ho7; rw [← Ny222.out] at ho7)); have n0_ := Aside0.mk (Kd.R_lower (Kd.R_newM (M := fun k_ => (w.heap.size ≤ k_)) ho7 (below_size zz55) (fun k_ h_ => h_)) (below_size zz55)); have n1_ := Aside0.mk (below_step zz55 hb); clear HB; have HO224 := n0_; have HB := n1_; clear n0_ n1_; clear hb ho7))
      go_loopg [20] k (fun kq v20 w' => ∃ (x5_1 : List Int) (x20_1 : Int), v20 = .int .i64 x20_1 ∧ Aside0 (nat_times.l0 kq l1 x5_1 l0 (l0.length : Int) x20_1 = some r) ∧ Aside0 (kq ≤ k) ∧ Aside0 (Kd.R (Kd.int .u32) 72 w' w.heap.size (fun k_ => (w.heap.size ≤ k_)) v223 x5_1) ∧ Aside0 (Below w.heap.size w w'))
      case atStart => exact ⟨(y222), (0), zz67, H', ⟨Nat.le_refl _⟩, ⟨by (with_reducible repeat (first | apply Kd.R_alloc | apply Kd.R_drewN | apply Kd.R_drew)); exact Kd.R_mono HO224.out (fun _ hk => hk.1)⟩, ⟨by repeat (first | (with_reducible first | exact HB.out | apply below_alloc | apply pw_below_drewN | apply below_drew1) | exact HB.out)⟩⟩
      case round =>
        clear H'; (try clear c1); (try clear p2); (try clear c4); (try clear c4b0); (try clear c4b1); (try clear c5); (try clear c5b0); (try clear c5b1); (try clear p6); (try clear c7); obtain ⟨x5_1, x20_1, rfl, HA, HK1, HO_5, HB⟩ := hrel
        cases gk with
        | zero => exact absurd HA.out (by simp [nat_times.l0])
        | succ k1 =>
          have H := HA.out; clear HA; simp only [nat_times.l0] at H
          by_cases c8 : x20_1 < (l0.length : Int)
          · rw [if_pos c8] at H; have c8b0 : decide (x20_1 < (l0.length : Int)) = true := decide_eq_true c8; clear c8
            by_cases c9 : 0 ≤ x20_1
            · rw [if_pos c9] at H; have c9b0 : decide (0 ≤ x20_1) = true := decide_eq_true c9; clear c9
              by_cases c10 : x20_1 < (l0.length : Int)
              · rw [if_pos c10] at H; have c10b0 : decide (x20_1 < (l0.length : Int)) = true := decide_eq_true c10; clear c10; have H' := Aside0.mk H; clear H; have p228 : 0 ≤ (x20_1 : Int) := of_decide_eq_true zz65; have q228 : x20_1 < (l0.length : Int) := of_decide_eq_true zz65; obtain ⟨ad228, e228, hx228_0⟩ := Kd.at_int HR0.out x20_1 p228 q228
                cases e228; replace hx228_0 := (HB.out.cell (World.block_lt_of_cell? w _ hx228_0)).trans hx228_0; replace p228 := eq_true p228; replace q228 := eq_true q228; go_wp2
                go_loopg [8, 27] k1 (fun kq v8 v27 w' => ∃ (x5_2 : List Int) (x8_2 : Int) (x27_2 : Int), v8 = .int .u64 x8_2 ∧ v27 = .int .i64 x27_2 ∧ Aside0 (nat_times.l1 kq l1 x5_2 x20_1 (rd l0 x20_1) x8_2 l0 (l0.length : Int) x20_1 l1 (l1.length : Int) x27_2 = some r) ∧ Aside0 (kq ≤ k1) ∧ Aside0 (Kd.R (Kd.int .u32) 72 w' w.heap.size (fun k_ => (w.heap.size ≤ k_)) v223 x5_2) ∧ Aside0 (Below w.heap.size w w'))
                case atStart => exact ⟨(x5_1), (0), (0), zz67, zz67, H', ⟨Nat.le_refl _⟩, ⟨by (with_reducible repeat (first | apply Kd.R_alloc | apply Kd.R_drewN | apply Kd.R_drew)); exact HO_5.out⟩, ⟨by repeat (first | (with_reducible first | exact HB.out | apply below_alloc | apply pw_below_drewN | apply below_drew1) | exact HB.out)⟩⟩
                case round =>
                  clear H'; (try clear c1); (try clear p2); (try clear q2); (try clear hx2); (try clear c4); (try clear c4b0); (try clear c4b1); (try clear c5); (try clear c5b0); (try clear c5b1); (try clear p6); (try clear c7); (try clear c8); (try clear c8b0); (try clear c9); (try clear c9b0); (try clear c10); (try clear c10b0); (try clear hx228_0); (try clear p2); (try clear p228); (try clear p6); (try clear q228); obtain ⟨x5_2, x8_2, x27_2, rfl, rfl, HA, HK2, HO_5, HB⟩ := hrel
                  cases gk with
                  | zero => exact absurd HA.out (by simp [nat_times.l1])
                  | succ k2 =>
                    have H := HA.out; clear HA; simp only [nat_times.l1] at H
                    by_cases c11 : x27_2 < (l1.length : Int)
                    · rw [if_pos c11] at H; have c11b0 : decide (x27_2 < (l1.length : Int)) = true := decide_eq_true c11; clear c11
                      by_cases c12 : 0 ≤ x27_2
                      · rw [if_pos c12] at H; have c12b0 : decide (0 ≤ x27_2) = true := decide_eq_true c12; clear c12
                        by_cases c13 : x27_2 < (l1.length : Int)
                        · rw [if_pos c13] at H; have c13b0 : decide (x27_2 < (l1.length : Int)) = true := decide_eq_true c13; clear c13; obtain ⟨ji14, hji14⟩ : ∃ j_ : Int, (wrap64 (x20_1 + x27_2)) = j_ := ⟨_, rfl⟩; replace H : (if 0 ≤ (ji14) then (if (ji14) < (x5_2.length : Int) then (nat_times.l1 k2 l1 (x5_2.set ((ji14) : Int).toNat ((IntKind.u64.wrap ((IntKind.u64.wrap ((IntKind.u64.wrap ((IntKind.u64.wrap ((rd l0 x20_1))) * (IntKind.u64.wrap (rd l1 x27_2)))) + (IntKind.u64.wrap (rd x5_2 (ji14))))) + x8_2)) % 4294967296)) x20_1 (rd l0 x20_1) ((IntKind.u64.wrap ((IntKind.u64.wrap ((IntKind.u64.wrap ((IntKind.u64.wrap ((rd l0 x20_1))) * (IntKind.u64.wrap (rd l1 x27_2)))) + (IntKind.u64.wrap (rd x5_2 (ji14))))) + x8_2)) / 4294967296) l0 (l0.length : Int) x20_1 l1 (l1.length : Int) (wrap64 (x27_2 + 1))) else (none)) else (none)) = some r := by first | (rw [hji14] at H; exact H) | (simp only [hji14] at H ⊢; exact H)
                          have hji14w : (IntKind.i64.wrap (x20_1 + x27_2)) = ji14 := (i64_w _).trans hji14
                          by_cases c15 : 0 ≤ (ji14)
                          · rw [if_pos c15] at H; have c15b0 : decide (0 ≤ (ji14)) = true := decide_eq_true c15; clear c15
                            by_cases c16 : (ji14) < (x5_2.length : Int)
                            · rw [if_pos c16] at H; have c16b0 : decide ((ji14) < (x5_2.length : Int)) = true := decide_eq_true c16; clear c16; obtain ⟨y231, hy231⟩ : ∃ y_ : List Int, y_ = (x5_2.set ((ji14) : Int).toNat ((IntKind.u64.wrap ((IntKind.u64.wrap ((IntKind.u64.wrap ((IntKind.u64.wrap ((rd l0 x20_1))) * (IntKind.u64.wrap (rd l1 x27_2)))) + (IntKind.u64.wrap (rd x5_2 (ji14))))) + x8_2)) % 4294967296)) := ⟨_, rfl⟩; replace H : (nat_times.l1 k2 l1 y231 x20_1 (rd l0 x20_1) ((IntKind.u64.wrap ((IntKind.u64.wrap ((IntKind.u64.wrap ((IntKind.u64.wrap ((rd l0 x20_1))) * (IntKind.u64.wrap (rd l1 x27_2)))) + (IntKind.u64.wrap (rd x5_2 (ji14))))) + x8_2)) / 4294967296) l0 (l0.length : Int) x20_1 l1 (l1.length : Int) (wrap64 (x27_2 + 1))) = some r := by first | (rw [hy231]; with_reducible exact H) | (have H2_ := (Option.bind_some _ _).symm.trans H; rw [hy231]; with_reducible exact H2_) | (have H2_ := (Option.bind_some _ _).symm.trans H; with_reducible exact H2_) | with_reducible exact H | (rw [hy231]; exact H) | exact H
                              have Ny231 := Aside0.mk hy231; clear hy231; have H' := Aside0.mk H; clear H; have p229 : 0 ≤ (x27_2 : Int) := of_decide_eq_true zz65; have q229 : x27_2 < (l1.length : Int) := of_decide_eq_true zz65; obtain ⟨ad229, e229, hx229_0⟩ := Kd.at_int HR1.out x27_2 p229 q229
                              cases e229; replace hx229_0 := (HB.out.cell (World.block_lt_of_cell? w _ hx229_0)).trans hx229_0; replace p229 := eq_true p229; replace q229 := eq_true q229; obtain ⟨Ao18, co18, eo18⟩ := Kd.R_slice HO_5.out; subst eo18; have p230 : 0 ≤ ((ji14) : Int) := of_decide_eq_true zz65; have q230 : (ji14) < (x5_2.length : Int) := of_decide_eq_true zz65; obtain ⟨ad230, e230, hx230_0⟩ := Kd.at_int (Kd.R_reads' HO_5.out).2.2 (ji14) p230 q230
                              cases e230; replace p230 := eq_true p230; replace q230 := eq_true q230; have p17 : 0 ≤ ((ji14) : Int) := of_decide_eq_true zz65; have q17 : ((ji14) : Int) < ((x5_2.length : Int) : Int) := of_decide_eq_true zz65; obtain ⟨go17, co17, eo17, gb17, gl17, cl17, HG17⟩ := Kd.R_form HO_5.out (by omega)
                              (first | cases eo17 | (injection eo17 with ea_ en_ ec_; (first | subst ea_ | (injection ea_ with ea_; subst ea_)); subst ec_; clear en_))
                              have GB17 := Aside0.mk gb17; have GG17 := Aside0.mk HG17; clear gb17 gl17 HG17
                              (first | simp only [add_plain] at hx230_0 | skip)
                              obtain ⟨hx17_0, hf17_0⟩ := Kd.R_celln 0 HO_5.out ((ji14) : Int) p17 q17; replace p17 := eq_true p17; replace q17 := eq_true q17; have HP19 := Kd.R_putg HO_5.out ((ji14) : Int) ((IntKind.u64.wrap ((IntKind.u64.wrap ((IntKind.u64.wrap ((IntKind.u64.wrap ((rd l0 x20_1))) * (IntKind.u64.wrap (rd l1 x27_2)))) + (IntKind.u64.wrap (rd x5_2 (ji14))))) + x8_2)) % 4294967296)
                              go_wp2_with (first | ((with_reducible refine gate_store (t := 72) (p := 53) rfl ?_); refine store_event (t := 72) (p := 53) (v := ?vo_w20) (w1 := (wr.setCell ⟨go17, ((ji14) : Int).toNat, none⟩ (.int .u32 ((IntKind.u64.wrap ((IntKind.u64.wrap ((IntKind.u64.wrap ((IntKind.u64.wrap ((rd l0 x20_1))) * (IntKind.u64.wrap (rd l1 x27_2)))) + (IntKind.u64.wrap (rd x5_2 (ji14))))) + x8_2)) % 4294967296)))) ?hg ?ho ?hn ?hr ?_; (case ho => rfl); (case hg => rfl); (case hn => rfl); (case hr => first | (go_simp; done) | (go_simp; rfl)); intro w20 hw; have hg : wr.grownBy w20 (some go17) := (by rw [hw]; exact HP19.2); have hp_ : Kd.R (Kd.int .u32) 72 w20 w.heap.size (fun k_ => (w.heap.size ≤ k_)) (.slice (some ⟨go17, 0, none⟩) x5_2.length co18) y231 := (by rw [hw, Ny231.out]; exact HP19.1); clear HP19; have n0_ := Aside0.mk (hp_); have n1_ := Aside0.mk ((by rw [hw]; exact below_set (HB.out) GB17.out : Below w.heap.size w w20)); clear HO_5; clear HB; have HO_5 := n0_; have HB := n1_; clear n0_ n1_; clear hg hw hp_))
                              go_roundg k2
                              case measure => have := HK1.out; have := HK2.out; omega
                              case rel => exact ⟨(y231), ((IntKind.u64.wrap ((IntKind.u64.wrap ((IntKind.u64.wrap ((IntKind.u64.wrap ((rd l0 x20_1))) * (IntKind.u64.wrap (rd l1 x27_2)))) + (IntKind.u64.wrap (rd x5_2 (ji14))))) + x8_2)) / 4294967296), (wrap64 (x27_2 + 1)), (by first | rfl | (simp; done) | (simp only [← hji14] <;> (first | rfl | simp)) | (simp [*]; done)), zz67, H', ⟨by have := HK1.out; have := HK2.out; omega⟩, ⟨by (with_reducible repeat (first | apply Kd.R_alloc | apply Kd.R_drewN | apply Kd.R_drew)); exact HO_5.out⟩, ⟨by repeat (first | (with_reducible first | exact HB.out | apply below_alloc | apply pw_below_drewN | apply below_drew1) | exact HB.out)⟩⟩
                            rw [if_neg c16] at H
                            exact absurd H (by simp)
                          rw [if_neg c15] at H
                          exact absurd H (by simp)
                        rw [if_neg c13] at H
                        exact absurd H (by simp)
                      rw [if_neg c12] at H
                      exact absurd H (by simp)
                    rw [if_neg c11] at H; have c11b0 : decide (x27_2 < (l1.length : Int)) = false := decide_eq_false c11; clear c11; obtain ⟨ji21, hji21⟩ : ∃ j_ : Int, (wrap64 (x20_1 + (l1.length : Int))) = j_ := ⟨_, rfl⟩; replace H : (if 0 ≤ (ji21) then (if (ji21) < (x5_2.length : Int) then (nat_times.l0 k2 l1 (x5_2.set ((ji21) : Int).toNat ((x8_2) % 4294967296)) l0 (l0.length : Int) (wrap64 (x20_1 + 1))) else (none)) else (none)) = some r := by first | (rw [hji21] at H; exact H) | (simp only [hji21] at H ⊢; exact H)
                    have hji21w : (IntKind.i64.wrap (x20_1 + (l1.length : Int))) = ji21 := (i64_w _).trans hji21
                    by_cases c22 : 0 ≤ (ji21)
                    · rw [if_pos c22] at H; have c22b0 : decide (0 ≤ (ji21)) = true := decide_eq_true c22; clear c22
                      by_cases c23 : (ji21) < (x5_2.length : Int)
                      · rw [if_pos c23] at H; have c23b0 : decide ((ji21) < (x5_2.length : Int)) = true := decide_eq_true c23; clear c23; obtain ⟨y232, hy232⟩ : ∃ y_ : List Int, y_ = (x5_2.set ((ji21) : Int).toNat ((x8_2) % 4294967296)) := ⟨_, rfl⟩; replace H : (nat_times.l0 k2 l1 y232 l0 (l0.length : Int) (wrap64 (x20_1 + 1))) = some r := by first | (rw [hy232]; with_reducible exact H) | (have H2_ := (Option.bind_some _ _).symm.trans H; rw [hy232]; with_reducible exact H2_) | (have H2_ := (Option.bind_some _ _).symm.trans H; with_reducible exact H2_) | with_reducible exact H | (rw [hy232]; exact H) | exact H
                        have Ny232 := Aside0.mk hy232; clear hy232; have H' := Aside0.mk H; clear H; have p24 : 0 ≤ ((ji21) : Int) := of_decide_eq_true zz65; have q24 : ((ji21) : Int) < ((x5_2.length : Int) : Int) := of_decide_eq_true zz65; obtain ⟨go24, co24, eo24, gb24, gl24, cl24, HG24⟩ := Kd.R_form HO_5.out (by omega)
                        (first | cases eo24 | (injection eo24 with ea_ en_ ec_; (first | subst ea_ | (injection ea_ with ea_; subst ea_)); subst ec_; clear en_))
                        have GB24 := Aside0.mk gb24; have GG24 := Aside0.mk HG24; clear gb24 gl24 HG24; obtain ⟨hx24_0, hf24_0⟩ := Kd.R_celln 0 HO_5.out ((ji21) : Int) p24 q24; replace p24 := eq_true p24; replace q24 := eq_true q24; have HP25 := Kd.R_putg HO_5.out ((ji21) : Int) ((x8_2) % 4294967296)
                        go_wp2_with (first | ((with_reducible refine gate_store (t := 72) (p := 64) rfl ?_); refine store_event (t := 72) (p := 64) (v := ?vo_w26) (w1 := (wr.setCell ⟨go24, ((ji21) : Int).toNat, none⟩ (.int .u32 ((x8_2) % 4294967296)))) ?hg ?ho ?hn ?hr ?_; (case ho => rfl); (case hg => rfl); (case hn => rfl); (case hr => first | (go_simp; done) | (go_simp; rfl)); intro w26 hw; have hg : wr.grownBy w26 (some go24) := (by rw [hw]; exact HP25.2); have hp_ : Kd.R (Kd.int .u32) 72 w26 w.heap.size (fun k_ => (w.heap.size ≤ k_)) (.slice (some ⟨go24, 0, none⟩) x5_2.length co24) y232 := (by rw [hw, Ny232.out]; exact HP25.1); clear HP25; have n0_ := Aside0.mk (hp_); have n1_ := Aside0.mk ((by rw [hw]; exact below_set (HB.out) GB24.out : Below w.heap.size w w26)); clear HO_5; clear HB; have HO_5 := n0_; have HB := n1_; clear n0_ n1_; clear hg hw hp_))
                        go_roundg k2
                        case measure => have := HK1.out; have := HK2.out; omega
                        case rel => exact ⟨(y232), (wrap64 (x20_1 + 1)), zz67, H', ⟨by have := HK1.out; have := HK2.out; omega⟩, ⟨by (with_reducible repeat (first | apply Kd.R_alloc | apply Kd.R_drewN | apply Kd.R_drew)); exact HO_5.out⟩, ⟨by repeat (first | (with_reducible first | exact HB.out | apply below_alloc | apply pw_below_drewN | apply below_drew1) | exact HB.out)⟩⟩
                      rw [if_neg c23] at H
                      exact absurd H (by simp)
                    rw [if_neg c22] at H
                    exact absurd H (by simp)
              rw [if_neg c10] at H
              exact absurd H (by simp)
            rw [if_neg c9] at H
            exact absurd H (by simp)
          rw [if_neg c8] at H; have c8b0 : decide (x20_1 < (l0.length : Int)) = false := decide_eq_false c8; clear c8; replace H := Option.bind_eq_some_iff.mp H; obtain ⟨t225, A270, H⟩ := H; replace H : (some t225) = some r := H; have A27 := Aside0.mk A270; clear A270; obtain rfl := Option.some.inj H; obtain ⟨Ao28, co28, eo28⟩ := Kd.R_slice HO_5.out; subst eo28
          go_wp2_with (first | ((with_reducible refine gate_callee (f := 73) rfl ?_); refine goesL_ (some 67) rfl rfl Try.func73 (by kernel_rfl) rfl #[.slice Ao28 x5_1.length co28] rfl zz54 ?_; (with_reducible refine (nat_short.calls (fun k_ => some k_ = (.slice Ao28 x5_1.length co28 : Value).ownBlock) _ _ x5_1 t225 _ ?side1 A27.out).mono ?_); (case side1 => exact Kd.R_V (Kd.R_tight rfl (HO_5.out))); rintro e w29 ⟨v226, rfl, ho0, hb⟩; refine ⟨_, rfl, ?_⟩; have n0_ := Aside0.mk (Kd.R_below (zR HO_5) hb); have n1_ := Aside0.mk (Kd.V_lower (Kd.V_mono (ok' := fun k_ => (w.heap.size ≤ k_)) ho0 (fun k_ hk_ => Or.elim hk_ (fun hs_ => ((HO_5.out).1 k_ hs_.symm)) (fun hn_ => (Nat.le_trans (below_size zz55) hn_)))) (below_size zz55)); have n2_ := Aside0.mk (below_step zz55 hb); clear HO_5; clear HB; have HO_5 := n0_; have HO227 := n1_; have HB := n2_; clear n0_ n1_ n2_; (try clear hb); (try clear hb2); (try clear hk); (try clear hi); (try clear ho0)))
          go_ret
          exact ⟨_, by first | rfl | (simp [errW_none, errW_some] <;> rfl) | (simp only [← hji3]; first | rfl | (simp [errW_none, errW_some] <;> rfl)) | (simp [*, errW_none, errW_some] <;> rfl), by (with_reducible repeat (first | apply Kd.V_alloc | apply Kd.V_drewN | apply Kd.V_drew)); exact HO227.out, by repeat (first | (with_reducible first | exact HB.out | apply below_alloc | apply pw_below_drewN | apply below_drew1) | exact HB.out)⟩
    rw [if_neg c5] at H
    exact absurd H (by simp)
  rw [if_neg c4] at H
  exact absurd H (by simp)
end
section
theorem shortL_length (l : List Int) : (shortL l).length ≤ l.length := by
  have := List.IsSuffix.length_le (List.dropWhile_suffix (fun x : Int => x == 0) (l := l.reverse))
  simpa [shortL] using this
def nat_Trim.f (l0 : List Int) : Option (List Int) := if l0.length ≤ 1000000000 then some (shortL l0) else none
theorem nat_Trim.calls (A0 : Option Addr) (c0 : Nat) (l0 : List Int) (r : List Int) (w : World) (hr0 : Kd.C (Kd.int .u32) w A0 l0.length l0) (hc0 : l0.length ≤ c0) (h : nat_Trim.f l0 = some r) :
    Calls Try.prog 74 #[.slice A0 l0.length c0] w fun e w' => ∃ v0_ : Value, e = .returned (v0_) ∧ Kd.R (Kd.int .u32) 72 w' w.heap.size (fun _ => True) v0_ r ∧ Below w.heap.size w w' := by
  have HR0 := Aside0.mk hr0
  have HC0 := Aside0.mk hc0
  have hq : l0.length ≤ 1000000000 ∧ shortL l0 = r := by
    unfold nat_Trim.f at h
    split at h
    · exact ⟨by assumption, Option.some.inj h⟩
    · cases h
  have HQ := Aside0.mk hq
  clear hr0 hc0 hq h
  go_enter Try.func74, Try.ntmps74
  go_wp2_with (first
    | (go_at_call 73; (with_reducible refine (nat_short.calls (fun k_ => k_ < w.heap.size) _ _ l0 (shortL l0) _ ?s1 rfl).mono ?_); (case s1 => exact Kd.V_mk HC0.out (Kd.C_F (Kd.heap_int .u32) HR0.out)); rintro e w1 ⟨v1, rfl, ho1, hb1⟩; obtain ⟨A1, c1, rfl⟩ := Kd.V_slice ho1; have HV := Aside0.mk ho1; have HB1 := Aside0.mk hb1; clear ho1 hb1)
    | ((with_reducible refine gate_builtin (b := .append) (xs := #[.const (.slice none 0 0), .tmp 4]) rfl ?_); at_builtin; refine Kd.R_append_rows (Kd.int .u32) (w0 := w) w.heap.size rfl (.const (.slice none 0 0)) (.tmp 4) 53 72 (.int .u32 0) 4 rfl Try.underlying53 info72 rfl (by decide) (by omega) (.slice none 0 0) [] (shortL l0) _ _ _ (fun _ => True) (fun _ => False) rfl rfl ?aO ?aR (fun _ _ h => h) (fun _ h => h.elim) ?aF ?aB ?aS ?aL ?_; (case aR => exact (Kd.V_reads' HV.out).2.2); (case aB => exact HB1.out); (case aF => exact (fun _ _ => trivial)); (case aO => exact Kd.R_nil _ _ _ _ _); (case aS => exact HB1.out.size); (case aL => have := HQ.out.1; have := shortL_length l0; simp only [List.length_nil]; omega); intro v2 w2 ho2 hb2 hg2 hat2; have HO2 := Aside0.mk ho2; have HB2 := Aside0.mk hb2; clear ho2 hb2 hg2 hat2))
  go_ret
  have ho2 := HO2.out
  rw [List.nil_append, HQ.out.2] at ho2
  exact ⟨_, rfl, ho2, HB2.out⟩
end
section
attribute [local go_sem] max2_int min2_int max_two min_two max_three min_three max_four min_four
def nat_Mul.l0 : Nat → List Int → List (List Int) → Int → Int → Option (List Int)
  | 0, _, _, _, _ => none
  | k + 1, x3, x7, x8, x9 => if x9 < x8 then (if 0 ≤ x9 then (if x9 < (x7.length : Int) then ((nat_short.f (rd_L8 x7 x9)).bind fun t237 => ((nat_times.f k x3 t237).bind fun t240 => (nat_Mul.l0 k t240 x7 x8 (wrap64 (x9 + 1))))) else (none)) else (none)) else ((nat_Trim.f x3).bind fun t243 => (some t243))
def nat_Mul.f (k : Nat) (l0 : List (List Int)) : Option (List Int) := nat_Mul.l0 k (([1] : List Int)) l0 (l0.length : Int) 0
theorem nat_Mul.calls (k : Nat) (A0 : Option Addr) (c0 : Nat) (l0 : List (List Int)) (r : List Int) (w : World) (hr0 : Kd.C (Kd.slice 72 (Kd.int .u32)) w A0 l0.length l0) (hc0 : l0.length ≤ c0) (h : nat_Mul.f k l0 = some r) :
    Calls Try.prog 47 #[.slice A0 l0.length c0] w fun e w' => ∃ v0_ : Value, e = .returned (v0_) ∧ Kd.R (Kd.int .u32) 72 w' w.heap.size (fun _ => True) v0_ r ∧ Below w.heap.size w w' := by
  have HR0 := Aside0.mk hr0
  have HC0 := Aside0.mk hc0
  clear hr0 hc0
  have HB := Aside0.mk (Below.refl w.heap.size w)
  have H : (nat_Mul.l0 k (([1] : List Int)) l0 (l0.length : Int) 0) = some r := h
  clear h
  obtain ⟨y233, hy233⟩ : ∃ y_ : List Int, y_ = (([1] : List Int)) := ⟨_, rfl⟩
  replace H : (nat_Mul.l0 k y233 l0 (l0.length : Int) 0) = some r := by first | (rw [hy233]; with_reducible exact H) | (have H2_ := (Option.bind_some _ _).symm.trans H; rw [hy233]; with_reducible exact H2_) | (have H2_ := (Option.bind_some _ _).symm.trans H; with_reducible exact H2_) | with_reducible exact H | (rw [hy233]; exact H) | exact H
  have Ny233 := Aside0.mk hy233
  clear hy233
  have H' := Aside0.mk H
  clear H
  go_enter Try.func47, Try.ntmps47
  go_wp2_with (first | ((with_reducible refine gate_dst (N := 6) rfl ?_); refine Kd.R_lit (Kd.int .u32) _ 72 ?hg (N := 6) ?hd (xs := ([1] : List Int)) (inner := [.int .u32 1]) (ok := fun _ => True) (okp := fun _ => True) ?hr ?hp (fun _ hk => hk) trivial (Below.refl _ _) (Nat.le_refl _) (by simp) ?_; (case hd => rfl); (case hg => rfl); (case hr => first | (go_simp; done) | (go_simp; rfl)); (case hp => exact (Reps.one (show Kd.M (Kd.int .u32) _ _ _ 1 [.int .u32 1] from rfl) (Reps.none _ _))); intro v234 w2 ho3 hb hg_ hnew_; clear hg_ hnew_; (first | rw [← Ny233.out] at ho3 | (simp only [Int.reduceToNat] at ho3; rw [← Ny233.out] at ho3)); have n0_ := Aside0.mk (Kd.R_lower ho3 (below_size zz55)); have n1_ := Aside0.mk (below_step zz55 hb); clear HB; have HO235 := n0_; have HB := n1_; clear n0_ n1_; clear hb ho3))
  go_loopg [3, 9] k (fun kq v3 v9 w' => ∃ (x3_1 : List Int) (x9_1 : Int), v9 = .int .i64 x9_1 ∧ Aside0 (nat_Mul.l0 kq x3_1 l0 (l0.length : Int) x9_1 = some r) ∧ Aside0 (kq ≤ k) ∧ Aside0 (Kd.V (Kd.int .u32) 72 w' w.heap.size (fun _ => True) v3 x3_1) ∧ Aside0 (Below w.heap.size w w'))
  case atStart => exact ⟨(y233), (0), zz67, H', ⟨Nat.le_refl _⟩, ⟨Kd.R_V (zR HO235)⟩, ⟨by repeat (first | (with_reducible first | exact HB.out | apply below_alloc | apply pw_below_drewN | apply below_drew1) | exact HB.out)⟩⟩
  case round =>
    clear H'; (try clear p2); obtain ⟨x3_1, x9_1, rfl, HA, HK1, HO_3, HB⟩ := hrel
    cases gk with
    | zero => exact absurd HA.out (by simp [nat_Mul.l0])
    | succ k1 =>
      have H := HA.out; clear HA; simp only [nat_Mul.l0] at H
      by_cases c4 : x9_1 < (l0.length : Int)
      · rw [if_pos c4] at H; have c4b0 : decide (x9_1 < (l0.length : Int)) = true := decide_eq_true c4; clear c4
        by_cases c5 : 0 ≤ x9_1
        · rw [if_pos c5] at H; have c5b0 : decide (0 ≤ x9_1) = true := decide_eq_true c5; clear c5
          by_cases c6 : x9_1 < (l0.length : Int)
          · rw [if_pos c6] at H; have c6b0 : decide (x9_1 < (l0.length : Int)) = true := decide_eq_true c6; clear c6; replace H := Option.bind_eq_some_iff.mp H; obtain ⟨t237, A70, H⟩ := H; replace H : ((nat_times.f k1 x3_1 t237).bind fun t240 => (nat_Mul.l0 k1 t240 l0 (l0.length : Int) (wrap64 (x9_1 + 1)))) = some r := H; have A7 := Aside0.mk A70; clear A70; replace H := Option.bind_eq_some_iff.mp H; obtain ⟨t240, A80, H⟩ := H; replace H : (nat_Mul.l0 k1 t240 l0 (l0.length : Int) (wrap64 (x9_1 + 1))) = some r := H; have A8 := Aside0.mk A80; clear A80; have H' := Aside0.mk H; clear H; have p236 : 0 ≤ (x9_1 : Int) := of_decide_eq_true zz65; have q236 : x9_1 < (l0.length : Int) := of_decide_eq_true zz65; obtain ⟨ad236, A236_0, c236_0, e236, hx236_0, hl236_0, hi236_0⟩ := at_L8 HR0.out x9_1 p236 q236
            cases e236; replace hx236_0 := (HB.out.cell (World.block_lt_of_cell? w _ hx236_0)).trans hx236_0; have HR236_0 := Aside0.mk hi236_0; have HC236_0 := Aside0.mk hl236_0; clear hi236_0 hl236_0; replace p236 := eq_true p236; replace q236 := eq_true q236
            go_wp2_with (first | ((with_reducible refine gate_callee (f := 73) rfl ?_); refine goesL_ (some 15) rfl rfl Try.func73 (by kernel_rfl) rfl #[.slice A236_0 (rd_L8 l0 x9_1).length c236_0] rfl zz54 ?_; (with_reducible refine (nat_short.calls (fun k_ => k_ < w.heap.size) _ _ (rd_L8 l0 x9_1) t237 _ ?side1 A7.out).mono ?_); (case side1 => exact Kd.V_mk HC236_0.out (Kd.F_below (Kd.C_F (Kd.heap_int .u32) HR236_0.out) zz55)); rintro e w9 ⟨v238, rfl, ho0, hb⟩; refine ⟨_, rfl, ?_⟩; have n0_ := Aside0.mk (Kd.V_below (zV HO_3) hb); have n1_ := Aside0.mk (Kd.V_lower (Kd.V_mono (ok' := fun k_ => True) ho0 (fun k_ hk_ => trivial)) (below_size zz55)); have n2_ := Aside0.mk (below_step zz55 hb); clear HO_3; clear HB; have HO_3 := n0_; have HO239 := n1_; have HB := n2_; clear n0_ n1_ n2_; (try clear hb); (try clear hb2); (try clear hk); (try clear hi); (try clear ho0); obtain ⟨Ao10, co10, eo10⟩ := Kd.V_slice HO_3.out; subst eo10; obtain ⟨Ao11, co11, eo11⟩ := Kd.V_slice HO239.out; subst eo11) | ((with_reducible refine gate_callee (f := 72) rfl ?_); refine goesL_ (some 16) rfl rfl Try.func72 (by kernel_rfl) rfl #[.slice Ao10 x3_1.length co10, .slice Ao11 t237.length co11] rfl zz54 ?_; (with_reducible refine (nat_times.calls k1 _ _ x3_1 _ _ t237 t240 _ ?side1 ?side2 ?side3 ?side4 A8.out).mono ?_); (case side1 => repeat (first | exact (Kd.V_reads' HO_3.out).2.2 | (with_reducible refine Kd.C_alloc ?_ _) | (with_reducible refine Kd.C_drewN ?_ _) | (with_reducible refine Kd.C_drew ?_))); (case side2 => exact (Kd.V_reads' HO_3.out).2.1); (case side3 => repeat (first | exact (Kd.V_reads' HO239.out).2.2 | (with_reducible refine Kd.C_alloc ?_ _) | (with_reducible refine Kd.C_drewN ?_ _) | (with_reducible refine Kd.C_drew ?_))); (case side4 => exact (Kd.V_reads' HO239.out).2.1); rintro e w12 ⟨v241, rfl, ho0, hb⟩; refine ⟨_, rfl, ?_⟩; have n0_ := Aside0.mk (Kd.V_below (zV HO_3) hb); have n1_ := Aside0.mk (Kd.V_below (zV HO239) hb); have n2_ := Aside0.mk (Kd.V_lower (Kd.V_mono (ok' := fun k_ => True) ho0 (fun k_ hk_ => trivial)) (below_size zz55)); have n3_ := Aside0.mk (below_step zz55 hb); clear HO_3; clear HO239; clear HB; have HO_3 := n0_; have HO239 := n1_; have HO242 := n2_; have HB := n3_; clear n0_ n1_ n2_ n3_; (try clear hb); (try clear hb2); (try clear hk); (try clear hi); (try clear ho0)))
            go_roundg k1
            case measure => have := HK1.out; omega
            case rel => exact ⟨(t240), (wrap64 (x9_1 + 1)), zz67, H', ⟨by have := HK1.out; omega⟩, ⟨by (with_reducible repeat (first | apply Kd.V_alloc | apply Kd.V_drewN | apply Kd.V_drew)); exact HO242.out⟩, ⟨by repeat (first | (with_reducible first | exact HB.out | apply below_alloc | apply pw_below_drewN | apply below_drew1) | exact HB.out)⟩⟩
          rw [if_neg c6] at H
          exact absurd H (by simp)
        rw [if_neg c5] at H
        exact absurd H (by simp)
      rw [if_neg c4] at H; have c4b0 : decide (x9_1 < (l0.length : Int)) = false := decide_eq_false c4; clear c4; replace H := Option.bind_eq_some_iff.mp H; obtain ⟨t243, A130, H⟩ := H; replace H : (some t243) = some r := H; have A13 := Aside0.mk A130; clear A130; obtain rfl := Option.some.inj H; obtain ⟨Ao14, co14, eo14⟩ := Kd.V_slice HO_3.out; subst eo14
      go_wp2_with (first | ((with_reducible refine gate_callee (f := 74) rfl ?_); refine goesL_ (some 19) rfl rfl Try.func74 (by kernel_rfl) rfl #[.slice Ao14 x3_1.length co14] rfl zz54 ?_; (with_reducible refine (nat_Trim.calls _ _ x3_1 t243 _ ?side1 ?side2 A13.out).mono ?_); (case side1 => repeat (first | exact (Kd.V_reads' HO_3.out).2.2 | (with_reducible refine Kd.C_alloc ?_ _) | (with_reducible refine Kd.C_drewN ?_ _) | (with_reducible refine Kd.C_drew ?_))); (case side2 => exact (Kd.V_reads' HO_3.out).2.1); rintro e w15 ⟨v244, rfl, ho0, hb⟩; refine ⟨_, rfl, ?_⟩; have n0_ := Aside0.mk (Kd.V_elder' (zV HO_3) (Kd.R_base ho0) hb); have n1_ := Aside0.mk (Kd.R_lower ho0 (below_size zz55)); have n2_ := Aside0.mk (below_step zz55 hb); clear HO_3; clear HB; have HO_3 := n0_; have HO245 := n1_; have HB := n2_; clear n0_ n1_ n2_; (try clear hb); (try clear hb2); (try clear hk); (try clear hi); (try clear ho0)))
      go_ret
      exact ⟨_, by first | rfl | (simp [errW_none, errW_some] <;> rfl) | (simp [*, errW_none, errW_some] <;> rfl), by (with_reducible repeat (first | apply Kd.R_alloc | apply Kd.R_drewN | apply Kd.R_drew)); exact HO245.out, by repeat (first | (with_reducible first | exact HB.out | apply below_alloc | apply pw_below_drewN | apply below_drew1) | exact HB.out)⟩
end
section
attribute [local go_sem] max2_int min2_int max_two min_two max_three min_three max_four min_four
def nat_Of.f (a0 : Int) : Option (List Int) := (nat_Trim.f (([(a0) % 4294967296, (a0 / 4294967296) % 4294967296] : List Int))).bind fun t249 => (some t249)
theorem nat_Of.calls (a0 : Int) (r : List Int) (w : World) (h : nat_Of.f a0 = some r) :
    Calls Try.prog 48 #[.int .u64 a0] w fun e w' => ∃ v0_ : Value, e = .returned (v0_) ∧ Kd.R (Kd.int .u32) 72 w' w.heap.size (fun _ => True) v0_ r ∧ Below w.heap.size w w' := by
  have HB := Aside0.mk (Below.refl w.heap.size w)
  have H : ((nat_Trim.f (([(a0) % 4294967296, (a0 / 4294967296) % 4294967296] : List Int))).bind fun t249 => (some t249)) = some r := h
  clear h
  obtain ⟨y246, hy246⟩ : ∃ y_ : List Int, y_ = (([(a0) % 4294967296, (a0 / 4294967296) % 4294967296] : List Int)) := ⟨_, rfl⟩
  replace H : ((nat_Trim.f y246).bind fun t249 => (some t249)) = some r := by first | (rw [hy246]; with_reducible exact H) | (have H2_ := (Option.bind_some _ _).symm.trans H; rw [hy246]; with_reducible exact H2_) | (have H2_ := (Option.bind_some _ _).symm.trans H; with_reducible exact H2_) | with_reducible exact H | (rw [hy246]; exact H) | exact H
  have Ny246 := Aside0.mk hy246
  clear hy246
  replace H := Option.bind_eq_some_iff.mp H
  obtain ⟨t249, A20, H⟩ := H
  replace H : (some t249) = some r := H
  have A2 := Aside0.mk A20
  clear A20
  obtain rfl := Option.some.inj H
  go_enter Try.func48, Try.ntmps48
  go_wp2_with (first | ((with_reducible refine gate_dst (N := 8) rfl ?_); refine Kd.R_lit (Kd.int .u32) _ 72 ?hg (N := 8) ?hd (xs := ([(a0) % 4294967296, (a0 / 4294967296) % 4294967296] : List Int)) (inner := [.int .u32 ((a0) % 4294967296), .int .u32 ((a0 / 4294967296) % 4294967296)]) (ok := fun _ => True) (okp := fun _ => True) ?hr ?hp (fun _ hk => hk) trivial (Below.refl _ _) (Nat.le_refl _) (by simp) ?_; (case hd => rfl); (case hg => rfl); (case hr => first | (go_simp; done) | (go_simp; rfl)); (case hp => exact (Reps.one (show Kd.M (Kd.int .u32) _ _ _ ((a0) % 4294967296) [.int .u32 ((a0) % 4294967296)] from rfl) (Reps.one (show Kd.M (Kd.int .u32) _ _ _ ((a0 / 4294967296) % 4294967296) [.int .u32 ((a0 / 4294967296) % 4294967296)] from rfl) (Reps.none _ _)))); intro v247 w3 ho4 hb hg_ hnew_; clear hg_ hnew_; (first | rw [← Ny246.out] at ho4 | (simp only [Int.reduceToNat] at ho4; rw [← Ny246.out] at ho4)); have n0_ := Aside0.mk (Kd.R_lower ho4 (below_size zz55)); have n1_ := Aside0.mk (below_step zz55 hb); clear HB; have HO248 := n0_; have HB := n1_; clear n0_ n1_; clear hb ho4; obtain ⟨Ao5, co5, eo5⟩ := Kd.R_slice HO248.out; subst eo5) | ((with_reducible refine gate_callee (f := 74) rfl ?_); refine goesL_ (some 9) rfl rfl Try.func74 (by kernel_rfl) rfl #[.slice Ao5 y246.length co5] rfl zz54 ?_; (with_reducible refine (nat_Trim.calls _ _ y246 t249 _ ?side1 ?side2 A2.out).mono ?_); (case side1 => repeat (first | exact (Kd.R_reads' HO248.out).2.2 | (with_reducible refine Kd.C_alloc ?_ _) | (with_reducible refine Kd.C_drewN ?_ _) | (with_reducible refine Kd.C_drew ?_))); (case side2 => exact (Kd.R_reads' HO248.out).2.1); rintro e w6 ⟨v250, rfl, ho0, hb⟩; refine ⟨_, rfl, ?_⟩; have n0_ := Aside0.mk (Kd.R_elder' (zR HO248) (Kd.R_base ho0) hb); have n1_ := Aside0.mk (Kd.R_lower (Kd.R_new' ho0 (Kd.R_lt (zR HO248))) (below_size zz55)); have n2_ := Aside0.mk (below_step zz55 hb); clear HO248; clear HB; have HO248 := n0_; have HO251 := n1_; have HB := n2_; clear n0_ n1_ n2_; (try clear hb); (try clear hb2); (try clear hk); (try clear hi); (try clear ho0)))
  go_ret
  exact ⟨_, by first | rfl | (simp [errW_none, errW_some] <;> rfl) | (simp [*, errW_none, errW_some] <;> rfl), by (with_reducible repeat (first | apply Kd.R_alloc | apply Kd.R_drewN | apply Kd.R_drew)); exact Kd.R_mono HO251.out (fun _ hk => trivial), by repeat (first | (with_reducible first | exact HB.out | apply below_alloc | apply pw_below_drewN | apply below_drew1) | exact HB.out)⟩
end
section
attribute [local go_sem] max2_int min2_int max_two min_two max_three min_three max_four min_four
def slices_Equal_int_int.l0 : Nat → List Int → List Int → Int → Int → Option (Bool)
  | 0, _, _, _, _ => none
  | k + 1, x0, x1, x12, x13 => if x13 < x12 then (if 0 ≤ x13 then (if x13 < (x0.length : Int) then (if x13 < (x1.length : Int) then (if (rd x0 x13) = (rd x1 x13) then (slices_Equal_int_int.l0 k x0 x1 x12 (wrap64 (x13 + 1))) else (some false)) else (none)) else (none)) else (none)) else (some true)
def slices_Equal_int_int.f (k : Nat) (l0 : List Int) (l1 : List Int) : Option (Bool) := if (l0.length : Int) = (l1.length : Int) then (slices_Equal_int_int.l0 k l0 l1 (l0.length : Int) 0) else (some false)
theorem slices_Equal_int_int.calls (k : Nat) (A0 : Option Addr) (c0 : Nat) (l0 : List Int) (A1 : Option Addr) (c1 : Nat) (l1 : List Int) (r : Bool) (w : World) (hr0 : Kd.C (Kd.int .i64) w A0 l0.length l0) (hc0 : l0.length ≤ c0) (hr1 : Kd.C (Kd.int .i64) w A1 l1.length l1) (hc1 : l1.length ≤ c1) (h : slices_Equal_int_int.f k l0 l1 = some r) :
    Calls Try.prog 65 #[.slice A0 l0.length c0, .slice A1 l1.length c1] w fun e w' => e = .returned (.bool r) ∧ Drawn0 w w' := by
  have HR0 := Aside0.mk hr0
  have HC0 := Aside0.mk hc0
  clear hr0 hc0
  have HR1 := Aside0.mk hr1
  have HC1 := Aside0.mk hc1
  clear hr1 hc1
  have H : (if (l0.length : Int) = (l1.length : Int) then (slices_Equal_int_int.l0 k l0 l1 (l0.length : Int) 0) else (some false)) = some r := h
  clear h
  by_cases c3 : (l0.length : Int) = (l1.length : Int)
  · rw [if_pos c3] at H
    have c3b0 : ((l0.length : Int) == (l1.length : Int)) = true := beq_iff_eq.mpr c3; have c3b1 : ((l0.length : Int) != (l1.length : Int)) = false := bne_eq_false_iff_eq.mpr c3; have c3b2 : (l0.length == l1.length) = true := by first | simpa using c3 | (simp at c3 ⊢; omega)
    clear c3; have H' := Aside0.mk H; clear H
    go_enter Try.func65, Try.ntmps65
    go_wp2
    repeat (go_quiet (fail); try go_wp2)
    go_loopg [13] k (fun kq v13 w' => ∃ (x13_1 : Int), v13 = .int .i64 x13_1 ∧ Aside0 (slices_Equal_int_int.l0 kq l0 l1 (l0.length : Int) x13_1 = some r) ∧ Aside0 (kq ≤ k) ∧ Drawn0 w w')
    case atStart => exact ⟨(0), zz67, H', ⟨Nat.le_refl _⟩, by repeat (first | exact Drawn0.refl _ | apply Drawn0.step)⟩
    case round =>
      clear H'; (try clear c1); (try clear p2); (try clear c3); (try clear c3b0); (try clear c3b1); (try clear c3b2); obtain ⟨x13_1, rfl, HA, HK1, ⟨m1, rfl⟩⟩ := hrel
      cases gk with
      | zero => exact absurd HA.out (by simp [slices_Equal_int_int.l0])
      | succ k1 =>
        have H := HA.out; clear HA; simp only [slices_Equal_int_int.l0] at H
        by_cases c4 : x13_1 < (l0.length : Int)
        · rw [if_pos c4] at H; have c4b0 : decide (x13_1 < (l0.length : Int)) = true := decide_eq_true c4; clear c4
          by_cases c5 : 0 ≤ x13_1
          · rw [if_pos c5] at H; have c5b0 : decide (0 ≤ x13_1) = true := decide_eq_true c5; clear c5
            by_cases c6 : x13_1 < (l0.length : Int)
            · rw [if_pos c6] at H; have c6b0 : decide (x13_1 < (l0.length : Int)) = true := decide_eq_true c6; clear c6
              by_cases c7 : x13_1 < (l1.length : Int)
              · rw [if_pos c7] at H; have c7b0 : decide (x13_1 < (l1.length : Int)) = true := decide_eq_true c7; clear c7
                by_cases c8 : (rd l0 x13_1) = (rd l1 x13_1)
                · rw [if_pos c8] at H; have c8b0 : ((rd l0 x13_1) == (rd l1 x13_1)) = true := beq_iff_eq.mpr c8; have c8b1 : ((rd l0 x13_1) != (rd l1 x13_1)) = false := bne_eq_false_iff_eq.mpr c8; clear c8; have H' := Aside0.mk H; clear H; have p220 : 0 ≤ (x13_1 : Int) := of_decide_eq_true zz65; have q220 : x13_1 < (l0.length : Int) := of_decide_eq_true zz65; obtain ⟨ad220, e220, hx220_0⟩ := Kd.at_int HR0.out x13_1 p220 q220
                  cases e220; replace p220 := eq_true p220; replace q220 := eq_true q220; have p221 : 0 ≤ (x13_1 : Int) := of_decide_eq_true zz65; have q221 : x13_1 < (l1.length : Int) := of_decide_eq_true zz65; obtain ⟨ad221, e221, hx221_0⟩ := Kd.at_int HR1.out x13_1 p221 q221
                  cases e221; replace p221 := eq_true p221; replace q221 := eq_true q221; go_wp2
                  repeat (go_quiet (fail); try go_wp2)
                  go_roundg k1
                  case measure => have := HK1.out; omega
                  case rel => exact ⟨(wrap64 (x13_1 + 1)), zz67, H', ⟨by have := HK1.out; omega⟩, by repeat (first | exact Drawn0.refl _ | apply Drawn0.step)⟩
                rw [if_neg c8] at H; have c8b0 : ((rd l0 x13_1) == (rd l1 x13_1)) = false := beq_eq_false_iff_ne.mpr c8; have c8b1 : ((rd l0 x13_1) != (rd l1 x13_1)) = true := bne_iff_ne.mpr c8; obtain rfl := Option.some.inj H; have p220 : 0 ≤ (x13_1 : Int) := of_decide_eq_true zz65; have q220 : x13_1 < (l0.length : Int) := of_decide_eq_true zz65; obtain ⟨ad220, e220, hx220_0⟩ := Kd.at_int HR0.out x13_1 p220 q220
                cases e220; replace p220 := eq_true p220; replace q220 := eq_true q220; have p221 : 0 ≤ (x13_1 : Int) := of_decide_eq_true zz65; have q221 : x13_1 < (l1.length : Int) := of_decide_eq_true zz65; obtain ⟨ad221, e221, hx221_0⟩ := Kd.at_int HR1.out x13_1 p221 q221
                cases e221; replace p221 := eq_true p221; replace q221 := eq_true q221; go_wp2
                repeat (go_quiet (fail); try go_wp2)
                go_ret
                exact ⟨by first | rfl | (simp; done) | (simp [*]; done), by repeat (first | exact Drawn0.refl _ | apply Drawn0.step)⟩
              rw [if_neg c7] at H
              exact absurd H (by simp)
            rw [if_neg c6] at H
            exact absurd H (by simp)
          rw [if_neg c5] at H
          exact absurd H (by simp)
        rw [if_neg c4] at H; have c4b0 : decide (x13_1 < (l0.length : Int)) = false := decide_eq_false c4; clear c4; obtain rfl := Option.some.inj H; go_wp2
        repeat (go_quiet (fail); try go_wp2)
        go_ret
        exact ⟨by first | rfl | (simp; done) | (simp [*]; done), by repeat (first | exact Drawn0.refl _ | apply Drawn0.step)⟩
  rw [if_neg c3] at H
  have c3b0 : ((l0.length : Int) == (l1.length : Int)) = false := beq_eq_false_iff_ne.mpr c3
  have c3b1 : ((l0.length : Int) != (l1.length : Int)) = true := bne_iff_ne.mpr c3
  have c3b2 : (l0.length == l1.length) = false := by first | simpa using c3 | (simp at c3 ⊢; omega)
  obtain rfl := Option.some.inj H
  go_enter Try.func65, Try.ntmps65
  go_wp2
  repeat (go_quiet (fail); try go_wp2)
  go_ret
  exact ⟨by first | rfl | (simp; done) | (simp [*]; done), by repeat (first | exact Drawn0.refl _ | apply Drawn0.step)⟩
end
section
structure Tw where
  n : Nat
  reps : List (List (List Int))
  gens : List (List (List Int))
def Tw.row (T : Tw) (b : Int) : List (List Int) := T.reps.getD b.toNat []
def Tw.rep (T : Tw) (b x : Int) : List Int := (T.row b).getD x.toNat []
def Tw.gen (T : Tw) (b : Int) : List (List Int) := T.gens.getD b.toNat []
def Lok (base : Nat) (w : World) (k : Nat) : Prop := k < base ∨ ∃ cs fr, w.heap[k]? = some (.cells cs 3 fr)
def Leaf (base : Nat) (w : World) (v : Value) (l : List Int) : Prop :=
  ∃ A c, v = .slice A l.length c ∧ l.length ≤ c ∧ Kd.F (Kd.int .i64) w (Lok base w) A l.length l ∧ (l = [] → v = .slice none 0 0)
structure Keep (base : Nat) (w w1 : World) : Prop where
  below : Below base w w1
  ints : ∀ (k : Nat) (cs : Array Value) (fr : Nat × Nat), w.heap[k]? = some (Obj.cells cs 3 fr) → w1.heap[k]? = w.heap[k]?
theorem Keep.refl (base : Nat) (w : World) : Keep base w w := ⟨Below.refl _ _, fun _ _ _ _ => rfl⟩
theorem Keep.trans {base : Nat} {w w1 w2 : World} (h : Keep base w w1) (k : Keep base w1 w2) : Keep base w w2 :=
  ⟨h.below.trans k.below, fun i cs fr hi => by
    have h1 := h.ints i cs fr hi; rw [k.ints i cs fr (h1.trans hi), h1]⟩
theorem lt_of_some {w : World} {k : Nat} {o : Obj} (h : w.heap[k]? = some o) : k < w.heap.size := (Array.getElem?_eq_some_iff.1 h).1
theorem Keep.of_below {base : Nat} {w w1 : World} (hb : base ≤ w.heap.size) (h : Below w.heap.size w w1) : Keep base w w1 :=
  ⟨⟨h.os, h.tape, h.output, h.size, fun i hi => h.block i (Nat.lt_of_lt_of_le hi hb)⟩, fun k _ _ hk => h.block k (lt_of_some hk)⟩
theorem Keep.lok {base : Nat} {w w1 : World} (h : Keep base w w1) {k : Nat} (hk : Lok base w k) : Lok base w1 k := by
  rcases hk with hk | ⟨cs, fr, hk⟩
  · exact .inl hk
  · exact .inr ⟨cs, fr, (h.ints k cs fr hk).trans hk⟩
theorem Leaf.keep {base : Nat} {w w1 : World} {v : Value} {l : List Int} (h : Leaf base w v l) (hk : Keep base w w1) : Leaf base w1 v l := by
  obtain ⟨A, c, rfl, hl, hf, hn⟩ := h
  refine ⟨A, c, rfl, hl, ?_, hn⟩
  refine Kd.F_mono (Kd.F_step hf (fun k hk' hlt => ?_)) (fun k hk' => hk.lok hk')
  rcases hk' with hk' | ⟨cs, fr, hk'⟩
  · exact hk.below.block k hk'
  · exact hk.ints k cs fr hk'
theorem Leaf.reads {base : Nat} {w : World} {v : Value} {l : List Int} (h : Leaf base w v l) : ∃ A c, v = .slice A l.length c ∧ l.length ≤ c ∧ (Kd.int .i64).C w A l.length l := by
  obtain ⟨A, c, rfl, hl, hf, _⟩ := h
  exact ⟨A, c, rfl, hl, Kd.F_now hf⟩
theorem Leaf.of_R {base b : Nat} {w : World} {ok : Nat → Prop} {v : Value} {l : List Int} (h : (Kd.int .i64).R 3 w b ok v l) (hl : l ≠ []) : Leaf base w v l := by
  obtain ⟨A, c, rfl, hc, hr⟩ := Kd.R_reads h
  refine ⟨A, c, rfl, hc, Kd.F_mono (Kd.R_F (Kd.R_bound h)) (fun k hk => ?_), fun h0 => absurd h0 hl⟩
  obtain ⟨_, _, _, q, hq, cells, hcell⟩ := hk
  have : q = 3 := by
    rcases List.mem_cons.1 hq with h1 | h1
    · exact h1
    · exact absurd h1 zz71
  subst this
  exact .inr ⟨cells, _, hcell⟩
def LeafN (base : Nat) (w : World) (v : Value) (l : List Int) : Prop :=
  ∃ A c, v = .slice A l.length c ∧ l.length ≤ c ∧ Kd.F (Kd.int .i64) w (fun k => base ≤ k ∧ ∃ cs fr, w.heap[k]? = some (Obj.cells cs 3 fr)) A l.length l ∧ (l = [] → v = .slice none 0 0)
theorem LeafN.leaf {base : Nat} {w : World} {v : Value} {l : List Int} (h : LeafN base w v l) : Leaf base w v l := by
  obtain ⟨A, c, rfl, hl, hf, hn⟩ := h
  exact ⟨A, c, rfl, hl, Kd.F_mono hf (fun k hk => .inr hk.2), hn⟩
theorem LeafN.keep {base : Nat} {w w1 : World} {v : Value} {l : List Int} (h : LeafN base w v l) (hk : Keep base w w1) : LeafN base w1 v l := by
  obtain ⟨A, c, rfl, hl, hf, hn⟩ := h
  refine ⟨A, c, rfl, hl, ?_, hn⟩
  refine Kd.F_mono (Kd.F_step hf (fun k hk' hlt => ?_)) (fun k hk' => ⟨hk'.1, ?_⟩)
  · obtain ⟨_, cs, fr, hk'⟩ := hk'
    exact hk.ints k cs fr hk'
  · obtain ⟨_, cs, fr, hk'⟩ := hk'
    exact ⟨cs, fr, (hk.ints k cs fr hk').trans hk'⟩
theorem LeafN.of_R {base b : Nat} {w : World} {ok : Nat → Prop} {v : Value} {l : List Int} (h : (Kd.int .i64).R 3 w b ok v l) (hb : base ≤ b) (hl : l ≠ []) : LeafN base w v l := by
  obtain ⟨A, c, rfl, hc, hr⟩ := Kd.R_reads h
  refine ⟨A, c, rfl, hc, Kd.F_mono (Kd.R_F (Kd.R_bound h)) (fun k hk => ?_), fun h0 => absurd h0 hl⟩
  obtain ⟨_, h2, _, q, hq, cells, hcell⟩ := hk
  have : q = 3 := by
    rcases List.mem_cons.1 hq with h1 | h1
    · exact h1
    · exact absurd h1 zz71
  subst this
  exact ⟨Nat.le_trans hb h2, cells, _, hcell⟩
theorem LeafN.none_ (base : Nat) (w : World) : LeafN base w (.slice none 0 0) [] := ⟨none, 0, rfl, Nat.le_refl _, Kd.F_nil _ _ _, fun _ => rfl⟩
theorem Leaf.C {base : Nat} {w : World} {A : Option Addr} {c : Nat} {l : List Int} (h : Leaf base w (.slice A l.length c) l) : (Kd.int .i64).C w A l.length l ∧ l.length ≤ c := by
  obtain ⟨A', c', e, hl, hr⟩ := h.reads
  injection e with ea eb ec
  subst ea ec
  exact ⟨hr, hl⟩
structure TwAt (base : Nat) (w : World) (bt bR bG : Nat) (rb : Nat → Nat) (vr : Nat → Nat → Value) (vg : Nat → Value) (T : Tw) : Prop where
  n1 : 1 ≤ T.n
  n64 : T.n ≤ 64
  lr : T.reps.length = T.n
  lrr : ∀ i, i < T.n → (T.reps.getD i []).length = T.n
  lg : T.gens.length = T.n
  gt : base ≤ bt
  gR : base ≤ bR
  gG : base ≤ bG
  grb : ∀ i, i < T.n → base ≤ rb i
  ht : w.heap[bt]? = some (.cells #[.int .i64 T.n, .slice (some ⟨bR, 0, none⟩) T.n T.n, .slice (some ⟨bG, 0, none⟩) T.n T.n] 108 (0, 0))
  hR : w.heap[bR]? = some (.cells ((List.range T.n).map (fun i => Value.slice (some ⟨rb i, 0, none⟩) T.n T.n)).toArray 28 (0, 0))
  hr : ∀ i, i < T.n → w.heap[rb i]? = some (.cells ((List.range T.n).map (vr i)).toArray 22 (0, 0))
  hG : w.heap[bG]? = some (.cells ((List.range T.n).map vg).toArray 28 (0, 0))
  hg : ∀ i, i < T.n → ∃ inner, w.ownsRow base 22 1 (vg i) (T.gens.getD i []).length inner ∧ ∀ (j : Nat) (l : List Int), (T.gens.getD i [])[j]? = some l → ∃ v, inner[j]? = some v ∧ Leaf base w v l
  leaf : ∀ i x, i < T.n → x < T.n → LeafN base w (vr i x) ((T.reps.getD i []).getD x [])
  dRG : bR ≠ bG
  drb : ∀ i j, i < T.n → j < T.n → rb i = rb j → i = j
  drg : ∀ i j, i < T.n → j < T.n → (vg j).ownBlock ≠ some (rb i)
  dgg : ∀ i j, i < T.n → j < T.n → i ≠ j → (vg i).ownBlock = none ∨ (vg i).ownBlock ≠ (vg j).ownBlock
section
variable {base : Nat} {w w1 : World} {bt bR bG : Nat} {rb : Nat → Nat} {vr : Nat → Nat → Value} {vg : Nat → Value} {T : Tw}
theorem range_map_get {n i : Nat} (f : Nat → Value) (h : i < n) : ((List.range n).map f).toArray[i]? = some (f i) := by simp [h]
theorem TwAt.cell0 (h : TwAt base w bt bR bG rb vr vg T) : w.cell? ⟨bt, 0, none⟩ = some (.int .i64 T.n) := (blk_cell h.ht 0).trans rfl
theorem TwAt.cell1 (h : TwAt base w bt bR bG rb vr vg T) : w.cell? ⟨bt, 1, none⟩ = some (.slice (some ⟨bR, 0, none⟩) T.n T.n) := (blk_cell h.ht 1).trans rfl
theorem TwAt.cell2 (h : TwAt base w bt bR bG rb vr vg T) : w.cell? ⟨bt, 2, none⟩ = some (.slice (some ⟨bG, 0, none⟩) T.n T.n) := (blk_cell h.ht 2).trans rfl
theorem TwAt.cellR (h : TwAt base w bt bR bG rb vr vg T) {b : Int} (h0 : 0 ≤ b) (h1 : b < T.n) : w.cell? ⟨bR, b.toNat, none⟩ = some (.slice (some ⟨rb b.toNat, 0, none⟩) T.n T.n) :=
  (blk_cell h.hR b.toNat).trans (range_map_get _ (by omega))
theorem TwAt.cellG (h : TwAt base w bt bR bG rb vr vg T) {b : Int} (h0 : 0 ≤ b) (h1 : b < T.n) : w.cell? ⟨bG, b.toNat, none⟩ = some (vg b.toNat) :=
  (blk_cell h.hG b.toNat).trans (range_map_get _ (by omega))
theorem TwAt.cellr (h : TwAt base w bt bR bG rb vr vg T) {b x : Int} (h0 : 0 ≤ b) (h1 : b < T.n) (h2 : 0 ≤ x) (h3 : x < T.n) : w.cell? ⟨rb b.toNat, x.toNat, none⟩ = some (vr b.toNat x.toNat) :=
  (blk_cell (h.hr b.toNat (by omega)) x.toNat).trans (range_map_get _ (by omega))
theorem TwAt.leafr (h : TwAt base w bt bR bG rb vr vg T) {b x : Int} (h0 : 0 ≤ b) (h1 : b < T.n) (h2 : 0 ≤ x) (h3 : x < T.n) : Leaf base w (vr b.toNat x.toNat) (T.rep b x) :=
  (h.leaf b.toNat x.toNat (by omega) (by omega)).leaf
theorem TwAt.base_le (h : TwAt base w bt bR bG rb vr vg T) : base ≤ w.heap.size := Nat.le_trans h.gt (Nat.le_of_lt (lt_of_some h.ht))
theorem TwAt.below (h : TwAt base w bt bR bG rb vr vg T) (hb : Below w.heap.size w w1) : TwAt base w1 bt bR bG rb vr vg T := by
  have hk := Keep.of_below h.base_le hb
  exact { h with
    ht := (hb.block _ (lt_of_some h.ht)).trans h.ht
    hR := (hb.block _ (lt_of_some h.hR)).trans h.hR
    hr := fun i hi => (hb.block _ (lt_of_some (h.hr i hi))).trans (h.hr i hi)
    hG := (hb.block _ (lt_of_some h.hG)).trans h.hG
    hg := fun i hi => by
      obtain ⟨inner, ho, hl⟩ := h.hg i hi
      exact ⟨inner, pw_own_below ho hb, fun j l hj => by obtain ⟨v, hv, hf⟩ := hl j l hj; exact ⟨v, hv, hf.keep hk⟩⟩
    leaf := fun i x hi hx => (h.leaf i x hi hx).keep hk }
end
end
section
def stripL : Nat → Tw → List Int → Int → Option Int
  | 0, _, _, _ => none
  | k + 1, T, p, b =>
    if b < T.n then (if 0 ≤ b then (if b < (p.length : Int) then (if 0 ≤ rd p b then (if rd p b < T.n then (
      if T.rep b (rd p b) = [] then some b else (perm_inverse.f k (T.rep b (rd p b))).bind fun i => (perm_then.f k p i).bind fun q => stripL k T q (b + 1))
      else none) else none) else none) else none) else some T.n
theorem run_eql_nil (w : World) (a : Option Addr) (n c : Nat) : (binOp .eql 22 (.slice a n c) (.slice none 0 0)).run Try.prog w = .ok (.bool a.isNone) w := Lib.run_eql_slice_nil w 22 3 a n c 0 0 Try.underlying22
theorem run_neq_nil (w : World) (a : Option Addr) (n c : Nat) : (binOp .neq 22 (.slice a n c) (.slice none 0 0)).run Try.prog w = .ok (.bool (!a.isNone)) w := run_neq_slice_nil_any w 22 3 a n c 0 0 Try.underlying22
theorem C_some {w : World} {A : Option Addr} {l : List Int} (h : Kd.C (Kd.int .i64) w A l.length l) (hl : l ≠ []) : ∃ ad, A = some ad := by
  have h0 : 0 < l.length := List.length_pos_iff.2 hl
  obtain ⟨ad, e, _⟩ := Kd.at_int h 0 (by omega) (by omega)
  exact ⟨ad, e⟩
theorem strip_calls {base : Nat} {bt bR bG : Nat} {rb : Nat → Nat} {vr : Nat → Nat → Value} {vg : Nat → Value} {T : Tw} (k : Nat) (A0 : Option Addr) (c0 : Nat) (p : List Int) (b : Int) (r : Int) (w : World)
    (hT : TwAt base w bt bR bG rb vr vg T) (hr0 : Kd.C (Kd.int .i64) w A0 p.length p) (hc0 : p.length ≤ c0) (h : stripL k T p b = some r) :
    Calls Try.prog 83 #[.pointer (some ⟨bt, 0, none⟩), .slice A0 p.length c0, .int .i64 b] w fun e w' => ∃ v0_ : Value, e = .returned (.tuple #[v0_, .int .i64 r]) ∧ Below w.heap.size w w' := by
  have HT := Aside0.mk hT
  have HR0 := Aside0.mk hr0
  have HC0 := Aside0.mk hc0
  have HB := Aside0.mk (Below.refl w.heap.size w)
  have H' := Aside0.mk h
  clear hT hr0 hc0 h
  go_enter Try.func83, Try.ntmps83
  go_wp2
  go_loopg [1, 2] k (fun kq v1 v2 w' => ∃ (q : List Int) (A1 : Option Addr) (c1 : Nat) (b1 : Int), v1 = .slice A1 q.length c1 ∧ v2 = .int .i64 b1 ∧ Aside0 (stripL kq T q b1 = some r) ∧ Aside0 (kq ≤ k) ∧ Aside0 (Kd.C (Kd.int .i64) w' A1 q.length q) ∧ Aside0 (q.length ≤ c1) ∧ Aside0 (Below w.heap.size w w'))
  case atStart => exact ⟨p, A0, c0, b, rfl, rfl, H', ⟨Nat.le_refl _⟩, HR0, HC0, HB⟩
  case round =>
    clear H' HB HR0 HC0; obtain ⟨q, A1, c1, b1, rfl, rfl, HA, HK1, HR, HC, HB⟩ := hrel
    cases gk with
    | zero => exact absurd HA.out (by simp [stripL])
    | succ k1 =>
      have H := HA.out; clear HA; simp only [stripL] at H; have hn64 := HT.out.n64; have HTr := Aside0.mk (HT.out.below HB.out); have hx0 := HTr.out.cell0
      by_cases c7 : b1 < (T.n : Int)
      · rw [if_pos c7] at H; have c7b : decide (b1 < (T.n : Int)) = true := decide_eq_true c7; have hx1 := HTr.out.cell1
        by_cases c8 : 0 ≤ b1
        · rw [if_pos c8] at H
          by_cases c9 : b1 < (q.length : Int)
          · rw [if_pos c9] at H
            by_cases c10 : 0 ≤ rd q b1
            · rw [if_pos c10] at H
              by_cases c11 : rd q b1 < (T.n : Int)
              · rw [if_pos c11] at H; have hx2 := HTr.out.cellR c8 c7; have hx3 := HTr.out.cellr c8 c7 c10 c11; obtain ⟨ad, e1, hx4⟩ := Kd.at_int HR.out b1 c8 c9
                cases e1; have hL := HTr.out.leafr c8 c7 c10 c11; have p8 := eq_true c8; have p9 := eq_true c9; have p7 := eq_true c7; have p10 := eq_true c10; have p11 := eq_true c11
                by_cases c12 : T.rep b1 (rd q b1) = []
                · rw [if_pos c12] at H; obtain rfl := Option.some.inj H; obtain ⟨A2, c2, hv, hl2, hf2, hnil⟩ := hL; have hv0 := hnil c12; rw [hv0] at hx3; have hq := fun W => run_eql_nil W none 0 0
                  clear hv hv0 hnil hf2 hl2 c12 H; go_wp2
                  go_quiet (fail)
                  go_wp2
                  go_ret2
                  exact ⟨_, rfl, pw_below_drewN HB.out _⟩
                · rw [if_neg c12] at H; replace H := Option.bind_eq_some_iff.mp H; obtain ⟨i, hi, H⟩ := H; replace H := Option.bind_eq_some_iff.mp H; obtain ⟨q2, hq2, H⟩ := H; obtain ⟨A2, c2, hv, hl2, hC2⟩ := hL.reads; obtain ⟨ad2, rfl⟩ := C_some hC2 c12; rw [hv] at hx3; have hq := fun W => run_eql_nil W (some ad2) (T.rep b1 (rd q b1)).length c2
                  have Hi := Aside0.mk hi; have Hq2 := Aside0.mk hq2; have H' := Aside0.mk H; have HC2 := Aside0.mk hC2; have HL2 := Aside0.mk hl2; clear hv c12 H hi hq2 hC2 hl2 hL; go_wp2
                  go_quiet (fail)
                  have HCr := Aside0.mk (Kd.C_below HC2.out (Below.refl _ _))
                  go_wp2_with (first
                    | (go_at_call 55; (with_reducible refine (perm_inverse.calls k1 _ _ (T.rep b1 (rd q b1)) i _ ?s1 ?s2 Hi.out).mono ?_); (case s1 => exact Kd.C_drewN HC2.out _); (case s2 => exact HL2.out); rintro e w3 ⟨v3, rfl, ho3, hb3⟩; obtain ⟨A3, c3, rfl, hl3, hr3⟩ := Kd.R_reads ho3; have HR3 := Aside0.mk hr3; have HL3 := Aside0.mk hl3; have HB3 := Aside0.mk (below_step (pw_below_drewN HB.out nq) hb3); have HQ3 := Aside0.mk (Kd.C_below (Kd.C_drewN HR.out nq) hb3); clear ho3 hb3 hr3 hl3)
                    | (go_at_call 50; (with_reducible refine (perm_then.calls k1 _ _ q _ _ i q2 _ ?s1 ?s2 ?s3 ?s4 Hq2.out).mono ?_); (case s1 => exact HQ3.out); (case s2 => exact HC.out); (case s3 => exact HR3.out); (case s4 => exact HL3.out); rintro e w4 ⟨v4, rfl, ho4, hb4⟩; obtain ⟨A4, c4, rfl, hl4, hr4⟩ := Kd.R_reads ho4; have HR4 := Aside0.mk hr4; have HL4 := Aside0.mk hl4; have HB4 := Aside0.mk (below_step HB3.out hb4); clear ho4 hb4 hr4 hl4))
                  go_roundg k1
                  case measure => have := HK1.out; omega
                  case rel => exact ⟨q2, A4, c4, b1 + 1, rfl, rfl, H', ⟨by have := HK1.out; omega⟩, HR4, HL4, HB4⟩
              · rw [if_neg c11] at H
                cases H
            · rw [if_neg c10] at H
              cases H
          · rw [if_neg c9] at H
            cases H
        · rw [if_neg c8] at H
          cases H
      · rw [if_neg c7] at H; obtain rfl := Option.some.inj H; have c7b : decide (b1 < (T.n : Int)) = false := decide_eq_false c7; go_wp2
        go_quiet (fail)
        go_wp2
        go_ret2
        exact ⟨_, rfl, pw_below_drewN HB.out _⟩
end
section
theorem run_eql_nil28 (w : World) (a : Option Addr) (n c : Nat) : (binOp .eql 28 (.slice a n c) (.slice none 0 0)).run Try.prog w = .ok (.bool a.isNone) w := Lib.run_eql_slice_nil w 28 22 a n c 0 0 Try.underlying28
theorem raw_reads {w : World} {g n : Nat} {vals : List Value} (hl : vals.length = n) (hn : n ≤ 64) (hone : ∀ v ∈ vals, v.oneCell' = true) (hc : ∀ (j : Nat) (u : Value), vals[j]? = some u → w.cell? ⟨g, j, none⟩ = some u) :
    ReadsRow (fun x cs => cs = x ∧ cs.length = 1 ∧ ∀ u ∈ cs, u.oneCell' = true) 1 w (some ⟨g, 0, none⟩) n (vals.map (fun v => [v])) := by
  refine ⟨by simpa using hl, by omega, fun h0 => ⟨_, rfl, fun j p hj => ?_⟩⟩
  rw [List.getElem?_map] at hj
  obtain ⟨v, hv, rfl⟩ := Option.map_eq_some_iff.1 hj
  refine ⟨[v], rfl, ⟨rfl, rfl, fun u hu => ?_⟩, fun i u hu => ?_⟩
  · rw [List.mem_singleton.1 hu]; exact hone v (List.mem_of_getElem? hv)
  · match i, hu with
    | 0, hu =>
      obtain rfl := Option.some.inj hu; rw [add_plain, Nat.mul_one, Nat.add_zero]
      exact hc j v hv
theorem raw_cells {w : World} {b e : Nat} {ok : Nat → Prop} {v : Value} {vals : List Value} (h : (Kd.raw 1).R e w b ok v (vals.map (fun v => [v]))) (h0 : 0 < vals.length) :
    ∃ g c, v = .slice (some ⟨g, 0, none⟩) vals.length c ∧ b ≤ g ∧ g < w.heap.size ∧ ∀ (j : Nat) (u : Value), vals[j]? = some u → w.cell? ⟨g, j, none⟩ = some u := by
  obtain ⟨_, inner, ho, hr⟩ := h
  rw [List.length_map] at ho
  obtain ⟨g, cap, he, hbg, hlg⟩ := ho.form h0
  subst he
  refine ⟨g, cap, rfl, hbg, hlg, fun j u hu => ?_⟩
  have h1 := hr.2 j [u] (by rw [List.getElem?_map, hu]; rfl)
  have h2 : ((inner.drop (j * 1)).take 1) = [u] := h1.1
  have h3 : inner[j]? = some u := by
    have := congrArg List.head? h2; rw [Nat.mul_one] at this
    simpa [List.head?_take, List.head?_drop] using this
  have h4 := ho.cells (g := g) rfl j u h3
  rwa [add_plain] at h4
theorem clone84_calls (g n : Nat) (vals : List Value) (w : World) (hl : vals.length = n) (h1 : 1 ≤ n) (hn : n ≤ 64) (hone : ∀ v ∈ vals, v.oneCell' = true) (hc : ∀ (j : Nat) (u : Value), vals[j]? = some u → w.cell? ⟨g, j, none⟩ = some u) :
    Calls Try.prog 84 #[.slice (some ⟨g, 0, none⟩) n n] w fun e w' => ∃ g' c, e = .returned (.slice (some ⟨g', 0, none⟩) n c) ∧ w.heap.size ≤ g' ∧ g' < w'.heap.size ∧ (∀ (j : Nat) (u : Value), vals[j]? = some u → w'.cell? ⟨g', j, none⟩ = some u) ∧ Below w.heap.size w w' := by
  have HRR := Aside0.mk (raw_reads hl hn hone hc)
  have HL := Aside0.mk hl
  have HB := Aside0.mk (Below.refl w.heap.size w)
  have hq := fun W => run_eql_nil28 W (some ⟨g, 0, none⟩) n n
  clear hl hone hc
  go_enter Try.func84, Try.ntmps84
  go_wp2_with (first
    | ((with_reducible refine gate_dst (N := 5) rfl ?_); refine Kd.R_lit (Kd.raw 1) _ 22 ?hg (N := 5) ?hd (xs := ([] : List (List Value))) (inner := []) (ok := fun _ => True) (okp := fun _ => True) ?hr ?hp (fun _ hk => hk) trivial (Below.refl _ _) (Nat.le_refl _) (by simp) ?_; (case hd => rfl); (case hg => rfl); (case hr => first | (go_simp; done) | (go_simp; rfl)); (case hp => exact (Reps.none _ _)); intro v1 w1 ho1 hb1 hg_ hnew_; clear hg_ hnew_; have HO1 := Aside0.mk ho1; have HB1 := Aside0.mk hb1; clear ho1 hb1)
    | ((with_reducible refine gate_builtin (b := .append) (xs := #[.tmp 5, .tmp 6]) rfl ?_); at_builtin; refine Kd.R_append_rows (Kd.raw 1) (w0 := w) w.heap.size rfl (.tmp 5) (.tmp 6) 28 22 (.slice none 0 0) 24 rfl Try.underlying28 info22 rfl (by decide) (by omega) v1 [] (vals.map (fun v => [v])) _ _ _ (fun _ => True) (fun _ => False) rfl rfl ?aO ?aR (fun _ _ h => h) (fun _ h => h.elim) ?aF ?aB ?aS ?aL ?_; (case aR => exact HRR.out.imp_ (HB1.out) (fun _ _ h => h)); (case aB => exact HB1.out); (case aF => exact (fun _ _ => trivial)); (case aO => exact HO1.out); (case aS => exact HB1.out.size); (case aL => simp only [List.length_nil]; omega); intro v2 w2 ho2 hb2 hg2 hat2; have HO2 := Aside0.mk ho2; have HB2 := Aside0.mk hb2; clear ho2 hb2 hg2 hat2))
  go_ret
  have ho2 := HO2.out
  rw [List.nil_append] at ho2
  obtain ⟨g', c, hv, hbg, hlg, hcc⟩ := raw_cells ho2 (by rw [HL.out]; omega)
  rw [HL.out] at hv
  exact ⟨g', c, by rw [← hv]; rfl, hbg, hlg, hcc, HB2.out⟩
end
section
def Tw.setRep (T : Tw) (b x : Int) (p : List Int) : Tw := { T with reps := T.reps.set b.toNat ((T.row b).set x.toNat p) }
def Tw.addGen (T : Tw) (b : Int) (p : List Int) : Tw := { T with gens := T.gens.set b.toNat (T.gen b ++ [p]) }
theorem range_set {n x : Nat} (f : Nat → Value) (v : Value) : ((List.range n).map f).toArray.setIfInBounds x v = ((List.range n).map (fun y => if y = x then v else f y)).toArray := by
  apply Array.ext
  · simp
  · intro i h1 h2
    simp only [List.setIfInBounds_toArray, List.getElem_toArray, List.getElem_set, List.getElem_map, List.getElem_range]
    by_cases h : x = i
    · simp [h]
    rw [if_neg h, if_neg (fun e => h e.symm)]
theorem getD_set_same {α : Type} {l : List α} {i : Nat} {a d : α} (h : i < l.length) : (l.set i a).getD i d = a := by simp [List.getD_eq_getElem?_getD, h]
theorem getD_set_ne {α : Type} {l : List α} {i j : Nat} {a d : α} (h : i ≠ j) : (l.set i a).getD j d = l.getD j d := by simp [List.getD_eq_getElem?_getD, List.getElem?_set_ne h]
theorem ne_of_types {w : World} {g g' t t' : Nat} {cs cs' : Array Value} {fr fr' : Nat × Nat} (h : w.heap[g]? = some (Obj.cells cs t fr)) (h' : w.heap[g']? = some (Obj.cells cs' t' fr')) (ht : t ≠ t') : g ≠ g' := by
  rintro rfl
  rw [h] at h'
  injection h' with h'
  injection h' with _ h2
  exact ht h2
theorem Keep.set_ {base : Nat} {w : World} {g x t : Nat} {cs : Array Value} {fr : Nat × Nat} (hg : base ≤ g) (hb : w.heap[g]? = some (Obj.cells cs t fr)) (ht : t ≠ 3) (v : Value) : Keep base w (w.setCell ⟨g, x, none⟩ v) :=
  ⟨(Below.refl base w).setCell hg v, fun k cs' fr' hk => Below.heap_setCell w ⟨g, x, none⟩ v k (fun e => ne_of_types hk hb (Ne.symm ht) e)⟩
def Own (n : Nat) (rb : Nat → Nat) (bG : Nat) (vg : Nat → Value) (k : Nat) : Prop := (∃ i, i < n ∧ k = rb i) ∨ k = bG ∨ ∃ i, i < n ∧ (vg i).ownBlock = some k
structure TwFr (n : Nat) (rb : Nat → Nat) (bG : Nat) (vg : Nat → Value) (w : World) (vg' : Nat → Value) (w' : World) : Prop where
  size : w.heap.size ≤ w'.heap.size
  same : ∀ k, k < w.heap.size → ¬ Own n rb bG vg k → w'.heap[k]? = w.heap[k]?
  own : ∀ k, k < w.heap.size → Own n rb bG vg' k → Own n rb bG vg k
theorem TwFr.of_below {n : Nat} {rb : Nat → Nat} {bG : Nat} {vg : Nat → Value} {w w' : World} (h : Below w.heap.size w w') : TwFr n rb bG vg w vg w' := ⟨h.size, fun k hk _ => h.block k hk, fun _ _ h => h⟩
theorem TwFr.refl {n : Nat} {rb : Nat → Nat} {bG : Nat} {vg : Nat → Value} {w : World} : TwFr n rb bG vg w vg w := ⟨Nat.le_refl _, fun _ _ _ => rfl, fun _ _ h => h⟩
theorem TwFr.trans {n : Nat} {rb : Nat → Nat} {bG : Nat} {vg vg1 vg2 : Nat → Value} {w w1 w2 : World} (h : TwFr n rb bG vg w vg1 w1) (k : TwFr n rb bG vg1 w1 vg2 w2) : TwFr n rb bG vg w vg2 w2 :=
  ⟨Nat.le_trans h.size k.size, fun i hi hn => (k.same i (Nat.lt_of_lt_of_le hi h.size) (fun ho => hn (h.own i hi ho))).trans (h.same i hi hn), fun i hi ho => h.own i hi (k.own i (Nat.lt_of_lt_of_le hi h.size) ho)⟩
section
variable {base : Nat} {w w1 : World} {bt bR bG : Nat} {rb : Nat → Nat} {vr : Nat → Nat → Value} {vg : Nat → Value} {T : Tw}
theorem TwAt.set_rep (h : TwAt base w bt bR bG rb vr vg T) {b x : Int} (h0 : 0 ≤ b) (h1 : b < T.n) (h2 : 0 ≤ x) (h3 : x < T.n) {v : Value} {p : List Int} (hv : LeafN base w v p) :
    TwAt base (w.setCell ⟨rb b.toNat, x.toNat, none⟩ v) bt bR bG rb (fun i y => if i = b.toNat ∧ y = x.toNat then v else vr i y) vg (T.setRep b x p) ∧ Keep base w (w.setCell ⟨rb b.toNat, x.toNat, none⟩ v) ∧ TwFr T.n rb bG vg w vg (w.setCell ⟨rb b.toNat, x.toNat, none⟩ v) := by
  have hbn : b.toNat < T.n := by omega
  have hk : Keep base w (w.setCell ⟨rb b.toNat, x.toNat, none⟩ v) := Keep.set_ (h.grb _ hbn) (h.hr _ hbn) (by decide) v
  have hrow : T.row b = T.reps.getD b.toNat [] := rfl
  refine ⟨{ h with lr := ?_, lrr := ?_, ht := ?_, hR := ?_, hr := ?_, hG := ?_, hg := ?_, leaf := ?_ }, hk, ⟨by simp [World.setCell], fun k hk2 hn => Below.heap_setCell w ⟨rb b.toNat, x.toNat, none⟩ v k (fun e => hn (.inl ⟨b.toNat, hbn, e⟩)), fun _ _ h => h⟩⟩
  · simp [Tw.setRep, h.lr]
  · intro i hi
    by_cases e : b.toNat = i
    · subst e; simp only [Tw.setRep]; rw [getD_set_same (by rw [h.lr]; exact hbn), List.length_set, hrow]
      exact h.lrr _ hbn
    simp only [Tw.setRep]; rw [getD_set_ne e]
    exact h.lrr i hi
  · exact (Below.heap_setCell w _ v bt (ne_of_types h.ht (h.hr _ hbn) (by decide))).trans h.ht
  · exact (Below.heap_setCell w _ v bR (ne_of_types h.hR (h.hr _ hbn) (by decide))).trans h.hR
  · intro i hi
    by_cases e : b.toNat = i
    · subst e; have := blk_set (h.hr _ hbn) x.toNat v; rw [range_set] at this
      simpa [Tw.setRep] using this
    have := (Below.heap_setCell w ⟨rb b.toNat, x.toNat, none⟩ v (rb i) (fun e2 => e (h.drb _ _ hbn hi e2.symm))).trans (h.hr i hi); rw [this]; have e' : ¬ i = b.toNat := fun z => e z.symm
    simp [e', Tw.setRep]
  · exact (Below.heap_setCell w _ v bG (ne_of_types h.hG (h.hr _ hbn) (by decide))).trans h.hG
  · intro i hi
    obtain ⟨inner, ho, hl⟩ := h.hg i hi
    refine ⟨inner, own_move ho (fun k hk' => Below.heap_setCell w ⟨rb b.toNat, x.toNat, none⟩ v k (fun e => ?_)), fun j l hj => ?_⟩
    · subst e
      exact h.drg b.toNat i hbn hi hk'
    · obtain ⟨u, hu, hf⟩ := hl j l hj
      exact ⟨u, hu, hf.keep hk⟩
  · intro i y hi hy
    by_cases e : b.toNat = i
    · subst e
      have hl : (T.setRep b x p).reps.getD b.toNat [] = (T.row b).set x.toNat p := by
        simp only [Tw.setRep]; rw [getD_set_same (by rw [h.lr]; exact hbn)]
      rw [hl]
      by_cases e2 : x.toNat = y
      · subst e2; rw [getD_set_same (by rw [hrow, h.lrr _ hbn]; omega), if_pos ⟨rfl, rfl⟩]
        exact hv.keep hk
      rw [getD_set_ne e2, if_neg (fun z => e2 z.2.symm)]
      exact (h.leaf _ y hi hy).keep hk
    have hl : (T.setRep b x p).reps.getD i [] = T.reps.getD i [] := by
      simp only [Tw.setRep]; rw [getD_set_ne e]
    rw [hl, if_neg (fun z => e z.1.symm)]
    exact (h.leaf i y hi hy).keep hk
theorem TwAt.add_gen (h : TwAt base w bt bR bG rb vr vg T) {b : Int} (h0 : 0 ≤ b) (h1 : b < T.n) {v v1 : Value} {p : List Int} {inner : List Value} (hv : Leaf base w v p)
    (hin : ∀ (j : Nat) (l : List Int), (T.gen b)[j]? = some l → ∃ u, inner[j]? = some u ∧ Leaf base w u l) (hl : inner.length = (T.gen b).length)
    (hown : w1.ownsRow base 22 1 v1 ((T.gen b).length + 1) (inner ++ [v])) (hg : w.grownBy w1 (vg b.toNat).ownBlock) (hat : v1.ownBlock = (vg b.toNat).ownBlock ∨ ∃ g, v1.ownBlock = some g ∧ w.heap.size ≤ g) :
    TwAt base (w1.setCell ⟨bG, b.toNat, none⟩ v1) bt bR bG rb vr (fun i => if i = b.toNat then v1 else vg i) (T.addGen b p) ∧ Keep base w (w1.setCell ⟨bG, b.toNat, none⟩ v1) ∧ TwFr T.n rb bG vg w (fun i => if i = b.toNat then v1 else vg i) (w1.setCell ⟨bG, b.toNat, none⟩ v1) := by
  have hbn : b.toNat < T.n := by omega
  obtain ⟨inner0, ho0, hl0⟩ := h.hg _ hbn
  -- the blocks that the append may have written are of type 22, from base on
  have hob : ∀ k, (vg b.toNat).ownBlock = some k → base ≤ k ∧ ∃ cs, w.heap[k]? = some (Obj.cells cs 22 (0, 0)) := fun k hk => ⟨own_base ho0 k hk, own_typed ho0 k hk⟩
  have hsame : ∀ (k t : Nat) (cs : Array Value) (fr : Nat × Nat), w.heap[k]? = some (Obj.cells cs t fr) → t ≠ 22 → w1.heap[k]? = w.heap[k]? := fun k t cs fr hk ht =>
    hg.block k (lt_of_some hk) (fun e => by
      obtain ⟨_, cs', hc⟩ := hob k e.symm
      exact ne_of_types hk hc ht rfl)
  have hk1 : Keep base w w1 := ⟨(Below.refl base w).grown hg h.base_le (fun k hk => (hob k hk).1), fun k cs fr hk => hsame k 3 cs fr hk (by decide)⟩
  have hG1 : w1.heap[bG]? = some (.cells ((List.range T.n).map vg).toArray 28 (0, 0)) := (hsame bG 28 _ _ h.hG (by decide)).trans h.hG
  have hk2 : Keep base w1 (w1.setCell ⟨bG, b.toNat, none⟩ v1) := Keep.set_ h.gG hG1 (by decide) v1
  have hk := hk1.trans hk2
  have far : ∀ (k t : Nat) (cs : Array Value) (fr : Nat × Nat), w.heap[k]? = some (Obj.cells cs t fr) → t ≠ 22 → t ≠ 28 → (w1.setCell ⟨bG, b.toNat, none⟩ v1).heap[k]? = w.heap[k]? := fun k t cs fr hk ht ht2 =>
    (Below.heap_setCell w1 ⟨bG, b.toNat, none⟩ v1 k (ne_of_types ((hsame k t cs fr hk ht).trans hk) hG1 ht2)).trans (hsame k t cs fr hk ht)
  have hrb : ∀ i, i < T.n → (w1.setCell ⟨bG, b.toNat, none⟩ v1).heap[rb i]? = w.heap[rb i]? := fun i hi => by
    have e1 : w1.heap[rb i]? = w.heap[rb i]? := hg.block _ (lt_of_some (h.hr i hi)) (fun e => h.drg i b.toNat hi hbn e.symm)
    exact (Below.heap_setCell w1 ⟨bG, b.toNat, none⟩ v1 (rb i) (ne_of_types (e1.trans (h.hr i hi)) hG1 (by decide))).trans e1
  have hgen : T.gen b = T.gens.getD b.toNat [] := rfl
  have hsz : ∀ i, i < T.n → rb i < w.heap.size := fun i hi => lt_of_some (h.hr i hi)
  refine ⟨{ h with lg := ?_, ht := ?_, hR := ?_, hr := ?_, hG := ?_, hg := ?_, leaf := ?_, drg := ?_, dgg := ?_ }, hk, ⟨?_, ?_, ?_⟩⟩
  · simp [Tw.addGen, h.lg]
  · exact (far bt 108 _ _ h.ht (by decide) (by decide)).trans h.ht
  · have e1 := hsame bR 28 _ _ h.hR (by decide)
    exact (Below.heap_setCell w1 ⟨bG, b.toNat, none⟩ v1 bR h.dRG).trans (e1.trans h.hR)
  · exact fun i hi => (hrb i hi).trans (h.hr i hi)
  · have := blk_set hG1 b.toNat v1
    rw [range_set] at this
    exact this
  · intro i hi
    by_cases e : b.toNat = i
    · subst e
      have hl2 : (T.addGen b p).gens.getD b.toNat [] = T.gen b ++ [p] := by
        simp only [Tw.addGen]; rw [getD_set_same (by rw [h.lg]; exact hbn)]
      rw [hl2, if_pos rfl]
      refine ⟨inner ++ [v], ?_, fun j l hj => ?_⟩
      · rw [List.length_append, List.length_singleton]
        refine own_move hown (fun k hk' => Below.heap_setCell w1 ⟨bG, b.toNat, none⟩ v1 k ?_); obtain ⟨cs, hc⟩ := own_typed hown k hk'
        exact ne_of_types hc hG1 (by decide)
      · rcases Nat.lt_or_ge j (T.gen b).length with hj2 | hj2
        · rw [List.getElem?_append_left hj2] at hj; obtain ⟨u, hu, hf⟩ := hin j l hj
          exact ⟨u, by rw [List.getElem?_append_left (by omega)]; exact hu, hf.keep hk⟩
        · rw [List.getElem?_append_right hj2] at hj
          have hj3 : j = (T.gen b).length := by
            have := (List.getElem?_eq_some_iff.1 hj).1
            simp at this
            omega
          subst hj3
          simp at hj
          subst hj
          exact ⟨v, by rw [← hl]; simp, hv.keep hk⟩
    · have hl2 : (T.addGen b p).gens.getD i [] = T.gens.getD i [] := by
        simp only [Tw.addGen]; rw [getD_set_ne e]
      rw [hl2, if_neg (fun z => e z.symm)]; obtain ⟨inn, ho, hl3⟩ := h.hg i hi
      refine ⟨inn, own_move ho (fun k hk' => ?_), fun j l hj => ?_⟩
      · have hlt := own_lt ho k hk'
        have e1 : w1.heap[k]? = w.heap[k]? := hg.block k hlt (fun e2 => by
          rcases h.dgg i b.toNat hi hbn (fun z => e z.symm) with h5 | h5
          · rw [hk'] at h5; cases h5
          · exact h5 (hk'.trans e2))
        obtain ⟨cs, hc⟩ := own_typed ho k hk'
        exact (Below.heap_setCell w1 ⟨bG, b.toNat, none⟩ v1 k (ne_of_types (e1.trans hc) hG1 (by decide))).trans e1
      · obtain ⟨u, hu, hf⟩ := hl3 j l hj
        exact ⟨u, hu, hf.keep hk⟩
  · exact fun i x hi hx => (h.leaf i x hi hx).keep hk
  · intro i j hi hj
    by_cases e : j = b.toNat
    · rw [if_pos e]
      rcases hat with hat | ⟨g, hg2, hle⟩
      · rw [hat]; exact h.drg i b.toNat hi hbn
      · rw [hg2]
        intro e2
        injection e2 with e2
        have := hsz i hi; omega
    · rw [if_neg e]
      exact h.drg i j hi hj
  · intro i j hi hj hne
    have hlt : ∀ i, i < T.n → ∀ k, (vg i).ownBlock = some k → k < w.heap.size := fun i hi k hk => by
      obtain ⟨inn, ho, _⟩ := h.hg i hi
      exact own_lt ho k hk
    by_cases e : i = b.toNat
    · have e' : ¬ j = b.toNat := fun z => hne (e.trans z.symm)
      rw [if_pos e, if_neg e']
      rcases hat with hat | ⟨g, hg2, hle⟩
      · rw [hat, ← e]; exact h.dgg i j hi hj hne
      · refine .inr (fun e2 => ?_); rw [hg2] at e2; have := hlt j hj g e2.symm; omega
    · rw [if_neg e]
      by_cases e' : j = b.toNat
      · rw [if_pos e']
        rcases hat with hat | ⟨g, hg2, hle⟩
        · rw [hat, ← e']; exact h.dgg i j hi hj hne
        · refine .inr (fun e2 => ?_); rw [hg2] at e2; have := hlt i hi g e2; omega
      · rw [if_neg e']
        exact h.dgg i j hi hj hne
  · have := hg.size
    simpa [World.setCell] using this
  · intro k hk2 hn
    have e1 : w1.heap[k]? = w.heap[k]? := hg.block k hk2 (fun e => hn (.inr (.inr ⟨b.toNat, hbn, e.symm⟩)))
    exact (Below.heap_setCell w1 ⟨bG, b.toNat, none⟩ v1 k (fun e => hn (.inr (.inl e)))).trans e1
  · intro k hk2 ho
    rcases ho with ho | ho | ⟨i, hi, ho⟩
    · exact .inl ho
    · exact .inr (.inl ho)
    · dsimp only at ho
      by_cases e : i = b.toNat
      · rw [if_pos e] at ho
        rcases hat with hat | ⟨g, hg2, hle⟩
        · exact .inr (.inr ⟨b.toNat, hbn, hat ▸ ho⟩)
        · rw [hg2] at ho; injection ho with ho
          omega
      · rw [if_neg e] at ho
        exact .inr (.inr ⟨i, hi, ho⟩)
end
end
end Go.Proofs.Ytjjlhbgpdncpcaa.P
