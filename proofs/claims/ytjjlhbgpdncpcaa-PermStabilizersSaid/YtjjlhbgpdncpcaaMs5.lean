/- What the claim's theorem is built on, part 5: words, walks of the code, and what they tell. -/
import Derived.Test.YtjjlhbgpdncpcaaMs1
import Derived.Test.YtjjlhbgpdncpcaaMs2
import Derived.Test.YtjjlhbgpdncpcaaMs4
import Derived.Test.YtjjlhbgpdncpcaaMs3
namespace Go.Proofs.Ytjjlhbgpdncpcaa.P
open Go.RowKit Go.Proofs.YtjjlhbgpdncpcaaW.PrintWords Go.Proofs.YtjjlhbgpdncpcaaW.PrintLast Go.Proofs.YtjjlhbgpdncpcaaW.PrintMore
set_option linter.unusedVariables false
set_option linter.unusedSimpArgs false
set_option maxHeartbeats 8000000
set_option maxRecDepth 100000
section
attribute [local go_sem] max2_int min2_int max_two min_two max_three min_three max_four min_four
mutual
def l30_PermStabilizers.j0 : Nat → List (List Int) → Int → Bool → Option (Bool)
  | 0, _, _, _ => none
  | k + 1, x1, x5, x34 => if x34 = true then ((l30_awake.f).bind fun t736 => (some t736)) else ((perm_Build.f k x5 x1).bind fun bt737 => ((perm_Orbits.f k x5 x1).bind fun bt743 => ((perm_Size.f k bt737.1 bt737.2.1).bind fun bt747 => (if bt737.2.2 = 0 then (if bt743.2 = 0 then (l30_PermStabilizers.j1 k x5 bt743.1 bt747.1 (bt747.2 != 0) bt737.1 bt737.2.1) else (l30_PermStabilizers.j1 k x5 bt743.1 bt747.1 true bt737.1 bt737.2.1)) else (l30_PermStabilizers.j1 k x5 bt743.1 bt747.1 true bt737.1 bt737.2.1)))))
def l30_PermStabilizers.j1 : Nat → Int → List (List Int) → List Int → Bool → Int → List (S74) → Option (Bool)
  | 0, _, _, _, _, _, _ => none
  | k + 1, x5, x8, x10, x62, x743000, x743001 => if x62 = true then (some false) else (if (x743001.length : Int) = 0 then (if (x8.length : Int) = x5 then ((r01_Cmp.f k x10 (([1] : List Int))).bind fun t754 => (some (t754 == 0))) else (some false)) else (if 0 < (x743001.length : Int) then (l30_PermStabilizers.l0 k x5 x10 false x8 (x8.length : Int) 0 x743000 x743001 ((rd_T74 x743001 0).f0) ((rd_T74 x743001 0).f1) ((rd_T74 x743001 0).f2)) else (none)))
def l30_PermStabilizers.l0 : Nat → Int → List Int → Bool → List (List Int) → Int → Int → Int → List (S74) → Int → List Int → List (List Int) → Option (Bool)
  | 0, _, _, _, _, _, _, _, _, _, _, _ => none
  | k + 1, x5, x10, x13, x81, x82, x83, x743000, x743001, x757000, x757001, x757002 => if x83 < x82 then (if 0 ≤ x83 then (if x83 < (x81.length : Int) then (if x13 = true then (if ((rd_L1 x81 x83).length : Int) > 1 then (if 0 < ((rd_L1 x81 x83).length : Int) then (if (rd (rd_L1 x81 x83) 0) < x757000 then (some false) else (l30_PermStabilizers.l0 k x5 x10 true x81 x82 (wrap64 (x83 + 1)) x743000 x743001 x757000 x757001 x757002)) else (none)) else (l30_PermStabilizers.l0 k x5 x10 true x81 x82 (wrap64 (x83 + 1)) x743000 x743001 x757000 x757001 x757002)) else (if ((rd_L1 x81 x83).length : Int) > 1 then (if 0 < ((rd_L1 x81 x83).length : Int) then (if (rd (rd_L1 x81 x83) 0) = x757000 then ((r09_SameInts.f k (rd_L1 x81 x83) x757001).bind fun t760 => (if (rd (rd_L1 x81 x83) 0) < x757000 then (some false) else (l30_PermStabilizers.l0 k x5 x10 t760 x81 x82 (wrap64 (x83 + 1)) x743000 x743001 x757000 x757001 x757002))) else (if (rd (rd_L1 x81 x83) 0) < x757000 then (some false) else (l30_PermStabilizers.l0 k x5 x10 false x81 x82 (wrap64 (x83 + 1)) x743000 x743001 x757000 x757001 x757002))) else (none)) else (l30_PermStabilizers.l0 k x5 x10 false x81 x82 (wrap64 (x83 + 1)) x743000 x743001 x757000 x757001 x757002))) else (none)) else (none)) else (if 1 ≤ (x743001.length : Int) then ((perm_Size.f k x5 (x743001.drop 1)).bind fun bt769 => (if x13 = true then (if bt769.2 = 0 then ((nat_Of.f (IntKind.u64.wrap ((x757001.length : Int)))).bind fun t773 => ((nat_Mul.f k (([bt769.1, t773] : List (List Int)))).bind fun t779 => ((r01_Cmp.f k t779 x10).bind fun t782 => (some (t782 == 0))))) else (some false)) else (some false))) else (none))
end
def l30_PermStabilizers.f (k : Nat) (a0 : Int) (l1 : List (List Int)) : Option (Bool) := (l30_awake.f).bind fun t734 => (if t734 = true then (if (l1.length : Int) > 4 then (l30_PermStabilizers.j0 k l1 (wrap64 (1 + (Int.tmod (wrap64 (a0)) 8))) true) else ((l30_valid.f k (wrap64 (1 + (Int.tmod (wrap64 (a0)) 8))) l1).bind fun t735 => (l30_PermStabilizers.j0 k l1 (wrap64 (1 + (Int.tmod (wrap64 (a0)) 8))) (!t735)))) else (l30_PermStabilizers.j0 k l1 (wrap64 (1 + (Int.tmod (wrap64 (a0)) 8))) true))
theorem l30_PermStabilizers.calls (k : Nat) (a0 : Int) (A1 : Option Addr) (c1 : Nat) (l1 : List (List Int)) (r : Bool) (w : World) (hr1 : Kd.C (Kd.slice 3 (Kd.int .i64)) w A1 l1.length l1) (hc1 : l1.length ≤ c1) (h : l30_PermStabilizers.f k a0 l1 = some r) (hr_ : r = true) :
    Calls Try.prog 11 #[.int .u8 a0, .slice A1 l1.length c1] w fun e w' => e = .returned (.bool r) ∧ Below w.heap.size w w' := by
  have HR_ := aM hr_
  clear hr_
  have hu46 := Try.underlying46
  have hu74 := Try.underlying74
  have HR1 := aM hr1
  have HC1 := aM hc1
  clear hr1 hc1
  have HB := aM (Below.refl w.heap.size w)
  have H : ((l30_awake.f).bind fun t734 => (if t734 = true then (if (l1.length : Int) > 4 then (l30_PermStabilizers.j0 k l1 (wrap64 (1 + (Int.tmod (wrap64 (a0)) 8))) true) else ((l30_valid.f k (wrap64 (1 + (Int.tmod (wrap64 (a0)) 8))) l1).bind fun t735 => (l30_PermStabilizers.j0 k l1 (wrap64 (1 + (Int.tmod (wrap64 (a0)) 8))) (!t735)))) else (l30_PermStabilizers.j0 k l1 (wrap64 (1 + (Int.tmod (wrap64 (a0)) 8))) true))) = some r := h
  clear h
  have HC3 := aM H
  clear H
  go_enter Try.func11, Try.ntmps11
  go_upto_region 2 with (fail)
  repeat (go_quiet (fail); go_upto_region 2 with (fail))
  go_cut [34] (fun v34 wc => ∃ (kq : Nat) (x34_2 : Bool), v34 = .bool x34_2 ∧ Aside0 (l30_PermStabilizers.j0 kq l1 (wrap64 (1 + (Int.tmod (wrap64 (a0)) 8))) x34_2 = some r) ∧ Aside0 (kq ≤ k) ∧ Aside0 (Below w.heap.size w wc))
  case first =>
    have H := HC3.out; clear HC3; replace H := Option.bind_eq_some_iff.mp H; obtain ⟨t734, A40, H⟩ := H; replace H : (if t734 = true then (if (l1.length : Int) > 4 then (l30_PermStabilizers.j0 k l1 (wrap64 (1 + (Int.tmod (wrap64 (a0)) 8))) true) else ((l30_valid.f k (wrap64 (1 + (Int.tmod (wrap64 (a0)) 8))) l1).bind fun t735 => (l30_PermStabilizers.j0 k l1 (wrap64 (1 + (Int.tmod (wrap64 (a0)) 8))) (!t735)))) else (l30_PermStabilizers.j0 k l1 (wrap64 (1 + (Int.tmod (wrap64 (a0)) 8))) true)) = some r := H; have A4 := aM A40; clear A40
    by_cases c5 : t734 = true
    · subst c5; have H1 : (if (l1.length : Int) > 4 then (l30_PermStabilizers.j0 k l1 (wrap64 (1 + (Int.tmod (wrap64 (a0)) 8))) true) else ((l30_valid.f k (wrap64 (1 + (Int.tmod (wrap64 (a0)) 8))) l1).bind fun t735 => (l30_PermStabilizers.j0 k l1 (wrap64 (1 + (Int.tmod (wrap64 (a0)) 8))) (!t735)))) = some r := by rw [if_pos rfl] at H; exact H
      clear H; have H := H1; clear H1
      by_cases c6 : (l1.length : Int) > 4
      · rw [if_pos c6] at H; have c6b0 := decide_eq_true c6; have c6b1 : decide (4 < l1.length) = true := decide_eq_true (by omega); clear c6
        (first | rw [c6b0] | (simp only [i64_w, i32_w]; rw [c6b0]) | skip)
        have H' := aM H; clear H
        go_wp2_with (first | (go_at_call 12; (with_reducible refine (l30_awake.calls  true _ A4.out).mono ?_); rintro e w7 ⟨rfl, hb⟩; replace HB := aM (below_step zz110 hb); (try clear hb); (try clear hb2); (try clear hk); (try clear hi)))
        repeat (go_quiet (first | (go_at_call 12; (with_reducible refine (l30_awake.calls  true _ A4.out).mono ?_); rintro e w7 ⟨rfl, hb⟩; replace HB := aM (below_step zz110 hb); (try clear hb); (try clear hb2); (try clear hk); (try clear hi))); try go_wp2_with (first | (go_at_call 12; (with_reducible refine (l30_awake.calls  true _ A4.out).mono ?_); rintro e w7 ⟨rfl, hb⟩; replace HB := aM (below_step zz110 hb); (try clear hb); (try clear hb2); (try clear hk); (try clear hi))))
        go_meet
        case rel => exact ⟨_, (true), zz136, H', ⟨zz138⟩, ⟨zz110⟩⟩
      rw [if_neg c6] at H; have c6b0 := decide_eq_false c6; have c6b1 : decide (4 < l1.length) = false := decide_eq_false (by omega); clear c6
      (first | rw [c6b0] | (simp only [i64_w, i32_w]; rw [c6b0]) | skip)
      replace H := Option.bind_eq_some_iff.mp H; obtain ⟨t735, A80, H⟩ := H; replace H : (l30_PermStabilizers.j0 k l1 (wrap64 (1 + (Int.tmod (wrap64 (a0)) 8))) (!t735)) = some r := H; have A8 := aM A80; clear A80; have H' := aM H; clear H
      go_wp2_with (first | (go_at_call 12; (with_reducible refine (l30_awake.calls  true _ A4.out).mono ?_); rintro e w9 ⟨rfl, hb⟩; replace HB := aM (below_step zz110 hb); (try clear hb); (try clear hb2); (try clear hk); (try clear hi)) | (go_at_call 25; (with_reducible refine (l30_valid.calls k (wrap64 (1 + (Int.tmod (wrap64 (a0)) 8))) _ _ l1 t735 _ ?side1 ?side2 A8.out).mono ?_); (case side1 => repeat (first | exact (Kd.C_below HR1.out HB.out) | (with_reducible refine Kd.C_alloc ?_ _) | (with_reducible refine Kd.C_drewN ?_ _) | (with_reducible refine Kd.C_drew ?_))); (case side2 => exact HC1.out); rintro e w' ⟨rfl, ⟨nd, rfl⟩⟩; (try first | exact ⟨rfl, _, World.drewN_drewN _ _ _⟩ | exact ⟨rfl, _, Eq.trans (World.drewN_drewN _ _ _) (congrArg (World.drewN _) (Nat.add_assoc _ _ _))⟩)))
      repeat (go_quiet (first | (go_at_call 12; (with_reducible refine (l30_awake.calls  true _ A4.out).mono ?_); rintro e w9 ⟨rfl, hb⟩; replace HB := aM (below_step zz110 hb); (try clear hb); (try clear hb2); (try clear hk); (try clear hi)) | (go_at_call 25; (with_reducible refine (l30_valid.calls k (wrap64 (1 + (Int.tmod (wrap64 (a0)) 8))) _ _ l1 t735 _ ?side1 ?side2 A8.out).mono ?_); (case side1 => repeat (first | exact (Kd.C_below HR1.out HB.out) | (with_reducible refine Kd.C_alloc ?_ _) | (with_reducible refine Kd.C_drewN ?_ _) | (with_reducible refine Kd.C_drew ?_))); (case side2 => exact HC1.out); rintro e w' ⟨rfl, ⟨nd, rfl⟩⟩; (try first | exact ⟨rfl, _, World.drewN_drewN _ _ _⟩ | exact ⟨rfl, _, Eq.trans (World.drewN_drewN _ _ _) (congrArg (World.drewN _) (Nat.add_assoc _ _ _))⟩))); try go_wp2_with (first | (go_at_call 12; (with_reducible refine (l30_awake.calls  true _ A4.out).mono ?_); rintro e w9 ⟨rfl, hb⟩; replace HB := aM (below_step zz110 hb); (try clear hb); (try clear hb2); (try clear hk); (try clear hi)) | (go_at_call 25; (with_reducible refine (l30_valid.calls k (wrap64 (1 + (Int.tmod (wrap64 (a0)) 8))) _ _ l1 t735 _ ?side1 ?side2 A8.out).mono ?_); (case side1 => repeat (first | exact (Kd.C_below HR1.out HB.out) | (with_reducible refine Kd.C_alloc ?_ _) | (with_reducible refine Kd.C_drewN ?_ _) | (with_reducible refine Kd.C_drew ?_))); (case side2 => exact HC1.out); rintro e w' ⟨rfl, ⟨nd, rfl⟩⟩; (try first | exact ⟨rfl, _, World.drewN_drewN _ _ _⟩ | exact ⟨rfl, _, Eq.trans (World.drewN_drewN _ _ _) (congrArg (World.drewN _) (Nat.add_assoc _ _ _))⟩))))
      go_meet
      case rel => exact ⟨_, (!t735), zz136, H', ⟨zz138⟩, ⟨zz110⟩⟩
    replace c5 := Bool.eq_false_iff.mpr c5; subst c5; have H1 : (l30_PermStabilizers.j0 k l1 (wrap64 (1 + (Int.tmod (wrap64 (a0)) 8))) true) = some r := by rw [if_neg (show ¬ (false = true) by decide)] at H; exact H
    clear H; have H := H1; clear H1; have H' := aM H; clear H
    go_wp2_with (first | (go_at_call 12; (with_reducible refine (l30_awake.calls  false _ A4.out).mono ?_); rintro e w10 ⟨rfl, hb⟩; replace HB := aM (below_step zz110 hb); (try clear hb); (try clear hb2); (try clear hk); (try clear hi)))
    repeat (go_quiet (first | (go_at_call 12; (with_reducible refine (l30_awake.calls  false _ A4.out).mono ?_); rintro e w10 ⟨rfl, hb⟩; replace HB := aM (below_step zz110 hb); (try clear hb); (try clear hb2); (try clear hk); (try clear hi))); try go_wp2_with (first | (go_at_call 12; (with_reducible refine (l30_awake.calls  false _ A4.out).mono ?_); rintro e w10 ⟨rfl, hb⟩; replace HB := aM (below_step zz110 hb); (try clear hb); (try clear hb2); (try clear hk); (try clear hi))))
    go_meet
    case rel => exact ⟨_, (true), zz136, H', ⟨zz138⟩, ⟨zz110⟩⟩
  case rest =>
    clear HC3; (try clear c1); (try clear p2); (try clear c5); (try clear c6); (try clear c6b0); (try clear c6b1); (try clear p6); obtain ⟨kq, x34_2, rfl, HA, HJ2, HB⟩ := hcut
    cases kq with
    | zero => exact absurd HA.out (by simp [l30_PermStabilizers.j0])
    | succ kj2 =>
      have H := HA.out; clear HA; simp only [l30_PermStabilizers.j0] at H
      by_cases c11 : x34_2 = true
      · subst c11; have H1 : ((l30_awake.f).bind fun t736 => (some t736)) = some r := by rw [if_pos rfl] at H; exact H
        clear H; have H := H1; clear H1; replace H := Option.bind_eq_some_iff.mp H; obtain ⟨t736, A120, H⟩ := H; replace H : (some t736) = some r := H; have A12 := aM A120; clear A120; obtain rfl := Option.some.inj H
        go_wp2_with (first | (go_at_call 12; (with_reducible refine (l30_awake.calls  t736 _ A12.out).mono ?_); rintro e w13 ⟨rfl, hb⟩; replace HB := aM (below_step zz110 hb); (try clear hb); (try clear hb2); (try clear hk); (try clear hi)))
        repeat (go_quiet (first | (go_at_call 12; (with_reducible refine (l30_awake.calls  t736 _ A12.out).mono ?_); rintro e w13 ⟨rfl, hb⟩; replace HB := aM (below_step zz110 hb); (try clear hb); (try clear hb2); (try clear hk); (try clear hi))); try go_wp2_with (first | (go_at_call 12; (with_reducible refine (l30_awake.calls  t736 _ A12.out).mono ?_); rintro e w13 ⟨rfl, hb⟩; replace HB := aM (below_step zz110 hb); (try clear hb); (try clear hb2); (try clear hk); (try clear hi))))
        go_ret
        exact ⟨by first | rfl | (simp [errW_none, errW_some] <;> rfl) | (simp [*, errW_none, errW_some] <;> rfl), by repeat (first | (with_reducible first | exact HB.out | apply below_alloc | apply pw_below_drewN | apply below_drew1) | exact HB.out)⟩
      replace c11 := Bool.eq_false_iff.mpr c11; subst c11; have H1 : ((perm_Build.f kj2 (wrap64 (1 + (Int.tmod (wrap64 (a0)) 8))) l1).bind fun bt737 => ((perm_Orbits.f kj2 (wrap64 (1 + (Int.tmod (wrap64 (a0)) 8))) l1).bind fun bt743 => ((perm_Size.f kj2 bt737.1 bt737.2.1).bind fun bt747 => (if bt737.2.2 = 0 then (if bt743.2 = 0 then (l30_PermStabilizers.j1 kj2 (wrap64 (1 + (Int.tmod (wrap64 (a0)) 8))) bt743.1 bt747.1 (bt747.2 != 0) bt737.1 bt737.2.1) else (l30_PermStabilizers.j1 kj2 (wrap64 (1 + (Int.tmod (wrap64 (a0)) 8))) bt743.1 bt747.1 true bt737.1 bt737.2.1)) else (l30_PermStabilizers.j1 kj2 (wrap64 (1 + (Int.tmod (wrap64 (a0)) 8))) bt743.1 bt747.1 true bt737.1 bt737.2.1))))) = some r := by rw [if_neg (show ¬ (false = true) by decide)] at H; exact H
      clear H; have H := H1; clear H1; replace H := Option.bind_eq_some_iff.mp H; obtain ⟨⟨t737, t738, t741⟩, A140, H⟩ := H; replace H : ((perm_Orbits.f kj2 (wrap64 (1 + (Int.tmod (wrap64 (a0)) 8))) l1).bind fun bt743 => ((perm_Size.f kj2 t737 t738).bind fun bt747 => (if t741 = 0 then (if bt743.2 = 0 then (l30_PermStabilizers.j1 kj2 (wrap64 (1 + (Int.tmod (wrap64 (a0)) 8))) bt743.1 bt747.1 (bt747.2 != 0) t737 t738) else (l30_PermStabilizers.j1 kj2 (wrap64 (1 + (Int.tmod (wrap64 (a0)) 8))) bt743.1 bt747.1 true t737 t738)) else (l30_PermStabilizers.j1 kj2 (wrap64 (1 + (Int.tmod (wrap64 (a0)) 8))) bt743.1 bt747.1 true t737 t738)))) = some r := H; have A14 := aM A140; clear A140; replace H := Option.bind_eq_some_iff.mp H; obtain ⟨⟨t743, t744⟩, A150, H⟩ := H; replace H : ((perm_Size.f kj2 t737 t738).bind fun bt747 => (if t741 = 0 then (if t744 = 0 then (l30_PermStabilizers.j1 kj2 (wrap64 (1 + (Int.tmod (wrap64 (a0)) 8))) t743 bt747.1 (bt747.2 != 0) t737 t738) else (l30_PermStabilizers.j1 kj2 (wrap64 (1 + (Int.tmod (wrap64 (a0)) 8))) t743 bt747.1 true t737 t738)) else (l30_PermStabilizers.j1 kj2 (wrap64 (1 + (Int.tmod (wrap64 (a0)) 8))) t743 bt747.1 true t737 t738))) = some r := H; have A15 := aM A150; clear A150; replace H := Option.bind_eq_some_iff.mp H; obtain ⟨⟨t747, t750⟩, A160, H⟩ := H; replace H : (if t741 = 0 then (if t744 = 0 then (l30_PermStabilizers.j1 kj2 (wrap64 (1 + (Int.tmod (wrap64 (a0)) 8))) t743 t747 (t750 != 0) t737 t738) else (l30_PermStabilizers.j1 kj2 (wrap64 (1 + (Int.tmod (wrap64 (a0)) 8))) t743 t747 true t737 t738)) else (l30_PermStabilizers.j1 kj2 (wrap64 (1 + (Int.tmod (wrap64 (a0)) 8))) t743 t747 true t737 t738)) = some r := H; have A16 := aM A160; clear A160; have HC17 := aM H; clear H
      go_upto_region 7 with (first | (go_at_call 30; (with_reducible refine (perm_Build.calls kj2 (wrap64 (1 + (Int.tmod (wrap64 (a0)) 8))) _ _ l1 t737 t738 t741 _ ?side1 ?side2 A14.out).mono ?_); (case side1 => repeat (first | exact (Kd.C_below HR1.out HB.out) | (with_reducible refine Kd.C_alloc ?_ _) | (with_reducible refine Kd.C_drewN ?_ _) | (with_reducible refine Kd.C_drew ?_))); (case side2 => exact HC1.out); rintro e w18 ⟨v739, rfl, ho0, hb⟩; have HO740 := aM (Kd.N_lower (Kd.N_mono (ok' := fun k_ => True) ho0 (fun k_ hk_ => trivial)) (below_size zz110)); replace HB := aM (below_step zz110 hb); (try clear hb); (try clear hb2); (try clear hk); (try clear hi); (try clear ho0)) | ((with_reducible refine gate_dst (N := 6) rfl ?_); (try (refine gate_guard (by rfl) ?_; dsimp only)); refine box_event ?hg (N := 6) ?hd (cs := #[.int .i64 0, .slice none 0 0]) (t := 46) ?hr ?_; (case hd => rfl); (case hg => rfl); (case hr => first | (go_simp; done) | (go_simp; rfl)); intro gb742 hg w19 hbox hb; replace HO740 := aM (Kd.N_below (Kd.N_elderB (zN HO740) gb742 (Nat.le_of_eq hg.symm)) hb); have BK742 := aM (hbox); have GW742 := aM ((by rw [hg]; exact (below_size zz110) : w.heap.size ≤ gb742)); have GE742 := aM ((by rw [hg]; exact (below_size zz110) : w.heap.size ≤ gb742)); replace HB := aM (below_step zz110 hb); clear hb hbox hg; have hcz20_0 : w19.cell? ⟨gb742, 0, none⟩ = some (.int .i64 0) := (blk_cell BK742.out 0).trans rfl; have hcz20_1 : w19.cell? ⟨gb742, 1, none⟩ = some (.slice none 0 0) := (blk_cell BK742.out 1).trans rfl; have hfz20_0 := blk_frozen BK742.out 0; have hfz20_1 := blk_frozen BK742.out 1; obtain ⟨Ao21, co21, eo21⟩ := Kd.N_slice HO740.out; subst eo21) | (go_at_call 28; (with_reducible refine (perm_Orbits.calls kj2 (wrap64 (1 + (Int.tmod (wrap64 (a0)) 8))) _ _ l1 t743 t744 _ ?side1 ?side2 A15.out).mono ?_); (case side1 => exact Kd.C_below HR1.out zz97); (case side2 => exact HC1.out); rintro e w22 ⟨v745, rfl, ho0, hb⟩; have HO746 := aM (Kd.N_lower (Kd.N_mono (ok' := fun k_ => some k_ ≠ (.slice Ao21 t738.length co21 : Value).ownBlock ∧ k_ ≠ gb742) (Kd.S_N (Kd.S_bound ho0)) (fun k_ hk_ => ⟨(Kd.fresh' (Kd.N_lt zz7) k_ hk_.2.1), (Kd.freshB (g := gb742) (o := .cells #[.int .i64 t737, .slice Ao21 t738.length co21] 46 (0, 0)) zz60 k_ hk_.2.1)⟩)) (below_size zz97)); replace HO740 := aM (Kd.N_elder' zz7 zz119 hb); replace BK742 := aM (blk_below (g := gb742) (o := .cells #[.int .i64 t737, .slice Ao21 t738.length co21] 46 (0, 0)) zz60 hb); replace HB := aM (below_step zz97 hb); (try clear hb); (try clear hb2); (try clear hk); (try clear hi); (try clear ho0); have hcz23_0 : w22.cell? ⟨gb742, 0, none⟩ = some (.int .i64 t737) := (blk_cell BK742.out 0).trans rfl; have hcz23_1 : w22.cell? ⟨gb742, 1, none⟩ = some (.slice Ao21 t738.length co21) := (blk_cell BK742.out 1).trans rfl; have hfz23_0 := blk_frozen BK742.out 0; have hfz23_1 := blk_frozen BK742.out 1) | (go_at_call 35; (with_reducible refine (perm_Size.calls kj2 t737 _ _ t738 t747 t750 _ ?side1 ?side2 A16.out).mono ?_); (case side1 => repeat (first | exact (Kd.N_reads' HO740.out).2.2 | (with_reducible refine Kd.C_alloc ?_ _) | (with_reducible refine Kd.C_drewN ?_ _) | (with_reducible refine Kd.C_drew ?_))); (case side2 => exact (Kd.N_reads' HO740.out).2.1); rintro e w24 ⟨v748, rfl, ho0, hb⟩; replace HO740 := aM (Kd.N_elder' (zN HO740) (Kd.R_base ho0) hb); replace HO746 := aM (Kd.N_elder' (zN HO746) (Kd.R_base ho0) hb); have HO749 := aM (Kd.R_lower ho0 (below_size zz97)); replace BK742 := aM (blk_below (g := gb742) (o := .cells #[.int .i64 t737, .slice Ao21 t738.length co21] 46 (0, 0)) (zB BK742) hb); replace HB := aM (below_step zz97 hb); (try clear hb); (try clear hb2); (try clear hk); (try clear hi); (try clear ho0)))
      repeat (go_quiet (first | (go_at_call 30; (with_reducible refine (perm_Build.calls kj2 (wrap64 (1 + (Int.tmod (wrap64 (a0)) 8))) _ _ l1 t737 t738 t741 _ ?side1 ?side2 A14.out).mono ?_); (case side1 => repeat (first | exact (Kd.C_below HR1.out HB.out) | (with_reducible refine Kd.C_alloc ?_ _) | (with_reducible refine Kd.C_drewN ?_ _) | (with_reducible refine Kd.C_drew ?_))); (case side2 => exact HC1.out); rintro e w18 ⟨v739, rfl, ho0, hb⟩; have HO740 := aM (Kd.N_lower (Kd.N_mono (ok' := fun k_ => True) ho0 (fun k_ hk_ => trivial)) (below_size zz110)); replace HB := aM (below_step zz110 hb); (try clear hb); (try clear hb2); (try clear hk); (try clear hi); (try clear ho0)) | ((with_reducible refine gate_dst (N := 6) rfl ?_); (try (refine gate_guard (by rfl) ?_; dsimp only)); refine box_event ?hg (N := 6) ?hd (cs := #[.int .i64 0, .slice none 0 0]) (t := 46) ?hr ?_; (case hd => rfl); (case hg => rfl); (case hr => first | (go_simp; done) | (go_simp; rfl)); intro gb742 hg w19 hbox hb; replace HO740 := aM (Kd.N_below (Kd.N_elderB (zN HO740) gb742 (Nat.le_of_eq hg.symm)) hb); have BK742 := aM (hbox); have GW742 := aM ((by rw [hg]; exact (below_size zz110) : w.heap.size ≤ gb742)); have GE742 := aM ((by rw [hg]; exact (below_size zz110) : w.heap.size ≤ gb742)); replace HB := aM (below_step zz110 hb); clear hb hbox hg; have hcz20_0 : w19.cell? ⟨gb742, 0, none⟩ = some (.int .i64 0) := (blk_cell BK742.out 0).trans rfl; have hcz20_1 : w19.cell? ⟨gb742, 1, none⟩ = some (.slice none 0 0) := (blk_cell BK742.out 1).trans rfl; have hfz20_0 := blk_frozen BK742.out 0; have hfz20_1 := blk_frozen BK742.out 1; obtain ⟨Ao21, co21, eo21⟩ := Kd.N_slice HO740.out; subst eo21) | (go_at_call 28; (with_reducible refine (perm_Orbits.calls kj2 (wrap64 (1 + (Int.tmod (wrap64 (a0)) 8))) _ _ l1 t743 t744 _ ?side1 ?side2 A15.out).mono ?_); (case side1 => exact Kd.C_below HR1.out zz97); (case side2 => exact HC1.out); rintro e w22 ⟨v745, rfl, ho0, hb⟩; have HO746 := aM (Kd.N_lower (Kd.N_mono (ok' := fun k_ => some k_ ≠ (.slice Ao21 t738.length co21 : Value).ownBlock ∧ k_ ≠ gb742) (Kd.S_N (Kd.S_bound ho0)) (fun k_ hk_ => ⟨(Kd.fresh' (Kd.N_lt zz7) k_ hk_.2.1), (Kd.freshB (g := gb742) (o := .cells #[.int .i64 t737, .slice Ao21 t738.length co21] 46 (0, 0)) zz60 k_ hk_.2.1)⟩)) (below_size zz97)); replace HO740 := aM (Kd.N_elder' zz7 zz119 hb); replace BK742 := aM (blk_below (g := gb742) (o := .cells #[.int .i64 t737, .slice Ao21 t738.length co21] 46 (0, 0)) zz60 hb); replace HB := aM (below_step zz97 hb); (try clear hb); (try clear hb2); (try clear hk); (try clear hi); (try clear ho0); have hcz23_0 : w22.cell? ⟨gb742, 0, none⟩ = some (.int .i64 t737) := (blk_cell BK742.out 0).trans rfl; have hcz23_1 : w22.cell? ⟨gb742, 1, none⟩ = some (.slice Ao21 t738.length co21) := (blk_cell BK742.out 1).trans rfl; have hfz23_0 := blk_frozen BK742.out 0; have hfz23_1 := blk_frozen BK742.out 1) | (go_at_call 35; (with_reducible refine (perm_Size.calls kj2 t737 _ _ t738 t747 t750 _ ?side1 ?side2 A16.out).mono ?_); (case side1 => repeat (first | exact (Kd.N_reads' HO740.out).2.2 | (with_reducible refine Kd.C_alloc ?_ _) | (with_reducible refine Kd.C_drewN ?_ _) | (with_reducible refine Kd.C_drew ?_))); (case side2 => exact (Kd.N_reads' HO740.out).2.1); rintro e w24 ⟨v748, rfl, ho0, hb⟩; replace HO740 := aM (Kd.N_elder' (zN HO740) (Kd.R_base ho0) hb); replace HO746 := aM (Kd.N_elder' (zN HO746) (Kd.R_base ho0) hb); have HO749 := aM (Kd.R_lower ho0 (below_size zz97)); replace BK742 := aM (blk_below (g := gb742) (o := .cells #[.int .i64 t737, .slice Ao21 t738.length co21] 46 (0, 0)) (zB BK742) hb); replace HB := aM (below_step zz97 hb); (try clear hb); (try clear hb2); (try clear hk); (try clear hi); (try clear ho0))); go_upto_region 7 with (first | (go_at_call 30; (with_reducible refine (perm_Build.calls kj2 (wrap64 (1 + (Int.tmod (wrap64 (a0)) 8))) _ _ l1 t737 t738 t741 _ ?side1 ?side2 A14.out).mono ?_); (case side1 => repeat (first | exact (Kd.C_below HR1.out HB.out) | (with_reducible refine Kd.C_alloc ?_ _) | (with_reducible refine Kd.C_drewN ?_ _) | (with_reducible refine Kd.C_drew ?_))); (case side2 => exact HC1.out); rintro e w18 ⟨v739, rfl, ho0, hb⟩; have HO740 := aM (Kd.N_lower (Kd.N_mono (ok' := fun k_ => True) ho0 (fun k_ hk_ => trivial)) (below_size zz110)); replace HB := aM (below_step zz110 hb); (try clear hb); (try clear hb2); (try clear hk); (try clear hi); (try clear ho0)) | ((with_reducible refine gate_dst (N := 6) rfl ?_); (try (refine gate_guard (by rfl) ?_; dsimp only)); refine box_event ?hg (N := 6) ?hd (cs := #[.int .i64 0, .slice none 0 0]) (t := 46) ?hr ?_; (case hd => rfl); (case hg => rfl); (case hr => first | (go_simp; done) | (go_simp; rfl)); intro gb742 hg w19 hbox hb; replace HO740 := aM (Kd.N_below (Kd.N_elderB (zN HO740) gb742 (Nat.le_of_eq hg.symm)) hb); have BK742 := aM (hbox); have GW742 := aM ((by rw [hg]; exact (below_size zz110) : w.heap.size ≤ gb742)); have GE742 := aM ((by rw [hg]; exact (below_size zz110) : w.heap.size ≤ gb742)); replace HB := aM (below_step zz110 hb); clear hb hbox hg; have hcz20_0 : w19.cell? ⟨gb742, 0, none⟩ = some (.int .i64 0) := (blk_cell BK742.out 0).trans rfl; have hcz20_1 : w19.cell? ⟨gb742, 1, none⟩ = some (.slice none 0 0) := (blk_cell BK742.out 1).trans rfl; have hfz20_0 := blk_frozen BK742.out 0; have hfz20_1 := blk_frozen BK742.out 1; obtain ⟨Ao21, co21, eo21⟩ := Kd.N_slice HO740.out; subst eo21) | (go_at_call 28; (with_reducible refine (perm_Orbits.calls kj2 (wrap64 (1 + (Int.tmod (wrap64 (a0)) 8))) _ _ l1 t743 t744 _ ?side1 ?side2 A15.out).mono ?_); (case side1 => exact Kd.C_below HR1.out zz97); (case side2 => exact HC1.out); rintro e w22 ⟨v745, rfl, ho0, hb⟩; have HO746 := aM (Kd.N_lower (Kd.N_mono (ok' := fun k_ => some k_ ≠ (.slice Ao21 t738.length co21 : Value).ownBlock ∧ k_ ≠ gb742) (Kd.S_N (Kd.S_bound ho0)) (fun k_ hk_ => ⟨(Kd.fresh' (Kd.N_lt zz7) k_ hk_.2.1), (Kd.freshB (g := gb742) (o := .cells #[.int .i64 t737, .slice Ao21 t738.length co21] 46 (0, 0)) zz60 k_ hk_.2.1)⟩)) (below_size zz97)); replace HO740 := aM (Kd.N_elder' zz7 zz119 hb); replace BK742 := aM (blk_below (g := gb742) (o := .cells #[.int .i64 t737, .slice Ao21 t738.length co21] 46 (0, 0)) zz60 hb); replace HB := aM (below_step zz97 hb); (try clear hb); (try clear hb2); (try clear hk); (try clear hi); (try clear ho0); have hcz23_0 : w22.cell? ⟨gb742, 0, none⟩ = some (.int .i64 t737) := (blk_cell BK742.out 0).trans rfl; have hcz23_1 : w22.cell? ⟨gb742, 1, none⟩ = some (.slice Ao21 t738.length co21) := (blk_cell BK742.out 1).trans rfl; have hfz23_0 := blk_frozen BK742.out 0; have hfz23_1 := blk_frozen BK742.out 1) | (go_at_call 35; (with_reducible refine (perm_Size.calls kj2 t737 _ _ t738 t747 t750 _ ?side1 ?side2 A16.out).mono ?_); (case side1 => repeat (first | exact (Kd.N_reads' HO740.out).2.2 | (with_reducible refine Kd.C_alloc ?_ _) | (with_reducible refine Kd.C_drewN ?_ _) | (with_reducible refine Kd.C_drew ?_))); (case side2 => exact (Kd.N_reads' HO740.out).2.1); rintro e w24 ⟨v748, rfl, ho0, hb⟩; replace HO740 := aM (Kd.N_elder' (zN HO740) (Kd.R_base ho0) hb); replace HO746 := aM (Kd.N_elder' (zN HO746) (Kd.R_base ho0) hb); have HO749 := aM (Kd.R_lower ho0 (below_size zz97)); replace BK742 := aM (blk_below (g := gb742) (o := .cells #[.int .i64 t737, .slice Ao21 t738.length co21] 46 (0, 0)) (zB BK742) hb); replace HB := aM (below_step zz97 hb); (try clear hb); (try clear hb2); (try clear hk); (try clear hi); (try clear ho0))))
      (try simp only [Act.put, List.setIfInBounds_toArray, List.set_cons_zero, List.set_cons_succ])
      go_cut [62] (fun v62 wc => ∃ (kq : Nat) (x62_16 : Bool), v62 = .bool x62_16 ∧ Aside0 (l30_PermStabilizers.j1 kq (wrap64 (1 + (Int.tmod (wrap64 (a0)) 8))) t743 t747 x62_16 t737 t738 = some r) ∧ Aside0 (kq ≤ kj2) ∧ Aside0 (Kd.N (Kd.slice 3 (Kd.int .i64)) 22 wc w.heap.size (fun k_ => some k_ ≠ (v748 : Value).ownBlock ∧ some k_ ≠ ((.slice Ao21 t738.length co21) : Value).ownBlock ∧ k_ ≠ gb742) v745 t743) ∧ Aside0 (Kd.R (Kd.int .u32) 72 wc w.heap.size (fun _ => True) v748 t747) ∧ Aside0 (Kd.N k74 74 wc w.heap.size (fun k_ => some k_ ≠ (v745 : Value).ownBlock ∧ some k_ ≠ (v748 : Value).ownBlock ∧ k_ ≠ gb742) (.slice Ao21 t738.length co21) t738) ∧ Aside0 (wc.heap[gb742]? = some (.cells #[.int .i64 t737, (.slice Ao21 t738.length co21)] 46 (0, 0))) ∧ Aside0 (Below w.heap.size w wc))
      case first =>
        have H := HC17.out; clear HC17
        by_cases c25 : t741 = 0
        · rw [if_pos c25] at H; have c25b0 := beq_iff_eq.mpr c25; have c25b1 := bne_eq_false_iff_eq.mpr c25; clear c25
          (first | rw [c25b0] | (simp only [i64_w, i32_w]; rw [c25b0]) | skip)
          by_cases c26 : t744 = 0
          · rw [if_pos c26] at H; have c26b0 := beq_iff_eq.mpr c26; have c26b1 := bne_eq_false_iff_eq.mpr c26; clear c26; have H' := aM H; clear H; go_wp2
            repeat (go_quiet (fail); try go_wp2)
            go_meet
            case rel => exact ⟨_, ((t750 != 0)), zz136, H', ⟨(by have := HJ2.out; first | omega | exact Nat.le_refl _)⟩, ⟨(by (with_reducible repeat (first | apply Kd.N_alloc | apply Kd.N_drewN | apply Kd.N_drew)); exact Kd.N_mono HO746.out (fun _ hk => by first | exact ⟨hk.2, ⟨hk.1.1, hk.1.2⟩⟩ | ((repeat' apply And.intro) <;> (first | exact hk | exact hk.1 | exact hk.2 | exact hk.1.1 | exact hk.1.2 | exact hk.2.1 | exact hk.2.2 | exact hk.1.1.1 | exact hk.1.1.2 | exact hk.1.2.1 | exact hk.1.2.2 | exact hk.2.1.1 | exact hk.2.1.2 | exact hk.2.2.1 | exact hk.2.2.2 | exact hk.1.1.1.1 | exact hk.1.1.1.2 | exact hk.2.2.2.1 | exact hk.2.2.2.2))))⟩, ⟨(zR HO749)⟩, ⟨(by (with_reducible repeat (first | apply Kd.N_alloc | apply Kd.N_drewN | apply Kd.N_drew)); exact Kd.N_mono HO740.out (fun _ hk => by first | exact ⟨hk.1.2, ⟨hk.2, hk.1.1.2⟩⟩ | ((repeat' apply And.intro) <;> (first | exact hk | exact hk.1 | exact hk.2 | exact hk.1.1 | exact hk.1.2 | exact hk.2.1 | exact hk.2.2 | exact hk.1.1.1 | exact hk.1.1.2 | exact hk.1.2.1 | exact hk.1.2.2 | exact hk.2.1.1 | exact hk.2.1.2 | exact hk.2.2.1 | exact hk.2.2.2 | exact hk.1.1.1.1 | exact hk.1.1.1.2 | exact hk.2.2.2.1 | exact hk.2.2.2.2))))⟩, ⟨(zB BK742)⟩, ⟨zz97⟩⟩
          rw [if_neg c26] at H; have c26b0 := beq_eq_false_iff_ne.mpr c26; have c26b1 := bne_iff_ne.mpr c26
          exact absurd (H.trans (congrArg some HR_.out)) (by cases kj2 <;> simp [l30_PermStabilizers.j1])
        rw [if_neg c25] at H; have c25b0 := beq_eq_false_iff_ne.mpr c25; have c25b1 := bne_iff_ne.mpr c25
        (first | rw [c25b0] | (simp only [i64_w, i32_w]; rw [c25b0]) | skip)
        exact absurd (H.trans (congrArg some HR_.out)) (by cases kj2 <;> simp [l30_PermStabilizers.j1])
      case rest =>
        clear HC17; (try clear c1); (try clear c2); (try clear p2); (try clear c5); (try clear c6); (try clear c6b0); (try clear c6b1); (try clear p6); (try clear c11); (try clear c25); (try clear c25b0); (try clear c25b1); (try clear c26); (try clear c26b0); (try clear c26b1); (try clear hcz20_0); (try clear hcz20_1); (try clear hcz23_0); (try clear hcz23_1); (try clear hfz20_0); (try clear hfz20_1); (try clear hfz23_0); (try clear hfz23_1); (try clear p2); (try clear p6); obtain ⟨kq, x62_16, rfl, HA, HJ16, HO_8, HO_10, HO_743001, BK742, HB⟩ := hcut
        cases kq with
        | zero => exact absurd HA.out (by simp [l30_PermStabilizers.j1])
        | succ kj16 =>
          have H := HA.out; clear HA; simp only [l30_PermStabilizers.j1] at H
          by_cases c27 : x62_16 = true
          · subst c27; have H1 : (some false) = some r := by rw [if_pos rfl] at H; exact H
            clear H; have H := H1; clear H1
            exact absurd (Option.some.inj (H.trans (congrArg some HR_.out))) (by decide)
          replace c27 := Bool.eq_false_iff.mpr c27; subst c27; have H1 : (if (t738.length : Int) = 0 then (if (t743.length : Int) = (wrap64 (1 + (Int.tmod (wrap64 (a0)) 8))) then ((r01_Cmp.f kj16 t747 (([1] : List Int))).bind fun t754 => (some (t754 == 0))) else (some false)) else (if 0 < (t738.length : Int) then (l30_PermStabilizers.l0 kj16 (wrap64 (1 + (Int.tmod (wrap64 (a0)) 8))) t747 false t743 (t743.length : Int) 0 t737 t738 ((rd_T74 t738 0).f0) ((rd_T74 t738 0).f1) ((rd_T74 t738 0).f2)) else (none))) = some r := by rw [if_neg (show ¬ (false = true) by decide)] at H; exact H
          clear H; have H := H1; clear H1
          by_cases c28 : (t738.length : Int) = 0
          · rw [if_pos c28] at H; have c28b0 := beq_iff_eq.mpr c28; have c28b1 := bne_eq_false_iff_eq.mpr c28; clear c28
            by_cases c29 : (t743.length : Int) = (wrap64 (1 + (Int.tmod (wrap64 (a0)) 8)))
            · rw [if_pos c29] at H; have c29b0 := beq_iff_eq.mpr c29; have c29b1 := bne_eq_false_iff_eq.mpr c29; clear c29; obtain ⟨y751, hy751⟩ : ∃ y_ : List Int, y_ = (([1] : List Int)) := ⟨_, rfl⟩; replace H : ((r01_Cmp.f kj16 t747 y751).bind fun t754 => (some (t754 == 0))) = some r := by first | (rw [hy751]; with_reducible exact H) | (have H2_ := (Option.bind_some _ _).symm.trans H; rw [hy751]; with_reducible exact H2_) | (have H2_ := (Option.bind_some _ _).symm.trans H; with_reducible exact H2_) | with_reducible exact H | (rw [hy751]; exact H) | exact H
              have Ny751 := aM hy751; clear hy751; replace H := Option.bind_eq_some_iff.mp H; obtain ⟨t754, A300, H⟩ := H; replace H : (some (t754 == 0)) = some r := H; have A30 := aM A300; clear A300; obtain rfl := Option.some.inj H; have hcz31_0 : wc.cell? ⟨gb742, 0, none⟩ = some (.int .i64 t737) := (blk_cell BK742.out 0).trans rfl; have hcz31_1 : wc.cell? ⟨gb742, 1, none⟩ = some (.slice Ao21 t738.length co21) := (blk_cell BK742.out 1).trans rfl; have hfz31_0 := blk_frozen BK742.out 0; have hfz31_1 := blk_frozen BK742.out 1; obtain ⟨Ao32, co32, eo32⟩ := Kd.N_slice HO_8.out; subst eo32
              go_wp2_with (first | ((with_reducible refine gate_dst (N := 73) rfl ?_); (try (refine gate_guard (by rfl) ?_; dsimp only)); refine Kd.R_lit (Kd.int .u32) _ 72 ?hg (N := 73) ?hd (xs := ([1] : List Int)) (inner := [.int .u32 1]) (ok := fun _ => True) (okp := fun _ => True) ?hr ?hp (fun _ hk => hk) trivial (Below.refl _ _) (Nat.le_refl _) (by simp) ?_; (case hd => rfl); (case hg => rfl); (case hr => first | (go_simp; done) | (go_simp; rfl)); (case hp => exact (Reps.one (show Kd.M (Kd.int .u32) _ _ _ 1 [.int .u32 1] from rfl) (Reps.none _ _))); intro v752 w33 ho34 hb hg_ hnew_; clear hg_ hnew_; (first | rw [← Ny751.out] at ho34 | (simp only [Int.reduceToNat] at ho34; rw [← Ny751.out] at ho34)); replace HO_8 := aM (Kd.N_elder' (zN HO_8) (Kd.R_base ho34) hb); replace HO_743001 := aM (Kd.N_elder' (zN HO_743001) (Kd.R_base ho34) hb); have HO753 := aM (Kd.R_lower (Kd.R_new' ho34 (Kd.R_lt (zR HO_10))) (below_size zz97)); replace HO_10 := aM (Kd.R_elder' (zR HO_10) (Kd.R_base ho34) hb); replace BK742 := aM (blk_below (g := gb742) (o := .cells #[.int .i64 t737, .slice Ao21 t738.length co21] 46 (0, 0)) (zB BK742) hb); replace HB := aM (below_step zz97 hb); clear hb ho34; obtain ⟨Ao35, co35, eo35⟩ := Kd.R_slice HO_10.out; subst eo35; obtain ⟨Ao36, co36, eo36⟩ := Kd.R_slice HO753.out; subst eo36) | (go_at_call 46; (with_reducible refine (r01_Cmp.calls kj16 _ _ t747 _ _ y751 t754 _ ?side1 ?side2 ?side3 ?side4 A30.out).mono ?_); (case side1 => repeat (first | exact (Kd.R_reads' HO_10.out).2.2 | (with_reducible refine Kd.C_alloc ?_ _) | (with_reducible refine Kd.C_drewN ?_ _) | (with_reducible refine Kd.C_drew ?_))); (case side2 => exact (Kd.R_reads' HO_10.out).2.1); (case side3 => repeat (first | exact (Kd.R_reads' HO753.out).2.2 | (with_reducible refine Kd.C_alloc ?_ _) | (with_reducible refine Kd.C_drewN ?_ _) | (with_reducible refine Kd.C_drew ?_))); (case side4 => exact (Kd.R_reads' HO753.out).2.1); rintro e w37 ⟨rfl, hb⟩; replace HO_8 := aM (Kd.N_below (zN HO_8) hb); replace HO_10 := aM (Kd.R_below (zR HO_10) hb); replace HO_743001 := aM (Kd.N_below (zN HO_743001) hb); replace HO753 := aM (Kd.R_below (zR HO753) hb); replace BK742 := aM (blk_below (g := gb742) (o := .cells #[.int .i64 t737, .slice Ao21 t738.length co21] 46 (0, 0)) (zB BK742) hb); replace HB := aM (below_step zz97 hb); (try clear hb); (try clear hb2); (try clear hk); (try clear hi)))
              repeat (go_quiet (first | ((with_reducible refine gate_dst (N := 73) rfl ?_); (try (refine gate_guard (by rfl) ?_; dsimp only)); refine Kd.R_lit (Kd.int .u32) _ 72 ?hg (N := 73) ?hd (xs := ([1] : List Int)) (inner := [.int .u32 1]) (ok := fun _ => True) (okp := fun _ => True) ?hr ?hp (fun _ hk => hk) trivial (Below.refl _ _) (Nat.le_refl _) (by simp) ?_; (case hd => rfl); (case hg => rfl); (case hr => first | (go_simp; done) | (go_simp; rfl)); (case hp => exact (Reps.one (show Kd.M (Kd.int .u32) _ _ _ 1 [.int .u32 1] from rfl) (Reps.none _ _))); intro v752 w33 ho34 hb hg_ hnew_; clear hg_ hnew_; (first | rw [← Ny751.out] at ho34 | (simp only [Int.reduceToNat] at ho34; rw [← Ny751.out] at ho34)); replace HO_8 := aM (Kd.N_elder' (zN HO_8) (Kd.R_base ho34) hb); replace HO_743001 := aM (Kd.N_elder' (zN HO_743001) (Kd.R_base ho34) hb); have HO753 := aM (Kd.R_lower (Kd.R_new' ho34 (Kd.R_lt (zR HO_10))) (below_size zz97)); replace HO_10 := aM (Kd.R_elder' (zR HO_10) (Kd.R_base ho34) hb); replace BK742 := aM (blk_below (g := gb742) (o := .cells #[.int .i64 t737, .slice Ao21 t738.length co21] 46 (0, 0)) (zB BK742) hb); replace HB := aM (below_step zz97 hb); clear hb ho34; obtain ⟨Ao35, co35, eo35⟩ := Kd.R_slice HO_10.out; subst eo35; obtain ⟨Ao36, co36, eo36⟩ := Kd.R_slice HO753.out; subst eo36) | (go_at_call 46; (with_reducible refine (r01_Cmp.calls kj16 _ _ t747 _ _ y751 t754 _ ?side1 ?side2 ?side3 ?side4 A30.out).mono ?_); (case side1 => repeat (first | exact (Kd.R_reads' HO_10.out).2.2 | (with_reducible refine Kd.C_alloc ?_ _) | (with_reducible refine Kd.C_drewN ?_ _) | (with_reducible refine Kd.C_drew ?_))); (case side2 => exact (Kd.R_reads' HO_10.out).2.1); (case side3 => repeat (first | exact (Kd.R_reads' HO753.out).2.2 | (with_reducible refine Kd.C_alloc ?_ _) | (with_reducible refine Kd.C_drewN ?_ _) | (with_reducible refine Kd.C_drew ?_))); (case side4 => exact (Kd.R_reads' HO753.out).2.1); rintro e w37 ⟨rfl, hb⟩; replace HO_8 := aM (Kd.N_below (zN HO_8) hb); replace HO_10 := aM (Kd.R_below (zR HO_10) hb); replace HO_743001 := aM (Kd.N_below (zN HO_743001) hb); replace HO753 := aM (Kd.R_below (zR HO753) hb); replace BK742 := aM (blk_below (g := gb742) (o := .cells #[.int .i64 t737, .slice Ao21 t738.length co21] 46 (0, 0)) (zB BK742) hb); replace HB := aM (below_step zz97 hb); (try clear hb); (try clear hb2); (try clear hk); (try clear hi))); try go_wp2_with (first | ((with_reducible refine gate_dst (N := 73) rfl ?_); (try (refine gate_guard (by rfl) ?_; dsimp only)); refine Kd.R_lit (Kd.int .u32) _ 72 ?hg (N := 73) ?hd (xs := ([1] : List Int)) (inner := [.int .u32 1]) (ok := fun _ => True) (okp := fun _ => True) ?hr ?hp (fun _ hk => hk) trivial (Below.refl _ _) (Nat.le_refl _) (by simp) ?_; (case hd => rfl); (case hg => rfl); (case hr => first | (go_simp; done) | (go_simp; rfl)); (case hp => exact (Reps.one (show Kd.M (Kd.int .u32) _ _ _ 1 [.int .u32 1] from rfl) (Reps.none _ _))); intro v752 w33 ho34 hb hg_ hnew_; clear hg_ hnew_; (first | rw [← Ny751.out] at ho34 | (simp only [Int.reduceToNat] at ho34; rw [← Ny751.out] at ho34)); replace HO_8 := aM (Kd.N_elder' (zN HO_8) (Kd.R_base ho34) hb); replace HO_743001 := aM (Kd.N_elder' (zN HO_743001) (Kd.R_base ho34) hb); have HO753 := aM (Kd.R_lower (Kd.R_new' ho34 (Kd.R_lt (zR HO_10))) (below_size zz97)); replace HO_10 := aM (Kd.R_elder' (zR HO_10) (Kd.R_base ho34) hb); replace BK742 := aM (blk_below (g := gb742) (o := .cells #[.int .i64 t737, .slice Ao21 t738.length co21] 46 (0, 0)) (zB BK742) hb); replace HB := aM (below_step zz97 hb); clear hb ho34; obtain ⟨Ao35, co35, eo35⟩ := Kd.R_slice HO_10.out; subst eo35; obtain ⟨Ao36, co36, eo36⟩ := Kd.R_slice HO753.out; subst eo36) | (go_at_call 46; (with_reducible refine (r01_Cmp.calls kj16 _ _ t747 _ _ y751 t754 _ ?side1 ?side2 ?side3 ?side4 A30.out).mono ?_); (case side1 => repeat (first | exact (Kd.R_reads' HO_10.out).2.2 | (with_reducible refine Kd.C_alloc ?_ _) | (with_reducible refine Kd.C_drewN ?_ _) | (with_reducible refine Kd.C_drew ?_))); (case side2 => exact (Kd.R_reads' HO_10.out).2.1); (case side3 => repeat (first | exact (Kd.R_reads' HO753.out).2.2 | (with_reducible refine Kd.C_alloc ?_ _) | (with_reducible refine Kd.C_drewN ?_ _) | (with_reducible refine Kd.C_drew ?_))); (case side4 => exact (Kd.R_reads' HO753.out).2.1); rintro e w37 ⟨rfl, hb⟩; replace HO_8 := aM (Kd.N_below (zN HO_8) hb); replace HO_10 := aM (Kd.R_below (zR HO_10) hb); replace HO_743001 := aM (Kd.N_below (zN HO_743001) hb); replace HO753 := aM (Kd.R_below (zR HO753) hb); replace BK742 := aM (blk_below (g := gb742) (o := .cells #[.int .i64 t737, .slice Ao21 t738.length co21] 46 (0, 0)) (zB BK742) hb); replace HB := aM (below_step zz97 hb); (try clear hb); (try clear hb2); (try clear hk); (try clear hi))))
              go_ret
              exact ⟨by first | rfl | (simp [errW_none, errW_some] <;> rfl) | (simp [*, errW_none, errW_some] <;> rfl), by repeat (first | (with_reducible first | exact HB.out | apply below_alloc | apply pw_below_drewN | apply below_drew1 | refine below_set ?_ GE742.out) | exact HB.out)⟩
            rw [if_neg c29] at H; have c29b0 := beq_eq_false_iff_ne.mpr c29; have c29b1 := bne_iff_ne.mpr c29
            exact absurd (Option.some.inj (H.trans (congrArg some HR_.out))) (by decide)
          rw [if_neg c28] at H; have c28b0 := beq_eq_false_iff_ne.mpr c28; have c28b1 := bne_iff_ne.mpr c28; have c28b2 : ¬ (t738 = []) := fun h_ => c28 (by rw [h_]; rfl)
          by_cases c40 : 0 < (t738.length : Int)
          · rw [if_pos c40] at H; have c40b0 := decide_eq_true c40; have c40b1 : decide (0 < t738.length) = true := decide_eq_true (by omega); clear c40; have H' := aM H; clear H; have hcz41_0 : wc.cell? ⟨gb742, 0, none⟩ = some (.int .i64 t737) := (blk_cell BK742.out 0).trans rfl; have hcz41_1 : wc.cell? ⟨gb742, 1, none⟩ = some (.slice Ao21 t738.length co21) := (blk_cell BK742.out 1).trans rfl; have hfz41_0 := blk_frozen BK742.out 0; have hfz41_1 := blk_frozen BK742.out 1; have p755 : 0 ≤ (0 : Int) := (by omega); have q755 : 0 < (t738.length : Int) := of_decide_eq_true zz135; obtain ⟨ad755, A755_1, c755_1, A755_2, c755_2, e755, hx755_0, hx755_1, hx755_2, hl755_1, hi755_1, hl755_2, hi755_2⟩ := at_T74 (Kd.N_reads' HO_743001.out).2.2 0 p755 q755
            cases e755; obtain ⟨ce755, hce755, hMe755, hcc755⟩ := Kd.N_get HO_743001.out z74 0 p755 (by first | exact q755 | exact of_decide_eq_true zz135 | (have e_ := (Kd.N_reads' HO_743001.out).1; omega)); obtain ⟨ua755_1, uc755_1, ua755_2, uc755_2, rfl, ul755_1, ge755_1, ul755_2, ge755_2⟩ := k74_openF hMe755; have hv755_1 := hcc755 1 _ rfl; rw [add_field _ _ 1 (by omega)] at hv755_1; replace hv755_1 := Option.some.inj (hv755_1.symm.trans hx755_1); injection hv755_1 with hva_ hvn_ hvc_
            rw [hva_] at ge755_1; rw [hvc_] at ul755_1; have HL755_1 := aM (show Kd.V (Kd.int .i64) 3 _ w.heap.size _ _ ((rd_T74 t738 0).f1) from Kd.V_mk ul755_1 ge755_1); clear hva_ hvn_ hvc_ ge755_1 ul755_1; have hv755_2 := hcc755 2 _ rfl; rw [add_field _ _ 2 (by omega)] at hv755_2; replace hv755_2 := Option.some.inj (hv755_2.symm.trans hx755_2); injection hv755_2 with hva_ hvn_ hvc_
            rw [hva_] at ge755_2; rw [hvc_] at ul755_2; have HL755_2 := aM (show Kd.V (Kd.slice 3 (Kd.int .i64)) 22 _ w.heap.size _ _ ((rd_T74 t738 0).f2) from Kd.V_mk ul755_2 ge755_2); clear hva_ hvn_ hvc_ ge755_2 ul755_2; clear hcc755 hce755; have qi755 : (0 < t738.length) = True := eq_true (by omega)
            (try rw [show ((0 : Int)).toNat = 0 from rfl] at hx755_0)
            (try rw [show 0 * 3 = 0 from rfl] at hx755_0)
            (try rw [Addr.add_zero'] at hx755_0)
            (try rw [show ((0 : Int)).toNat = 0 from rfl] at hx755_1)
            (try rw [show 0 * 3 = 0 from rfl] at hx755_1)
            (try rw [Addr.add_zero'] at hx755_1)
            (try rw [show ((0 : Int)).toNat = 0 from rfl] at hx755_2)
            (try rw [show 0 * 3 = 0 from rfl] at hx755_2)
            (try rw [Addr.add_zero'] at hx755_2)
            have HR755_1 := aM hi755_1; have HC755_1 := aM hl755_1; clear hi755_1 hl755_1; have HR755_2 := aM hi755_2; have HC755_2 := aM hl755_2; clear hi755_2 hl755_2; replace p755 := eq_true p755; replace q755 := eq_true q755
            go_wp2_with (first | ((with_reducible refine gate_dst (N := 12) rfl ?_); (try (refine gate_guard (by rfl) ?_; dsimp only)); refine box_event ?hg (N := 12) ?hd (cs := #[.int .i64 0, .slice none 0 0, .slice none 0 0]) (t := 74) ?hr ?_; (case hd => rfl); (case hg => rfl); (case hr => first | (go_simp; done) | (go_simp; rfl)); intro gb756 hg w42 hbox hb; replace HO_8 := aM (Kd.N_below (Kd.N_elderB (zN HO_8) gb756 (Nat.le_of_eq hg.symm)) hb); replace HO_10 := aM (Kd.R_below (zR HO_10) hb); replace HO_743001 := aM (Kd.N_below (Kd.N_elderB (zN HO_743001) gb756 (Nat.le_of_eq hg.symm)) hb); replace HR755_1 := aM (Kd.C_below zz73 hb); replace HL755_1 := aM (Kd.V_below (Kd.V_elderB (zV HL755_1) gb756 (Nat.le_of_eq hg.symm)) hb); replace HR755_2 := aM (Kd.C_below zz74 hb); replace HL755_2 := aM (Kd.V_below (Kd.V_elderB (zV HL755_2) gb756 (Nat.le_of_eq hg.symm)) hb); have BK756 := aM (hbox); have GW756 := aM ((by rw [hg]; exact (below_size zz97) : w.heap.size ≤ gb756)); have GE756 := aM ((by rw [hg]; exact (below_size zz97) : w.heap.size ≤ gb756)); replace HB := aM (below_step zz97 hb); have NB742_756 := aM ((by rw [hg]; exact Nat.ne_of_lt (blk_lt (g := gb742) (o := .cells #[.int .i64 t737, .slice (some ad755) t738.length co21] 46 (0, 0)) (zB BK742)) : gb742 ≠ gb756)); have NB756_742 := aM ((by rw [hg]; exact Nat.ne_of_gt (blk_lt (g := gb742) (o := .cells #[.int .i64 t737, .slice (some ad755) t738.length co21] 46 (0, 0)) (zB BK742)) : gb756 ≠ gb742)); replace BK742 := aM (blk_below (g := gb742) (o := .cells #[.int .i64 t737, .slice (some ad755) t738.length co21] 46 (0, 0)) (zB BK742) hb); clear hb hbox hg; have hnb43 := NB756_742.out; have hnc43 := NB742_756.out; have hcz44_0 : w42.cell? ⟨gb756, 0, none⟩ = some (.int .i64 0) := (blk_cell BK756.out 0).trans rfl; have hcz44_1 : w42.cell? ⟨gb756, 1, none⟩ = some (.slice none 0 0) := (blk_cell BK756.out 1).trans rfl; have hcz44_2 : w42.cell? ⟨gb756, 2, none⟩ = some (.slice none 0 0) := (blk_cell BK756.out 2).trans rfl; have hfz44_0 := blk_frozen BK756.out 0; have hfz44_1 := blk_frozen BK756.out 1; have hfz44_2 := blk_frozen BK756.out 2; obtain ⟨Ao45, co45, eo45⟩ := Kd.N_slice HO_8.out; subst eo45))
            repeat (go_quiet (first | ((with_reducible refine gate_dst (N := 12) rfl ?_); (try (refine gate_guard (by rfl) ?_; dsimp only)); refine box_event ?hg (N := 12) ?hd (cs := #[.int .i64 0, .slice none 0 0, .slice none 0 0]) (t := 74) ?hr ?_; (case hd => rfl); (case hg => rfl); (case hr => first | (go_simp; done) | (go_simp; rfl)); intro gb756 hg w42 hbox hb; replace HO_8 := aM (Kd.N_below (Kd.N_elderB (zN HO_8) gb756 (Nat.le_of_eq hg.symm)) hb); replace HO_10 := aM (Kd.R_below (zR HO_10) hb); replace HO_743001 := aM (Kd.N_below (Kd.N_elderB (zN HO_743001) gb756 (Nat.le_of_eq hg.symm)) hb); replace HR755_1 := aM (Kd.C_below zz73 hb); replace HL755_1 := aM (Kd.V_below (Kd.V_elderB (zV HL755_1) gb756 (Nat.le_of_eq hg.symm)) hb); replace HR755_2 := aM (Kd.C_below zz74 hb); replace HL755_2 := aM (Kd.V_below (Kd.V_elderB (zV HL755_2) gb756 (Nat.le_of_eq hg.symm)) hb); have BK756 := aM (hbox); have GW756 := aM ((by rw [hg]; exact (below_size zz97) : w.heap.size ≤ gb756)); have GE756 := aM ((by rw [hg]; exact (below_size zz97) : w.heap.size ≤ gb756)); replace HB := aM (below_step zz97 hb); have NB742_756 := aM ((by rw [hg]; exact Nat.ne_of_lt (blk_lt (g := gb742) (o := .cells #[.int .i64 t737, .slice (some ad755) t738.length co21] 46 (0, 0)) (zB BK742)) : gb742 ≠ gb756)); have NB756_742 := aM ((by rw [hg]; exact Nat.ne_of_gt (blk_lt (g := gb742) (o := .cells #[.int .i64 t737, .slice (some ad755) t738.length co21] 46 (0, 0)) (zB BK742)) : gb756 ≠ gb742)); replace BK742 := aM (blk_below (g := gb742) (o := .cells #[.int .i64 t737, .slice (some ad755) t738.length co21] 46 (0, 0)) (zB BK742) hb); clear hb hbox hg; have hnb43 := NB756_742.out; have hnc43 := NB742_756.out; have hcz44_0 : w42.cell? ⟨gb756, 0, none⟩ = some (.int .i64 0) := (blk_cell BK756.out 0).trans rfl; have hcz44_1 : w42.cell? ⟨gb756, 1, none⟩ = some (.slice none 0 0) := (blk_cell BK756.out 1).trans rfl; have hcz44_2 : w42.cell? ⟨gb756, 2, none⟩ = some (.slice none 0 0) := (blk_cell BK756.out 2).trans rfl; have hfz44_0 := blk_frozen BK756.out 0; have hfz44_1 := blk_frozen BK756.out 1; have hfz44_2 := blk_frozen BK756.out 2; obtain ⟨Ao45, co45, eo45⟩ := Kd.N_slice HO_8.out; subst eo45)); try go_wp2_with (first | ((with_reducible refine gate_dst (N := 12) rfl ?_); (try (refine gate_guard (by rfl) ?_; dsimp only)); refine box_event ?hg (N := 12) ?hd (cs := #[.int .i64 0, .slice none 0 0, .slice none 0 0]) (t := 74) ?hr ?_; (case hd => rfl); (case hg => rfl); (case hr => first | (go_simp; done) | (go_simp; rfl)); intro gb756 hg w42 hbox hb; replace HO_8 := aM (Kd.N_below (Kd.N_elderB (zN HO_8) gb756 (Nat.le_of_eq hg.symm)) hb); replace HO_10 := aM (Kd.R_below (zR HO_10) hb); replace HO_743001 := aM (Kd.N_below (Kd.N_elderB (zN HO_743001) gb756 (Nat.le_of_eq hg.symm)) hb); replace HR755_1 := aM (Kd.C_below zz73 hb); replace HL755_1 := aM (Kd.V_below (Kd.V_elderB (zV HL755_1) gb756 (Nat.le_of_eq hg.symm)) hb); replace HR755_2 := aM (Kd.C_below zz74 hb); replace HL755_2 := aM (Kd.V_below (Kd.V_elderB (zV HL755_2) gb756 (Nat.le_of_eq hg.symm)) hb); have BK756 := aM (hbox); have GW756 := aM ((by rw [hg]; exact (below_size zz97) : w.heap.size ≤ gb756)); have GE756 := aM ((by rw [hg]; exact (below_size zz97) : w.heap.size ≤ gb756)); replace HB := aM (below_step zz97 hb); have NB742_756 := aM ((by rw [hg]; exact Nat.ne_of_lt (blk_lt (g := gb742) (o := .cells #[.int .i64 t737, .slice (some ad755) t738.length co21] 46 (0, 0)) (zB BK742)) : gb742 ≠ gb756)); have NB756_742 := aM ((by rw [hg]; exact Nat.ne_of_gt (blk_lt (g := gb742) (o := .cells #[.int .i64 t737, .slice (some ad755) t738.length co21] 46 (0, 0)) (zB BK742)) : gb756 ≠ gb742)); replace BK742 := aM (blk_below (g := gb742) (o := .cells #[.int .i64 t737, .slice (some ad755) t738.length co21] 46 (0, 0)) (zB BK742) hb); clear hb hbox hg; have hnb43 := NB756_742.out; have hnc43 := NB742_756.out; have hcz44_0 : w42.cell? ⟨gb756, 0, none⟩ = some (.int .i64 0) := (blk_cell BK756.out 0).trans rfl; have hcz44_1 : w42.cell? ⟨gb756, 1, none⟩ = some (.slice none 0 0) := (blk_cell BK756.out 1).trans rfl; have hcz44_2 : w42.cell? ⟨gb756, 2, none⟩ = some (.slice none 0 0) := (blk_cell BK756.out 2).trans rfl; have hfz44_0 := blk_frozen BK756.out 0; have hfz44_1 := blk_frozen BK756.out 1; have hfz44_2 := blk_frozen BK756.out 2; obtain ⟨Ao45, co45, eo45⟩ := Kd.N_slice HO_8.out; subst eo45)))
            go_loopg [13, 83] kj16 (fun kq v13 v83 w' => ∃ (x13_3 : Bool) (x83_3 : Int), v13 = .bool x13_3 ∧ v83 = .int .i64 x83_3 ∧ Aside0 (l30_PermStabilizers.l0 kq (wrap64 (1 + (Int.tmod (wrap64 (a0)) 8))) t747 x13_3 t743 (t743.length : Int) x83_3 t737 t738 ((rd_T74 t738 0).f0) ((rd_T74 t738 0).f1) ((rd_T74 t738 0).f2) = some r) ∧ Aside0 (kq ≤ kj16) ∧ Aside0 (Kd.R (Kd.int .u32) 72 w' w.heap.size (fun _ => True) v748 t747) ∧ Aside0 (Kd.N (Kd.slice 3 (Kd.int .i64)) 22 w' w.heap.size (fun k_ => some k_ ≠ (v748 : Value).ownBlock ∧ some k_ ≠ ((.slice (some ad755) t738.length co21) : Value).ownBlock ∧ k_ ≠ gb742 ∧ k_ ≠ gb756) (.slice Ao45 t743.length co45) t743) ∧ Aside0 (Kd.N k74 74 w' w.heap.size (fun k_ => some k_ ≠ (v748 : Value).ownBlock ∧ some k_ ≠ ((.slice Ao45 t743.length co45) : Value).ownBlock ∧ k_ ≠ gb742 ∧ k_ ≠ gb756) (.slice (some ad755) t738.length co21) t738) ∧ Aside0 (w'.heap[gb742]? = some (.cells #[.int .i64 t737, (.slice (some ad755) t738.length co21)] 46 (0, 0))) ∧ Aside0 (w'.heap[gb756]? = some (.cells #[.int .i64 ((rd_T74 t738 0).f0), (.slice A755_1 ((rd_T74 t738 0).f1).length c755_1), (.slice A755_2 ((rd_T74 t738 0).f2).length c755_2)] 74 (0, 0))) ∧ Aside0 (Kd.C (Kd.int .i64) w' A755_1 ((rd_T74 t738 0).f1).length ((rd_T74 t738 0).f1)) ∧ Aside0 (Kd.C (Kd.slice 3 (Kd.int .i64)) w' A755_2 ((rd_T74 t738 0).f2).length ((rd_T74 t738 0).f2)) ∧ Aside0 (Below w.heap.size w w'))
            case atStart => exact ⟨(false), (0), zz136, zz136, H', ⟨Nat.le_refl _⟩, ⟨(by (with_reducible repeat (first | apply Kd.R_alloc | apply Kd.R_drewN | apply Kd.R_drew)); exact Kd.R_mono (Kd.R_far (p := ⟨gb756, 2, none⟩) (Kd.R_far (p := ⟨gb756, 1, none⟩) (Kd.R_far (p := ⟨gb756, 0, none⟩) (Kd.R_types HO_10.out BK756.out (by decide)) (fun _ hk => by first | exact hk.2 | ((repeat' apply And.intro) <;> (first | exact hk | exact hk.1 | exact hk.2 | exact hk.1.1 | exact hk.1.2 | exact hk.2.1 | exact hk.2.2 | exact hk.1.1.1 | exact hk.1.1.2 | exact hk.1.2.1 | exact hk.1.2.2 | exact hk.2.1.1 | exact hk.2.1.2 | exact hk.2.2.1 | exact hk.2.2.2 | exact hk.1.1.1.1 | exact hk.1.1.1.2 | exact hk.2.2.2.1 | exact hk.2.2.2.2))) (.int .i64 ((rd_T74 t738 0).f0))) (fun _ hk => by first | exact hk.2 | ((repeat' apply And.intro) <;> (first | exact hk | exact hk.1 | exact hk.2 | exact hk.1.1 | exact hk.1.2 | exact hk.2.1 | exact hk.2.2 | exact hk.1.1.1 | exact hk.1.1.2 | exact hk.1.2.1 | exact hk.1.2.2 | exact hk.2.1.1 | exact hk.2.1.2 | exact hk.2.2.1 | exact hk.2.2.2 | exact hk.1.1.1.1 | exact hk.1.1.1.2 | exact hk.2.2.2.1 | exact hk.2.2.2.2))) (.slice A755_1 ((rd_T74 t738 0).f1).length c755_1)) (fun _ hk => by first | exact hk.2 | ((repeat' apply And.intro) <;> (first | exact hk | exact hk.1 | exact hk.2 | exact hk.1.1 | exact hk.1.2 | exact hk.2.1 | exact hk.2.2 | exact hk.1.1.1 | exact hk.1.1.2 | exact hk.1.2.1 | exact hk.1.2.2 | exact hk.2.1.1 | exact hk.2.1.2 | exact hk.2.2.1 | exact hk.2.2.2 | exact hk.1.1.1.1 | exact hk.1.1.1.2 | exact hk.2.2.2.1 | exact hk.2.2.2.2))) (.slice A755_2 ((rd_T74 t738 0).f2).length c755_2)) (fun _ hk => trivial))⟩, ⟨by (with_reducible repeat (first | apply Kd.N_alloc | apply Kd.N_drewN | apply Kd.N_drew)); exact Kd.N_mono (Kd.N_far (p := ⟨gb756, 2, none⟩) (Kd.N_far (p := ⟨gb756, 1, none⟩) (Kd.N_far (p := ⟨gb756, 0, none⟩) (Kd.N_mono HO_8.out (fun k_ hk => (⟨hk, hk.2⟩ : _ ∧ k_ ≠ gb756))) (fun _ hk => by first | exact hk.2 | ((repeat' apply And.intro) <;> (first | exact hk | exact hk.1 | exact hk.2 | exact hk.1.1 | exact hk.1.2 | exact hk.2.1 | exact hk.2.2 | exact hk.1.1.1 | exact hk.1.1.2 | exact hk.1.2.1 | exact hk.1.2.2 | exact hk.2.1.1 | exact hk.2.1.2 | exact hk.2.2.1 | exact hk.2.2.2 | exact hk.1.1.1.1 | exact hk.1.1.1.2 | exact hk.2.2.2.1 | exact hk.2.2.2.2))) (.int .i64 ((rd_T74 t738 0).f0))) (fun _ hk => by first | exact hk.2 | ((repeat' apply And.intro) <;> (first | exact hk | exact hk.1 | exact hk.2 | exact hk.1.1 | exact hk.1.2 | exact hk.2.1 | exact hk.2.2 | exact hk.1.1.1 | exact hk.1.1.2 | exact hk.1.2.1 | exact hk.1.2.2 | exact hk.2.1.1 | exact hk.2.1.2 | exact hk.2.2.1 | exact hk.2.2.2 | exact hk.1.1.1.1 | exact hk.1.1.1.2 | exact hk.2.2.2.1 | exact hk.2.2.2.2))) (.slice A755_1 ((rd_T74 t738 0).f1).length c755_1)) (fun _ hk => by first | exact hk.2 | ((repeat' apply And.intro) <;> (first | exact hk | exact hk.1 | exact hk.2 | exact hk.1.1 | exact hk.1.2 | exact hk.2.1 | exact hk.2.2 | exact hk.1.1.1 | exact hk.1.1.2 | exact hk.1.2.1 | exact hk.1.2.2 | exact hk.2.1.1 | exact hk.2.1.2 | exact hk.2.2.1 | exact hk.2.2.2 | exact hk.1.1.1.1 | exact hk.1.1.1.2 | exact hk.2.2.2.1 | exact hk.2.2.2.2))) (.slice A755_2 ((rd_T74 t738 0).f2).length c755_2)) (fun _ hk => by first | exact ⟨hk.1.1.1, ⟨hk.1.1.2.1, ⟨hk.1.1.2.2, hk.1.2⟩⟩⟩ | ((repeat' apply And.intro) <;> (first | exact hk | exact hk.1 | exact hk.2 | exact hk.1.1 | exact hk.1.2 | exact hk.2.1 | exact hk.2.2 | exact hk.1.1.1 | exact hk.1.1.2 | exact hk.1.2.1 | exact hk.1.2.2 | exact hk.2.1.1 | exact hk.2.1.2 | exact hk.2.2.1 | exact hk.2.2.2 | exact hk.1.1.1.1 | exact hk.1.1.1.2 | exact hk.2.2.2.1 | exact hk.2.2.2.2)))⟩, ⟨by (with_reducible repeat (first | apply Kd.N_alloc | apply Kd.N_drewN | apply Kd.N_drew)); exact Kd.N_mono (Kd.N_far (p := ⟨gb756, 2, none⟩) (Kd.N_far (p := ⟨gb756, 1, none⟩) (Kd.N_far (p := ⟨gb756, 0, none⟩) (Kd.N_mono HO_743001.out (fun k_ hk => (⟨hk, hk.2⟩ : _ ∧ k_ ≠ gb756))) (fun _ hk => by first | exact hk.2 | ((repeat' apply And.intro) <;> (first | exact hk | exact hk.1 | exact hk.2 | exact hk.1.1 | exact hk.1.2 | exact hk.2.1 | exact hk.2.2 | exact hk.1.1.1 | exact hk.1.1.2 | exact hk.1.2.1 | exact hk.1.2.2 | exact hk.2.1.1 | exact hk.2.1.2 | exact hk.2.2.1 | exact hk.2.2.2 | exact hk.1.1.1.1 | exact hk.1.1.1.2 | exact hk.2.2.2.1 | exact hk.2.2.2.2))) (.int .i64 ((rd_T74 t738 0).f0))) (fun _ hk => by first | exact hk.2 | ((repeat' apply And.intro) <;> (first | exact hk | exact hk.1 | exact hk.2 | exact hk.1.1 | exact hk.1.2 | exact hk.2.1 | exact hk.2.2 | exact hk.1.1.1 | exact hk.1.1.2 | exact hk.1.2.1 | exact hk.1.2.2 | exact hk.2.1.1 | exact hk.2.1.2 | exact hk.2.2.1 | exact hk.2.2.2 | exact hk.1.1.1.1 | exact hk.1.1.1.2 | exact hk.2.2.2.1 | exact hk.2.2.2.2))) (.slice A755_1 ((rd_T74 t738 0).f1).length c755_1)) (fun _ hk => by first | exact hk.2 | ((repeat' apply And.intro) <;> (first | exact hk | exact hk.1 | exact hk.2 | exact hk.1.1 | exact hk.1.2 | exact hk.2.1 | exact hk.2.2 | exact hk.1.1.1 | exact hk.1.1.2 | exact hk.1.2.1 | exact hk.1.2.2 | exact hk.2.1.1 | exact hk.2.1.2 | exact hk.2.2.1 | exact hk.2.2.2 | exact hk.1.1.1.1 | exact hk.1.1.1.2 | exact hk.2.2.2.1 | exact hk.2.2.2.2))) (.slice A755_2 ((rd_T74 t738 0).f2).length c755_2)) (fun _ hk => by first | exact ⟨hk.1.1.2.1, ⟨hk.1.1.1, ⟨hk.1.1.2.2, hk.1.2⟩⟩⟩ | ((repeat' apply And.intro) <;> (first | exact hk | exact hk.1 | exact hk.2 | exact hk.1.1 | exact hk.1.2 | exact hk.2.1 | exact hk.2.2 | exact hk.1.1.1 | exact hk.1.1.2 | exact hk.1.2.1 | exact hk.1.2.2 | exact hk.2.1.1 | exact hk.2.1.2 | exact hk.2.2.1 | exact hk.2.2.2 | exact hk.1.1.1.1 | exact hk.1.1.1.2 | exact hk.2.2.2.1 | exact hk.2.2.2.2)))⟩, ⟨(by (with_reducible repeat (first | refine blk_drewN ?_ _ | refine blk_drew ?_ | refine blk_alloc ?_ _)); refine blk_far ?_ NB742_756.out _; (with_reducible repeat (first | refine blk_drewN ?_ _ | refine blk_drew ?_ | refine blk_alloc ?_ _)); refine blk_far ?_ NB742_756.out _; (with_reducible repeat (first | refine blk_drewN ?_ _ | refine blk_drew ?_ | refine blk_alloc ?_ _)); refine blk_far ?_ NB742_756.out _; (with_reducible repeat (first | refine blk_drewN ?_ _ | refine blk_drew ?_ | refine blk_alloc ?_ _)); exact BK742.out)⟩, ⟨(by (with_reducible repeat (first | refine blk_drewN ?_ _ | refine blk_drew ?_ | refine blk_alloc ?_ _)); refine blk_put (cs := #[.int .i64 ((rd_T74 t738 0).f0), .slice A755_1 ((rd_T74 t738 0).f1).length c755_1, .slice none 0 0]) ?_ 2 _ rfl; (with_reducible repeat (first | refine blk_drewN ?_ _ | refine blk_drew ?_ | refine blk_alloc ?_ _)); refine blk_put (cs := #[.int .i64 ((rd_T74 t738 0).f0), .slice none 0 0, .slice none 0 0]) ?_ 1 _ rfl; (with_reducible repeat (first | refine blk_drewN ?_ _ | refine blk_drew ?_ | refine blk_alloc ?_ _)); refine blk_put (cs := #[.int .i64 0, .slice none 0 0, .slice none 0 0]) ?_ 0 _ rfl; (with_reducible repeat (first | refine blk_drewN ?_ _ | refine blk_drew ?_ | refine blk_alloc ?_ _)); exact BK756.out)⟩, ⟨(Kd.V_reads' (by (with_reducible repeat (first | apply Kd.V_alloc | apply Kd.V_drewN | apply Kd.V_drew)); exact (Kd.V_mono (Kd.V_far (p := ⟨gb756, 2, none⟩) (Kd.V_far (p := ⟨gb756, 1, none⟩) (Kd.V_far (p := ⟨gb756, 0, none⟩) (Kd.V_mono HL755_1.out (fun k_ hk => (⟨hk, hk.2⟩ : _ ∧ k_ ≠ gb756))) (fun _ hk => by first | exact hk.2 | ((repeat' apply And.intro) <;> (first | exact hk | exact hk.1 | exact hk.2 | exact hk.1.1 | exact hk.1.2 | exact hk.2.1 | exact hk.2.2 | exact hk.1.1.1 | exact hk.1.1.2 | exact hk.1.2.1 | exact hk.1.2.2 | exact hk.2.1.1 | exact hk.2.1.2 | exact hk.2.2.1 | exact hk.2.2.2 | exact hk.1.1.1.1 | exact hk.1.1.1.2 | exact hk.2.2.2.1 | exact hk.2.2.2.2))) (.int .i64 ((rd_T74 t738 0).f0))) (fun _ hk => by first | exact hk.2 | ((repeat' apply And.intro) <;> (first | exact hk | exact hk.1 | exact hk.2 | exact hk.1.1 | exact hk.1.2 | exact hk.2.1 | exact hk.2.2 | exact hk.1.1.1 | exact hk.1.1.2 | exact hk.1.2.1 | exact hk.1.2.2 | exact hk.2.1.1 | exact hk.2.1.2 | exact hk.2.2.1 | exact hk.2.2.2 | exact hk.1.1.1.1 | exact hk.1.1.1.2 | exact hk.2.2.2.1 | exact hk.2.2.2.2))) (.slice A755_1 ((rd_T74 t738 0).f1).length c755_1)) (fun _ hk => by first | exact hk.2 | ((repeat' apply And.intro) <;> (first | exact hk | exact hk.1 | exact hk.2 | exact hk.1.1 | exact hk.1.2 | exact hk.2.1 | exact hk.2.2 | exact hk.1.1.1 | exact hk.1.1.2 | exact hk.1.2.1 | exact hk.1.2.2 | exact hk.2.1.1 | exact hk.2.1.2 | exact hk.2.2.1 | exact hk.2.2.2 | exact hk.1.1.1.1 | exact hk.1.1.1.2 | exact hk.2.2.2.1 | exact hk.2.2.2.2))) (.slice A755_2 ((rd_T74 t738 0).f2).length c755_2)) (fun _ h_ => h_.1)))).2.2⟩, ⟨(Kd.V_reads' (by (with_reducible repeat (first | apply Kd.V_alloc | apply Kd.V_drewN | apply Kd.V_drew)); exact (Kd.V_mono (Kd.V_far (p := ⟨gb756, 2, none⟩) (Kd.V_far (p := ⟨gb756, 1, none⟩) (Kd.V_far (p := ⟨gb756, 0, none⟩) (Kd.V_mono HL755_2.out (fun k_ hk => (⟨hk, hk.2⟩ : _ ∧ k_ ≠ gb756))) (fun _ hk => by first | exact hk.2 | ((repeat' apply And.intro) <;> (first | exact hk | exact hk.1 | exact hk.2 | exact hk.1.1 | exact hk.1.2 | exact hk.2.1 | exact hk.2.2 | exact hk.1.1.1 | exact hk.1.1.2 | exact hk.1.2.1 | exact hk.1.2.2 | exact hk.2.1.1 | exact hk.2.1.2 | exact hk.2.2.1 | exact hk.2.2.2 | exact hk.1.1.1.1 | exact hk.1.1.1.2 | exact hk.2.2.2.1 | exact hk.2.2.2.2))) (.int .i64 ((rd_T74 t738 0).f0))) (fun _ hk => by first | exact hk.2 | ((repeat' apply And.intro) <;> (first | exact hk | exact hk.1 | exact hk.2 | exact hk.1.1 | exact hk.1.2 | exact hk.2.1 | exact hk.2.2 | exact hk.1.1.1 | exact hk.1.1.2 | exact hk.1.2.1 | exact hk.1.2.2 | exact hk.2.1.1 | exact hk.2.1.2 | exact hk.2.2.1 | exact hk.2.2.2 | exact hk.1.1.1.1 | exact hk.1.1.1.2 | exact hk.2.2.2.1 | exact hk.2.2.2.2))) (.slice A755_1 ((rd_T74 t738 0).f1).length c755_1)) (fun _ hk => by first | exact hk.2 | ((repeat' apply And.intro) <;> (first | exact hk | exact hk.1 | exact hk.2 | exact hk.1.1 | exact hk.1.2 | exact hk.2.1 | exact hk.2.2 | exact hk.1.1.1 | exact hk.1.1.2 | exact hk.1.2.1 | exact hk.1.2.2 | exact hk.2.1.1 | exact hk.2.1.2 | exact hk.2.2.1 | exact hk.2.2.2 | exact hk.1.1.1.1 | exact hk.1.1.1.2 | exact hk.2.2.2.1 | exact hk.2.2.2.2))) (.slice A755_2 ((rd_T74 t738 0).f2).length c755_2)) (fun _ h_ => h_.1)))).2.2⟩, ⟨zz85⟩⟩
            case round =>
              clear H'; (try clear c1); (try clear c2); (try clear p2); (try clear c4); (try clear c5); (try clear c6); (try clear c6b0); (try clear c6b1); (try clear p6); (try clear c7); (try clear p7); (try clear q7); (try clear hx7); (try clear qi7); (try clear c11); (try clear c25); (try clear c25b0); (try clear c25b1); (try clear c26); (try clear c26b0); (try clear c26b1); (try clear c27); (try clear c28); (try clear c28b0); (try clear c28b1); (try clear c28b2); (try clear c29); (try clear c29b0); (try clear c29b1); (try clear c40); (try clear c40b0); (try clear c40b1); (try clear c43); (try clear hcz20_0); (try clear hcz20_1); (try clear hcz23_0); (try clear hcz23_1); (try clear hcz31_0); (try clear hcz31_1); (try clear hcz38_0); (try clear hcz38_1); (try clear hcz41_0); (try clear hcz41_1); (try clear hcz44_0); (try clear hcz44_1); (try clear hcz44_2); (try clear hfz20_0); (try clear hfz20_1); (try clear hfz23_0); (try clear hfz23_1); (try clear hfz31_0); (try clear hfz31_1); (try clear hfz38_0); (try clear hfz38_1); (try clear hfz41_0); (try clear hfz41_1); (try clear hfz44_0); (try clear hfz44_1); (try clear hfz44_2); (try clear hx755_0); (try clear hx755_1); (try clear hx755_2); (try clear p2); (try clear p6); (try clear p755); (try clear q755); obtain ⟨x13_3, x83_3, rfl, rfl, HA, HK3, HO_10, HO_81, HO_743001, BK742, BK756, HR755_1, HR755_2, HB⟩ := hrel
              cases gk with
              | zero => exact absurd HA.out (by simp [l30_PermStabilizers.l0])
              | succ k3 =>
                have H := HA.out; clear HA; simp only [l30_PermStabilizers.l0] at H
                by_cases c46 : x83_3 < (t743.length : Int)
                · rw [if_pos c46] at H; have c46b0 := decide_eq_true c46; clear c46
                  by_cases c47 : 0 ≤ x83_3
                  · rw [if_pos c47] at H; have c47b0 := decide_eq_true c47; clear c47
                    by_cases c48 : x83_3 < (t743.length : Int)
                    · rw [if_pos c48] at H; have c48b0 := decide_eq_true c48; clear c48
                      by_cases c49 : x13_3 = true
                      · subst c49; have H1 : (if ((rd_L1 t743 x83_3).length : Int) > 1 then (if 0 < ((rd_L1 t743 x83_3).length : Int) then (if (rd (rd_L1 t743 x83_3) 0) < ((rd_T74 t738 0).f0) then (some false) else (l30_PermStabilizers.l0 k3 (wrap64 (1 + (Int.tmod (wrap64 (a0)) 8))) t747 true t743 (t743.length : Int) (wrap64 (x83_3 + 1)) t737 t738 ((rd_T74 t738 0).f0) ((rd_T74 t738 0).f1) ((rd_T74 t738 0).f2))) else (none)) else (l30_PermStabilizers.l0 k3 (wrap64 (1 + (Int.tmod (wrap64 (a0)) 8))) t747 true t743 (t743.length : Int) (wrap64 (x83_3 + 1)) t737 t738 ((rd_T74 t738 0).f0) ((rd_T74 t738 0).f1) ((rd_T74 t738 0).f2))) = some r := by rw [if_pos rfl] at H; exact H
                        clear H; have H := H1; clear H1
                        by_cases c50 : ((rd_L1 t743 x83_3).length : Int) > 1
                        · rw [if_pos c50] at H; have c50b0 := decide_eq_true c50; have c50b1 : decide (1 < (rd_L1 t743 x83_3).length) = true := decide_eq_true (by omega); clear c50
                          by_cases c51 : 0 < ((rd_L1 t743 x83_3).length : Int)
                          · rw [if_pos c51] at H; have c51b0 := decide_eq_true c51; have c51b1 : decide (0 < (rd_L1 t743 x83_3).length) = true := decide_eq_true (by omega); clear c51
                            by_cases c52 : (rd (rd_L1 t743 x83_3) 0) < ((rd_T74 t738 0).f0)
                            · rw [if_pos c52] at H; have c52b0 := decide_eq_true c52; clear c52
                              exact absurd (Option.some.inj (H.trans (congrArg some HR_.out))) (by decide)
                            rw [if_neg c52] at H; have c52b0 := decide_eq_false c52; clear c52; have H' := aM H; clear H; have p757 : 0 ≤ (x83_3 : Int) := of_decide_eq_true zz135; have q757 : x83_3 < (t743.length : Int) := of_decide_eq_true zz135; obtain ⟨ad757, A757_0, c757_0, e757, hx757_0, hl757_0, hi757_0⟩ := at_L1 (Kd.N_reads' HO_81.out).2.2 x83_3 p757 q757
                            cases e757; obtain ⟨ce757, hce757, hMe757, hcc757⟩ := Kd.N_get HO_81.out [] x83_3 p757 zz106; obtain ⟨ua757_0, uc757_0, rfl, ul757_0, ge757_0⟩ := Kd.FK_slice_open hMe757; have hv757_0 := hcc757 0 _ rfl; rw [Nat.add_zero, show ((Kd.slice 3 (Kd.int .i64))).sz = 1 from rfl, Nat.mul_one] at hv757_0; replace hv757_0 := Option.some.inj (hv757_0.symm.trans hx757_0); injection hv757_0 with hva_ hvn_ hvc_
                            rw [hva_] at ge757_0; rw [hvc_] at ul757_0; have HL757_0 := aM (show Kd.V (Kd.int .i64) 3 _ w.heap.size _ _ (rd_L1 t743 x83_3) from Kd.V_mk ul757_0 ge757_0); clear hva_ hvn_ hvc_ ge757_0 ul757_0; clear hcc757 hce757; have HR757_0 := aM hi757_0; have HC757_0 := aM hl757_0; clear hi757_0 hl757_0; replace p757 := eq_true p757; replace q757 := eq_true q757; have p758 : 0 ≤ (0 : Int) := (by omega); have q758 : 0 < ((rd_L1 t743 x83_3).length : Int) := of_decide_eq_true zz135; obtain ⟨ad758, e758, hx758_0⟩ := Kd.at_int zz87 0 p758 q758
                            cases e758; have qi758 : (0 < (rd_L1 t743 x83_3).length) = True := eq_true (by omega)
                            (try rw [show ((0 : Int)).toNat = 0 from rfl] at hx758_0)
                            (try rw [Addr.add_zero'] at hx758_0)
                            replace p758 := eq_true p758; replace q758 := eq_true q758; have hnb55 := NB756_742.out; have hnc55 := NB742_756.out; have hcz56_0 : wr.cell? ⟨gb756, 0, none⟩ = some (.int .i64 ((rd_T74 t738 0).f0)) := (blk_cell BK756.out 0).trans rfl; have hcz56_1 : wr.cell? ⟨gb756, 1, none⟩ = some (.slice A755_1 ((rd_T74 t738 0).f1).length c755_1) := (blk_cell BK756.out 1).trans rfl; have hcz56_2 : wr.cell? ⟨gb756, 2, none⟩ = some (.slice A755_2 ((rd_T74 t738 0).f2).length c755_2) := (blk_cell BK756.out 2).trans rfl; have hfz56_0 := blk_frozen BK756.out 0; have hfz56_1 := blk_frozen BK756.out 1; have hfz56_2 := blk_frozen BK756.out 2; go_wp2
                            repeat (go_quiet (fail); try go_wp2)
                            go_roundg k3
                            case measure => have := HJ2.out; have := HJ16.out; have := HK3.out; omega
                            case rel => exact ⟨(true), (wrap64 (x83_3 + 1)), zz136, zz136, H', ⟨zz132⟩, ⟨(zR HO_10)⟩, ⟨(zN HO_81)⟩, ⟨(zN HO_743001)⟩, ⟨(zB BK742)⟩, ⟨(zB BK756)⟩, ⟨zz88⟩, ⟨zz89⟩, ⟨zz85⟩⟩
                          rw [if_neg c51] at H
                          exact absurd H (by simp)
                        rw [if_neg c50] at H; have c50b0 := decide_eq_false c50; have c50b1 : decide (1 < (rd_L1 t743 x83_3).length) = false := decide_eq_false (by omega); clear c50; have H' := aM H; clear H; have p757 : 0 ≤ (x83_3 : Int) := of_decide_eq_true zz135; have q757 : x83_3 < (t743.length : Int) := of_decide_eq_true zz135; obtain ⟨ad757, A757_0, c757_0, e757, hx757_0, hl757_0, hi757_0⟩ := at_L1 (Kd.N_reads' HO_81.out).2.2 x83_3 p757 q757
                        cases e757; obtain ⟨ce757, hce757, hMe757, hcc757⟩ := Kd.N_get HO_81.out [] x83_3 p757 zz106; obtain ⟨ua757_0, uc757_0, rfl, ul757_0, ge757_0⟩ := Kd.FK_slice_open hMe757; have hv757_0 := hcc757 0 _ rfl; rw [Nat.add_zero, show ((Kd.slice 3 (Kd.int .i64))).sz = 1 from rfl, Nat.mul_one] at hv757_0; replace hv757_0 := Option.some.inj (hv757_0.symm.trans hx757_0); injection hv757_0 with hva_ hvn_ hvc_
                        rw [hva_] at ge757_0; rw [hvc_] at ul757_0; have HL757_0 := aM (show Kd.V (Kd.int .i64) 3 _ w.heap.size _ _ (rd_L1 t743 x83_3) from Kd.V_mk ul757_0 ge757_0); clear hva_ hvn_ hvc_ ge757_0 ul757_0; clear hcc757 hce757; have HR757_0 := aM hi757_0; have HC757_0 := aM hl757_0; clear hi757_0 hl757_0; replace p757 := eq_true p757; replace q757 := eq_true q757; go_wp2
                        repeat (go_quiet (fail); try go_wp2)
                        go_roundg k3
                        case measure => have := HJ2.out; have := HJ16.out; have := HK3.out; omega
                        case rel => exact ⟨(true), (wrap64 (x83_3 + 1)), zz136, zz136, H', ⟨zz132⟩, ⟨(zR HO_10)⟩, ⟨(zN HO_81)⟩, ⟨(zN HO_743001)⟩, ⟨(zB BK742)⟩, ⟨(zB BK756)⟩, ⟨zz88⟩, ⟨zz89⟩, ⟨zz85⟩⟩
                      replace c49 := Bool.eq_false_iff.mpr c49; subst c49; have H1 : (if ((rd_L1 t743 x83_3).length : Int) > 1 then (if 0 < ((rd_L1 t743 x83_3).length : Int) then (if (rd (rd_L1 t743 x83_3) 0) = ((rd_T74 t738 0).f0) then ((r09_SameInts.f k3 (rd_L1 t743 x83_3) ((rd_T74 t738 0).f1)).bind fun t760 => (if (rd (rd_L1 t743 x83_3) 0) < ((rd_T74 t738 0).f0) then (some false) else (l30_PermStabilizers.l0 k3 (wrap64 (1 + (Int.tmod (wrap64 (a0)) 8))) t747 t760 t743 (t743.length : Int) (wrap64 (x83_3 + 1)) t737 t738 ((rd_T74 t738 0).f0) ((rd_T74 t738 0).f1) ((rd_T74 t738 0).f2)))) else (if (rd (rd_L1 t743 x83_3) 0) < ((rd_T74 t738 0).f0) then (some false) else (l30_PermStabilizers.l0 k3 (wrap64 (1 + (Int.tmod (wrap64 (a0)) 8))) t747 false t743 (t743.length : Int) (wrap64 (x83_3 + 1)) t737 t738 ((rd_T74 t738 0).f0) ((rd_T74 t738 0).f1) ((rd_T74 t738 0).f2)))) else (none)) else (l30_PermStabilizers.l0 k3 (wrap64 (1 + (Int.tmod (wrap64 (a0)) 8))) t747 false t743 (t743.length : Int) (wrap64 (x83_3 + 1)) t737 t738 ((rd_T74 t738 0).f0) ((rd_T74 t738 0).f1) ((rd_T74 t738 0).f2))) = some r := by rw [if_neg (show ¬ (false = true) by decide)] at H; exact H
                      clear H; have H := H1; clear H1
                      by_cases c57 : ((rd_L1 t743 x83_3).length : Int) > 1
                      · rw [if_pos c57] at H; have c57b0 := decide_eq_true c57; have c57b1 : decide (1 < (rd_L1 t743 x83_3).length) = true := decide_eq_true (by omega); clear c57
                        by_cases c58 : 0 < ((rd_L1 t743 x83_3).length : Int)
                        · rw [if_pos c58] at H; have c58b0 := decide_eq_true c58; have c58b1 : decide (0 < (rd_L1 t743 x83_3).length) = true := decide_eq_true (by omega); clear c58
                          by_cases c59 : (rd (rd_L1 t743 x83_3) 0) = ((rd_T74 t738 0).f0)
                          · rw [if_pos c59] at H; have c59b0 := beq_iff_eq.mpr c59; have c59b1 := bne_eq_false_iff_eq.mpr c59; clear c59; replace H := Option.bind_eq_some_iff.mp H; obtain ⟨t760, A600, H⟩ := H; replace H : (if (rd (rd_L1 t743 x83_3) 0) < ((rd_T74 t738 0).f0) then (some false) else (l30_PermStabilizers.l0 k3 (wrap64 (1 + (Int.tmod (wrap64 (a0)) 8))) t747 t760 t743 (t743.length : Int) (wrap64 (x83_3 + 1)) t737 t738 ((rd_T74 t738 0).f0) ((rd_T74 t738 0).f1) ((rd_T74 t738 0).f2))) = some r := H; have A60 := aM A600; clear A600
                            by_cases c61 : (rd (rd_L1 t743 x83_3) 0) < ((rd_T74 t738 0).f0)
                            · rw [if_pos c61] at H; have c61b0 := decide_eq_true c61; clear c61
                              exact absurd (Option.some.inj (H.trans (congrArg some HR_.out))) (by decide)
                            rw [if_neg c61] at H; have c61b0 := decide_eq_false c61; clear c61; have H' := aM H; clear H; have p757 : 0 ≤ (x83_3 : Int) := of_decide_eq_true zz135; have q757 : x83_3 < (t743.length : Int) := of_decide_eq_true zz135; obtain ⟨ad757, A757_0, c757_0, e757, hx757_0, hl757_0, hi757_0⟩ := at_L1 (Kd.N_reads' HO_81.out).2.2 x83_3 p757 q757
                            cases e757; obtain ⟨ce757, hce757, hMe757, hcc757⟩ := Kd.N_get HO_81.out [] x83_3 p757 zz106; obtain ⟨ua757_0, uc757_0, rfl, ul757_0, ge757_0⟩ := Kd.FK_slice_open hMe757; have hv757_0 := hcc757 0 _ rfl; rw [Nat.add_zero, show ((Kd.slice 3 (Kd.int .i64))).sz = 1 from rfl, Nat.mul_one] at hv757_0; replace hv757_0 := Option.some.inj (hv757_0.symm.trans hx757_0); injection hv757_0 with hva_ hvn_ hvc_
                            rw [hva_] at ge757_0; rw [hvc_] at ul757_0; have HL757_0 := aM (show Kd.V (Kd.int .i64) 3 _ w.heap.size _ _ (rd_L1 t743 x83_3) from Kd.V_mk ul757_0 ge757_0); clear hva_ hvn_ hvc_ ge757_0 ul757_0; clear hcc757 hce757; have HR757_0 := aM hi757_0; have HC757_0 := aM hl757_0; clear hi757_0 hl757_0; replace p757 := eq_true p757; replace q757 := eq_true q757; have p759 : 0 ≤ (0 : Int) := (by omega); have q759 : 0 < ((rd_L1 t743 x83_3).length : Int) := of_decide_eq_true zz135; obtain ⟨ad759, e759, hx759_0⟩ := Kd.at_int zz87 0 p759 q759
                            cases e759; have qi759 : (0 < (rd_L1 t743 x83_3).length) = True := eq_true (by omega)
                            (try rw [show ((0 : Int)).toNat = 0 from rfl] at hx759_0)
                            (try rw [Addr.add_zero'] at hx759_0)
                            replace p759 := eq_true p759; replace q759 := eq_true q759; have hnb64 := NB756_742.out; have hnc64 := NB742_756.out; have hcz65_0 : wr.cell? ⟨gb756, 0, none⟩ = some (.int .i64 ((rd_T74 t738 0).f0)) := (blk_cell BK756.out 0).trans rfl; have hcz65_1 : wr.cell? ⟨gb756, 1, none⟩ = some (.slice A755_1 ((rd_T74 t738 0).f1).length c755_1) := (blk_cell BK756.out 1).trans rfl; have hcz65_2 : wr.cell? ⟨gb756, 2, none⟩ = some (.slice A755_2 ((rd_T74 t738 0).f2).length c755_2) := (blk_cell BK756.out 2).trans rfl; have hfz65_0 := blk_frozen BK756.out 0; have hfz65_1 := blk_frozen BK756.out 1; have hfz65_2 := blk_frozen BK756.out 2
                            go_wp2_with (first | (go_at_call 15; (with_reducible refine (r09_SameInts.calls k3 _ _ (rd_L1 t743 x83_3) _ _ ((rd_T74 t738 0).f1) t760 _ ?side1 ?side2 ?side3 ?side4 A60.out).mono ?_); (case side1 => repeat (first | exact zz87 | (with_reducible refine Kd.C_alloc ?_ _) | (with_reducible refine Kd.C_drewN ?_ _) | (with_reducible refine Kd.C_drew ?_))); (case side2 => exact HC757_0.out); (case side3 => repeat (first | exact HR755_1.out | exact (Kd.C_below HR755_1.out HB.out) | (with_reducible refine Kd.C_alloc ?_ _) | (with_reducible refine Kd.C_drewN ?_ _) | (with_reducible refine Kd.C_drew ?_))); (case side4 => exact HC755_1.out); rintro e w' ⟨rfl, ⟨nd, rfl⟩⟩; (try first | exact ⟨rfl, _, World.drewN_drewN _ _ _⟩ | exact ⟨rfl, _, Eq.trans (World.drewN_drewN _ _ _) (congrArg (World.drewN _) (Nat.add_assoc _ _ _))⟩); have p761 : 0 ≤ (0 : Int) := (by omega); have q761 : 0 < ((rd_L1 t743 x83_3).length : Int) := of_decide_eq_true zz135; obtain ⟨ad761, e761, hx761_0⟩ := Kd.at_int zz87 0 p761 q761; obtain rfl : ad759 = ad761 := (by injection e761); have qi761 : (0 < (rd_L1 t743 x83_3).length) = True := eq_true (by omega); (try rw [show ((0 : Int)).toNat = 0 from rfl] at hx761_0); (try rw [Addr.add_zero'] at hx761_0); replace p761 := eq_true p761; replace q761 := eq_true q761))
                            repeat (go_quiet (first | (go_at_call 15; (with_reducible refine (r09_SameInts.calls k3 _ _ (rd_L1 t743 x83_3) _ _ ((rd_T74 t738 0).f1) t760 _ ?side1 ?side2 ?side3 ?side4 A60.out).mono ?_); (case side1 => repeat (first | exact zz87 | (with_reducible refine Kd.C_alloc ?_ _) | (with_reducible refine Kd.C_drewN ?_ _) | (with_reducible refine Kd.C_drew ?_))); (case side2 => exact HC757_0.out); (case side3 => repeat (first | exact HR755_1.out | exact (Kd.C_below HR755_1.out HB.out) | (with_reducible refine Kd.C_alloc ?_ _) | (with_reducible refine Kd.C_drewN ?_ _) | (with_reducible refine Kd.C_drew ?_))); (case side4 => exact HC755_1.out); rintro e w' ⟨rfl, ⟨nd, rfl⟩⟩; (try first | exact ⟨rfl, _, World.drewN_drewN _ _ _⟩ | exact ⟨rfl, _, Eq.trans (World.drewN_drewN _ _ _) (congrArg (World.drewN _) (Nat.add_assoc _ _ _))⟩); have p761 : 0 ≤ (0 : Int) := (by omega); have q761 : 0 < ((rd_L1 t743 x83_3).length : Int) := of_decide_eq_true zz135; obtain ⟨ad761, e761, hx761_0⟩ := Kd.at_int zz87 0 p761 q761; obtain rfl : ad759 = ad761 := (by injection e761); have qi761 : (0 < (rd_L1 t743 x83_3).length) = True := eq_true (by omega); (try rw [show ((0 : Int)).toNat = 0 from rfl] at hx761_0); (try rw [Addr.add_zero'] at hx761_0); replace p761 := eq_true p761; replace q761 := eq_true q761)); try go_wp2_with (first | (go_at_call 15; (with_reducible refine (r09_SameInts.calls k3 _ _ (rd_L1 t743 x83_3) _ _ ((rd_T74 t738 0).f1) t760 _ ?side1 ?side2 ?side3 ?side4 A60.out).mono ?_); (case side1 => repeat (first | exact zz87 | (with_reducible refine Kd.C_alloc ?_ _) | (with_reducible refine Kd.C_drewN ?_ _) | (with_reducible refine Kd.C_drew ?_))); (case side2 => exact HC757_0.out); (case side3 => repeat (first | exact HR755_1.out | exact (Kd.C_below HR755_1.out HB.out) | (with_reducible refine Kd.C_alloc ?_ _) | (with_reducible refine Kd.C_drewN ?_ _) | (with_reducible refine Kd.C_drew ?_))); (case side4 => exact HC755_1.out); rintro e w' ⟨rfl, ⟨nd, rfl⟩⟩; (try first | exact ⟨rfl, _, World.drewN_drewN _ _ _⟩ | exact ⟨rfl, _, Eq.trans (World.drewN_drewN _ _ _) (congrArg (World.drewN _) (Nat.add_assoc _ _ _))⟩); have p761 : 0 ≤ (0 : Int) := (by omega); have q761 : 0 < ((rd_L1 t743 x83_3).length : Int) := of_decide_eq_true zz135; obtain ⟨ad761, e761, hx761_0⟩ := Kd.at_int zz87 0 p761 q761; obtain rfl : ad759 = ad761 := (by injection e761); have qi761 : (0 < (rd_L1 t743 x83_3).length) = True := eq_true (by omega); (try rw [show ((0 : Int)).toNat = 0 from rfl] at hx761_0); (try rw [Addr.add_zero'] at hx761_0); replace p761 := eq_true p761; replace q761 := eq_true q761)))
                            go_roundg k3
                            case measure => have := HJ2.out; have := HJ16.out; have := HK3.out; omega
                            case rel => exact ⟨(t760), (wrap64 (x83_3 + 1)), zz136, zz136, H', ⟨zz132⟩, ⟨(zR HO_10)⟩, ⟨(zN HO_81)⟩, ⟨(zN HO_743001)⟩, ⟨(zB BK742)⟩, ⟨(zB BK756)⟩, ⟨zz88⟩, ⟨zz89⟩, ⟨zz85⟩⟩
                          rw [if_neg c59] at H; have c59b0 := beq_eq_false_iff_ne.mpr c59; have c59b1 := bne_iff_ne.mpr c59
                          by_cases c66 : (rd (rd_L1 t743 x83_3) 0) < ((rd_T74 t738 0).f0)
                          · rw [if_pos c66] at H; have c66b0 := decide_eq_true c66; clear c66
                            exact absurd (Option.some.inj (H.trans (congrArg some HR_.out))) (by decide)
                          rw [if_neg c66] at H; have c66b0 := decide_eq_false c66; clear c66; have H' := aM H; clear H; have p757 : 0 ≤ (x83_3 : Int) := of_decide_eq_true zz135; have q757 : x83_3 < (t743.length : Int) := of_decide_eq_true zz135; obtain ⟨ad757, A757_0, c757_0, e757, hx757_0, hl757_0, hi757_0⟩ := at_L1 (Kd.N_reads' HO_81.out).2.2 x83_3 p757 q757
                          cases e757; obtain ⟨ce757, hce757, hMe757, hcc757⟩ := Kd.N_get HO_81.out [] x83_3 p757 zz106; obtain ⟨ua757_0, uc757_0, rfl, ul757_0, ge757_0⟩ := Kd.FK_slice_open hMe757; have hv757_0 := hcc757 0 _ rfl; rw [Nat.add_zero, show ((Kd.slice 3 (Kd.int .i64))).sz = 1 from rfl, Nat.mul_one] at hv757_0; replace hv757_0 := Option.some.inj (hv757_0.symm.trans hx757_0); injection hv757_0 with hva_ hvn_ hvc_
                          rw [hva_] at ge757_0; rw [hvc_] at ul757_0; have HL757_0 := aM (show Kd.V (Kd.int .i64) 3 _ w.heap.size _ _ (rd_L1 t743 x83_3) from Kd.V_mk ul757_0 ge757_0); clear hva_ hvn_ hvc_ ge757_0 ul757_0; clear hcc757 hce757; have HR757_0 := aM hi757_0; have HC757_0 := aM hl757_0; clear hi757_0 hl757_0; replace p757 := eq_true p757; replace q757 := eq_true q757; have p759 : 0 ≤ (0 : Int) := (by omega); have q759 : 0 < ((rd_L1 t743 x83_3).length : Int) := of_decide_eq_true zz135; obtain ⟨ad759, e759, hx759_0⟩ := Kd.at_int zz87 0 p759 q759
                          cases e759; have qi759 : (0 < (rd_L1 t743 x83_3).length) = True := eq_true (by omega)
                          (try rw [show ((0 : Int)).toNat = 0 from rfl] at hx759_0)
                          (try rw [Addr.add_zero'] at hx759_0)
                          replace p759 := eq_true p759; replace q759 := eq_true q759; have hnb69 := NB756_742.out; have hnc69 := NB742_756.out; have hcz70_0 : wr.cell? ⟨gb756, 0, none⟩ = some (.int .i64 ((rd_T74 t738 0).f0)) := (blk_cell BK756.out 0).trans rfl; have hcz70_1 : wr.cell? ⟨gb756, 1, none⟩ = some (.slice A755_1 ((rd_T74 t738 0).f1).length c755_1) := (blk_cell BK756.out 1).trans rfl; have hcz70_2 : wr.cell? ⟨gb756, 2, none⟩ = some (.slice A755_2 ((rd_T74 t738 0).f2).length c755_2) := (blk_cell BK756.out 2).trans rfl; have hfz70_0 := blk_frozen BK756.out 0; have hfz70_1 := blk_frozen BK756.out 1; have hfz70_2 := blk_frozen BK756.out 2; have p762 : 0 ≤ (0 : Int) := (by omega); have q762 : 0 < ((rd_L1 t743 x83_3).length : Int) := of_decide_eq_true zz135; obtain ⟨ad762, e762, hx762_0⟩ := Kd.at_int zz87 0 p762 q762; obtain rfl : ad759 = ad762 := (by injection e762); have qi762 : (0 < (rd_L1 t743 x83_3).length) = True := eq_true (by omega)
                          (try rw [show ((0 : Int)).toNat = 0 from rfl] at hx762_0)
                          (try rw [Addr.add_zero'] at hx762_0)
                          replace p762 := eq_true p762; replace q762 := eq_true q762; go_wp2
                          repeat (go_quiet (fail); try go_wp2)
                          go_roundg k3
                          case measure => have := HJ2.out; have := HJ16.out; have := HK3.out; omega
                          case rel => exact ⟨(false), (wrap64 (x83_3 + 1)), zz136, zz136, H', ⟨zz132⟩, ⟨(zR HO_10)⟩, ⟨(zN HO_81)⟩, ⟨(zN HO_743001)⟩, ⟨(zB BK742)⟩, ⟨(zB BK756)⟩, ⟨zz88⟩, ⟨zz89⟩, ⟨zz85⟩⟩
                        rw [if_neg c58] at H
                        exact absurd H (by simp)
                      rw [if_neg c57] at H; have c57b0 := decide_eq_false c57; have c57b1 : decide (1 < (rd_L1 t743 x83_3).length) = false := decide_eq_false (by omega); clear c57; have H' := aM H; clear H; have p757 : 0 ≤ (x83_3 : Int) := of_decide_eq_true zz135; have q757 : x83_3 < (t743.length : Int) := of_decide_eq_true zz135; obtain ⟨ad757, A757_0, c757_0, e757, hx757_0, hl757_0, hi757_0⟩ := at_L1 (Kd.N_reads' HO_81.out).2.2 x83_3 p757 q757
                      cases e757; obtain ⟨ce757, hce757, hMe757, hcc757⟩ := Kd.N_get HO_81.out [] x83_3 p757 zz106; obtain ⟨ua757_0, uc757_0, rfl, ul757_0, ge757_0⟩ := Kd.FK_slice_open hMe757; have hv757_0 := hcc757 0 _ rfl; rw [Nat.add_zero, show ((Kd.slice 3 (Kd.int .i64))).sz = 1 from rfl, Nat.mul_one] at hv757_0; replace hv757_0 := Option.some.inj (hv757_0.symm.trans hx757_0); injection hv757_0 with hva_ hvn_ hvc_
                      rw [hva_] at ge757_0; rw [hvc_] at ul757_0; have HL757_0 := aM (show Kd.V (Kd.int .i64) 3 _ w.heap.size _ _ (rd_L1 t743 x83_3) from Kd.V_mk ul757_0 ge757_0); clear hva_ hvn_ hvc_ ge757_0 ul757_0; clear hcc757 hce757; have HR757_0 := aM hi757_0; have HC757_0 := aM hl757_0; clear hi757_0 hl757_0; replace p757 := eq_true p757; replace q757 := eq_true q757; go_wp2
                      repeat (go_quiet (fail); try go_wp2)
                      go_roundg k3
                      case measure => have := HJ2.out; have := HJ16.out; have := HK3.out; omega
                      case rel => exact ⟨(false), (wrap64 (x83_3 + 1)), zz136, zz136, H', ⟨zz132⟩, ⟨(zR HO_10)⟩, ⟨(zN HO_81)⟩, ⟨(zN HO_743001)⟩, ⟨(zB BK742)⟩, ⟨(zB BK756)⟩, ⟨zz88⟩, ⟨zz89⟩, ⟨zz85⟩⟩
                    rw [if_neg c48] at H
                    exact absurd H (by simp)
                  rw [if_neg c47] at H
                  exact absurd H (by simp)
                rw [if_neg c46] at H; have c46b0 := decide_eq_false c46; clear c46
                by_cases c71 : 1 ≤ (t738.length : Int)
                · rw [if_pos c71] at H; have c71b0 := eq_true c71; have c71b1 := decide_eq_true c71; clear c71; obtain ⟨y763, hy763⟩ : ∃ y_ : List (S74), y_ = (t738.drop 1) := ⟨_, rfl⟩; replace H : ((perm_Size.f k3 (wrap64 (1 + (Int.tmod (wrap64 (a0)) 8))) y763).bind fun bt769 => (if x13_3 = true then (if bt769.2 = 0 then ((nat_Of.f (IntKind.u64.wrap ((((rd_T74 t738 0).f1).length : Int)))).bind fun t773 => ((nat_Mul.f k3 (([bt769.1, t773] : List (List Int)))).bind fun t779 => ((r01_Cmp.f k3 t779 t747).bind fun t782 => (some (t782 == 0))))) else (some false)) else (some false))) = some r := by first | (rw [hy763]; with_reducible exact H) | (have H2_ := (Option.bind_some _ _).symm.trans H; rw [hy763]; with_reducible exact H2_) | (have H2_ := (Option.bind_some _ _).symm.trans H; with_reducible exact H2_) | with_reducible exact H | (rw [hy763]; exact H) | exact H
                  have Ny763 := aM hy763; clear hy763; replace H := Option.bind_eq_some_iff.mp H; obtain ⟨⟨t769, t772⟩, A720, H⟩ := H; replace H : (if x13_3 = true then (if t772 = 0 then ((nat_Of.f (IntKind.u64.wrap ((((rd_T74 t738 0).f1).length : Int)))).bind fun t773 => ((nat_Mul.f k3 (([t769, t773] : List (List Int)))).bind fun t779 => ((r01_Cmp.f k3 t779 t747).bind fun t782 => (some (t782 == 0))))) else (some false)) else (some false)) = some r := H; have A72 := aM A720; clear A720
                  by_cases c73 : x13_3 = true
                  · subst c73; have H1 : (if t772 = 0 then ((nat_Of.f (IntKind.u64.wrap ((((rd_T74 t738 0).f1).length : Int)))).bind fun t773 => ((nat_Mul.f k3 (([t769, t773] : List (List Int)))).bind fun t779 => ((r01_Cmp.f k3 t779 t747).bind fun t782 => (some (t782 == 0))))) else (some false)) = some r := by rw [if_pos rfl] at H; exact H
                    clear H; have H := H1; clear H1
                    by_cases c74 : t772 = 0
                    · rw [if_pos c74] at H; have c74b0 := beq_iff_eq.mpr c74; have c74b1 := bne_eq_false_iff_eq.mpr c74; clear c74; replace H := Option.bind_eq_some_iff.mp H; obtain ⟨t773, A750, H⟩ := H; replace H : ((nat_Mul.f k3 (([t769, t773] : List (List Int)))).bind fun t779 => ((r01_Cmp.f k3 t779 t747).bind fun t782 => (some (t782 == 0)))) = some r := H; have A75 := aM A750; clear A750; obtain ⟨y776, hy776⟩ : ∃ y_ : List (List Int), y_ = (([t769, t773] : List (List Int))) := ⟨_, rfl⟩; replace H : ((nat_Mul.f k3 y776).bind fun t779 => ((r01_Cmp.f k3 t779 t747).bind fun t782 => (some (t782 == 0)))) = some r := by first | (rw [hy776]; with_reducible exact H) | (have H2_ := (Option.bind_some _ _).symm.trans H; rw [hy776]; with_reducible exact H2_) | (have H2_ := (Option.bind_some _ _).symm.trans H; with_reducible exact H2_) | with_reducible exact H | (rw [hy776]; exact H) | exact H
                      have Ny776 := aM hy776; clear hy776; replace H := Option.bind_eq_some_iff.mp H; obtain ⟨t779, A760, H⟩ := H; replace H : ((r01_Cmp.f k3 t779 t747).bind fun t782 => (some (t782 == 0))) = some r := H; have A76 := aM A760; clear A760; replace H := Option.bind_eq_some_iff.mp H; obtain ⟨t782, A770, H⟩ := H; replace H : (some (t782 == 0)) = some r := H; have A77 := aM A770; clear A770; obtain rfl := Option.some.inj H; have hnb78 := NB742_756.out; have hnc78 := NB756_742.out; have hcz79_0 : wr.cell? ⟨gb742, 0, none⟩ = some (.int .i64 t737) := (blk_cell BK742.out 0).trans rfl; have hcz79_1 : wr.cell? ⟨gb742, 1, none⟩ = some (.slice (some ad755) t738.length co21) := (blk_cell BK742.out 1).trans rfl; have hfz79_0 := blk_frozen BK742.out 0; have hfz79_1 := blk_frozen BK742.out 1; have q80 : (1 : Int) ≤ ((t738.length : Int) : Int) := of_decide_eq_true zz135; obtain ⟨i080, hi080, _, hsz80, _⟩ := info_parts info74; have hroom80 : t738.length ≤ co21 := (Kd.N_reads' HO_743001.out).2.1; have hC80 : Kd.F k74 _ _ (some ad755) t738.length t738 := (Kd.V_at (base := w.heap.size) (Kd.N_V HO_743001.out)).2.2; have hcut80 := cut_from (P := Try.prog) 44 74 .i64 Try.underlying44 hi080 3 hsz80 (some ad755) t738.length co21 1 (by omega) q80; have hr80 := Kd.F_cut (m := (1 : Int).toNat) (c := co21) hC80 (by omega) hroom80; obtain ⟨A80, hA80⟩ : ∃ A1, A1 = (if co21 = (1 : Int).toNat then (some ad755) else ((some ad755) : Option Addr).map (·.add ((1 : Int).toNat * 3))) := ⟨_, rfl⟩; obtain ⟨c80, hc80⟩ : ∃ c1, c1 = co21 - (1 : Int).toNat := ⟨_, rfl⟩; have hy80 : y763.length = t738.length - (1 : Int).toNat := (by rw [Ny763.out, List.length_drop] <;> omega); rw [show (t738).drop (1 : Int).toNat = y763 from Ny763.out.symm] at hr80; replace hr80 : Kd.F k74 _ _ A80 y763.length y763 := (by rw [hA80]; exact hr80); rw [← hy80, ← hA80, ← hc80] at hcut80; have HO767 := aM (show Kd.V k74 74 _ w.heap.size _ (.slice A80 y763.length c80) y763 from Kd.V_mk (by rw [hy80, hc80]; exact Nat.sub_le_sub_right hroom80 _) hr80); have HC767 := aM (show y763.length ≤ c80 from by rw [hy80, hc80]; exact Nat.sub_le_sub_right hroom80 _); clear hr80 hC80 hroom80 hi080 hsz80 hc80; have KY80 := aM hy80; have KA80 := aM hA80; clear hy80 hA80; replace q80 := eq_true q80
                      go_wp2_with (first | ((with_reducible refine gate_dst (N := 16) rfl ?_); (try (refine gate_guard (by rfl) ?_; dsimp only)); refine box_event ?hg (N := 16) ?hd (cs := #[.int .i64 0, .slice none 0 0]) (t := 46) ?hr ?_; (case hd => rfl); (case hg => rfl); (case hr => first | (go_simp; done) | (go_simp; rfl)); intro gb768 hg w81 hbox hb; replace HO_10 := aM (Kd.R_below (zR HO_10) hb); replace HO_81 := aM (Kd.N_below (Kd.N_elderB (zN HO_81) gb768 (Nat.le_of_eq hg.symm)) hb); replace HO_743001 := aM (Kd.N_below (Kd.N_elderB (zN HO_743001) gb768 (Nat.le_of_eq hg.symm)) hb); replace HO767 := aM (Kd.V_below (Kd.V_elderB (zV HO767) gb768 (Nat.le_of_eq hg.symm)) hb); replace HR755_1 := aM (Kd.C_below zz73 hb); replace HR755_2 := aM (Kd.C_below zz74 hb); have BK768 := aM (hbox); have GW768 := aM ((by rw [hg]; exact (below_size zz85) : w.heap.size ≤ gb768)); have GE768 := aM ((by rw [hg]; exact (below_size zz85) : w.heap.size ≤ gb768)); replace HB := aM (below_step zz85 hb); have NB742_768 := aM ((by rw [hg]; exact Nat.ne_of_lt (blk_lt (g := gb742) (o := .cells #[.int .i64 t737, .slice (some ad755) t738.length co21] 46 (0, 0)) (zB BK742)) : gb742 ≠ gb768)); have NB768_742 := aM ((by rw [hg]; exact Nat.ne_of_gt (blk_lt (g := gb742) (o := .cells #[.int .i64 t737, .slice (some ad755) t738.length co21] 46 (0, 0)) (zB BK742)) : gb768 ≠ gb742)); replace BK742 := aM (blk_below (g := gb742) (o := .cells #[.int .i64 t737, .slice (some ad755) t738.length co21] 46 (0, 0)) (zB BK742) hb); have NB756_768 := aM ((by rw [hg]; exact Nat.ne_of_lt (blk_lt (g := gb756) (o := .cells #[.int .i64 ((rd_T74 t738 0).f0), .slice A755_1 ((rd_T74 t738 0).f1).length c755_1, .slice A755_2 ((rd_T74 t738 0).f2).length c755_2] 74 (0, 0)) (zB BK756)) : gb756 ≠ gb768)); have NB768_756 := aM ((by rw [hg]; exact Nat.ne_of_gt (blk_lt (g := gb756) (o := .cells #[.int .i64 ((rd_T74 t738 0).f0), .slice A755_1 ((rd_T74 t738 0).f1).length c755_1, .slice A755_2 ((rd_T74 t738 0).f2).length c755_2] 74 (0, 0)) (zB BK756)) : gb768 ≠ gb756)); replace BK756 := aM (blk_below (g := gb756) (o := .cells #[.int .i64 ((rd_T74 t738 0).f0), .slice A755_1 ((rd_T74 t738 0).f1).length c755_1, .slice A755_2 ((rd_T74 t738 0).f2).length c755_2] 74 (0, 0)) (zB BK756) hb); clear hb hbox hg; have hnb82 := NB768_742.out; have hnc82 := NB742_768.out; have hnb83 := NB768_756.out; have hnc83 := NB756_768.out; have hcz84_0 : w81.cell? ⟨gb768, 0, none⟩ = some (.int .i64 0) := (blk_cell BK768.out 0).trans rfl; have hcz84_1 : w81.cell? ⟨gb768, 1, none⟩ = some (.slice none 0 0) := (blk_cell BK768.out 1).trans rfl; have hfz84_0 := blk_frozen BK768.out 0; have hfz84_1 := blk_frozen BK768.out 1) | (go_at_call 35; (with_reducible refine (perm_Size.calls k3 (wrap64 (1 + (Int.tmod (wrap64 (a0)) 8))) _ _ y763 t769 t772 _ ?side1 ?side2 A72.out).mono ?_); (case side1 => refine (Kd.V_reads' (e := 74) (base := w.heap.size) (ok := fun k_ => ((some k_ ≠ (v748 : Value).ownBlock ∧ (some k_ ≠ (.slice Ao45 t743.length co45 : Value).ownBlock ∧ (k_ ≠ gb742 ∧ k_ ≠ gb756))) ∧ k_ ≠ gb768)) (n := y763.length) (c := c80) ?_).2.2; exact zz3); (case side2 => exact (Kd.V_reads' HO767.out).2.1); rintro e w85 ⟨v770, rfl, ho0, hb⟩; replace HO_81 := aM (Kd.N_elder' zz4 (Kd.R_base ho0) hb); replace HO_743001 := aM (Kd.N_elder' zz2 (Kd.R_base ho0) hb); replace HO767 := aM (Kd.V_elder' zz3 (Kd.R_base ho0) hb); have HO771 := aM (Kd.R_lower (Kd.R_new' ho0 (Kd.R_lt zz5)) (below_size zz78)); replace HO_10 := aM (Kd.R_elder' zz5 (Kd.R_base ho0) hb); replace BK742 := aM (blk_below (g := gb742) (o := .cells #[.int .i64 t737, .slice (some ad755) t738.length co21] 46 (0, 0)) zz62 hb); replace BK756 := aM (blk_below (g := gb756) (o := .cells #[.int .i64 ((rd_T74 t738 0).f0), .slice A755_1 ((rd_T74 t738 0).f1).length c755_1, .slice A755_2 ((rd_T74 t738 0).f2).length c755_2] 74 (0, 0)) zz63 hb); replace BK768 := aM (blk_below (g := gb768) (o := .cells #[.int .i64 (wrap64 (1 + (Int.tmod (wrap64 (a0)) 8))), .slice A80 y763.length c80] 46 (0, 0)) zz56 hb); replace HB := aM (below_step zz78 hb); clear HR755_1 HR755_2; (try clear hb); (try clear hb2); (try clear hk); (try clear hi); (try clear ho0); have hcz86_0 : w85.cell? ⟨gb756, 0, none⟩ = some (.int .i64 ((rd_T74 t738 0).f0)) := (blk_cell BK756.out 0).trans rfl; have hcz86_1 : w85.cell? ⟨gb756, 1, none⟩ = some (.slice A755_1 ((rd_T74 t738 0).f1).length c755_1) := (blk_cell BK756.out 1).trans rfl; have hcz86_2 : w85.cell? ⟨gb756, 2, none⟩ = some (.slice A755_2 ((rd_T74 t738 0).f2).length c755_2) := (blk_cell BK756.out 2).trans rfl; have hfz86_0 := blk_frozen BK756.out 0; have hfz86_1 := blk_frozen BK756.out 1; have hfz86_2 := blk_frozen BK756.out 2) | (go_at_call 48; (with_reducible refine (nat_Of.calls (IntKind.u64.wrap ((((rd_T74 t738 0).f1).length : Int))) t773 _ A75.out).mono ?_); rintro e w87 ⟨v774, rfl, ho0, hb⟩; replace HO_81 := aM (Kd.N_elder' (zN HO_81) (Kd.R_base ho0) hb); replace HO_743001 := aM (Kd.N_elder' (zN HO_743001) (Kd.R_base ho0) hb); replace HO767 := aM (Kd.V_elder' (zV HO767) (Kd.R_base ho0) hb); have HO775 := aM (Kd.R_lower (Kd.R_new' (Kd.R_new' ho0 (Kd.R_lt (zR HO_10))) (Kd.R_lt (zR HO771))) (below_size zz78)); replace HO_10 := aM (Kd.R_elder' (zR HO_10) (Kd.R_base ho0) hb); replace HO771 := aM (Kd.R_elder' (zR HO771) (Kd.R_base ho0) hb); replace BK742 := aM (blk_below (g := gb742) (o := .cells #[.int .i64 t737, .slice (some ad755) t738.length co21] 46 (0, 0)) (zB BK742) hb); replace BK756 := aM (blk_below (g := gb756) (o := .cells #[.int .i64 ((rd_T74 t738 0).f0), .slice A755_1 ((rd_T74 t738 0).f1).length c755_1, .slice A755_2 ((rd_T74 t738 0).f2).length c755_2] 74 (0, 0)) (zB BK756) hb); replace BK768 := aM (blk_below (g := gb768) (o := .cells #[.int .i64 (wrap64 (1 + (Int.tmod (wrap64 (a0)) 8))), .slice A80 y763.length c80] 46 (0, 0)) (zB BK768) hb); replace HB := aM (below_step zz78 hb); (try clear hb); (try clear hb2); (try clear hk); (try clear hi); (try clear ho0); obtain ⟨Ao88, co88, eo88⟩ := Kd.R_slice HO771.out; subst eo88; obtain ⟨Ao89, co89, eo89⟩ := Kd.R_slice HO775.out; subst eo89) | ((with_reducible refine gate_dst (N := 141) rfl ?_); (try (refine gate_guard (by rfl) ?_; dsimp only)); refine Kd.N_lit (Kd.slice 72 (Kd.int .u32)) _ 53 ?hg (N' := 141) ?hd (xs := ([t769, t773] : List (List Int))) (inner := [.slice Ao88 t769.length co88, .slice Ao89 t773.length co89]) (ok := (fun k_ => some k_ ≠ (v748 : Value).ownBlock ∧ some k_ ≠ (.slice Ao45 t743.length co45 : Value).ownBlock ∧ some k_ ≠ (.slice (some ad755) t738.length co21 : Value).ownBlock ∧ k_ ≠ gb742 ∧ k_ ≠ gb756 ∧ k_ ≠ gb768)) (okp := (fun k_ => some k_ ≠ (v748 : Value).ownBlock ∧ some k_ ≠ (.slice Ao45 t743.length co45 : Value).ownBlock ∧ some k_ ≠ (.slice (some ad755) t738.length co21 : Value).ownBlock ∧ k_ ≠ gb742 ∧ k_ ≠ gb756 ∧ k_ ≠ gb768)) ?hr ?hp (fun _ hk => hk) ((show ∀ k_, w87.heap.size ≤ k_ → (fun k_ => some k_ ≠ (v748 : Value).ownBlock ∧ some k_ ≠ (.slice Ao45 t743.length co45 : Value).ownBlock ∧ some k_ ≠ (.slice (some ad755) t738.length co21 : Value).ownBlock ∧ k_ ≠ gb742 ∧ k_ ≠ gb756 ∧ k_ ≠ gb768) k_ from fun k_ hk => ⟨Kd.fresh' (Kd.R_lt (zR HO_10)) k_ hk, Kd.fresh' (Kd.N_lt (zN HO_81)) k_ hk, Kd.fresh' (Kd.N_lt (zN HO_743001)) k_ hk, Kd.freshB (g := gb742) (o := .cells #[.int .i64 t737, .slice (some ad755) t738.length co21] 46 (0, 0)) (zB BK742) k_ hk, Kd.freshB (g := gb756) (o := .cells #[.int .i64 ((rd_T74 t738 0).f0), .slice A755_1 ((rd_T74 t738 0).f1).length c755_1, .slice A755_2 ((rd_T74 t738 0).f2).length c755_2] 74 (0, 0)) (zB BK756) k_ hk, Kd.freshB (g := gb768) (o := .cells #[.int .i64 (wrap64 (1 + (Int.tmod (wrap64 (a0)) 8))), .slice A80 y763.length c80] 46 (0, 0)) (zB BK768) k_ hk⟩) _ (Nat.le_refl _)) (Below.refl _ _) (Nat.le_refl _) (by simp) ?_; (case hd => rfl); (case hg => rfl); (case hr => first | (go_simp; done) | (go_simp; rfl)); (case hp => exact (Reps.one (show Kd.FK (Kd.slice 72 (Kd.int .u32)) _ _ t769 [.slice Ao88 t769.length co88] from (Kd.FK_slice_mk (Kd.R_reads' (Kd.R_mono (ok' := (fun k_ => some k_ ≠ (v748 : Value).ownBlock ∧ some k_ ≠ (.slice Ao45 t743.length co45 : Value).ownBlock ∧ some k_ ≠ (.slice (some ad755) t738.length co21 : Value).ownBlock ∧ k_ ≠ gb742 ∧ k_ ≠ gb756 ∧ k_ ≠ gb768)) (Kd.R_types (Kd.R_types (Kd.R_types (Kd.R_apart' (Kd.R_apart' (HO771.out) (Kd.N_typed HO_81.out) (by decide)) (Kd.N_typed HO_743001.out) (by decide)) BK742.out (by decide)) BK756.out (by decide)) BK768.out (by decide)) (fun k_ hk => by first | exact ⟨hk.1.1.1.1.1.1.2, ⟨hk.1.1.1.1.2, ⟨hk.1.1.1.2, ⟨hk.1.1.2, ⟨hk.1.2, hk.2⟩⟩⟩⟩⟩ | ((repeat' apply And.intro) <;> (first | exact hk | exact hk.1 | exact hk.2 | exact hk.1.1 | exact hk.1.2 | exact hk.2.1 | exact hk.2.2 | exact hk.1.1.1 | exact hk.1.1.2 | exact hk.1.2.1 | exact hk.1.2.2 | exact hk.2.1.1 | exact hk.2.1.2 | exact hk.2.2.1 | exact hk.2.2.2 | exact hk.1.1.1.1 | exact hk.1.1.1.2 | exact hk.2.2.2.1 | exact hk.2.2.2.2))))).2.1 (Kd.R_F (Kd.R_mono (ok' := (fun k_ => some k_ ≠ (v748 : Value).ownBlock ∧ some k_ ≠ (.slice Ao45 t743.length co45 : Value).ownBlock ∧ some k_ ≠ (.slice (some ad755) t738.length co21 : Value).ownBlock ∧ k_ ≠ gb742 ∧ k_ ≠ gb756 ∧ k_ ≠ gb768)) (Kd.R_types (Kd.R_types (Kd.R_types (Kd.R_apart' (Kd.R_apart' (HO771.out) (Kd.N_typed HO_81.out) (by decide)) (Kd.N_typed HO_743001.out) (by decide)) BK742.out (by decide)) BK756.out (by decide)) BK768.out (by decide)) (fun k_ hk => by first | exact ⟨hk.1.1.1.1.1.1.2, ⟨hk.1.1.1.1.2, ⟨hk.1.1.1.2, ⟨hk.1.1.2, ⟨hk.1.2, hk.2⟩⟩⟩⟩⟩ | ((repeat' apply And.intro) <;> (first | exact hk | exact hk.1 | exact hk.2 | exact hk.1.1 | exact hk.1.2 | exact hk.2.1 | exact hk.2.2 | exact hk.1.1.1 | exact hk.1.1.2 | exact hk.1.2.1 | exact hk.1.2.2 | exact hk.2.1.1 | exact hk.2.1.2 | exact hk.2.2.1 | exact hk.2.2.2 | exact hk.1.1.1.1 | exact hk.1.1.1.2 | exact hk.2.2.2.1 | exact hk.2.2.2.2))))))) (Reps.one (show Kd.FK (Kd.slice 72 (Kd.int .u32)) _ _ t773 [.slice Ao89 t773.length co89] from (Kd.FK_slice_mk (Kd.R_reads' (Kd.R_mono (ok' := (fun k_ => some k_ ≠ (v748 : Value).ownBlock ∧ some k_ ≠ (.slice Ao45 t743.length co45 : Value).ownBlock ∧ some k_ ≠ (.slice (some ad755) t738.length co21 : Value).ownBlock ∧ k_ ≠ gb742 ∧ k_ ≠ gb756 ∧ k_ ≠ gb768)) (Kd.R_types (Kd.R_types (Kd.R_types (Kd.R_apart' (Kd.R_apart' (HO775.out) (Kd.N_typed HO_81.out) (by decide)) (Kd.N_typed HO_743001.out) (by decide)) BK742.out (by decide)) BK756.out (by decide)) BK768.out (by decide)) (fun k_ hk => by first | exact ⟨hk.1.1.1.1.1.1.2, ⟨hk.1.1.1.1.2, ⟨hk.1.1.1.2, ⟨hk.1.1.2, ⟨hk.1.2, hk.2⟩⟩⟩⟩⟩ | ((repeat' apply And.intro) <;> (first | exact hk | exact hk.1 | exact hk.2 | exact hk.1.1 | exact hk.1.2 | exact hk.2.1 | exact hk.2.2 | exact hk.1.1.1 | exact hk.1.1.2 | exact hk.1.2.1 | exact hk.1.2.2 | exact hk.2.1.1 | exact hk.2.1.2 | exact hk.2.2.1 | exact hk.2.2.2 | exact hk.1.1.1.1 | exact hk.1.1.1.2 | exact hk.2.2.2.1 | exact hk.2.2.2.2))))).2.1 (Kd.R_F (Kd.R_mono (ok' := (fun k_ => some k_ ≠ (v748 : Value).ownBlock ∧ some k_ ≠ (.slice Ao45 t743.length co45 : Value).ownBlock ∧ some k_ ≠ (.slice (some ad755) t738.length co21 : Value).ownBlock ∧ k_ ≠ gb742 ∧ k_ ≠ gb756 ∧ k_ ≠ gb768)) (Kd.R_types (Kd.R_types (Kd.R_types (Kd.R_apart' (Kd.R_apart' (HO775.out) (Kd.N_typed HO_81.out) (by decide)) (Kd.N_typed HO_743001.out) (by decide)) BK742.out (by decide)) BK756.out (by decide)) BK768.out (by decide)) (fun k_ hk => by first | exact ⟨hk.1.1.1.1.1.1.2, ⟨hk.1.1.1.1.2, ⟨hk.1.1.1.2, ⟨hk.1.1.2, ⟨hk.1.2, hk.2⟩⟩⟩⟩⟩ | ((repeat' apply And.intro) <;> (first | exact hk | exact hk.1 | exact hk.2 | exact hk.1.1 | exact hk.1.2 | exact hk.2.1 | exact hk.2.2 | exact hk.1.1.1 | exact hk.1.1.2 | exact hk.1.2.1 | exact hk.1.2.2 | exact hk.2.1.1 | exact hk.2.1.2 | exact hk.2.2.1 | exact hk.2.2.2 | exact hk.1.1.1.1 | exact hk.1.1.1.2 | exact hk.2.2.2.1 | exact hk.2.2.2.2))))))) (Reps.none _ _)))); intro v777 w90 ho91 hb hg_ hnew_; clear hg_ hnew_; (first | rw [← Ny776.out] at ho91 | (simp only [Int.reduceToNat] at ho91; rw [← Ny776.out] at ho91)); replace HO_10 := aM (Kd.R_below (zR HO_10) hb); replace HO_81 := aM (Kd.N_elder' (zN HO_81) (Kd.N_base ho91) hb); replace HO_743001 := aM (Kd.N_elder' (zN HO_743001) (Kd.N_base ho91) hb); replace HO767 := aM (Kd.V_elder' (zV HO767) (Kd.N_base ho91) hb); have HO778 := aM (Kd.N_lower ho91 (below_size zz78)); replace BK742 := aM (blk_below (g := gb742) (o := .cells #[.int .i64 t737, .slice (some ad755) t738.length co21] 46 (0, 0)) (zB BK742) hb); replace BK756 := aM (blk_below (g := gb756) (o := .cells #[.int .i64 ((rd_T74 t738 0).f0), .slice A755_1 ((rd_T74 t738 0).f1).length c755_1, .slice A755_2 ((rd_T74 t738 0).f2).length c755_2] 74 (0, 0)) (zB BK756) hb); replace BK768 := aM (blk_below (g := gb768) (o := .cells #[.int .i64 (wrap64 (1 + (Int.tmod (wrap64 (a0)) 8))), .slice A80 y763.length c80] 46 (0, 0)) (zB BK768) hb); replace HB := aM (below_step zz78 hb); clear HO771 HO775; clear hb ho91; obtain ⟨Ao92, co92, eo92⟩ := Kd.N_slice HO778.out; subst eo92) | (go_at_call 47; (with_reducible refine (nat_Mul.calls k3 _ _ y776 t779 _ ?side1 ?side2 A76.out).mono ?_); (case side1 => repeat (first | exact (Kd.N_reads' HO778.out).2.2 | (with_reducible refine Kd.C_alloc ?_ _) | (with_reducible refine Kd.C_drewN ?_ _) | (with_reducible refine Kd.C_drew ?_))); (case side2 => exact (Kd.N_reads' HO778.out).2.1); rintro e w93 ⟨v780, rfl, ho0, hb⟩; replace HO_81 := aM (Kd.N_elder' (zN HO_81) (Kd.R_base ho0) hb); replace HO_743001 := aM (Kd.N_elder' (zN HO_743001) (Kd.R_base ho0) hb); replace HO767 := aM (Kd.V_elder' (zV HO767) (Kd.R_base ho0) hb); replace HO778 := aM (Kd.N_elder' (zN HO778) (Kd.R_base ho0) hb); have HO781 := aM (Kd.R_lower (Kd.R_new' ho0 (Kd.R_lt (zR HO_10))) (below_size zz78)); replace HO_10 := aM (Kd.R_elder' (zR HO_10) (Kd.R_base ho0) hb); replace BK742 := aM (blk_below (g := gb742) (o := .cells #[.int .i64 t737, .slice (some ad755) t738.length co21] 46 (0, 0)) (zB BK742) hb); replace BK756 := aM (blk_below (g := gb756) (o := .cells #[.int .i64 ((rd_T74 t738 0).f0), .slice A755_1 ((rd_T74 t738 0).f1).length c755_1, .slice A755_2 ((rd_T74 t738 0).f2).length c755_2] 74 (0, 0)) (zB BK756) hb); replace BK768 := aM (blk_below (g := gb768) (o := .cells #[.int .i64 (wrap64 (1 + (Int.tmod (wrap64 (a0)) 8))), .slice A80 y763.length c80] 46 (0, 0)) (zB BK768) hb); replace HB := aM (below_step zz78 hb); (try clear hb); (try clear hb2); (try clear hk); (try clear hi); (try clear ho0); obtain ⟨Ao94, co94, eo94⟩ := Kd.R_slice HO781.out; subst eo94; obtain ⟨Ao95, co95, eo95⟩ := Kd.R_slice HO_10.out; subst eo95) | (go_at_call 46; (with_reducible refine (r01_Cmp.calls k3 _ _ t779 _ _ t747 t782 _ ?side1 ?side2 ?side3 ?side4 A77.out).mono ?_); (case side1 => repeat (first | exact (Kd.R_reads' HO781.out).2.2 | (with_reducible refine Kd.C_alloc ?_ _) | (with_reducible refine Kd.C_drewN ?_ _) | (with_reducible refine Kd.C_drew ?_))); (case side2 => exact (Kd.R_reads' HO781.out).2.1); (case side3 => repeat (first | exact (Kd.R_reads' HO_10.out).2.2 | (with_reducible refine Kd.C_alloc ?_ _) | (with_reducible refine Kd.C_drewN ?_ _) | (with_reducible refine Kd.C_drew ?_))); (case side4 => exact (Kd.R_reads' HO_10.out).2.1); rintro e w96 ⟨rfl, hb⟩; replace HO_10 := aM (Kd.R_below (zR HO_10) hb); replace HO_81 := aM (Kd.N_below (zN HO_81) hb); replace HO_743001 := aM (Kd.N_below (zN HO_743001) hb); replace HO767 := aM (Kd.V_below (zV HO767) hb); replace HO778 := aM (Kd.N_below (zN HO778) hb); replace HO781 := aM (Kd.R_below (zR HO781) hb); replace BK742 := aM (blk_below (g := gb742) (o := .cells #[.int .i64 t737, .slice (some ad755) t738.length co21] 46 (0, 0)) (zB BK742) hb); replace BK756 := aM (blk_below (g := gb756) (o := .cells #[.int .i64 ((rd_T74 t738 0).f0), .slice A755_1 ((rd_T74 t738 0).f1).length c755_1, .slice A755_2 ((rd_T74 t738 0).f2).length c755_2] 74 (0, 0)) (zB BK756) hb); replace BK768 := aM (blk_below (g := gb768) (o := .cells #[.int .i64 (wrap64 (1 + (Int.tmod (wrap64 (a0)) 8))), .slice A80 y763.length c80] 46 (0, 0)) (zB BK768) hb); replace HB := aM (below_step zz78 hb); (try clear hb); (try clear hb2); (try clear hk); (try clear hi)))
                      repeat (go_quiet (first | ((with_reducible refine gate_dst (N := 16) rfl ?_); (try (refine gate_guard (by rfl) ?_; dsimp only)); refine box_event ?hg (N := 16) ?hd (cs := #[.int .i64 0, .slice none 0 0]) (t := 46) ?hr ?_; (case hd => rfl); (case hg => rfl); (case hr => first | (go_simp; done) | (go_simp; rfl)); intro gb768 hg w81 hbox hb; replace HO_10 := aM (Kd.R_below (zR HO_10) hb); replace HO_81 := aM (Kd.N_below (Kd.N_elderB (zN HO_81) gb768 (Nat.le_of_eq hg.symm)) hb); replace HO_743001 := aM (Kd.N_below (Kd.N_elderB (zN HO_743001) gb768 (Nat.le_of_eq hg.symm)) hb); replace HO767 := aM (Kd.V_below (Kd.V_elderB (zV HO767) gb768 (Nat.le_of_eq hg.symm)) hb); replace HR755_1 := aM (Kd.C_below zz73 hb); replace HR755_2 := aM (Kd.C_below zz74 hb); have BK768 := aM (hbox); have GW768 := aM ((by rw [hg]; exact (below_size zz85) : w.heap.size ≤ gb768)); have GE768 := aM ((by rw [hg]; exact (below_size zz85) : w.heap.size ≤ gb768)); replace HB := aM (below_step zz85 hb); have NB742_768 := aM ((by rw [hg]; exact Nat.ne_of_lt (blk_lt (g := gb742) (o := .cells #[.int .i64 t737, .slice (some ad755) t738.length co21] 46 (0, 0)) (zB BK742)) : gb742 ≠ gb768)); have NB768_742 := aM ((by rw [hg]; exact Nat.ne_of_gt (blk_lt (g := gb742) (o := .cells #[.int .i64 t737, .slice (some ad755) t738.length co21] 46 (0, 0)) (zB BK742)) : gb768 ≠ gb742)); replace BK742 := aM (blk_below (g := gb742) (o := .cells #[.int .i64 t737, .slice (some ad755) t738.length co21] 46 (0, 0)) (zB BK742) hb); have NB756_768 := aM ((by rw [hg]; exact Nat.ne_of_lt (blk_lt (g := gb756) (o := .cells #[.int .i64 ((rd_T74 t738 0).f0), .slice A755_1 ((rd_T74 t738 0).f1).length c755_1, .slice A755_2 ((rd_T74 t738 0).f2).length c755_2] 74 (0, 0)) (zB BK756)) : gb756 ≠ gb768)); have NB768_756 := aM ((by rw [hg]; exact Nat.ne_of_gt (blk_lt (g := gb756) (o := .cells #[.int .i64 ((rd_T74 t738 0).f0), .slice A755_1 ((rd_T74 t738 0).f1).length c755_1, .slice A755_2 ((rd_T74 t738 0).f2).length c755_2] 74 (0, 0)) (zB BK756)) : gb768 ≠ gb756)); replace BK756 := aM (blk_below (g := gb756) (o := .cells #[.int .i64 ((rd_T74 t738 0).f0), .slice A755_1 ((rd_T74 t738 0).f1).length c755_1, .slice A755_2 ((rd_T74 t738 0).f2).length c755_2] 74 (0, 0)) (zB BK756) hb); clear hb hbox hg; have hnb82 := NB768_742.out; have hnc82 := NB742_768.out; have hnb83 := NB768_756.out; have hnc83 := NB756_768.out; have hcz84_0 : w81.cell? ⟨gb768, 0, none⟩ = some (.int .i64 0) := (blk_cell BK768.out 0).trans rfl; have hcz84_1 : w81.cell? ⟨gb768, 1, none⟩ = some (.slice none 0 0) := (blk_cell BK768.out 1).trans rfl; have hfz84_0 := blk_frozen BK768.out 0; have hfz84_1 := blk_frozen BK768.out 1) | (go_at_call 35; (with_reducible refine (perm_Size.calls k3 (wrap64 (1 + (Int.tmod (wrap64 (a0)) 8))) _ _ y763 t769 t772 _ ?side1 ?side2 A72.out).mono ?_); (case side1 => refine (Kd.V_reads' (e := 74) (base := w.heap.size) (ok := fun k_ => ((some k_ ≠ (v748 : Value).ownBlock ∧ (some k_ ≠ (.slice Ao45 t743.length co45 : Value).ownBlock ∧ (k_ ≠ gb742 ∧ k_ ≠ gb756))) ∧ k_ ≠ gb768)) (n := y763.length) (c := c80) ?_).2.2; exact zz3); (case side2 => exact (Kd.V_reads' HO767.out).2.1); rintro e w85 ⟨v770, rfl, ho0, hb⟩; replace HO_81 := aM (Kd.N_elder' zz4 (Kd.R_base ho0) hb); replace HO_743001 := aM (Kd.N_elder' zz2 (Kd.R_base ho0) hb); replace HO767 := aM (Kd.V_elder' zz3 (Kd.R_base ho0) hb); have HO771 := aM (Kd.R_lower (Kd.R_new' ho0 (Kd.R_lt zz5)) (below_size zz78)); replace HO_10 := aM (Kd.R_elder' zz5 (Kd.R_base ho0) hb); replace BK742 := aM (blk_below (g := gb742) (o := .cells #[.int .i64 t737, .slice (some ad755) t738.length co21] 46 (0, 0)) zz62 hb); replace BK756 := aM (blk_below (g := gb756) (o := .cells #[.int .i64 ((rd_T74 t738 0).f0), .slice A755_1 ((rd_T74 t738 0).f1).length c755_1, .slice A755_2 ((rd_T74 t738 0).f2).length c755_2] 74 (0, 0)) zz63 hb); replace BK768 := aM (blk_below (g := gb768) (o := .cells #[.int .i64 (wrap64 (1 + (Int.tmod (wrap64 (a0)) 8))), .slice A80 y763.length c80] 46 (0, 0)) zz56 hb); replace HB := aM (below_step zz78 hb); clear HR755_1 HR755_2; (try clear hb); (try clear hb2); (try clear hk); (try clear hi); (try clear ho0); have hcz86_0 : w85.cell? ⟨gb756, 0, none⟩ = some (.int .i64 ((rd_T74 t738 0).f0)) := (blk_cell BK756.out 0).trans rfl; have hcz86_1 : w85.cell? ⟨gb756, 1, none⟩ = some (.slice A755_1 ((rd_T74 t738 0).f1).length c755_1) := (blk_cell BK756.out 1).trans rfl; have hcz86_2 : w85.cell? ⟨gb756, 2, none⟩ = some (.slice A755_2 ((rd_T74 t738 0).f2).length c755_2) := (blk_cell BK756.out 2).trans rfl; have hfz86_0 := blk_frozen BK756.out 0; have hfz86_1 := blk_frozen BK756.out 1; have hfz86_2 := blk_frozen BK756.out 2) | (go_at_call 48; (with_reducible refine (nat_Of.calls (IntKind.u64.wrap ((((rd_T74 t738 0).f1).length : Int))) t773 _ A75.out).mono ?_); rintro e w87 ⟨v774, rfl, ho0, hb⟩; replace HO_81 := aM (Kd.N_elder' (zN HO_81) (Kd.R_base ho0) hb); replace HO_743001 := aM (Kd.N_elder' (zN HO_743001) (Kd.R_base ho0) hb); replace HO767 := aM (Kd.V_elder' (zV HO767) (Kd.R_base ho0) hb); have HO775 := aM (Kd.R_lower (Kd.R_new' (Kd.R_new' ho0 (Kd.R_lt (zR HO_10))) (Kd.R_lt (zR HO771))) (below_size zz78)); replace HO_10 := aM (Kd.R_elder' (zR HO_10) (Kd.R_base ho0) hb); replace HO771 := aM (Kd.R_elder' (zR HO771) (Kd.R_base ho0) hb); replace BK742 := aM (blk_below (g := gb742) (o := .cells #[.int .i64 t737, .slice (some ad755) t738.length co21] 46 (0, 0)) (zB BK742) hb); replace BK756 := aM (blk_below (g := gb756) (o := .cells #[.int .i64 ((rd_T74 t738 0).f0), .slice A755_1 ((rd_T74 t738 0).f1).length c755_1, .slice A755_2 ((rd_T74 t738 0).f2).length c755_2] 74 (0, 0)) (zB BK756) hb); replace BK768 := aM (blk_below (g := gb768) (o := .cells #[.int .i64 (wrap64 (1 + (Int.tmod (wrap64 (a0)) 8))), .slice A80 y763.length c80] 46 (0, 0)) (zB BK768) hb); replace HB := aM (below_step zz78 hb); (try clear hb); (try clear hb2); (try clear hk); (try clear hi); (try clear ho0); obtain ⟨Ao88, co88, eo88⟩ := Kd.R_slice HO771.out; subst eo88; obtain ⟨Ao89, co89, eo89⟩ := Kd.R_slice HO775.out; subst eo89) | ((with_reducible refine gate_dst (N := 141) rfl ?_); (try (refine gate_guard (by rfl) ?_; dsimp only)); refine Kd.N_lit (Kd.slice 72 (Kd.int .u32)) _ 53 ?hg (N' := 141) ?hd (xs := ([t769, t773] : List (List Int))) (inner := [.slice Ao88 t769.length co88, .slice Ao89 t773.length co89]) (ok := (fun k_ => some k_ ≠ (v748 : Value).ownBlock ∧ some k_ ≠ (.slice Ao45 t743.length co45 : Value).ownBlock ∧ some k_ ≠ (.slice (some ad755) t738.length co21 : Value).ownBlock ∧ k_ ≠ gb742 ∧ k_ ≠ gb756 ∧ k_ ≠ gb768)) (okp := (fun k_ => some k_ ≠ (v748 : Value).ownBlock ∧ some k_ ≠ (.slice Ao45 t743.length co45 : Value).ownBlock ∧ some k_ ≠ (.slice (some ad755) t738.length co21 : Value).ownBlock ∧ k_ ≠ gb742 ∧ k_ ≠ gb756 ∧ k_ ≠ gb768)) ?hr ?hp (fun _ hk => hk) ((show ∀ k_, w87.heap.size ≤ k_ → (fun k_ => some k_ ≠ (v748 : Value).ownBlock ∧ some k_ ≠ (.slice Ao45 t743.length co45 : Value).ownBlock ∧ some k_ ≠ (.slice (some ad755) t738.length co21 : Value).ownBlock ∧ k_ ≠ gb742 ∧ k_ ≠ gb756 ∧ k_ ≠ gb768) k_ from fun k_ hk => ⟨Kd.fresh' (Kd.R_lt (zR HO_10)) k_ hk, Kd.fresh' (Kd.N_lt (zN HO_81)) k_ hk, Kd.fresh' (Kd.N_lt (zN HO_743001)) k_ hk, Kd.freshB (g := gb742) (o := .cells #[.int .i64 t737, .slice (some ad755) t738.length co21] 46 (0, 0)) (zB BK742) k_ hk, Kd.freshB (g := gb756) (o := .cells #[.int .i64 ((rd_T74 t738 0).f0), .slice A755_1 ((rd_T74 t738 0).f1).length c755_1, .slice A755_2 ((rd_T74 t738 0).f2).length c755_2] 74 (0, 0)) (zB BK756) k_ hk, Kd.freshB (g := gb768) (o := .cells #[.int .i64 (wrap64 (1 + (Int.tmod (wrap64 (a0)) 8))), .slice A80 y763.length c80] 46 (0, 0)) (zB BK768) k_ hk⟩) _ (Nat.le_refl _)) (Below.refl _ _) (Nat.le_refl _) (by simp) ?_; (case hd => rfl); (case hg => rfl); (case hr => first | (go_simp; done) | (go_simp; rfl)); (case hp => exact (Reps.one (show Kd.FK (Kd.slice 72 (Kd.int .u32)) _ _ t769 [.slice Ao88 t769.length co88] from (Kd.FK_slice_mk (Kd.R_reads' (Kd.R_mono (ok' := (fun k_ => some k_ ≠ (v748 : Value).ownBlock ∧ some k_ ≠ (.slice Ao45 t743.length co45 : Value).ownBlock ∧ some k_ ≠ (.slice (some ad755) t738.length co21 : Value).ownBlock ∧ k_ ≠ gb742 ∧ k_ ≠ gb756 ∧ k_ ≠ gb768)) (Kd.R_types (Kd.R_types (Kd.R_types (Kd.R_apart' (Kd.R_apart' (HO771.out) (Kd.N_typed HO_81.out) (by decide)) (Kd.N_typed HO_743001.out) (by decide)) BK742.out (by decide)) BK756.out (by decide)) BK768.out (by decide)) (fun k_ hk => by first | exact ⟨hk.1.1.1.1.1.1.2, ⟨hk.1.1.1.1.2, ⟨hk.1.1.1.2, ⟨hk.1.1.2, ⟨hk.1.2, hk.2⟩⟩⟩⟩⟩ | ((repeat' apply And.intro) <;> (first | exact hk | exact hk.1 | exact hk.2 | exact hk.1.1 | exact hk.1.2 | exact hk.2.1 | exact hk.2.2 | exact hk.1.1.1 | exact hk.1.1.2 | exact hk.1.2.1 | exact hk.1.2.2 | exact hk.2.1.1 | exact hk.2.1.2 | exact hk.2.2.1 | exact hk.2.2.2 | exact hk.1.1.1.1 | exact hk.1.1.1.2 | exact hk.2.2.2.1 | exact hk.2.2.2.2))))).2.1 (Kd.R_F (Kd.R_mono (ok' := (fun k_ => some k_ ≠ (v748 : Value).ownBlock ∧ some k_ ≠ (.slice Ao45 t743.length co45 : Value).ownBlock ∧ some k_ ≠ (.slice (some ad755) t738.length co21 : Value).ownBlock ∧ k_ ≠ gb742 ∧ k_ ≠ gb756 ∧ k_ ≠ gb768)) (Kd.R_types (Kd.R_types (Kd.R_types (Kd.R_apart' (Kd.R_apart' (HO771.out) (Kd.N_typed HO_81.out) (by decide)) (Kd.N_typed HO_743001.out) (by decide)) BK742.out (by decide)) BK756.out (by decide)) BK768.out (by decide)) (fun k_ hk => by first | exact ⟨hk.1.1.1.1.1.1.2, ⟨hk.1.1.1.1.2, ⟨hk.1.1.1.2, ⟨hk.1.1.2, ⟨hk.1.2, hk.2⟩⟩⟩⟩⟩ | ((repeat' apply And.intro) <;> (first | exact hk | exact hk.1 | exact hk.2 | exact hk.1.1 | exact hk.1.2 | exact hk.2.1 | exact hk.2.2 | exact hk.1.1.1 | exact hk.1.1.2 | exact hk.1.2.1 | exact hk.1.2.2 | exact hk.2.1.1 | exact hk.2.1.2 | exact hk.2.2.1 | exact hk.2.2.2 | exact hk.1.1.1.1 | exact hk.1.1.1.2 | exact hk.2.2.2.1 | exact hk.2.2.2.2))))))) (Reps.one (show Kd.FK (Kd.slice 72 (Kd.int .u32)) _ _ t773 [.slice Ao89 t773.length co89] from (Kd.FK_slice_mk (Kd.R_reads' (Kd.R_mono (ok' := (fun k_ => some k_ ≠ (v748 : Value).ownBlock ∧ some k_ ≠ (.slice Ao45 t743.length co45 : Value).ownBlock ∧ some k_ ≠ (.slice (some ad755) t738.length co21 : Value).ownBlock ∧ k_ ≠ gb742 ∧ k_ ≠ gb756 ∧ k_ ≠ gb768)) (Kd.R_types (Kd.R_types (Kd.R_types (Kd.R_apart' (Kd.R_apart' (HO775.out) (Kd.N_typed HO_81.out) (by decide)) (Kd.N_typed HO_743001.out) (by decide)) BK742.out (by decide)) BK756.out (by decide)) BK768.out (by decide)) (fun k_ hk => by first | exact ⟨hk.1.1.1.1.1.1.2, ⟨hk.1.1.1.1.2, ⟨hk.1.1.1.2, ⟨hk.1.1.2, ⟨hk.1.2, hk.2⟩⟩⟩⟩⟩ | ((repeat' apply And.intro) <;> (first | exact hk | exact hk.1 | exact hk.2 | exact hk.1.1 | exact hk.1.2 | exact hk.2.1 | exact hk.2.2 | exact hk.1.1.1 | exact hk.1.1.2 | exact hk.1.2.1 | exact hk.1.2.2 | exact hk.2.1.1 | exact hk.2.1.2 | exact hk.2.2.1 | exact hk.2.2.2 | exact hk.1.1.1.1 | exact hk.1.1.1.2 | exact hk.2.2.2.1 | exact hk.2.2.2.2))))).2.1 (Kd.R_F (Kd.R_mono (ok' := (fun k_ => some k_ ≠ (v748 : Value).ownBlock ∧ some k_ ≠ (.slice Ao45 t743.length co45 : Value).ownBlock ∧ some k_ ≠ (.slice (some ad755) t738.length co21 : Value).ownBlock ∧ k_ ≠ gb742 ∧ k_ ≠ gb756 ∧ k_ ≠ gb768)) (Kd.R_types (Kd.R_types (Kd.R_types (Kd.R_apart' (Kd.R_apart' (HO775.out) (Kd.N_typed HO_81.out) (by decide)) (Kd.N_typed HO_743001.out) (by decide)) BK742.out (by decide)) BK756.out (by decide)) BK768.out (by decide)) (fun k_ hk => by first | exact ⟨hk.1.1.1.1.1.1.2, ⟨hk.1.1.1.1.2, ⟨hk.1.1.1.2, ⟨hk.1.1.2, ⟨hk.1.2, hk.2⟩⟩⟩⟩⟩ | ((repeat' apply And.intro) <;> (first | exact hk | exact hk.1 | exact hk.2 | exact hk.1.1 | exact hk.1.2 | exact hk.2.1 | exact hk.2.2 | exact hk.1.1.1 | exact hk.1.1.2 | exact hk.1.2.1 | exact hk.1.2.2 | exact hk.2.1.1 | exact hk.2.1.2 | exact hk.2.2.1 | exact hk.2.2.2 | exact hk.1.1.1.1 | exact hk.1.1.1.2 | exact hk.2.2.2.1 | exact hk.2.2.2.2))))))) (Reps.none _ _)))); intro v777 w90 ho91 hb hg_ hnew_; clear hg_ hnew_; (first | rw [← Ny776.out] at ho91 | (simp only [Int.reduceToNat] at ho91; rw [← Ny776.out] at ho91)); replace HO_10 := aM (Kd.R_below (zR HO_10) hb); replace HO_81 := aM (Kd.N_elder' (zN HO_81) (Kd.N_base ho91) hb); replace HO_743001 := aM (Kd.N_elder' (zN HO_743001) (Kd.N_base ho91) hb); replace HO767 := aM (Kd.V_elder' (zV HO767) (Kd.N_base ho91) hb); have HO778 := aM (Kd.N_lower ho91 (below_size zz78)); replace BK742 := aM (blk_below (g := gb742) (o := .cells #[.int .i64 t737, .slice (some ad755) t738.length co21] 46 (0, 0)) (zB BK742) hb); replace BK756 := aM (blk_below (g := gb756) (o := .cells #[.int .i64 ((rd_T74 t738 0).f0), .slice A755_1 ((rd_T74 t738 0).f1).length c755_1, .slice A755_2 ((rd_T74 t738 0).f2).length c755_2] 74 (0, 0)) (zB BK756) hb); replace BK768 := aM (blk_below (g := gb768) (o := .cells #[.int .i64 (wrap64 (1 + (Int.tmod (wrap64 (a0)) 8))), .slice A80 y763.length c80] 46 (0, 0)) (zB BK768) hb); replace HB := aM (below_step zz78 hb); clear HO771 HO775; clear hb ho91; obtain ⟨Ao92, co92, eo92⟩ := Kd.N_slice HO778.out; subst eo92) | (go_at_call 47; (with_reducible refine (nat_Mul.calls k3 _ _ y776 t779 _ ?side1 ?side2 A76.out).mono ?_); (case side1 => repeat (first | exact (Kd.N_reads' HO778.out).2.2 | (with_reducible refine Kd.C_alloc ?_ _) | (with_reducible refine Kd.C_drewN ?_ _) | (with_reducible refine Kd.C_drew ?_))); (case side2 => exact (Kd.N_reads' HO778.out).2.1); rintro e w93 ⟨v780, rfl, ho0, hb⟩; replace HO_81 := aM (Kd.N_elder' (zN HO_81) (Kd.R_base ho0) hb); replace HO_743001 := aM (Kd.N_elder' (zN HO_743001) (Kd.R_base ho0) hb); replace HO767 := aM (Kd.V_elder' (zV HO767) (Kd.R_base ho0) hb); replace HO778 := aM (Kd.N_elder' (zN HO778) (Kd.R_base ho0) hb); have HO781 := aM (Kd.R_lower (Kd.R_new' ho0 (Kd.R_lt (zR HO_10))) (below_size zz78)); replace HO_10 := aM (Kd.R_elder' (zR HO_10) (Kd.R_base ho0) hb); replace BK742 := aM (blk_below (g := gb742) (o := .cells #[.int .i64 t737, .slice (some ad755) t738.length co21] 46 (0, 0)) (zB BK742) hb); replace BK756 := aM (blk_below (g := gb756) (o := .cells #[.int .i64 ((rd_T74 t738 0).f0), .slice A755_1 ((rd_T74 t738 0).f1).length c755_1, .slice A755_2 ((rd_T74 t738 0).f2).length c755_2] 74 (0, 0)) (zB BK756) hb); replace BK768 := aM (blk_below (g := gb768) (o := .cells #[.int .i64 (wrap64 (1 + (Int.tmod (wrap64 (a0)) 8))), .slice A80 y763.length c80] 46 (0, 0)) (zB BK768) hb); replace HB := aM (below_step zz78 hb); (try clear hb); (try clear hb2); (try clear hk); (try clear hi); (try clear ho0); obtain ⟨Ao94, co94, eo94⟩ := Kd.R_slice HO781.out; subst eo94; obtain ⟨Ao95, co95, eo95⟩ := Kd.R_slice HO_10.out; subst eo95) | (go_at_call 46; (with_reducible refine (r01_Cmp.calls k3 _ _ t779 _ _ t747 t782 _ ?side1 ?side2 ?side3 ?side4 A77.out).mono ?_); (case side1 => repeat (first | exact (Kd.R_reads' HO781.out).2.2 | (with_reducible refine Kd.C_alloc ?_ _) | (with_reducible refine Kd.C_drewN ?_ _) | (with_reducible refine Kd.C_drew ?_))); (case side2 => exact (Kd.R_reads' HO781.out).2.1); (case side3 => repeat (first | exact (Kd.R_reads' HO_10.out).2.2 | (with_reducible refine Kd.C_alloc ?_ _) | (with_reducible refine Kd.C_drewN ?_ _) | (with_reducible refine Kd.C_drew ?_))); (case side4 => exact (Kd.R_reads' HO_10.out).2.1); rintro e w96 ⟨rfl, hb⟩; replace HO_10 := aM (Kd.R_below (zR HO_10) hb); replace HO_81 := aM (Kd.N_below (zN HO_81) hb); replace HO_743001 := aM (Kd.N_below (zN HO_743001) hb); replace HO767 := aM (Kd.V_below (zV HO767) hb); replace HO778 := aM (Kd.N_below (zN HO778) hb); replace HO781 := aM (Kd.R_below (zR HO781) hb); replace BK742 := aM (blk_below (g := gb742) (o := .cells #[.int .i64 t737, .slice (some ad755) t738.length co21] 46 (0, 0)) (zB BK742) hb); replace BK756 := aM (blk_below (g := gb756) (o := .cells #[.int .i64 ((rd_T74 t738 0).f0), .slice A755_1 ((rd_T74 t738 0).f1).length c755_1, .slice A755_2 ((rd_T74 t738 0).f2).length c755_2] 74 (0, 0)) (zB BK756) hb); replace BK768 := aM (blk_below (g := gb768) (o := .cells #[.int .i64 (wrap64 (1 + (Int.tmod (wrap64 (a0)) 8))), .slice A80 y763.length c80] 46 (0, 0)) (zB BK768) hb); replace HB := aM (below_step zz78 hb); (try clear hb); (try clear hb2); (try clear hk); (try clear hi))); try go_wp2_with (first | ((with_reducible refine gate_dst (N := 16) rfl ?_); (try (refine gate_guard (by rfl) ?_; dsimp only)); refine box_event ?hg (N := 16) ?hd (cs := #[.int .i64 0, .slice none 0 0]) (t := 46) ?hr ?_; (case hd => rfl); (case hg => rfl); (case hr => first | (go_simp; done) | (go_simp; rfl)); intro gb768 hg w81 hbox hb; replace HO_10 := aM (Kd.R_below (zR HO_10) hb); replace HO_81 := aM (Kd.N_below (Kd.N_elderB (zN HO_81) gb768 (Nat.le_of_eq hg.symm)) hb); replace HO_743001 := aM (Kd.N_below (Kd.N_elderB (zN HO_743001) gb768 (Nat.le_of_eq hg.symm)) hb); replace HO767 := aM (Kd.V_below (Kd.V_elderB (zV HO767) gb768 (Nat.le_of_eq hg.symm)) hb); replace HR755_1 := aM (Kd.C_below zz73 hb); replace HR755_2 := aM (Kd.C_below zz74 hb); have BK768 := aM (hbox); have GW768 := aM ((by rw [hg]; exact (below_size zz85) : w.heap.size ≤ gb768)); have GE768 := aM ((by rw [hg]; exact (below_size zz85) : w.heap.size ≤ gb768)); replace HB := aM (below_step zz85 hb); have NB742_768 := aM ((by rw [hg]; exact Nat.ne_of_lt (blk_lt (g := gb742) (o := .cells #[.int .i64 t737, .slice (some ad755) t738.length co21] 46 (0, 0)) (zB BK742)) : gb742 ≠ gb768)); have NB768_742 := aM ((by rw [hg]; exact Nat.ne_of_gt (blk_lt (g := gb742) (o := .cells #[.int .i64 t737, .slice (some ad755) t738.length co21] 46 (0, 0)) (zB BK742)) : gb768 ≠ gb742)); replace BK742 := aM (blk_below (g := gb742) (o := .cells #[.int .i64 t737, .slice (some ad755) t738.length co21] 46 (0, 0)) (zB BK742) hb); have NB756_768 := aM ((by rw [hg]; exact Nat.ne_of_lt (blk_lt (g := gb756) (o := .cells #[.int .i64 ((rd_T74 t738 0).f0), .slice A755_1 ((rd_T74 t738 0).f1).length c755_1, .slice A755_2 ((rd_T74 t738 0).f2).length c755_2] 74 (0, 0)) (zB BK756)) : gb756 ≠ gb768)); have NB768_756 := aM ((by rw [hg]; exact Nat.ne_of_gt (blk_lt (g := gb756) (o := .cells #[.int .i64 ((rd_T74 t738 0).f0), .slice A755_1 ((rd_T74 t738 0).f1).length c755_1, .slice A755_2 ((rd_T74 t738 0).f2).length c755_2] 74 (0, 0)) (zB BK756)) : gb768 ≠ gb756)); replace BK756 := aM (blk_below (g := gb756) (o := .cells #[.int .i64 ((rd_T74 t738 0).f0), .slice A755_1 ((rd_T74 t738 0).f1).length c755_1, .slice A755_2 ((rd_T74 t738 0).f2).length c755_2] 74 (0, 0)) (zB BK756) hb); clear hb hbox hg; have hnb82 := NB768_742.out; have hnc82 := NB742_768.out; have hnb83 := NB768_756.out; have hnc83 := NB756_768.out; have hcz84_0 : w81.cell? ⟨gb768, 0, none⟩ = some (.int .i64 0) := (blk_cell BK768.out 0).trans rfl; have hcz84_1 : w81.cell? ⟨gb768, 1, none⟩ = some (.slice none 0 0) := (blk_cell BK768.out 1).trans rfl; have hfz84_0 := blk_frozen BK768.out 0; have hfz84_1 := blk_frozen BK768.out 1) | (go_at_call 35; (with_reducible refine (perm_Size.calls k3 (wrap64 (1 + (Int.tmod (wrap64 (a0)) 8))) _ _ y763 t769 t772 _ ?side1 ?side2 A72.out).mono ?_); (case side1 => refine (Kd.V_reads' (e := 74) (base := w.heap.size) (ok := fun k_ => ((some k_ ≠ (v748 : Value).ownBlock ∧ (some k_ ≠ (.slice Ao45 t743.length co45 : Value).ownBlock ∧ (k_ ≠ gb742 ∧ k_ ≠ gb756))) ∧ k_ ≠ gb768)) (n := y763.length) (c := c80) ?_).2.2; exact zz3); (case side2 => exact (Kd.V_reads' HO767.out).2.1); rintro e w85 ⟨v770, rfl, ho0, hb⟩; replace HO_81 := aM (Kd.N_elder' zz4 (Kd.R_base ho0) hb); replace HO_743001 := aM (Kd.N_elder' zz2 (Kd.R_base ho0) hb); replace HO767 := aM (Kd.V_elder' zz3 (Kd.R_base ho0) hb); have HO771 := aM (Kd.R_lower (Kd.R_new' ho0 (Kd.R_lt zz5)) (below_size zz78)); replace HO_10 := aM (Kd.R_elder' zz5 (Kd.R_base ho0) hb); replace BK742 := aM (blk_below (g := gb742) (o := .cells #[.int .i64 t737, .slice (some ad755) t738.length co21] 46 (0, 0)) zz62 hb); replace BK756 := aM (blk_below (g := gb756) (o := .cells #[.int .i64 ((rd_T74 t738 0).f0), .slice A755_1 ((rd_T74 t738 0).f1).length c755_1, .slice A755_2 ((rd_T74 t738 0).f2).length c755_2] 74 (0, 0)) zz63 hb); replace BK768 := aM (blk_below (g := gb768) (o := .cells #[.int .i64 (wrap64 (1 + (Int.tmod (wrap64 (a0)) 8))), .slice A80 y763.length c80] 46 (0, 0)) zz56 hb); replace HB := aM (below_step zz78 hb); clear HR755_1 HR755_2; (try clear hb); (try clear hb2); (try clear hk); (try clear hi); (try clear ho0); have hcz86_0 : w85.cell? ⟨gb756, 0, none⟩ = some (.int .i64 ((rd_T74 t738 0).f0)) := (blk_cell BK756.out 0).trans rfl; have hcz86_1 : w85.cell? ⟨gb756, 1, none⟩ = some (.slice A755_1 ((rd_T74 t738 0).f1).length c755_1) := (blk_cell BK756.out 1).trans rfl; have hcz86_2 : w85.cell? ⟨gb756, 2, none⟩ = some (.slice A755_2 ((rd_T74 t738 0).f2).length c755_2) := (blk_cell BK756.out 2).trans rfl; have hfz86_0 := blk_frozen BK756.out 0; have hfz86_1 := blk_frozen BK756.out 1; have hfz86_2 := blk_frozen BK756.out 2) | (go_at_call 48; (with_reducible refine (nat_Of.calls (IntKind.u64.wrap ((((rd_T74 t738 0).f1).length : Int))) t773 _ A75.out).mono ?_); rintro e w87 ⟨v774, rfl, ho0, hb⟩; replace HO_81 := aM (Kd.N_elder' (zN HO_81) (Kd.R_base ho0) hb); replace HO_743001 := aM (Kd.N_elder' (zN HO_743001) (Kd.R_base ho0) hb); replace HO767 := aM (Kd.V_elder' (zV HO767) (Kd.R_base ho0) hb); have HO775 := aM (Kd.R_lower (Kd.R_new' (Kd.R_new' ho0 (Kd.R_lt (zR HO_10))) (Kd.R_lt (zR HO771))) (below_size zz78)); replace HO_10 := aM (Kd.R_elder' (zR HO_10) (Kd.R_base ho0) hb); replace HO771 := aM (Kd.R_elder' (zR HO771) (Kd.R_base ho0) hb); replace BK742 := aM (blk_below (g := gb742) (o := .cells #[.int .i64 t737, .slice (some ad755) t738.length co21] 46 (0, 0)) (zB BK742) hb); replace BK756 := aM (blk_below (g := gb756) (o := .cells #[.int .i64 ((rd_T74 t738 0).f0), .slice A755_1 ((rd_T74 t738 0).f1).length c755_1, .slice A755_2 ((rd_T74 t738 0).f2).length c755_2] 74 (0, 0)) (zB BK756) hb); replace BK768 := aM (blk_below (g := gb768) (o := .cells #[.int .i64 (wrap64 (1 + (Int.tmod (wrap64 (a0)) 8))), .slice A80 y763.length c80] 46 (0, 0)) (zB BK768) hb); replace HB := aM (below_step zz78 hb); (try clear hb); (try clear hb2); (try clear hk); (try clear hi); (try clear ho0); obtain ⟨Ao88, co88, eo88⟩ := Kd.R_slice HO771.out; subst eo88; obtain ⟨Ao89, co89, eo89⟩ := Kd.R_slice HO775.out; subst eo89) | ((with_reducible refine gate_dst (N := 141) rfl ?_); (try (refine gate_guard (by rfl) ?_; dsimp only)); refine Kd.N_lit (Kd.slice 72 (Kd.int .u32)) _ 53 ?hg (N' := 141) ?hd (xs := ([t769, t773] : List (List Int))) (inner := [.slice Ao88 t769.length co88, .slice Ao89 t773.length co89]) (ok := (fun k_ => some k_ ≠ (v748 : Value).ownBlock ∧ some k_ ≠ (.slice Ao45 t743.length co45 : Value).ownBlock ∧ some k_ ≠ (.slice (some ad755) t738.length co21 : Value).ownBlock ∧ k_ ≠ gb742 ∧ k_ ≠ gb756 ∧ k_ ≠ gb768)) (okp := (fun k_ => some k_ ≠ (v748 : Value).ownBlock ∧ some k_ ≠ (.slice Ao45 t743.length co45 : Value).ownBlock ∧ some k_ ≠ (.slice (some ad755) t738.length co21 : Value).ownBlock ∧ k_ ≠ gb742 ∧ k_ ≠ gb756 ∧ k_ ≠ gb768)) ?hr ?hp (fun _ hk => hk) ((show ∀ k_, w87.heap.size ≤ k_ → (fun k_ => some k_ ≠ (v748 : Value).ownBlock ∧ some k_ ≠ (.slice Ao45 t743.length co45 : Value).ownBlock ∧ some k_ ≠ (.slice (some ad755) t738.length co21 : Value).ownBlock ∧ k_ ≠ gb742 ∧ k_ ≠ gb756 ∧ k_ ≠ gb768) k_ from fun k_ hk => ⟨Kd.fresh' (Kd.R_lt (zR HO_10)) k_ hk, Kd.fresh' (Kd.N_lt (zN HO_81)) k_ hk, Kd.fresh' (Kd.N_lt (zN HO_743001)) k_ hk, Kd.freshB (g := gb742) (o := .cells #[.int .i64 t737, .slice (some ad755) t738.length co21] 46 (0, 0)) (zB BK742) k_ hk, Kd.freshB (g := gb756) (o := .cells #[.int .i64 ((rd_T74 t738 0).f0), .slice A755_1 ((rd_T74 t738 0).f1).length c755_1, .slice A755_2 ((rd_T74 t738 0).f2).length c755_2] 74 (0, 0)) (zB BK756) k_ hk, Kd.freshB (g := gb768) (o := .cells #[.int .i64 (wrap64 (1 + (Int.tmod (wrap64 (a0)) 8))), .slice A80 y763.length c80] 46 (0, 0)) (zB BK768) k_ hk⟩) _ (Nat.le_refl _)) (Below.refl _ _) (Nat.le_refl _) (by simp) ?_; (case hd => rfl); (case hg => rfl); (case hr => first | (go_simp; done) | (go_simp; rfl)); (case hp => exact (Reps.one (show Kd.FK (Kd.slice 72 (Kd.int .u32)) _ _ t769 [.slice Ao88 t769.length co88] from (Kd.FK_slice_mk (Kd.R_reads' (Kd.R_mono (ok' := (fun k_ => some k_ ≠ (v748 : Value).ownBlock ∧ some k_ ≠ (.slice Ao45 t743.length co45 : Value).ownBlock ∧ some k_ ≠ (.slice (some ad755) t738.length co21 : Value).ownBlock ∧ k_ ≠ gb742 ∧ k_ ≠ gb756 ∧ k_ ≠ gb768)) (Kd.R_types (Kd.R_types (Kd.R_types (Kd.R_apart' (Kd.R_apart' (HO771.out) (Kd.N_typed HO_81.out) (by decide)) (Kd.N_typed HO_743001.out) (by decide)) BK742.out (by decide)) BK756.out (by decide)) BK768.out (by decide)) (fun k_ hk => by first | exact ⟨hk.1.1.1.1.1.1.2, ⟨hk.1.1.1.1.2, ⟨hk.1.1.1.2, ⟨hk.1.1.2, ⟨hk.1.2, hk.2⟩⟩⟩⟩⟩ | ((repeat' apply And.intro) <;> (first | exact hk | exact hk.1 | exact hk.2 | exact hk.1.1 | exact hk.1.2 | exact hk.2.1 | exact hk.2.2 | exact hk.1.1.1 | exact hk.1.1.2 | exact hk.1.2.1 | exact hk.1.2.2 | exact hk.2.1.1 | exact hk.2.1.2 | exact hk.2.2.1 | exact hk.2.2.2 | exact hk.1.1.1.1 | exact hk.1.1.1.2 | exact hk.2.2.2.1 | exact hk.2.2.2.2))))).2.1 (Kd.R_F (Kd.R_mono (ok' := (fun k_ => some k_ ≠ (v748 : Value).ownBlock ∧ some k_ ≠ (.slice Ao45 t743.length co45 : Value).ownBlock ∧ some k_ ≠ (.slice (some ad755) t738.length co21 : Value).ownBlock ∧ k_ ≠ gb742 ∧ k_ ≠ gb756 ∧ k_ ≠ gb768)) (Kd.R_types (Kd.R_types (Kd.R_types (Kd.R_apart' (Kd.R_apart' (HO771.out) (Kd.N_typed HO_81.out) (by decide)) (Kd.N_typed HO_743001.out) (by decide)) BK742.out (by decide)) BK756.out (by decide)) BK768.out (by decide)) (fun k_ hk => by first | exact ⟨hk.1.1.1.1.1.1.2, ⟨hk.1.1.1.1.2, ⟨hk.1.1.1.2, ⟨hk.1.1.2, ⟨hk.1.2, hk.2⟩⟩⟩⟩⟩ | ((repeat' apply And.intro) <;> (first | exact hk | exact hk.1 | exact hk.2 | exact hk.1.1 | exact hk.1.2 | exact hk.2.1 | exact hk.2.2 | exact hk.1.1.1 | exact hk.1.1.2 | exact hk.1.2.1 | exact hk.1.2.2 | exact hk.2.1.1 | exact hk.2.1.2 | exact hk.2.2.1 | exact hk.2.2.2 | exact hk.1.1.1.1 | exact hk.1.1.1.2 | exact hk.2.2.2.1 | exact hk.2.2.2.2))))))) (Reps.one (show Kd.FK (Kd.slice 72 (Kd.int .u32)) _ _ t773 [.slice Ao89 t773.length co89] from (Kd.FK_slice_mk (Kd.R_reads' (Kd.R_mono (ok' := (fun k_ => some k_ ≠ (v748 : Value).ownBlock ∧ some k_ ≠ (.slice Ao45 t743.length co45 : Value).ownBlock ∧ some k_ ≠ (.slice (some ad755) t738.length co21 : Value).ownBlock ∧ k_ ≠ gb742 ∧ k_ ≠ gb756 ∧ k_ ≠ gb768)) (Kd.R_types (Kd.R_types (Kd.R_types (Kd.R_apart' (Kd.R_apart' (HO775.out) (Kd.N_typed HO_81.out) (by decide)) (Kd.N_typed HO_743001.out) (by decide)) BK742.out (by decide)) BK756.out (by decide)) BK768.out (by decide)) (fun k_ hk => by first | exact ⟨hk.1.1.1.1.1.1.2, ⟨hk.1.1.1.1.2, ⟨hk.1.1.1.2, ⟨hk.1.1.2, ⟨hk.1.2, hk.2⟩⟩⟩⟩⟩ | ((repeat' apply And.intro) <;> (first | exact hk | exact hk.1 | exact hk.2 | exact hk.1.1 | exact hk.1.2 | exact hk.2.1 | exact hk.2.2 | exact hk.1.1.1 | exact hk.1.1.2 | exact hk.1.2.1 | exact hk.1.2.2 | exact hk.2.1.1 | exact hk.2.1.2 | exact hk.2.2.1 | exact hk.2.2.2 | exact hk.1.1.1.1 | exact hk.1.1.1.2 | exact hk.2.2.2.1 | exact hk.2.2.2.2))))).2.1 (Kd.R_F (Kd.R_mono (ok' := (fun k_ => some k_ ≠ (v748 : Value).ownBlock ∧ some k_ ≠ (.slice Ao45 t743.length co45 : Value).ownBlock ∧ some k_ ≠ (.slice (some ad755) t738.length co21 : Value).ownBlock ∧ k_ ≠ gb742 ∧ k_ ≠ gb756 ∧ k_ ≠ gb768)) (Kd.R_types (Kd.R_types (Kd.R_types (Kd.R_apart' (Kd.R_apart' (HO775.out) (Kd.N_typed HO_81.out) (by decide)) (Kd.N_typed HO_743001.out) (by decide)) BK742.out (by decide)) BK756.out (by decide)) BK768.out (by decide)) (fun k_ hk => by first | exact ⟨hk.1.1.1.1.1.1.2, ⟨hk.1.1.1.1.2, ⟨hk.1.1.1.2, ⟨hk.1.1.2, ⟨hk.1.2, hk.2⟩⟩⟩⟩⟩ | ((repeat' apply And.intro) <;> (first | exact hk | exact hk.1 | exact hk.2 | exact hk.1.1 | exact hk.1.2 | exact hk.2.1 | exact hk.2.2 | exact hk.1.1.1 | exact hk.1.1.2 | exact hk.1.2.1 | exact hk.1.2.2 | exact hk.2.1.1 | exact hk.2.1.2 | exact hk.2.2.1 | exact hk.2.2.2 | exact hk.1.1.1.1 | exact hk.1.1.1.2 | exact hk.2.2.2.1 | exact hk.2.2.2.2))))))) (Reps.none _ _)))); intro v777 w90 ho91 hb hg_ hnew_; clear hg_ hnew_; (first | rw [← Ny776.out] at ho91 | (simp only [Int.reduceToNat] at ho91; rw [← Ny776.out] at ho91)); replace HO_10 := aM (Kd.R_below (zR HO_10) hb); replace HO_81 := aM (Kd.N_elder' (zN HO_81) (Kd.N_base ho91) hb); replace HO_743001 := aM (Kd.N_elder' (zN HO_743001) (Kd.N_base ho91) hb); replace HO767 := aM (Kd.V_elder' (zV HO767) (Kd.N_base ho91) hb); have HO778 := aM (Kd.N_lower ho91 (below_size zz78)); replace BK742 := aM (blk_below (g := gb742) (o := .cells #[.int .i64 t737, .slice (some ad755) t738.length co21] 46 (0, 0)) (zB BK742) hb); replace BK756 := aM (blk_below (g := gb756) (o := .cells #[.int .i64 ((rd_T74 t738 0).f0), .slice A755_1 ((rd_T74 t738 0).f1).length c755_1, .slice A755_2 ((rd_T74 t738 0).f2).length c755_2] 74 (0, 0)) (zB BK756) hb); replace BK768 := aM (blk_below (g := gb768) (o := .cells #[.int .i64 (wrap64 (1 + (Int.tmod (wrap64 (a0)) 8))), .slice A80 y763.length c80] 46 (0, 0)) (zB BK768) hb); replace HB := aM (below_step zz78 hb); clear HO771 HO775; clear hb ho91; obtain ⟨Ao92, co92, eo92⟩ := Kd.N_slice HO778.out; subst eo92) | (go_at_call 47; (with_reducible refine (nat_Mul.calls k3 _ _ y776 t779 _ ?side1 ?side2 A76.out).mono ?_); (case side1 => repeat (first | exact (Kd.N_reads' HO778.out).2.2 | (with_reducible refine Kd.C_alloc ?_ _) | (with_reducible refine Kd.C_drewN ?_ _) | (with_reducible refine Kd.C_drew ?_))); (case side2 => exact (Kd.N_reads' HO778.out).2.1); rintro e w93 ⟨v780, rfl, ho0, hb⟩; replace HO_81 := aM (Kd.N_elder' (zN HO_81) (Kd.R_base ho0) hb); replace HO_743001 := aM (Kd.N_elder' (zN HO_743001) (Kd.R_base ho0) hb); replace HO767 := aM (Kd.V_elder' (zV HO767) (Kd.R_base ho0) hb); replace HO778 := aM (Kd.N_elder' (zN HO778) (Kd.R_base ho0) hb); have HO781 := aM (Kd.R_lower (Kd.R_new' ho0 (Kd.R_lt (zR HO_10))) (below_size zz78)); replace HO_10 := aM (Kd.R_elder' (zR HO_10) (Kd.R_base ho0) hb); replace BK742 := aM (blk_below (g := gb742) (o := .cells #[.int .i64 t737, .slice (some ad755) t738.length co21] 46 (0, 0)) (zB BK742) hb); replace BK756 := aM (blk_below (g := gb756) (o := .cells #[.int .i64 ((rd_T74 t738 0).f0), .slice A755_1 ((rd_T74 t738 0).f1).length c755_1, .slice A755_2 ((rd_T74 t738 0).f2).length c755_2] 74 (0, 0)) (zB BK756) hb); replace BK768 := aM (blk_below (g := gb768) (o := .cells #[.int .i64 (wrap64 (1 + (Int.tmod (wrap64 (a0)) 8))), .slice A80 y763.length c80] 46 (0, 0)) (zB BK768) hb); replace HB := aM (below_step zz78 hb); (try clear hb); (try clear hb2); (try clear hk); (try clear hi); (try clear ho0); obtain ⟨Ao94, co94, eo94⟩ := Kd.R_slice HO781.out; subst eo94; obtain ⟨Ao95, co95, eo95⟩ := Kd.R_slice HO_10.out; subst eo95) | (go_at_call 46; (with_reducible refine (r01_Cmp.calls k3 _ _ t779 _ _ t747 t782 _ ?side1 ?side2 ?side3 ?side4 A77.out).mono ?_); (case side1 => repeat (first | exact (Kd.R_reads' HO781.out).2.2 | (with_reducible refine Kd.C_alloc ?_ _) | (with_reducible refine Kd.C_drewN ?_ _) | (with_reducible refine Kd.C_drew ?_))); (case side2 => exact (Kd.R_reads' HO781.out).2.1); (case side3 => repeat (first | exact (Kd.R_reads' HO_10.out).2.2 | (with_reducible refine Kd.C_alloc ?_ _) | (with_reducible refine Kd.C_drewN ?_ _) | (with_reducible refine Kd.C_drew ?_))); (case side4 => exact (Kd.R_reads' HO_10.out).2.1); rintro e w96 ⟨rfl, hb⟩; replace HO_10 := aM (Kd.R_below (zR HO_10) hb); replace HO_81 := aM (Kd.N_below (zN HO_81) hb); replace HO_743001 := aM (Kd.N_below (zN HO_743001) hb); replace HO767 := aM (Kd.V_below (zV HO767) hb); replace HO778 := aM (Kd.N_below (zN HO778) hb); replace HO781 := aM (Kd.R_below (zR HO781) hb); replace BK742 := aM (blk_below (g := gb742) (o := .cells #[.int .i64 t737, .slice (some ad755) t738.length co21] 46 (0, 0)) (zB BK742) hb); replace BK756 := aM (blk_below (g := gb756) (o := .cells #[.int .i64 ((rd_T74 t738 0).f0), .slice A755_1 ((rd_T74 t738 0).f1).length c755_1, .slice A755_2 ((rd_T74 t738 0).f2).length c755_2] 74 (0, 0)) (zB BK756) hb); replace BK768 := aM (blk_below (g := gb768) (o := .cells #[.int .i64 (wrap64 (1 + (Int.tmod (wrap64 (a0)) 8))), .slice A80 y763.length c80] 46 (0, 0)) (zB BK768) hb); replace HB := aM (below_step zz78 hb); (try clear hb); (try clear hb2); (try clear hk); (try clear hi))))
                      go_ret
                      exact ⟨by first | rfl | (simp [errW_none, errW_some] <;> rfl) | (simp [*, errW_none, errW_some] <;> rfl), by repeat (first | (with_reducible first | exact HB.out | apply below_alloc | apply pw_below_drewN | apply below_drew1 | refine below_set ?_ GE742.out | refine below_set ?_ GE756.out | refine below_set ?_ GE768.out) | exact HB.out)⟩
                    rw [if_neg c74] at H; have c74b0 := beq_eq_false_iff_ne.mpr c74; have c74b1 := bne_iff_ne.mpr c74
                    exact absurd (Option.some.inj (H.trans (congrArg some HR_.out))) (by decide)
                  replace c73 := Bool.eq_false_iff.mpr c73; subst c73; have H1 : (some false) = some r := by rw [if_neg (show ¬ (false = true) by decide)] at H; exact H
                  clear H; have H := H1; clear H1
                  exact absurd (Option.some.inj (H.trans (congrArg some HR_.out))) (by decide)
                rw [if_neg c71] at H
                exact absurd H (by simp)
          rw [if_neg c40] at H
          exact absurd H (by simp)
end
end Go.Proofs.Ytjjlhbgpdncpcaa.P
section
set_option linter.unusedVariables false
set_option linter.unusedSimpArgs false
namespace Go.Proofs.Ytjjlhbgpdncpcaa.P.M
def ap (l : List Int) (i : Int) : Int := l.getD i.toNat 0
def Pm (n : Nat) (l : List Int) : Prop := l.length = n ∧ (∀ x ∈ l, 0 ≤ x ∧ x < (n : Int)) ∧ l.Nodup
def mulL (p q : List Int) : List Int := p.map (fun x => ap q x)
def idL (n : Nat) : List Int := (List.range n).map (fun (i : Nat) => (i : Int))
def invL (p : List Int) : List Int := (List.range p.length).map (fun (i : Nat) => ((p.idxOf (i : Int) : Nat) : Int))
theorem ap_nat (l : List Int) (i : Nat) : ap l (i : Int) = l.getD i 0 := by simp [ap]
theorem ap_mem {l : List Int} {i : Int} (h0 : 0 ≤ i) (h1 : i < (l.length : Int)) : ap l i ∈ l := by
  have h : i.toNat < l.length := by omega
  simp only [ap, List.getD_eq_getElem?_getD, List.getElem?_eq_getElem h, Option.getD_some]
  exact List.getElem_mem h
theorem ap_map (f : Int → Int) (l : List Int) {i : Int} (h0 : 0 ≤ i) (h1 : i < (l.length : Int)) : ap (l.map f) i = f (ap l i) := by
  have h : i.toNat < l.length := by omega
  simp [ap, List.getD_eq_getElem?_getD, List.getElem?_eq_getElem h]
theorem ap_range (n : Nat) (f : Nat → Int) {i : Int} (h0 : 0 ≤ i) (h1 : i < (n : Int)) : ap ((List.range n).map f) i = f i.toNat := by
  have h : i.toNat < n := by omega
  simp [ap, List.getD_eq_getElem?_getD, h]
theorem ap_ext {n : Nat} {p q : List Int} (hp : p.length = n) (hq : q.length = n) (h : ∀ i : Int, 0 ≤ i → i < n → ap p i = ap q i) : p = q := by
  apply List.ext_getElem (by omega)
  intro i h1 h2
  have := h i (by omega) (by omega)
  rw [ap_nat, ap_nat] at this
  simpa [List.getD_eq_getElem?_getD, h1, h2] using this
theorem Pm.rng {n : Nat} {p : List Int} (h : Pm n p) {i : Int} (h0 : 0 ≤ i) (h1 : i < n) : 0 ≤ ap p i ∧ ap p i < n := h.2.1 _ (ap_mem h0 (by rw [h.1]; exact h1))
theorem Pm.inj {n : Nat} {p : List Int} (h : Pm n p) {i j : Int} (h0 : 0 ≤ i) (h1 : i < n) (k0 : 0 ≤ j) (k1 : j < n) (e : ap p i = ap p j) : i = j := by
  have hi : i.toNat < p.length := by have := h.1; omega
  have hj : j.toNat < p.length := by have := h.1; omega
  simp only [ap, List.getD_eq_getElem?_getD, List.getElem?_eq_getElem hi, List.getElem?_eq_getElem hj, Option.getD_some] at e
  have := (List.getElem_inj h.2.2).1 e
  omega
theorem sub_len : ∀ {l1 l2 : List Int}, l1.Nodup → (∀ x ∈ l1, x ∈ l2) → l1.length ≤ l2.length
  | [], _, _, _ => by simp
  | a :: l1, l2, h, hs => by
    rw [List.nodup_cons] at h; have ha : a ∈ l2 := hs a (by simp); have := sub_len (l1 := l1) (l2 := l2.erase a) h.2 (fun x hx => (List.mem_erase_of_ne (fun e => h.1 (by rw [← e]; exact hx))).2 (hs x (by simp [hx]))); rw [List.length_erase_of_mem ha] at this; have := List.length_pos_of_mem ha; simp only [List.length_cons]; omega
theorem sub_back : ∀ {l1 l2 : List Int}, l1.Nodup → (∀ x ∈ l1, x ∈ l2) → l2.length ≤ l1.length → ∀ x ∈ l2, x ∈ l1
  | [], l2, _, _, hl, x, hx => by have := List.length_pos_of_mem hx; simp only [List.length_nil] at hl; omega
  | a :: l1, l2, h, hs, hl, x, hx => by
    rw [List.nodup_cons] at h; have ha : a ∈ l2 := hs a (by simp)
    by_cases e : x = a
    · simp [e]
    · refine List.mem_cons_of_mem _ (sub_back (l1 := l1) (l2 := l2.erase a) h.2 (fun y hy => (List.mem_erase_of_ne (fun e => h.1 (by rw [← e]; exact hy))).2 (hs y (by simp [hy]))) ?_ x ((List.mem_erase_of_ne e).2 hx)); rw [List.length_erase_of_mem ha]; simp only [List.length_cons] at hl; omega
theorem mem_idL {n : Nat} {x : Int} : x ∈ idL n ↔ 0 ≤ x ∧ x < n := by
  simp only [idL, List.mem_map, List.mem_range]
  constructor
  · rintro ⟨i, hi, rfl⟩; omega
  · intro h; exact ⟨x.toNat, by omega, by omega⟩
theorem idL_len (n : Nat) : (idL n).length = n := by simp [idL]
theorem map_nodup {α β : Type} {f : α → β} {l : List α} (h : l.Nodup) (hf : ∀ x ∈ l, ∀ y ∈ l, f x = f y → x = y) : (l.map f).Nodup := by
  rw [List.Nodup, List.pairwise_map]
  refine List.Pairwise.imp_of_mem ?_ h
  intro a b ha hb hab e
  exact hab (hf a ha b hb e)
theorem Pm_id (n : Nat) : Pm n (idL n) := by
  refine ⟨idL_len n, fun x hx => mem_idL.1 hx, ?_⟩
  exact map_nodup List.nodup_range (fun x _ y _ e => by omega)
theorem ap_id {n : Nat} {i : Int} (h0 : 0 ≤ i) (h1 : i < n) : ap (idL n) i = i := by rw [idL, ap_range n _ h0 h1]; omega
theorem Pm.surj {n : Nat} {p : List Int} (h : Pm n p) {y : Int} (h0 : 0 ≤ y) (h1 : y < n) : y ∈ p :=
  sub_back h.2.2 (fun x hx => mem_idL.2 (h.2.1 x hx)) (by rw [idL_len, h.1]; exact Nat.le_refl _) y (mem_idL.2 ⟨h0, h1⟩)
theorem Pm.idx {n : Nat} {p : List Int} (h : Pm n p) {y : Int} (h0 : 0 ≤ y) (h1 : y < n) : p.idxOf y < n ∧ ap p (p.idxOf y : Nat) = y := by
  have hy := h.surj h0 h1
  have hl := List.idxOf_lt_length_of_mem hy
  refine ⟨h.1 ▸ hl, ?_⟩
  rw [ap_nat, List.getD_eq_getElem?_getD, List.getElem?_eq_getElem hl, Option.getD_some]
  exact List.getElem_idxOf hl
theorem mul_len (p q : List Int) : (mulL p q).length = p.length := by simp [mulL]
theorem ap_mul {p q : List Int} {i : Int} (h0 : 0 ≤ i) (h1 : i < (p.length : Int)) : ap (mulL p q) i = ap q (ap p i) := by rw [mulL, ap_map _ _ h0 h1]
theorem Pm.ap_mul {n : Nat} {p q : List Int} (h : Pm n p) {i : Int} (h0 : 0 ≤ i) (h1 : i < n) : ap (mulL p q) i = ap q (ap p i) := M.ap_mul h0 (by rw [h.1]; exact h1)
theorem Pm.mul {n : Nat} {p q : List Int} (hp : Pm n p) (hq : Pm n q) : Pm n (mulL p q) := by
  refine ⟨by rw [mul_len, hp.1], ?_, ?_⟩
  · intro x hx
    rw [mulL, List.mem_map] at hx; obtain ⟨y, hy, rfl⟩ := hx
    exact hq.rng (hp.2.1 y hy).1 (hp.2.1 y hy).2
  · exact map_nodup hp.2.2 (fun x hx y hy e => hq.inj (hp.2.1 x hx).1 (hp.2.1 x hx).2 (hp.2.1 y hy).1 (hp.2.1 y hy).2 e)
theorem mul_assoc {n : Nat} {p q r : List Int} (hp : Pm n p) (hq : Pm n q) (hr : Pm n r) : mulL (mulL p q) r = mulL p (mulL q r) := by
  refine ap_ext ((hp.mul hq).mul hr).1 (hp.mul (hq.mul hr)).1 (fun i h0 h1 => ?_)
  have := hp.rng h0 h1
  rw [(hp.mul hq).ap_mul h0 h1, hp.ap_mul h0 h1, hp.ap_mul h0 h1, hq.ap_mul this.1 this.2]
theorem mul_id {n : Nat} {p : List Int} (hp : Pm n p) : mulL p (idL n) = p := by
  refine ap_ext (hp.mul (Pm_id n)).1 hp.1 (fun i h0 h1 => ?_)
  have := hp.rng h0 h1
  rw [hp.ap_mul h0 h1, ap_id this.1 this.2]
theorem id_mul {n : Nat} {p : List Int} (hp : Pm n p) : mulL (idL n) p = p := by
  refine ap_ext ((Pm_id n).mul hp).1 hp.1 (fun i h0 h1 => ?_)
  rw [(Pm_id n).ap_mul h0 h1, ap_id h0 h1]
theorem inv_len (p : List Int) : (invL p).length = p.length := by simp [invL]
theorem Pm.ap_inv {n : Nat} {p : List Int} (hp : Pm n p) {i : Int} (h0 : 0 ≤ i) (h1 : i < n) : ap (invL p) i = (p.idxOf i : Nat) := by
  rw [invL, hp.1, ap_range n _ h0 h1]
  rw [show ((i.toNat : Nat) : Int) = i by omega]
theorem Pm.inv {n : Nat} {p : List Int} (hp : Pm n p) : Pm n (invL p) := by
  refine ⟨by rw [inv_len, hp.1], ?_, ?_⟩
  · intro x hx
    rw [invL, hp.1, List.mem_map] at hx; obtain ⟨i, hi, rfl⟩ := hx; rw [List.mem_range] at hi; have := hp.idx (y := i) (by omega) (by omega); omega
  · rw [invL, hp.1]
    refine map_nodup List.nodup_range (fun x hx y hy e => ?_); rw [List.mem_range] at hx hy; have h1 := hp.idx (y := x) (by omega) (by omega); have h2 := hp.idx (y := y) (by omega) (by omega); rw [e] at h1; have := h1.2.symm.trans h2.2; omega
theorem inv_mul {n : Nat} {p : List Int} (hp : Pm n p) : mulL (invL p) p = idL n := by
  refine ap_ext (hp.inv.mul hp).1 (Pm_id n).1 (fun i h0 h1 => ?_)
  rw [hp.inv.ap_mul h0 h1, hp.ap_inv h0 h1, (hp.idx h0 h1).2, ap_id h0 h1]
theorem mul_inv {n : Nat} {p : List Int} (hp : Pm n p) : mulL p (invL p) = idL n := by
  refine ap_ext (hp.mul hp.inv).1 (Pm_id n).1 (fun i h0 h1 => ?_)
  have hr := hp.rng h0 h1
  rw [hp.ap_mul h0 h1, hp.ap_inv hr.1 hr.2, ap_id h0 h1]
  have h2 := hp.idx hr.1 hr.2
  exact hp.inj (by omega) (by omega) h0 h1 h2.2
theorem mul_inv_cancel {n : Nat} {p r : List Int} (hp : Pm n p) (hr : Pm n r) : mulL (mulL p (invL r)) r = p := by rw [mul_assoc hp hr.inv hr, inv_mul hr, mul_id hp]
theorem mul_cancel_inv {n : Nat} {p r : List Int} (hp : Pm n p) (hr : Pm n r) : mulL (mulL p r) (invL r) = p := by rw [mul_assoc hp hr hr.inv, mul_inv hr, mul_id hp]
theorem inv_unique {n : Nat} {p q : List Int} (hp : Pm n p) (hq : Pm n q) (e : mulL q p = idL n) : q = invL p := by
  have := congrArg (fun x => mulL x (invL p)) e
  simp only [mul_cancel_inv hq hp, id_mul hp.inv] at this
  exact this
def powL (n : Nat) (p : List Int) : Nat → List Int
  | 0 => idL n
  | k + 1 => mulL (powL n p k) p
theorem Pm.pow {n : Nat} {p : List Int} (hp : Pm n p) : ∀ k, Pm n (powL n p k)
  | 0 => Pm_id n
  | k + 1 => (hp.pow k).mul hp
theorem pow_add {n : Nat} {p : List Int} (hp : Pm n p) (a : Nat) : ∀ b, powL n p (a + b) = mulL (powL n p a) (powL n p b)
  | 0 => (mul_id (hp.pow a)).symm
  | b + 1 => by
    show mulL (powL n p (a + b)) p = mulL (powL n p a) (mulL (powL n p b) p)
    rw [pow_add hp a b, mul_assoc (hp.pow a) (hp.pow b) hp]
theorem pow_fix {n : Nat} {p : List Int} (hp : Pm n p) {d : Nat} {i : Int} (h0 : 0 ≤ i) (h1 : i < n) (e : ap (powL n p d) i = i) : ∀ k, ap (powL n p (d * k)) i = i
  | 0 => ap_id h0 h1
  | k + 1 => by rw [Nat.mul_succ, pow_add hp, (hp.pow _).ap_mul h0 h1, pow_fix hp h0 h1 e k, e]
theorem pow_back {n : Nat} {p : List Int} (hp : Pm n p) {i : Int} (h0 : 0 ≤ i) (h1 : i < n) : ∃ d, 1 ≤ d ∧ d ≤ n ∧ ap (powL n p d) i = i := by
  have hn : ¬ ((List.range (n + 1)).map (fun k => ap (powL n p k) i)).Nodup := by
    intro h
    have := sub_len (l2 := idL n) h (fun x hx => by
      rw [List.mem_map] at hx; obtain ⟨k, _, rfl⟩ := hx
      exact mem_idL.2 ((hp.pow k).rng h0 h1))
    simp only [idL_len, List.length_map, List.length_range] at this; omega
  have : ∃ a b, a < b ∧ b ≤ n ∧ ap (powL n p a) i = ap (powL n p b) i := by
    apply Classical.byContradiction; intro hc
    apply hn
    apply map_nodup List.nodup_range; intro x hx y hy e; rw [List.mem_range] at hx hy
    rcases Nat.lt_trichotomy x y with h | h | h
    · exact absurd ⟨x, y, h, by omega, e⟩ hc
    · exact h
    · exact absurd ⟨y, x, h, by omega, e.symm⟩ hc
  obtain ⟨a, b, hab, hb, e⟩ := this
  refine ⟨b - a, by omega, by omega, ?_⟩
  rw [show b = (b - a) + a by omega, pow_add hp, (hp.pow _).ap_mul h0 h1] at e
  have hr := (hp.pow (b - a)).rng h0 h1
  exact ((hp.pow a).inj h0 h1 hr.1 hr.2 e).symm
def fac : Nat → Nat
  | 0 => 1
  | k + 1 => (k + 1) * fac k
theorem fac_pos : ∀ k, 1 ≤ fac k
  | 0 => Nat.le_refl _
  | k + 1 => Nat.mul_pos (Nat.succ_pos k) (fac_pos k)
theorem dvd_fac : ∀ {d n : Nat}, 1 ≤ d → d ≤ n → d ∣ fac n
  | d, 0, h, k => by omega
  | d, n + 1, h, k => by
    by_cases e : d = n + 1
    · subst e; exact Nat.dvd_mul_right (n + 1) (fac n)
    · exact Nat.dvd_trans (dvd_fac h (by omega)) (Nat.dvd_mul_left _ _)
theorem pow_fac {n : Nat} {p : List Int} (hp : Pm n p) : powL n p (fac n) = idL n := by
  refine ap_ext (hp.pow _).1 (Pm_id n).1 (fun i h0 h1 => ?_)
  obtain ⟨d, hd, hd', e⟩ := pow_back hp h0 h1
  obtain ⟨k, hk⟩ := dvd_fac hd hd'
  rw [hk, pow_fix hp h0 h1 e, ap_id h0 h1]
theorem inv_pow {n : Nat} {p : List Int} (hp : Pm n p) : powL n p (fac n - 1) = invL p := by
  refine inv_unique hp (hp.pow _) ?_
  have h := fac_pos n
  rw [← pow_fac hp]
  conv => rhs; rw [show fac n = (fac n - 1) + 1 by omega]
  rfl
inductive Cl (n : Nat) (S : List Int → Prop) : List Int → Prop
  | one : Cl n S (idL n)
  | mul {p g : List Int} : Cl n S p → S g → Cl n S (mulL p g)
theorem Cl.pm {n : Nat} {S : List Int → Prop} (hS : ∀ g, S g → Pm n g) {p : List Int} (h : Cl n S p) : Pm n p := by
  induction h with
  | one => exact Pm_id n
  | mul _ hg ih => exact ih.mul (hS _ hg)
theorem Cl.gen {n : Nat} {S : List Int → Prop} (hS : ∀ g, S g → Pm n g) {g : List Int} (h : S g) : Cl n S g := by
  have := Cl.mul (Cl.one (n := n) (S := S)) h
  rwa [id_mul (hS g h)] at this
theorem Cl.mul' {n : Nat} {S : List Int → Prop} (hS : ∀ g, S g → Pm n g) {p q : List Int} (hp : Cl n S p) (hq : Cl n S q) : Cl n S (mulL p q) := by
  induction hq with
  | one => rw [mul_id (hp.pm hS)]; exact hp
  | mul hq hg ih => rw [← mul_assoc (hp.pm hS) (hq.pm hS) (hS _ hg)]; exact ih.mul hg
theorem Cl.pow {n : Nat} {S : List Int → Prop} (hS : ∀ g, S g → Pm n g) {p : List Int} (hp : Cl n S p) : ∀ k, Cl n S (powL n p k)
  | 0 => .one
  | k + 1 => Cl.mul' hS (Cl.pow hS hp k) hp
theorem Cl.inv {n : Nat} {S : List Int → Prop} (hS : ∀ g, S g → Pm n g) {p : List Int} (hp : Cl n S p) : Cl n S (invL p) := by
  rw [← inv_pow (hp.pm hS)]; exact hp.pow hS _
theorem Cl.least {n : Nat} {S H : List Int → Prop} (h1 : H (idL n)) (hm : ∀ p g, H p → S g → H (mulL p g)) {p : List Int} (hp : Cl n S p) : H p := by
  induction hp with
  | one => exact h1
  | mul _ hg ih => exact hm _ _ ih hg
theorem Cl.sub {n : Nat} {S R : List Int → Prop} (hR : ∀ g, R g → Pm n g) (h : ∀ g, S g → Cl n R g) {p : List Int} (hp : Cl n S p) : Cl n R p :=
  Cl.least .one (fun _ _ h1 h2 => Cl.mul' hR h1 (h _ h2)) hp
end Go.Proofs.Ytjjlhbgpdncpcaa.P.M
end
section
set_option linter.unusedVariables false
set_option linter.unusedSimpArgs false
namespace Go.Proofs.Ytjjlhbgpdncpcaa.P.M
def Fx (b : Int) (p : List Int) : Prop := ∀ i : Int, 0 ≤ i → i < b → ap p i = i
theorem Fx.id (n : Nat) {b : Int} (hb : b ≤ n) : Fx b (idL n) := fun i h0 h1 => ap_id h0 (by omega)
theorem Fx.mul {n : Nat} {b : Int} {p q : List Int} (hp : Pm n p) (hq : Pm n q) (hb : b ≤ n) (h : Fx b p) (k : Fx b q) : Fx b (mulL p q) :=
  fun i h0 h1 => by rw [hp.ap_mul h0 (by omega), h i h0 h1, k i h0 h1]
theorem Fx.inv {n : Nat} {b : Int} {p : List Int} (hp : Pm n p) (hb : b ≤ n) (h : Fx b p) : Fx b (invL p) := fun i h0 h1 => by
  have e : ap (mulL (invL p) p) i = i := by rw [inv_mul hp, ap_id h0 (by omega)]
  rw [hp.inv.ap_mul h0 (by omega)] at e
  have hr := hp.inv.rng h0 (show i < n by omega)
  exact hp.inj hr.1 hr.2 h0 (by omega) (e.trans (h i h0 h1).symm)
theorem Fx.up {b : Int} {p : List Int} (h : Fx b p) (e : ap p b = b) : Fx (b + 1) p := fun i h0 h1 => by
  by_cases k : i < b
  · exact h i h0 k
  · have : i = b := by omega
    rw [this, e]
theorem Fx.all {n : Nat} {p : List Int} (hp : Pm n p) (h : Fx n p) : p = idL n :=
  ap_ext hp.1 (idL_len n) (fun i h0 h1 => by rw [h i h0 h1, ap_id h0 h1])
def Sf (n : Nat) (rep : Int → Int → List Int) : Nat → Int → List Int → Prop
  | 0, _, p => p = idL n
  | m + 1, b, p => rep b (ap p b) ≠ [] ∧ Sf n rep m (b + 1) (mulL p (invL (rep b (ap p b))))
structure Wf (T : Tw) : Prop where
  n1 : 1 ≤ T.n
  n64 : T.n ≤ 64
  lr : T.reps.length = T.n
  lrr : ∀ b : Int, 0 ≤ b → b < T.n → (T.row b).length = T.n
  lg : T.gens.length = T.n
  one : ∀ b : Int, 0 ≤ b → b < T.n → T.rep b b = idL T.n
  rep : ∀ b x : Int, 0 ≤ b → b < T.n → 0 ≤ x → x < T.n → T.rep b x ≠ [] → Pm T.n (T.rep b x) ∧ Fx b (T.rep b x) ∧ ap (T.rep b x) b = x
  gen : ∀ b : Int, 0 ≤ b → b < T.n → ∀ g ∈ T.gen b, Pm T.n g ∧ Fx b g
def G (T : Tw) (b : Int) : List Int → Prop := Cl T.n (fun g => g ∈ T.gen b)
theorem Wf.gpm {T : Tw} (h : Wf T) {b : Int} (h0 : 0 ≤ b) (h1 : b ≤ T.n) : ∀ g, g ∈ T.gen b → Pm T.n g := fun g hg => by
  by_cases k : b < T.n
  · exact (h.gen b h0 k g hg).1
  · have : b.toNat = T.n := by omega
    rw [Tw.gen, this, List.getD_eq_getElem?_getD, List.getElem?_eq_none (by rw [h.lg]; exact Nat.le_refl _)] at hg; simp at hg
theorem Wf.gfx {T : Tw} (h : Wf T) {b : Int} (h0 : 0 ≤ b) (h1 : b ≤ T.n) {p : List Int} (hp : G T b p) : Pm T.n p ∧ Fx b p := by
  refine ⟨hp.pm (h.gpm h0 h1), ?_⟩
  have : Pm T.n p ∧ Fx b p := by
    refine Cl.least (H := fun p => Pm T.n p ∧ Fx b p) ⟨Pm_id _, Fx.id _ h1⟩ ?_ hp; rintro p g ⟨hp, hf⟩ hg
    by_cases k : b < T.n
    · have := h.gen b h0 k g hg
      exact ⟨hp.mul this.1, hf.mul hp this.1 h1 this.2⟩
    · have hb : b.toNat = T.n := by omega
      rw [Tw.gen, hb, List.getD_eq_getElem?_getD, List.getElem?_eq_none (by rw [h.lg]; exact Nat.le_refl _)] at hg; simp at hg
  exact this.2
theorem Wf.g_end {T : Tw} (h : Wf T) {p : List Int} (hp : G T T.n p) : p = idL T.n := by
  have := h.gfx (by omega) (by omega) hp
  exact this.2.all this.1
structure Lv (T : Tw) (b : Int) : Prop where
  reps : ∀ x : Int, 0 ≤ x → x < T.n → T.rep b x ≠ [] → G T b (T.rep b x)
  gens : ∀ g ∈ T.gen (b + 1), G T b g
  pairs : ∀ x : Int, 0 ≤ x → x < T.n → T.rep b x ≠ [] → ∀ g ∈ T.gen b, Sf T.n T.rep (T.n - b).toNat b (mulL (T.rep b x) g)
def Comp (T : Tw) (b : Int) : Prop := ∀ c : Int, b ≤ c → c < T.n → Lv T c
theorem sf_iff {T : Tw} (h : Wf T) : ∀ (m : Nat) (b : Int), 0 ≤ b → b + m = T.n → Comp T b → ∀ p, Pm T.n p → Fx b p → (Sf T.n T.rep m b p ↔ G T b p)
  | 0, b, h0, hb, hc, p, hp, hf => by
    have : b = T.n := by omega
    subst this
    refine ⟨fun e => ?_, fun e => h.g_end e⟩; rw [Sf] at e; rw [e]; exact .one
  | m + 1, b, h0, hb, hc, p, hp, hf => by
    have hb1 : b < T.n := by omega
    have hl := hc b (Int.le_refl _) hb1; have ih := sf_iff h m (b + 1) (by omega) (by omega) (fun c h1 h2 => hc c (by omega) h2); have hgp := h.gpm h0 (Int.le_of_lt hb1)
    have strip : ∀ q, Pm T.n q → Fx b q → ∀ r, Pm T.n r → Fx b r → ap r b = ap q b → Pm T.n (mulL q (invL r)) ∧ Fx (b + 1) (mulL q (invL r)) := by
      intro q hq hqf r hr hrf e
      refine ⟨hq.mul hr.inv, (hqf.mul hq hr.inv (Int.le_of_lt hb1) (hrf.inv hr (Int.le_of_lt hb1))).up ?_⟩; rw [hq.ap_mul h0 hb1, ← e, ← hr.ap_mul h0 hb1, mul_inv hr, ap_id h0 hb1]
    constructor
    · rintro ⟨h1, h2⟩; have hx := hp.rng h0 hb1; have hr := h.rep b _ h0 hb1 hx.1 hx.2 h1; have hs := strip p hp hf _ hr.1 hr.2.1 hr.2.2; have hg := (ih _ hs.1 hs.2).1 h2; have hg' : G T b (mulL p (invL (T.rep b (ap p b)))) := Cl.sub hgp hl.gens hg; have := Cl.mul' hgp hg' (hl.reps _ hx.1 hx.2 h1)
      rwa [mul_inv_cancel hp hr.1] at this
    · intro hg
      have key : Pm T.n p ∧ Fx b p ∧ Sf T.n T.rep (m + 1) b p := by
        refine Cl.least (H := fun p => Pm T.n p ∧ Fx b p ∧ Sf T.n T.rep (m + 1) b p) ?_ ?_ hg
        · refine ⟨Pm_id _, Fx.id _ (Int.le_of_lt hb1), ?_⟩; have hi : ap (idL T.n) b = b := ap_id h0 hb1
          refine ⟨by rw [hi, h.one b h0 hb1]; intro e; have := congrArg List.length e; rw [idL_len] at this; simp at this; omega, ?_⟩; rw [hi, h.one b h0 hb1, mul_inv (Pm_id _)]
          exact (ih _ (Pm_id _) (Fx.id _ (by omega))).2 .one
        · rintro p g ⟨hp, hf, h1, h2⟩ hgb; have hgg := h.gen b h0 hb1 g hgb; have hx := hp.rng h0 hb1; have hr := h.rep b _ h0 hb1 hx.1 hx.2 h1; have hs := strip p hp hf _ hr.1 hr.2.1 hr.2.2; have hsG := (ih _ hs.1 hs.2).1 h2; have hpr := hl.pairs _ hx.1 hx.2 h1 g hgb; rw [show (T.n - b).toNat = m + 1 by omega] at hpr; obtain ⟨k1, k2⟩ := hpr; have hrg : ap (mulL (T.rep b (ap p b)) g) b = ap (mulL p g) b := by rw [hr.1.ap_mul h0 hb1, hp.ap_mul h0 hb1, hr.2.2]
          rw [hrg] at k1 k2; have hpg := hp.mul hgg.1; have hpf := hf.mul hp hgg.1 (Int.le_of_lt hb1) hgg.2; have hy := hpg.rng h0 hb1; have hr' := h.rep b _ h0 hb1 hy.1 hy.2 k1; have hs' := strip _ (hr.1.mul hgg.1) (hr.2.1.mul hr.1 hgg.1 (Int.le_of_lt hb1) hgg.2) _ hr'.1 hr'.2.1 (hr'.2.2.trans hrg.symm); have hsG' := (ih _ hs'.1 hs'.2).1 k2; have hz := strip _ hpg hpf _ hr'.1 hr'.2.1 hr'.2.2
          refine ⟨hpg, hpf, k1, (ih _ hz.1 hz.2).2 ?_⟩; have := Cl.mul' (h.gpm (by omega) (by omega)) hsG hsG'; rw [← mul_assoc hs.1 (hr.1.mul hgg.1) hr'.1.inv, ← mul_assoc hs.1 hr.1 hgg.1, mul_inv_cancel hp hr.1] at this
          exact this
      exact key.2.2
def Ext (T T' : Tw) : Prop := T'.n = T.n ∧ ∀ b x : Int, 0 ≤ b → b < T.n → 0 ≤ x → x < T.n → T.rep b x ≠ [] → T'.rep b x = T.rep b x
theorem Ext.refl (T : Tw) : Ext T T := ⟨rfl, fun _ _ _ _ _ _ _ => rfl⟩
theorem Ext.trans {T T' T'' : Tw} (h : Ext T T') (k : Ext T' T'') : Ext T T'' := by
  refine ⟨k.1.trans h.1, fun b x h0 h1 h2 h3 hr => ?_⟩
  have e := h.2 b x h0 h1 h2 h3 hr
  rw [← e]
  exact k.2 b x h0 (by rw [h.1]; exact h1) h2 (by rw [h.1]; exact h3) (by rw [e]; exact hr)
theorem Sf.ext {T T' : Tw} (hw : Wf T) (h : Ext T T') : ∀ (m : Nat) (b : Int) (p : List Int), 0 ≤ b → b + m = T.n → Pm T.n p → Sf T.n T.rep m b p → Sf T'.n T'.rep m b p
  | 0, b, p, h0, hb, hp, hs => by rw [Sf] at hs ⊢; rw [h.1]; exact hs
  | m + 1, b, p, h0, hb, hp, hs => by
    obtain ⟨h1, h2⟩ := hs; have hx := hp.rng h0 (show b < T.n by omega); have e := h.2 b _ h0 (by omega) hx.1 hx.2 h1
    refine ⟨by rw [e]; exact h1, ?_⟩; rw [e]
    exact Sf.ext hw h m (b + 1) _ (by omega) (by omega) (hp.mul (hw.rep b _ h0 (by omega) hx.1 hx.2 h1).1.inv) h2
theorem Sf.same {T T' : Tw} (hw' : Wf T') (h : Ext T T') (b0 : Int) (hn : ∀ b x : Int, b0 ≤ b → b < T.n → 0 ≤ x → x < T.n → T.rep b x = [] → T'.rep b x = []) : ∀ (m : Nat) (b : Int) (p : List Int), 0 ≤ b → b0 ≤ b → b + m = T.n → Pm T.n p → Sf T'.n T'.rep m b p → Sf T.n T.rep m b p
  | 0, b, p, h0, hb0, hb, hp, hs => by rw [Sf] at hs ⊢; rw [← h.1]; exact hs
  | m + 1, b, p, h0, hb0, hb, hp, hs => by
    obtain ⟨h1, h2⟩ := hs; have hx := hp.rng h0 (show b < T.n by omega); have h1' : T.rep b (ap p b) ≠ [] := fun e => h1 (hn b _ hb0 (by omega) hx.1 hx.2 e)
    have e := h.2 b _ h0 (by omega) hx.1 hx.2 h1'; rw [e] at h2; have hr := hw'.rep b _ h0 (by rw [h.1]; omega) hx.1 (by rw [h.1]; exact hx.2) h1; rw [e, h.1] at hr
    exact ⟨h1', Sf.same hw' h b0 hn m (b + 1) _ (by omega) (by omega) (by omega) (hp.mul hr.1.inv) h2⟩
theorem sf_id {T : Tw} (hw : Wf T) : ∀ (m : Nat) (b : Int), 0 ≤ b → b + m = T.n → Sf T.n T.rep m b (idL T.n)
  | 0, b, h0, hb => rfl
  | m + 1, b, h0, hb => by
    have hi : ap (idL T.n) b = b := ap_id h0 (by omega)
    refine ⟨by rw [hi, hw.one b h0 (by omega)]; intro e; have := congrArg List.length e; rw [idL_len] at this; simp at this; omega, ?_⟩; rw [hi, hw.one b h0 (by omega), mul_inv (Pm_id _)]
    exact sf_id hw m (b + 1) (by omega) (by omega)
theorem rep_set {T : Tw} (hw : Wf T) {b x : Int} (h0 : 0 ≤ b) (h1 : b < T.n) (h2 : 0 ≤ x) (h3 : x < T.n) (p : List Int) {c y : Int} (k0 : 0 ≤ c) (k2 : 0 ≤ y) :
    (T.setRep b x p).rep c y = if c = b ∧ y = x then p else T.rep c y := by
  have hl : b.toNat < T.reps.length := by rw [hw.lr]; omega
  have hl2 : x.toNat < (T.row b).length := by rw [hw.lrr b h0 h1]; omega
  simp only [Tw.rep, Tw.setRep, Tw.row]
  by_cases e : c = b
  · subst e
    have : (T.reps.set c.toNat ((T.reps.getD c.toNat []).set x.toNat p)).getD c.toNat [] = (T.reps.getD c.toNat []).set x.toNat p := by
      rw [List.getD_eq_getElem?_getD, List.getElem?_set_self hl]; rfl
    rw [this]
    by_cases e2 : y = x
    · subst e2; rw [List.getD_eq_getElem?_getD, List.getElem?_set_self (show y.toNat < (T.reps.getD c.toNat []).length from hl2)]; simp
    rw [List.getD_eq_getElem?_getD, List.getElem?_set_ne (by omega), ← List.getD_eq_getElem?_getD, if_neg (fun k => e2 k.2)]
  have : (T.reps.set b.toNat ((T.reps.getD b.toNat []).set x.toNat p)).getD c.toNat [] = T.reps.getD c.toNat [] := by
    rw [List.getD_eq_getElem?_getD, List.getElem?_set_ne (by omega), ← List.getD_eq_getElem?_getD]
  rw [this, if_neg (fun k => e k.1)]
theorem gen_add {T : Tw} (hw : Wf T) {b : Int} (h0 : 0 ≤ b) (h1 : b < T.n) (p : List Int) {c : Int} (k0 : 0 ≤ c) : (T.addGen b p).gen c = if c = b then T.gen b ++ [p] else T.gen c := by
  have hl : b.toNat < T.gens.length := by rw [hw.lg]; omega
  simp only [Tw.gen, Tw.addGen]
  by_cases e : c = b
  · subst e
    rw [List.getD_eq_getElem?_getD, List.getElem?_set_self hl, if_pos rfl]; rfl
  rw [List.getD_eq_getElem?_getD, List.getElem?_set_ne (by omega), ← List.getD_eq_getElem?_getD, if_neg e]
theorem Wf.setRep {T : Tw} (hw : Wf T) {b x : Int} (h0 : 0 ≤ b) (h1 : b < T.n) (h2 : 0 ≤ x) (h3 : x < T.n) {p : List Int} (hp : Pm T.n p) (hf : Fx b p) (hx : ap p b = x) (hn : T.rep b x = []) : Wf (T.setRep b x p) := by
  have hl : b.toNat < T.reps.length := by rw [hw.lr]; omega
  have hne : ∀ c : Int, 0 ≤ c → c < T.n → ¬ (c = b ∧ c = x) := by
    rintro c k0 k1 ⟨rfl, rfl⟩; have := hw.one c k0 k1; rw [hn] at this; have := congrArg List.length this; rw [idL_len] at this; simp at this; omega
  refine ⟨hw.n1, hw.n64, by simp [Tw.setRep, hw.lr], ?_, hw.lg, ?_, ?_, hw.gen⟩
  · intro c k0 k1
    show (List.getD (T.reps.set b.toNat ((T.row b).set x.toNat p)) c.toNat []).length = T.n
    by_cases e : c = b
    · subst e; rw [List.getD_eq_getElem?_getD, List.getElem?_set_self hl, Option.getD_some, List.length_set]
      exact hw.lrr c k0 k1
    rw [List.getD_eq_getElem?_getD, List.getElem?_set_ne (by omega), ← List.getD_eq_getElem?_getD]
    exact hw.lrr c k0 k1
  · intro c k0 k1
    rw [rep_set hw h0 h1 h2 h3 p k0 k0, if_neg (hne c k0 k1)]
    exact hw.one c k0 k1
  · intro c y k0 k1 k2 k3
    rw [rep_set hw h0 h1 h2 h3 p k0 k2]
    by_cases e : c = b ∧ y = x
    · rw [if_pos e]; intro _; obtain ⟨rfl, rfl⟩ := e
      exact ⟨hp, hf, hx⟩
    rw [if_neg e]
    exact hw.rep c y k0 k1 k2 k3
theorem Wf.addGen {T : Tw} (hw : Wf T) {b : Int} (h0 : 0 ≤ b) (h1 : b < T.n) {p : List Int} (hp : Pm T.n p) (hf : Fx b p) : Wf (T.addGen b p) := by
  refine ⟨hw.n1, hw.n64, hw.lr, hw.lrr, by simp [Tw.addGen, hw.lg], hw.one, hw.rep, ?_⟩
  intro c k0 k1 g
  rw [gen_add hw h0 h1 p k0]
  by_cases e : c = b
  · subst e
    rw [if_pos rfl, List.mem_append, List.mem_singleton]; rintro (h | rfl)
    · exact hw.gen c k0 k1 g h
    · exact ⟨hp, hf⟩
  rw [if_neg e]; exact hw.gen c k0 k1 g
end Go.Proofs.Ytjjlhbgpdncpcaa.P.M
end
namespace Go.Proofs.Ytjjlhbgpdncpcaa.P
open Go.RowKit Go.Proofs.YtjjlhbgpdncpcaaW.PrintWords Go.Proofs.YtjjlhbgpdncpcaaW.PrintLast Go.Proofs.YtjjlhbgpdncpcaaW.PrintMore
set_option linter.unusedVariables false
set_option linter.unusedSimpArgs false
set_option maxHeartbeats 8000000
set_option maxRecDepth 100000
section
attribute [local go_sem] max2_int min2_int max_two min_two max_three min_three max_four min_four

end
section
attribute [local go_sem] max2_int min2_int max_two min_two max_three min_three max_four min_four

end
section
attribute [local go_sem] max2_int min2_int max_two min_two max_three min_three max_four min_four

end
section
attribute [local go_sem] max2_int min2_int max_two min_two max_three min_three max_four min_four

end
section
attribute [local go_sem] max2_int min2_int max_two min_two max_three min_three max_four min_four

end
section
attribute [local go_sem] max2_int min2_int max_two min_two max_three min_three max_four min_four

end
end Go.Proofs.Ytjjlhbgpdncpcaa.P
section
set_option linter.unusedVariables false
set_option linter.unusedSimpArgs false
namespace Go.Proofs.Ytjjlhbgpdncpcaa.P.M
open Go.RowKit Go.Proofs.YtjjlhbgpdncpcaaW.PrintWords Go.Proofs.YtjjlhbgpdncpcaaW.PrintLast Go.Proofs.YtjjlhbgpdncpcaaW.PrintMore
def Tells {α : Type} (g : Nat → Option α) (v : α) : Prop := ∃ k0, ∀ k, k0 ≤ k → g k = some v
theorem Tells.now {α : Type} {v : α} : Tells (fun _ => some v) v := ⟨0, fun _ _ => rfl⟩
theorem Tells.now' {α : Type} {v u : α} (h : v = u) : Tells (fun _ => some v) u := ⟨0, fun _ _ => by rw [h]⟩
theorem Tells.eq {α : Type} {g : Nat → Option α} {v u : α} (h : Tells g v) (e : v = u) : Tells g u := e ▸ h
theorem Tells.step {α : Type} {g F : Nat → Option α} {v : α} (hg : ∀ k, g (k + 1) = F k) (h : Tells F v) : Tells g v := by
  obtain ⟨k0, h⟩ := h
  refine ⟨k0 + 1, fun k hk => ?_⟩
  obtain ⟨j, rfl⟩ : ∃ j, k = j + 1 := ⟨k - 1, by omega⟩
  rw [hg, h j (by omega)]
theorem Tells.shift {α : Type} {g : Nat → Option α} {v : α} (h : Tells (fun k => g (k + 1)) v) : Tells g v := Tells.step (fun _ => rfl) h
theorem Tells.bind {α β : Type} {g : Nat → Option α} {h : Nat → α → Option β} {a : α} {v : β} (h1 : Tells g a) (h2 : Tells (fun k => h k a) v) : Tells (fun k => (g k).bind (fun x => h k x)) v := by
  obtain ⟨k1, h1⟩ := h1
  obtain ⟨k2, h2⟩ := h2
  refine ⟨max k1 k2, fun k hk => ?_⟩
  show (g k).bind _ = _
  rw [h1 k (by omega)]
  exact h2 k (by omega)
theorem Tells.pos {α : Type} {c : Prop} [Decidable c] {A B : Nat → Option α} {v : α} (hc : c) (h : Tells A v) : Tells (fun k => if c then A k else B k) v := by simpa only [if_pos hc] using h
theorem Tells.neg {α : Type} {c : Prop} [Decidable c] {A B : Nat → Option α} {v : α} (hc : ¬ c) (h : Tells B v) : Tells (fun k => if c then A k else B k) v := by simpa only [if_neg hc] using h
theorem Tells.mono {α : Type} {g : Nat → Option α} {v : α} (hm : ∀ k, LeO (g k) (g (k + 1))) {k : Nat} (h : g k = some v) : Tells g v := by
  refine ⟨k, fun j hj => ?_⟩
  obtain ⟨d, rfl⟩ : ∃ d, j = k + d := ⟨j - k, by omega⟩
  clear hj
  induction d with
  | zero => exact h
  | succ d ih => exact hm _ _ ih
theorem Tells.some {α : Type} {g : Nat → Option α} {v : α} (h : Tells g v) : ∃ k, g k = some v := h.elim fun k hk => ⟨k, hk k (Nat.le_refl _)⟩
theorem rd_ap (l : List Int) (i : Int) : rd l i = ap l i := rfl
theorem w64 {n : Int} (h0 : -9223372036854775808 ≤ n) (h1 : n ≤ 9223372036854775807) : wrap64 n = n := by unfold wrap64; omega
theorem ap_set {l : List Int} {i : Int} (v : Int) (h0 : 0 ≤ i) (h1 : i < (l.length : Int)) {j : Int} (k0 : 0 ≤ j) : ap (l.set i.toNat v) j = if j = i then v else ap l j := by
  have hi : i.toNat < l.length := by omega
  by_cases e : j = i
  · subst e
    rw [if_pos rfl, ap, List.getD_eq_getElem?_getD, List.getElem?_set_self hi]; rfl
  rw [if_neg e, ap, List.getD_eq_getElem?_getD, List.getElem?_set_ne (by omega), ← List.getD_eq_getElem?_getD]; rfl
def Rg (n : Nat) (p : List Int) : Prop := ∀ x ∈ p, 0 ≤ x ∧ x < (n : Int)
theorem Rg.ap {n : Nat} {p : List Int} (h : Rg n p) {i : Int} (h0 : 0 ≤ i) (h1 : i < (p.length : Int)) : 0 ≤ M.ap p i ∧ M.ap p i < n := h _ (ap_mem h0 h1)
theorem Pm.rg {n : Nat} {p : List Int} (h : Pm n p) : Rg n p := h.2.1
theorem then_loop (p q : List Int) (hl : p.length ≤ 4611686018427387904) (hr : Rg q.length p) : ∀ (m i : Nat) (x : List Int), i + m = p.length → x.length = p.length → (∀ j : Int, 0 ≤ j → j < i → ap x j = ap q (ap p j)) → Tells (fun k => perm_then.l0 k q x p (p.length : Int) (i : Int)) (mulL p q)
  | 0, i, x, hi, hx, hv => by
    refine Tells.shift ?_; simp only [perm_then.l0]
    refine Tells.neg (by omega) (Tells.now' ?_)
    exact ap_ext hx (mul_len p q) (fun j h0 h1 => by rw [hv j h0 (by omega), ap_mul h0 h1])
  | m + 1, i, x, hi, hx, hv => by
    refine Tells.shift ?_; simp only [perm_then.l0]; have hr' := hr.ap (i := (i : Int)) (by omega) (by omega); simp only [rd_ap]
    refine Tells.pos (by omega) (Tells.pos (by omega) (Tells.pos (by omega) (Tells.pos hr'.1 (Tells.pos hr'.2 (Tells.pos (by omega) ?_))))); rw [w64 (n := (i : Int) + 1) (by omega) (by omega)]
    refine then_loop p q hl hr m (i + 1) _ (by omega) (by rw [List.length_set]; exact hx) (fun j h0 h1 => ?_); rw [ap_set _ (by omega) (by omega) h0]
    by_cases e : j = i
    · rw [if_pos e, e]
    · rw [if_neg e, hv j h0 (by omega)]
theorem then_tells (p q : List Int) (hl : p.length ≤ 1000000) (hr : Rg q.length p) : Tells (fun k => perm_then.f k p q) (mulL p q) := by
  unfold perm_then.f
  refine Tells.pos (by omega) (Tells.pos (by omega) ?_)
  exact then_loop p q (by omega) hr p.length 0 _ (by omega) (by simp) (fun j h0 h1 => by omega)
theorem identity_loop (n : Nat) (hl : n ≤ 4611686018427387904) : ∀ (m i : Nat) (x : List Int), i + m = n → x.length = n → (∀ j : Int, 0 ≤ j → j < i → ap x j = j) → Tells (fun k => perm_identity.l0 k x (n : Int) (i : Int)) (idL n)
  | 0, i, x, hi, hx, hv => by
    refine Tells.shift ?_; simp only [perm_identity.l0]
    refine Tells.neg (by omega) (Tells.now' ?_)
    exact ap_ext hx (idL_len n) (fun j h0 h1 => by rw [hv j h0 (by omega), ap_id h0 h1])
  | m + 1, i, x, hi, hx, hv => by
    refine Tells.shift ?_; simp only [perm_identity.l0]
    refine Tells.pos (by omega) (Tells.pos (by omega) (Tells.pos (by omega) ?_)); rw [w64 (n := (i : Int) + 1) (by omega) (by omega)]
    refine identity_loop n hl m (i + 1) _ (by omega) (by rw [List.length_set]; exact hx) (fun j h0 h1 => ?_); rw [ap_set _ (by omega) (by omega) h0]
    by_cases e : j = i
    · rw [if_pos e, e]
    · rw [if_neg e, hv j h0 (by omega)]
theorem identity_tells (n : Nat) (hl : n ≤ 1000000) : Tells (fun k => perm_identity.f k (n : Int)) (idL n) := by
  unfold perm_identity.f
  refine Tells.pos (by omega) (Tells.pos (by omega) (Tells.bind Tells.now ?_))
  rw [List.length_replicate, show ((n : Int)).toNat = n by omega]
  exact identity_loop n (by omega) n 0 _ (by omega) (by simp) (fun j h0 h1 => by omega)
theorem inv_end {n : Nat} {p x : List Int} (hp : Pm n p) (hx : x.length = n) (hv : ∀ j : Int, 0 ≤ j → j < n → ap x (ap p j) = j) : x = invL p := by
  refine ap_ext hx hp.inv.1 (fun i h0 h1 => ?_)
  rw [hp.ap_inv h0 h1]
  have h := hp.idx h0 h1
  conv => lhs; rw [← h.2]
  exact hv _ (by omega) (by omega)
theorem inverse_loop {n : Nat} {p : List Int} (hp : Pm n p) (hl : n ≤ 4611686018427387904) : ∀ (m i : Nat) (x : List Int), i + m = n → x.length = n → (∀ j : Int, 0 ≤ j → j < i → ap x (ap p j) = j) → Tells (fun k => perm_inverse.l0 k x p (n : Int) (i : Int)) (invL p)
  | 0, i, x, hi, hx, hv => by
    refine Tells.shift ?_; simp only [perm_inverse.l0]
    exact Tells.neg (by omega) (Tells.now' (inv_end hp hx (fun j h0 h1 => hv j h0 (by omega))))
  | m + 1, i, x, hi, hx, hv => by
    refine Tells.shift ?_; simp only [perm_inverse.l0]; have hr := hp.rng (i := (i : Int)) (by omega) (by omega); have hpl := hp.1; simp only [rd_ap]
    refine Tells.pos (by omega) (Tells.pos (by omega) (Tells.pos (by omega) (Tells.pos hr.1 (Tells.pos (by omega) ?_)))); rw [w64 (n := (i : Int) + 1) (by omega) (by omega)]
    refine inverse_loop hp hl m (i + 1) _ (by omega) (by rw [List.length_set]; exact hx) (fun j h0 h1 => ?_); have hj := hp.rng (i := j) h0 (by omega); rw [ap_set _ hr.1 (by omega) hj.1]
    by_cases e : j = i
    · rw [if_pos (by rw [e]), e]
    · rw [if_neg (fun k => e (hp.inj h0 (by omega) (by omega) (by omega) k)), hv j h0 (by omega)]
theorem inverse_tells {n : Nat} {p : List Int} (hp : Pm n p) (hl : n ≤ 1000000) : Tells (fun k => perm_inverse.f k p) (invL p) := by
  unfold perm_inverse.f
  have hpl := hp.1
  refine Tells.pos (by omega) (Tells.pos (by omega) ?_)
  rw [hpl]
  exact inverse_loop hp (by omega) n 0 _ (by omega) (by simp) (fun j h0 h1 => by omega)
theorem take_succ_ap {x y : List Int} {i : Nat} (hx : i < x.length) (hy : i < y.length) : x.take (i + 1) = y.take (i + 1) ↔ x.take i = y.take i ∧ ap x i = ap y i := by
  rw [ap_nat, ap_nat, List.take_succ_eq_append_getElem hx, List.take_succ_eq_append_getElem hy, List.getD_eq_getElem?_getD, List.getD_eq_getElem?_getD, List.getElem?_eq_getElem hx, List.getElem?_eq_getElem hy, Option.getD_some, Option.getD_some]
  constructor
  · intro h
    have := List.append_inj h (by rw [List.length_take, List.length_take]; omega)
    exact ⟨this.1, by simpa using this.2⟩
  · rintro ⟨h1, h2⟩; rw [h1, h2]
theorem same_loop (x y : List Int) (hxy : x.length = y.length) (hl : x.length ≤ 4611686018427387904) : ∀ (m i : Nat), i + m = x.length → x.take i = y.take i → Tells (fun k => r09_SameInts.l0 k x y (i : Int)) (decide (x = y))
  | 0, i, hi, ht => by
    refine Tells.shift ?_; simp only [r09_SameInts.l0]
    refine Tells.neg (by omega) (Tells.now' ?_); rw [List.take_of_length_le (by omega), List.take_of_length_le (by omega)] at ht
    exact (decide_eq_true ht).symm
  | m + 1, i, hi, ht => by
    refine Tells.shift ?_; simp only [r09_SameInts.l0]; simp only [rd_ap]
    refine Tells.pos (by omega) (Tells.pos (by omega) (Tells.pos (by omega) ?_))
    by_cases e : ap x i = ap y i
    · refine Tells.pos e ?_; rw [w64 (n := (i : Int) + 1) (by omega) (by omega)]
      exact same_loop x y hxy hl m (i + 1) (by omega) ((take_succ_ap (by omega) (by omega)).2 ⟨ht, e⟩)
    · refine Tells.neg e (Tells.now' ?_)
      refine (decide_eq_false (fun h => e ?_)).symm; rw [h]
theorem SameInts_tells (x y : List Int) (hl : x.length ≤ 4611686018427387904) : Tells (fun k => r09_SameInts.f k x y) (decide (x = y)) := by
  unfold r09_SameInts.f
  by_cases h : x.length = y.length
  · exact Tells.pos (by omega) (same_loop x y h hl x.length 0 (by omega) rfl)
  exact Tells.neg (by omega) (Tells.now' (decide_eq_false (fun e => h (by rw [e]))).symm)
end Go.Proofs.Ytjjlhbgpdncpcaa.P.M
end
section
set_option linter.unusedVariables false
set_option linter.unusedSimpArgs false
namespace Go.Proofs.Ytjjlhbgpdncpcaa.P.M
open Go.RowKit Go.Proofs.YtjjlhbgpdncpcaaW.PrintWords Go.Proofs.YtjjlhbgpdncpcaaW.PrintLast Go.Proofs.YtjjlhbgpdncpcaaW.PrintMore
structure Ok (n : Nat) (T : Tw) : Prop where
  wf : Wf T
  hn : T.n = n
def Gn (n : Nat) (T : Tw) (b : Int) : List Int → Prop := Cl n (fun g => g ∈ T.gen b)
structure Lvn (n : Nat) (T : Tw) (b : Int) : Prop where
  reps : ∀ x : Int, 0 ≤ x → x < n → T.rep b x ≠ [] → Gn n T b (T.rep b x)
  gens : ∀ g ∈ T.gen (b + 1), Gn n T b g
  pairs : ∀ x : Int, 0 ≤ x → x < n → T.rep b x ≠ [] → ∀ g ∈ T.gen b, Sf n T.rep (n - b).toNat b (mulL (T.rep b x) g)
def Compn (n : Nat) (T : Tw) (b : Int) : Prop := ∀ c : Int, b ≤ c → c < n → Lvn n T c
theorem Compn.comp {n : Nat} {T : Tw} {b : Int} (hn : T.n = n) (h : Compn n T b) : Comp T b := by
  subst hn
  intro c h1 h2
  have := h c h1 h2
  exact ⟨this.reps, this.gens, this.pairs⟩
theorem sfI {n : Nat} {T : Tw} (h : Ok n T) {b : Int} (h0 : 0 ≤ b) (h1 : b ≤ n) (hc : Compn n T b) {p : List Int} (hp : Pm n p) (hf : Fx b p) : Sf n T.rep (n - b).toNat b p ↔ Gn n T b p := by
  obtain ⟨hw, hn⟩ := h
  have := hc.comp hn
  subst hn
  exact sf_iff hw _ b h0 (by omega) this p hp hf
theorem Ok.rep {n : Nat} {T : Tw} (h : Ok n T) {b x : Int} (h0 : 0 ≤ b) (h1 : b < n) (h2 : 0 ≤ x) (h3 : x < n) (hr : T.rep b x ≠ []) : Pm n (T.rep b x) ∧ Fx b (T.rep b x) ∧ ap (T.rep b x) b = x := by
  obtain ⟨hw, rfl⟩ := h; exact hw.rep b x h0 h1 h2 h3 hr
theorem Ok.gpm {n : Nat} {T : Tw} (h : Ok n T) {b : Int} (h0 : 0 ≤ b) (h1 : b ≤ n) : ∀ g, g ∈ T.gen b → Pm n g := by
  obtain ⟨hw, rfl⟩ := h; exact hw.gpm h0 h1
theorem Ok.gfx {n : Nat} {T : Tw} (h : Ok n T) {b : Int} (h0 : 0 ≤ b) (h1 : b ≤ n) {p : List Int} (hp : Gn n T b p) : Pm n p ∧ Fx b p := by
  obtain ⟨hw, rfl⟩ := h; exact hw.gfx h0 h1 hp
theorem Ok.sfx {n : Nat} {T T' : Tw} (h : Ok n T) (hx : Ext T T') {m : Nat} {b : Int} {p : List Int} (h0 : 0 ≤ b) (hb : b + m = n) (hp : Pm n p) (hs : Sf n T.rep m b p) : Sf n T'.rep m b p := by
  obtain ⟨hw, rfl⟩ := h
  have := Sf.ext hw hx m b p h0 hb hp hs
  rwa [hx.1] at this
theorem Ok.id {n : Nat} {T : Tw} (h : Ok n T) {b : Int} (h0 : 0 ≤ b) (h1 : b < n) : T.rep b b = idL n := by
  obtain ⟨hw, rfl⟩ := h; exact hw.one b h0 h1
theorem idL_ne {n : Nat} (h : 1 ≤ n) : idL n ≠ [] := by
  intro e
  have := congrArg List.length e
  rw [idL_len] at this
  simp at this; omega
theorem Pm.ne {n : Nat} {p : List Int} (hp : Pm n p) (h : 1 ≤ n) : p ≠ [] := by
  intro e
  have := hp.1
  rw [e] at this
  simp at this; omega
theorem strip_fx {n : Nat} {b : Int} (h0 : 0 ≤ b) (h1 : b < n) {q r : List Int} (hq : Pm n q) (hqf : Fx b q) (hr : Pm n r) (hrf : Fx b r) (e : ap r b = ap q b) : Pm n (mulL q (invL r)) ∧ Fx (b + 1) (mulL q (invL r)) := by
  refine ⟨hq.mul hr.inv, (hqf.mul hq hr.inv (Int.le_of_lt h1) (hrf.inv hr (Int.le_of_lt h1))).up ?_⟩
  rw [hq.ap_mul h0 h1, ← e, ← hr.ap_mul h0 h1, mul_inv hr, ap_id h0 h1]
theorem strip_tells {n : Nat} {T : Tw} (h : Ok n T) (h64 : n ≤ 64) : ∀ (m : Nat) (b : Int) (p : List Int), 0 ≤ b → b + m = n → Pm n p → Fx b p → ∃ e : Int, Tells (fun k => stripL k T p b) e ∧ (e = n ↔ Sf n T.rep m b p)
  | 0, b, p, h0, hb, hp, hf => by
    have hn := h.hn
    refine ⟨n, Tells.shift ?_, ?_⟩
    · simp only [stripL]
      exact Tells.neg (by omega) (Tells.now' (by omega))
    · rw [Sf]
      refine ⟨fun _ => ?_, fun _ => rfl⟩; have : b = n := by omega
      subst this
      exact hf.all hp
  | m + 1, b, p, h0, hb, hp, hf => by
    have hn := h.hn; have hx := hp.rng h0 (show b < n by omega); have hpl := hp.1
    by_cases hr : T.rep b (ap p b) = []
    · refine ⟨b, Tells.shift ?_, ?_⟩
      · simp only [stripL, rd_ap]
        exact Tells.pos (by omega) (Tells.pos (by omega) (Tells.pos (by omega) (Tells.pos hx.1 (Tells.pos (by omega) (Tells.pos hr Tells.now)))))
      · rw [Sf]
        exact ⟨fun e => by omega, fun e => absurd hr e.1⟩
    · have hR := h.rep h0 (show b < n by omega) hx.1 hx.2 hr; have hs := strip_fx h0 (show b < n by omega) hp hf hR.1 hR.2.1 hR.2.2; obtain ⟨e, ht, he⟩ := strip_tells h h64 m (b + 1) _ (by omega) (by omega) hs.1 hs.2
      refine ⟨e, Tells.shift ?_, ?_⟩
      · simp only [stripL, rd_ap]; have hil := hR.1.inv.1
        exact Tells.pos (by omega) (Tells.pos (by omega) (Tells.pos (by omega) (Tells.pos hx.1 (Tells.pos (by omega) (Tells.neg hr (Tells.bind (inverse_tells hR.1 (by omega)) (Tells.bind (then_tells _ _ (by omega) (by rw [hil]; exact hp.rg)) ht)))))))
      · rw [he, Sf]
        exact ⟨fun k => ⟨hr, k⟩, fun k => k.2⟩
theorem countP_le {α : Type} {P Q : α → Bool} : ∀ {l : List α}, (∀ x ∈ l, P x = true → Q x = true) → l.countP P ≤ l.countP Q
  | [], _ => by simp
  | a :: l, h => by
    have ih := countP_le (l := l) (fun x hx => h x (by simp [hx])); have ha := h a (by simp); simp only [List.countP_cons]
    cases hP : P a
    · simp; omega
    · simp [ha hP]; omega
theorem countP_lt {α : Type} {P Q : α → Bool} : ∀ {l : List α}, (∀ x ∈ l, P x = true → Q x = true) → (∃ x ∈ l, Q x = true ∧ P x = false) → l.countP P < l.countP Q
  | [], _, ⟨x, hx, _⟩ => by simp at hx
  | a :: l, h, ⟨x, hx, hq, hp⟩ => by
    have hl := countP_le (l := l) (P := P) (Q := Q) (fun x hx => h x (by simp [hx])); simp only [List.countP_cons]
    rcases List.mem_cons.1 hx with rfl | hx
    · simp [hq, hp]; omega
    · have ih := countP_lt (l := l) (fun x hx => h x (by simp [hx])) ⟨x, hx, hq, hp⟩; have ha := h a (by simp)
      cases hP : P a
      · simp; omega
      · simp [ha hP]; omega
def cnt (n : Nat) (T : Tw) (b : Int) : Nat := (List.range (n * n)).countP (fun i => decide (b ≤ ((i / n : Nat) : Int) ∧ T.rep ((i / n : Nat) : Int) ((i % n : Nat) : Int) ≠ []))
theorem cnt_max (n : Nat) (T : Tw) (b : Int) : cnt n T b ≤ n * n := by
  have := List.countP_le_length (p := (fun i => decide (b ≤ ((i / n : Nat) : Int) ∧ T.rep ((i / n : Nat) : Int) ((i % n : Nat) : Int) ≠ []))) (l := List.range (n * n))
  simpa [cnt] using this
theorem cell_of {n i : Nat} (h : i < n * n) : i / n < n ∧ i % n < n := by
  have hn : 0 < n := by
    cases n with
    | zero => simp at h
    | succ n => omega
  exact ⟨Nat.div_lt_of_lt_mul h, Nat.mod_lt _ hn⟩
theorem cnt_le {n : Nat} {T T' : Tw} (hn : T.n = n) (hx : Ext T T') (b : Int) : cnt n T b ≤ cnt n T' b := by
  refine countP_le (fun i hi h => ?_)
  have hc := cell_of (List.mem_range.1 hi)
  simp only [decide_eq_true_eq] at h ⊢
  refine ⟨h.1, ?_⟩
  rw [hx.2 _ _ (Int.natCast_nonneg _) (by rw [hn]; exact Int.ofNat_lt.2 hc.1) (Int.natCast_nonneg _) (by rw [hn]; exact Int.ofNat_lt.2 hc.2) h.2]
  exact h.2
theorem cnt_lt {n : Nat} {T T' : Tw} (hn : T.n = n) (hx : Ext T T') {b c x : Int} (hb0 : 0 ≤ b) (hb : b ≤ c) (h1 : c < n) (h2 : 0 ≤ x) (h3 : x < n) (e : T.rep c x = []) (e' : T'.rep c x ≠ []) : cnt n T b < cnt n T' b := by
  refine countP_lt (fun i hi h => ?_) ?_
  · have hc := cell_of (List.mem_range.1 hi)
    simp only [decide_eq_true_eq] at h ⊢
    refine ⟨h.1, ?_⟩; rw [hx.2 _ _ (Int.natCast_nonneg _) (by rw [hn]; exact Int.ofNat_lt.2 hc.1) (Int.natCast_nonneg _) (by rw [hn]; exact Int.ofNat_lt.2 hc.2) h.2]
    exact h.2
  · have hn0 : 0 < n := by omega
    have hd : (c.toNat * n + x.toNat) / n = c.toNat := by
      rw [Nat.add_comm, Nat.add_mul_div_right _ _ hn0, Nat.div_eq_of_lt (by omega)]; omega
    have hm : (c.toNat * n + x.toNat) % n = x.toNat := by
      rw [Nat.add_comm, Nat.add_mul_mod_self_right, Nat.mod_eq_of_lt (by omega)]
    have hl : c.toNat * n + x.toNat < n * n := by
      have : (c.toNat + 1) * n ≤ n * n := Nat.mul_le_mul_right n (by omega); rw [Nat.add_mul] at this; omega
    refine ⟨c.toNat * n + x.toNat, List.mem_range.2 hl, ?_⟩; rw [hd, hm, show ((c.toNat : Nat) : Int) = c by omega, show ((x.toNat : Nat) : Int) = x by omega]; simp [hb, e, e']
def nil (n : Nat) (T : Tw) (b : Int) : Nat := (List.range n).countP (fun x => decide (T.rep b ((x : Nat) : Int) = []))
theorem nil_le {n : Nat} {T T' : Tw} (hn : T.n = n) (hx : Ext T T') {b : Int} (h0 : 0 ≤ b) (h1 : b < n) : nil n T' b ≤ nil n T b := by
  refine countP_le (fun i hi h => ?_)
  have := List.mem_range.1 hi
  simp only [decide_eq_true_eq] at h ⊢
  apply Classical.byContradiction
  intro hc
  rw [hx.2 _ _ h0 (by omega) (by omega) (by omega) hc] at h
  exact hc h
theorem nil_lt {n : Nat} {T T' : Tw} (hn : T.n = n) (hx : Ext T T') {b x : Int} (h0 : 0 ≤ b) (h1 : b < n) (h2 : 0 ≤ x) (h3 : x < n) (e : T.rep b x = []) (e' : T'.rep b x ≠ []) : nil n T' b < nil n T b := by
  refine countP_lt (fun i hi h => ?_) ⟨x.toNat, List.mem_range.2 (by omega), ?_⟩
  · have := List.mem_range.1 hi
    simp only [decide_eq_true_eq] at h ⊢
    apply Classical.byContradiction; intro hc; rw [hx.2 _ _ h0 (by omega) (by omega) (by omega) hc] at h
    exact hc h
  · rw [show ((x.toNat : Nat) : Int) = x by omega]
    simp [e, e']
def Bd (n : Nat) (T : Tw) (b : Int) : Prop := ∀ c : Int, b ≤ c → c < n → (T.gen c).length ≤ cnt n T c
def Low (T T' : Tw) (b : Int) : Prop := ∀ c : Int, 0 ≤ c → c < b → (∀ x : Int, 0 ≤ x → T'.rep c x = T.rep c x) ∧ T'.gen c = T.gen c
theorem Low.refl (T : Tw) (b : Int) : Low T T b := fun _ _ _ => ⟨fun _ _ => rfl, rfl⟩
theorem Low.trans {T T' T'' : Tw} {b : Int} (h : Low T T' b) (k : Low T' T'' b) : Low T T'' b := fun c h0 h1 => ⟨fun x hx => ((k c h0 h1).1 x hx).trans ((h c h0 h1).1 x hx), (k c h0 h1).2.trans (h c h0 h1).2⟩
structure Pre (n : Nat) (T : Tw) (b : Int) : Prop where
  ok : Ok n T
  comp : Compn n T (b + 1)
  reps : ∀ x : Int, 0 ≤ x → x < n → T.rep b x ≠ [] → Gn n T b (T.rep b x)
  gens : ∀ g ∈ T.gen (b + 1), Gn n T b g
  bd : Bd n T (b + 1)
structure Stp (n : Nat) (b : Int) (T T' : Tw) : Prop where
  pre : Pre n T' b
  ext : Ext T T'
  low : Low T T' b
  gen : T'.gen b = T.gen b
  new : ∀ x : Int, 0 ≤ x → x < n → T.rep b x = [] → T'.rep b x ≠ [] → ∀ g ∈ T.gen b, Sf n T'.rep (n - b).toNat b (mulL (T'.rep b x) g)
structure Ins (n : Nat) (b : Int) (T T' : Tw) (q : List Int) : Prop where
  ok : Ok n T'
  comp : Compn n T' b
  ext : Ext T T'
  low : Low T T' b
  bd : Bd n T' b
  sf : Sf n T'.rep (n - b).toNat b q
  gens : ∀ g ∈ T'.gen b, g ∈ T.gen b ∨ g = q
  keep : ∀ g ∈ T.gen b, g ∈ T'.gen b
def InsOk (n : Nat) (b : Int) : Prop := ∀ (T : Tw) (q : List Int), Ok n T → Compn n T b → Bd n T b → Pm n q → Fx b q → ∃ T', Tells (fun k => insertL k T q b) T' ∧ Ins n b T T' q
theorem Stp.refl {n : Nat} {b : Int} {T : Tw} (h : Pre n T b) : Stp n b T T := ⟨h, Ext.refl T, Low.refl T b, rfl, fun x _ _ e e' => absurd e e'⟩
theorem Stp.trans {n : Nat} {b : Int} {T T' T'' : Tw} (hT : T.n = n) (h0 : 0 ≤ b) (h1 : b < n) (h : Stp n b T T') (k : Stp n b T' T'') : Stp n b T T'' := by
  refine ⟨k.pre, h.ext.trans k.ext, h.low.trans k.low, k.gen.trans h.gen, fun x h2 h3 e e' g hg => ?_⟩
  by_cases hm : T'.rep b x = []
  · exact k.new x h2 h3 hm e' g (by rw [h.gen]; exact hg)
  have hT' : T'.n = n := h.pre.ok.hn
  have e2 := k.ext.2 b x h0 (by omega) h2 (by omega) hm
  rw [e2]
  have hr := h.pre.ok.rep h0 h1 h2 h3 hm
  have hgp := h.pre.ok.gpm h0 (Int.le_of_lt h1) g (by rw [h.gen]; exact hg)
  exact h.pre.ok.sfx k.ext h0 (by omega) (hr.1.mul hgp) (h.new x h2 h3 e hm g hg)
theorem Gn.eq {n : Nat} {T T' : Tw} {b : Int} (e : T'.gen b = T.gen b) {p : List Int} (h : Gn n T b p) : Gn n T' b p := by unfold Gn; rw [e]; exact h
theorem Ins.stp {n : Nat} {b : Int} {T T' : Tw} {q : List Int} (h0 : 0 ≤ b) (h1 : b < n) (hp : Pre n T b) (hq : Gn n T b q) (h : Ins n (b + 1) T T' q) : Stp n b T T' := by
  have hl := h.low b h0 (by omega)
  refine ⟨⟨h.ok, h.comp, ?_, ?_, h.bd⟩, h.ext, fun c k0 k1 => h.low c k0 (by omega), hl.2, ?_⟩
  · intro x h2 h3 hr
    rw [hl.1 x h2] at hr ⊢
    exact Gn.eq hl.2 (hp.reps x h2 h3 hr)
  · intro g hg
    rcases h.gens g hg with k | rfl
    · exact Gn.eq hl.2 (hp.gens g k)
    · exact Gn.eq hl.2 hq
  · intro x h2 h3 e e'
    rw [hl.1 x h2] at e'
    exact absurd e e'
theorem visit_ok {n : Nat} (h64 : n ≤ 64) {b : Int} (h0 : 0 ≤ b) (h1 : b < n) (hI : InsOk n (b + 1)) (hgl : ∀ T : Tw, Pre n T b → (T.gen b).length ≤ 1000000 → True) (L : Nat) : ∀ N : Nat, ∀ (T : Tw) (q : List Int), nil n T b < N → Pre n T b → Gn n T b q → (T.gen b).length ≤ 1000000 → ∃ T', Tells (fun k => visitL k T q b) T' ∧ Stp n b T T' ∧ Sf n T'.rep (n - b).toNat b q
  | 0, T, q, hN, _, _, _ => by omega
  | N + 1, T, q, hN, hp, hq, hl => by
    have hT := hp.ok.hn; have hqp := hp.ok.gfx h0 (Int.le_of_lt h1) hq; have hx := hqp.1.rng h0 h1; have hql := hqp.1.1
    by_cases hr : T.rep b (ap q b) = []
    · -- a new representative
      have hw1 : Ok n (T.setRep b (ap q b) q) := ⟨Wf.setRep hp.ok.wf h0 (by omega) hx.1 (by omega) (by rw [hT]; exact hqp.1) hqp.2 rfl hr, hT⟩; have hrs : ∀ c y : Int, 0 ≤ c → 0 ≤ y → (T.setRep b (ap q b) q).rep c y = if c = b ∧ y = ap q b then q else T.rep c y := fun c y k0 k1 => rep_set hp.ok.wf h0 (by omega) hx.1 (by omega) q k0 k1
      have hx1 : Ext T (T.setRep b (ap q b) q) := ⟨rfl, fun c y k0 k1 k2 k3 e => by
        rw [hrs c y k0 k2, if_neg]; rintro ⟨rfl, rfl⟩
        exact e hr⟩
      have hup : ∀ c y : Int, b < c → 0 ≤ y → (T.setRep b (ap q b) q).rep c y = T.rep c y := fun c y k0 k1 => by rw [hrs c y (by omega) k1, if_neg (by omega)]
      have hself : (T.setRep b (ap q b) q).rep b (ap q b) = q := by rw [hrs b _ h0 hx.1, if_pos ⟨rfl, rfl⟩]
      have hp1 : Pre n (T.setRep b (ap q b) q) b := by
        refine ⟨hw1, fun c k1 k2 => ?_, ?_, hp.gens, fun c k1 k2 => Nat.le_trans (hp.bd c k1 k2) (cnt_le hT hx1 c)⟩
        · have hl := hp.comp c k1 k2
          refine ⟨fun x j0 j1 e => ?_, hl.gens, fun x j0 j1 e g hg => ?_⟩
          · rw [hup c x (by omega) j0] at e ⊢
            exact hl.reps x j0 j1 e
          · rw [hup c x (by omega) j0] at e ⊢; have hr' := hp.ok.rep (by omega) k2 j0 j1 e; have hg' := hp.ok.gpm (b := c) (by omega) (Int.le_of_lt k2) g hg
            exact hp.ok.sfx hx1 (by omega) (by omega) (hr'.1.mul hg') (hl.pairs x j0 j1 e g hg)
        · intro x j0 j1 e; rw [hrs b x h0 j0] at e ⊢
          by_cases k : b = b ∧ x = ap q b
          · rw [if_pos k]; exact hq
          · rw [if_neg k] at e ⊢; exact hp.reps x j0 j1 e
      have hnl : nil n (T.setRep b (ap q b) q) b < N := by
        have := nil_lt hT hx1 h0 h1 hx.1 hx.2 hr (by rw [hself]; exact hqp.1.ne (by omega)); omega
      -- the loop over the generators; its visits are smaller
      have loop : ∀ (m j : Nat) (T1 : Tw), T1.gen b = T.gen b → j + m = (T.gen b).length → nil n T1 b < N → Pre n T1 b → ∃ T', Tells (fun k => visitLoop k T1 q b (j : Int)) T' ∧ Stp n b T1 T' ∧ ∀ i : Nat, j ≤ i → ∀ hi : i < (T.gen b).length, Sf n T'.rep (n - b).toNat b (mulL q (T.gen b)[i]) := by
        intro m
        induction m with
        | zero =>
          intro j T1 hge hj hN1 hp1; have hT1 := hp1.ok.hn
          refine ⟨T1, Tells.shift ?_, Stp.refl hp1, fun i h2 h3 => by omega⟩; simp only [visitLoop, hge]
          exact Tells.pos (by omega) (Tells.neg (by omega) Tells.now)
        | succ m ih =>
          intro j T1 hge hj hN1 hp1; have hT1 := hp1.ok.hn; have hjl : j < (T.gen b).length := by omega
          have hgm := hp.ok.gpm h0 (Int.le_of_lt h1) _ (List.getElem_mem hjl); have hgq : Gn n T1 b (mulL q (T.gen b)[j]) := Gn.eq hge (Cl.mul hq (List.getElem_mem hjl)); obtain ⟨T2, ht2, hs2, hf2⟩ := visit_ok h64 h0 h1 hI hgl L N T1 _ hN1 hp1 hgq (by rw [hge]; exact hl); obtain ⟨T3, ht3, hs3, hf3⟩ := ih (j + 1) T2 (hs2.gen.trans hge) (by omega) (Nat.lt_of_le_of_lt (nil_le hT1 hs2.ext h0 h1) hN1) hs2.pre
          refine ⟨T3, Tells.shift ?_, hs2.trans hT1 h0 h1 hs3, fun i h2 h3 => ?_⟩
          · simp only [visitLoop, hge]; have e : rd_L1 (T.gen b) (j : Int) = (T.gen b)[j] := by simp [rd_L1, hjl]
            rw [e]; have hgl := hgm.1
            exact Tells.pos (by omega) (Tells.pos (by omega) (Tells.bind (then_tells _ _ (by omega) (by rw [hgl]; exact hqp.1.rg)) (Tells.bind ht2 ht3)))
          · by_cases e : i = j
            · subst e
              exact hs2.pre.ok.sfx hs3.ext h0 (by omega) (hqp.1.mul hgm) hf2
            · exact hf3 i (by omega) h3
      obtain ⟨T', ht, hs, hf⟩ := loop (T.gen b).length 0 (T.setRep b (ap q b) q) rfl (by omega) hnl hp1; have hext := hx1.trans hs.ext
      have hrq : T'.rep b (ap q b) = q := by
        rw [hs.ext.2 b _ h0 (by rw [hw1.hn]; exact h1) hx.1 (by rw [hw1.hn]; exact hx.2) (by rw [hself]; exact hqp.1.ne (by omega)), hself]
      refine ⟨T', Tells.shift ?_, ⟨hs.pre, hext, fun c k0 k1 => ?_, hs.gen, fun x j0 j1 e e' g hg => ?_⟩, ?_⟩
      · simp only [visitL, rd_ap]
        exact Tells.pos (by omega) (Tells.pos (by omega) (Tells.pos hx.1 (Tells.pos (by omega) (Tells.pos (by omega) (Tells.pos hr ht)))))
      · have := hs.low c k0 k1
        refine ⟨fun x hx0 => ?_, this.2⟩; rw [this.1 x hx0, hrs c x k0 hx0, if_neg (by omega)]
      · by_cases k : x = ap q b
        · subst k; rw [hrq]; obtain ⟨i, hi, rfl⟩ := List.getElem_of_mem hg
          exact hf i (by omega) hi
        · exact hs.new x j0 j1 (by rw [hrs b x h0 j0, if_neg (by omega)]; exact e) e' g hg
      · rw [show (n - b).toNat = (n - (b + 1)).toNat + 1 by omega, Sf, hrq]
        refine ⟨hqp.1.ne (by omega), ?_⟩; rw [mul_inv hqp.1]; have hok := hs.pre.ok; have := sf_id hok.wf (n - (b + 1)).toNat (b + 1) (by omega) (by rw [hok.hn]; omega); rw [hok.hn] at this
        exact this
    · have hR := hp.ok.rep h0 h1 hx.1 hx.2 hr; have hs := strip_fx h0 h1 hqp.1 hqp.2 hR.1 hR.2.1 hR.2.2; have hpm := hp.ok.gpm h0 (Int.le_of_lt h1); have hG : Gn n T b (mulL q (invL (T.rep b (ap q b)))) := Cl.mul' hpm hq (Cl.inv hpm (hp.reps _ hx.1 hx.2 hr)); obtain ⟨T', ht, hi⟩ := hI T _ hp.ok hp.comp hp.bd hs.1 hs.2
      refine ⟨T', Tells.shift ?_, hi.stp h0 h1 hp hG, ?_⟩
      · simp only [visitL, rd_ap]; have hil := hR.1.inv.1
        exact Tells.pos (by omega) (Tells.pos (by omega) (Tells.pos hx.1 (Tells.pos (by omega) (Tells.pos (by omega) (Tells.neg hr (Tells.bind (inverse_tells hR.1 (by omega)) (Tells.bind (then_tells _ _ (by omega) (by rw [hil]; exact hqp.1.rg)) ht)))))))
      · rw [show (n - b).toNat = (n - (b + 1)).toNat + 1 by omega, Sf]; have e := hi.ext.2 b _ h0 (by omega) hx.1 (by omega) hr; rw [e]
        exact ⟨hr, hi.sf⟩
end Go.Proofs.Ytjjlhbgpdncpcaa.P.M
end
section
set_option linter.unusedVariables false
set_option linter.unusedSimpArgs false
namespace Go.Proofs.Ytjjlhbgpdncpcaa.P.M
open Go.RowKit Go.Proofs.YtjjlhbgpdncpcaaW.PrintWords Go.Proofs.YtjjlhbgpdncpcaaW.PrintLast Go.Proofs.YtjjlhbgpdncpcaaW.PrintMore
theorem Gn.up {n : Nat} {T T' : Tw} {b : Int} (hp : ∀ g ∈ T'.gen b, Pm n g) (h : ∀ g ∈ T.gen b, g ∈ T'.gen b) {p : List Int} (hg : Gn n T b p) : Gn n T' b p :=
  Cl.sub hp (fun g hg => Cl.gen hp (h g hg)) hg
theorem insert_step {n : Nat} (h64 : n ≤ 64) {b : Int} (h0 : 0 ≤ b) (h1 : b < n) (hI : InsOk n (b + 1)) : InsOk n b := by
  intro T p hok hc hb hp hf
  have hT := hok.hn
  obtain ⟨e, hte, hie⟩ := strip_tells hok h64 (n - b).toNat b p h0 (by omega) hp hf
  by_cases he : e = n
  · -- it sifts: nothing is done
    refine ⟨T, Tells.shift ?_, ⟨hok, hc, Ext.refl T, Low.refl T b, hb, hie.1 he, fun g hg => .inl hg, fun g hg => hg⟩⟩; simp only [insertL]
    exact Tells.bind hte (Tells.pos (by omega) Tells.now)
  have hns : ¬ Sf n T.rep (n - b).toNat b p := fun h => he (hie.2 h)
  have hlen : (T.gen b).length ≤ 4096 := by
    have h2 := hb b (Int.le_refl _) h1; have h3 := cnt_max n T b; have : n * n ≤ 64 * 64 := Nat.mul_le_mul h64 h64; omega
  have ok1 : Ok n (T.addGen b p) := ⟨Wf.addGen hok.wf h0 (by omega) (by rw [hT]; exact hp) hf, hT⟩
  have g1 : (T.addGen b p).gen b = T.gen b ++ [p] := by rw [gen_add hok.wf h0 (by omega) p h0, if_pos rfl]
  have g2 : ∀ c : Int, 0 ≤ c → c ≠ b → (T.addGen b p).gen c = T.gen c := fun c k0 k1 => by rw [gen_add hok.wf h0 (by omega) p k0, if_neg k1]
  have pm1 := ok1.gpm h0 (Int.le_of_lt h1)
  have upb : ∀ {x : List Int}, Gn n T b x → Gn n (T.addGen b p) b x := fun h => Gn.up pm1 (fun g hg => by rw [g1]; exact List.mem_append_left _ hg) h
  have hb1 := hc b (Int.le_refl _) h1
  have pre1 : Pre n (T.addGen b p) b := by
    refine ⟨ok1, fun c k1 k2 => ?_, fun x j0 j1 e => upb (hb1.reps x j0 j1 e), fun g hg => ?_, fun c k1 k2 => ?_⟩
    · have hl := hc c (by omega) k2
      refine ⟨fun x j0 j1 e => Gn.eq (g2 c (by omega) (by omega)) (hl.reps x j0 j1 e), fun g hg => ?_, fun x j0 j1 e g hg => ?_⟩
      · rw [g2 (c + 1) (by omega) (by omega)] at hg
        exact Gn.eq (g2 c (by omega) (by omega)) (hl.gens g hg)
      · rw [g2 c (by omega) (by omega)] at hg
        exact hl.pairs x j0 j1 e g hg
    · rw [g2 (b + 1) (by omega) (by omega)] at hg
      exact upb (hb1.gens g hg)
    · rw [g2 c (by omega) (by omega)]
      exact hb c (by omega) k2
  have ext1 : Ext T (T.addGen b p) := ⟨rfl, fun _ _ _ _ _ _ _ => rfl⟩
  have hrow : (T.row b).length = n := by have := hok.wf.lrr b h0 (by omega); omega
  have loop : ∀ (m i : Nat) (T2 : Tw), i + m = n → Pre n T2 b → T2.gen b = T.gen b ++ [p] → Ext T T2 → ∃ T', Tells (fun k => insertLoop k T2 (T.row b) p b (i : Int)) T' ∧ Stp n b T2 T' ∧ ∀ x : Int, (i : Int) ≤ x → x < n → T.rep b x ≠ [] → Sf n T'.rep (n - b).toNat b (mulL (T.rep b x) p) := by
    intro m
    induction m with
    | zero =>
      intro i T2 hi hp2 hg2 hx2
      refine ⟨T2, Tells.shift ?_, Stp.refl hp2, fun x k1 k2 => by omega⟩; simp only [insertLoop]
      exact Tells.neg (by omega) Tells.now
    | succ m ih =>
      intro i T2 hi hp2 hg2 hx2; have hT2 := hp2.ok.hn; have e0 : rd_L1 (T.row b) (i : Int) = T.rep b (i : Int) := rfl
      by_cases hr : T.rep b (i : Int) = []
      · obtain ⟨T', ht, hs, hx⟩ := ih (i + 1) T2 (by omega) hp2 hg2 hx2
        refine ⟨T', Tells.shift ?_, hs, fun x k1 k2 k3 => ?_⟩
        · simp only [insertLoop, e0]
          exact Tells.pos (by omega) (Tells.pos hr ht)
        · by_cases e : x = i
          · rw [e] at k3; exact absurd hr k3
          · exact hx x (by omega) k2 k3
      · have hR := hok.rep h0 h1 (x := (i : Int)) (by omega) (by omega) hr; have hr2 := hx2.2 b (i : Int) h0 (by omega) (by omega) (by omega) hr
        have hG : Gn n T2 b (mulL (T.rep b (i : Int)) p) := by
          have := hp2.reps (i : Int) (by omega) (by omega) (by rw [hr2]; exact hr); rw [hr2] at this
          exact Cl.mul this (by rw [hg2]; simp)
        obtain ⟨T3, ht3, hs3, hf3⟩ := visit_ok h64 h0 h1 hI (fun _ _ _ => trivial) 0 (nil n T2 b + 1) T2 _ (by omega) hp2 hG (by rw [hg2, List.length_append]; simp; omega); obtain ⟨T', ht, hs, hx⟩ := ih (i + 1) T3 (by omega) hs3.pre (hs3.gen.trans hg2) (hx2.trans hs3.ext)
        refine ⟨T', Tells.shift ?_, hs3.trans hT2 h0 h1 hs, fun x k1 k2 k3 => ?_⟩
        · simp only [insertLoop, e0]; have h2 := hR.1.1; have h3 := hp.1
          exact Tells.pos (by omega) (Tells.neg hr (Tells.bind (then_tells _ _ (by omega) (by rw [h3]; exact hR.1.rg)) (Tells.bind ht3 ht)))
        · by_cases e : x = i
          · subst e
            exact hs3.pre.ok.sfx hs.ext h0 (by omega) (hR.1.mul hp) hf3
          · exact hx x (by omega) k2 k3
  obtain ⟨T', ht, hs, hx⟩ := loop n 0 (T.addGen b p) (by omega) pre1 g1 ext1
  have hext := ext1.trans hs.ext
  have hgen : T'.gen b = T.gen b ++ [p] := hs.gen.trans g1
  have hcomp : Compn n T' b := by
    intro c k1 k2
    by_cases e : c = b
    · subst e
      refine ⟨hs.pre.reps, hs.pre.gens, fun x j0 j1 e g hg => ?_⟩
      by_cases hm : T.rep c x = []
      · exact hs.new x j0 j1 hm e g (by rw [g1, ← hgen]; exact hg)
      · have e2 := hext.2 c x h0 (by omega) j0 (by omega) hm; have hR := hok.rep h0 h1 j0 j1 hm; rw [e2]; rw [hgen, List.mem_append, List.mem_singleton] at hg
        rcases hg with hg | rfl
        · exact hok.sfx hext h0 (by omega) (hR.1.mul (hok.gpm h0 (Int.le_of_lt h1) g hg)) (hb1.pairs x j0 j1 hm g hg)
        · exact hx x (by omega) j1 hm
    · exact hs.pre.comp c (by omega) k2
  have hsf : Sf n T'.rep (n - b).toNat b p := (sfI hs.pre.ok h0 (Int.le_of_lt h1) hcomp hp hf).2 (Cl.gen (hs.pre.ok.gpm h0 (Int.le_of_lt h1)) (by rw [hgen]; simp))
  refine ⟨T', Tells.shift ?_, ⟨hs.pre.ok, hcomp, hext, fun c k0 k1 => ?_, fun c k1 k2 => ?_, hsf, fun g hg => ?_, fun g hg => by rw [hgen]; exact List.mem_append_left _ hg⟩⟩
  · simp only [insertL]
    exact Tells.bind hte (Tells.neg (by omega) (Tells.pos h0 (Tells.pos (by omega) (Tells.pos (by omega) ht))))
  · have := hs.low c k0 k1
    exact ⟨this.1, this.2.trans (g2 c k0 (by omega))⟩
  · by_cases e : c = b
    · subst e
      have hlt : cnt n T c < cnt n T' c := by
        apply Classical.byContradiction; intro hcon
        apply hns; have hw' := hs.pre.ok.wf
        have := Sf.same hw' hext c (fun d x j0 j1 j2 j3 e => by
          apply Classical.byContradiction; intro hne
          exact hcon (cnt_lt hT hext h0 j0 (by omega) j2 (by omega) e hne)) (n - c).toNat c p h0 (Int.le_refl _) (by omega) (by rw [hT]; exact hp) (by rw [hs.pre.ok.hn]; exact hsf)
        rwa [hT] at this
      have := hb c (Int.le_refl _) h1; rw [hgen, List.length_append]; simp only [List.length_singleton]; omega
    exact hs.pre.bd c (by omega) k2
  · rw [hgen, List.mem_append, List.mem_singleton] at hg
    exact hg
theorem insert_end {n : Nat} (h64 : n ≤ 64) : InsOk n (n : Int) := by
  intro T p hok hc hb hp hf
  have hT := hok.hn
  obtain ⟨e, hte, hie⟩ := strip_tells hok h64 0 (n : Int) p (by omega) (by omega) hp hf
  have hs : Sf n T.rep 0 (n : Int) p := hf.all hp
  refine ⟨T, Tells.shift ?_, ⟨hok, hc, Ext.refl T, Low.refl T _, hb, ?_, fun g hg => .inl hg, fun g hg => hg⟩⟩
  · simp only [insertL]
    exact Tells.bind hte (Tells.pos (by have := hie.2 hs; omega) Tells.now)
  · rw [show ((n : Int) - n).toNat = 0 by omega]; exact hs
theorem insert_ok {n : Nat} (h64 : n ≤ 64) : ∀ (m : Nat) (b : Int), 0 ≤ b → b + m = n → InsOk n b
  | 0, b, h0, hb => by
    have : b = n := by omega
    subst this
    exact insert_end h64
  | m + 1, b, h0, hb => insert_step h64 h0 (by omega) (insert_ok h64 m (b + 1) (by omega) (by omega))
theorem newTower_tells {n : Nat} (h1 : 1 ≤ n) (h64 : n ≤ 64) : ∃ T, Tells (fun k => newTowerL k n) T ∧ Ok n T ∧ Compn n T 0 ∧ Bd n T 0 ∧ ∀ b, T.gen b = [] := by
  have hne := idL_ne h1
  have key : ∀ T : Tw, T = { n := n, reps := (List.range n).map (fun b => (List.replicate n []).set b (idL n)), gens := List.replicate n [] } → Ok n T ∧ Compn n T 0 ∧ Bd n T 0 ∧ ∀ b, T.gen b = [] := by
    intro T hT; have hn : T.n = n := by rw [hT]
    have hrow : ∀ b : Int, 0 ≤ b → b < n → T.row b = (List.replicate n []).set b.toNat (idL n) := by
      intro b h0 h1; have : b.toNat < n := by omega
      rw [hT]; simp [Tw.row, List.getD_eq_getElem?_getD, this]
    have hrep : ∀ b x : Int, 0 ≤ b → b < n → 0 ≤ x → x < n → T.rep b x = if x = b then idL n else [] := by
      intro b x h0 h1 h2 h3; rw [Tw.rep, hrow b h0 h1]
      by_cases e : x = b
      · subst e; rw [if_pos rfl, List.getD_eq_getElem?_getD, List.getElem?_set_self (by simp; omega)]; rfl
      · rw [if_neg e, List.getD_eq_getElem?_getD, List.getElem?_set_ne (by omega), List.getElem?_replicate]
        split <;> rfl
    have hgen : ∀ b, T.gen b = [] := by
      intro b; rw [hT]; simp only [Tw.gen, List.getD_eq_getElem?_getD, List.getElem?_replicate]
      split <;> rfl
    have hok : Ok n T := by
      refine ⟨⟨by omega, by omega, by rw [hT]; simp, fun b h0 h1 => ?_, by rw [hT]; simp, fun b h0 h1 => ?_, fun b x h0 h1 h2 h3 hr => ?_, fun b h0 h1 g hg => ?_⟩, hn⟩
      · rw [hrow b h0 (by omega), hn]; simp
      · rw [hrep b b h0 (by omega) h0 (by omega), if_pos rfl, hn]
      · rw [hrep b x h0 (by omega) h2 (by omega)] at hr ⊢
        by_cases e : x = b
        · subst e; rw [if_pos rfl, hn]
          exact ⟨Pm_id n, Fx.id n (by omega), ap_id h0 (by omega)⟩
        · rw [if_neg e] at hr; exact absurd rfl hr
      · rw [hgen b] at hg; simp at hg
    refine ⟨hok, fun c k1 k2 => ⟨fun x j0 j1 e => ?_, fun g hg => ?_, fun x j0 j1 e g hg => ?_⟩, fun c k1 k2 => ?_, hgen⟩
    · rw [hrep c x (by omega) k2 j0 j1] at e ⊢
      by_cases e2 : x = c
      · rw [if_pos e2]; exact .one
      · rw [if_neg e2] at e; exact absurd rfl e
    · rw [hgen] at hg; simp at hg
    · rw [hgen] at hg; simp at hg
    · rw [hgen]; simp
  refine ⟨_, ?_, key _ rfl⟩
  unfold newTowerL
  exact Tells.pos ⟨h1, h64⟩ (Tells.bind (identity_tells n (by omega)) (Tells.neg hne Tells.now))
theorem tower_loop {n : Nat} (h1 : 1 ≤ n) (h64 : n ≤ 64) (l : List (List Int)) (hl : ∀ p ∈ l, Pm n p) : ∀ (m i : Nat) (T : Tw), i + m = l.length → Ok n T → Compn n T 0 → Bd n T 0 → (∀ g ∈ T.gen 0, g ∈ l) → (∀ g ∈ l.take i, Gn n T 0 g) →
    ∃ T', Tells (fun k => buildLoop k T l (i : Int)) T' ∧ Ok n T' ∧ Compn n T' 0 ∧ (∀ g ∈ T'.gen 0, g ∈ l) ∧ (∀ g ∈ l, Gn n T' 0 g)
  | 0, i, T, hi, hok, hc, hb, hg, ht => by
    refine ⟨T, Tells.shift ?_, hok, hc, hg, fun g hgl => ht g (by rw [List.take_of_length_le (by omega)]; exact hgl)⟩; simp only [buildLoop]
    exact Tells.neg (by omega) Tells.now
  | m + 1, i, T, hi, hok, hc, hb, hg, ht => by
    have hil : i < l.length := by omega
    have hp := hl _ (List.getElem_mem hil); obtain ⟨T1, ht1, hI⟩ := insert_ok h64 n 0 (by omega) (by omega) T l[i] hok hc hb hp (fun j k0 k1 => by omega); have hpm1 := hI.ok.gpm (b := 0) (by omega) (by omega)
    obtain ⟨T', ht', h2, h3, h4, h5⟩ := tower_loop h1 h64 l hl m (i + 1) T1 (by omega) hI.ok hI.comp hI.bd (fun g hg1 => by
      rcases hI.gens g hg1 with k | rfl
      · exact hg g k
      · exact List.getElem_mem hil) (fun g hg1 => by
      rw [List.take_succ_eq_append_getElem hil, List.mem_append, List.mem_singleton] at hg1
      rcases hg1 with k | rfl
      · exact Gn.up hpm1 hI.keep (ht g k)
      · exact (sfI hI.ok (Int.le_refl _) (by omega) hI.comp hp (fun j k0 k1 => by omega)).1 hI.sf)
    refine ⟨T', Tells.shift ?_, h2, h3, h4, h5⟩; simp only [buildLoop]; have e : rd_L1 l (i : Int) = l[i] := by simp [rd_L1, hil]
    rw [e]
    exact Tells.pos (by omega) (Tells.neg (hp.ne h1) (Tells.bind ht1 ht'))
theorem tower_tells {n : Nat} (h1 : 1 ≤ n) (h64 : n ≤ 64) (l : List (List Int)) (hl : ∀ p ∈ l, Pm n p) :
    ∃ T0 T, Tells (fun k => newTowerL k n) T0 ∧ Tells (fun k => buildLoop k T0 l 0) T ∧ Ok n T ∧ Compn n T 0 ∧ ∀ p, Gn n T 0 p ↔ Cl n (fun g => g ∈ l) p := by
  obtain ⟨T0, ht0, hok, hc, hb, hg⟩ := newTower_tells h1 h64
  obtain ⟨T, ht, h2, h3, h4, h5⟩ := tower_loop h1 h64 l hl l.length 0 T0 (by omega) hok hc hb (fun g h => by rw [hg] at h; simp at h) (fun g h => by simp at h)
  refine ⟨T0, T, ht0, ht, h2, h3, fun p => ⟨fun h => ?_, fun h => ?_⟩⟩
  · exact Cl.sub hl (fun g hgg => Cl.gen hl (h4 g hgg)) h
  · exact Cl.sub (h2.gpm (by omega) (by omega)) h5 h
def Lx (n : Nat) (p q : List Int) : Prop := ∃ i : Int, 0 ≤ i ∧ i < n ∧ (∀ j : Int, 0 ≤ j → j < i → ap p j = ap q j) ∧ ap p i < ap q i
theorem best_tells {n : Nat} {T : Tw} (hok : Ok n T) {c : Int} (h0 : 0 ≤ c) (h1 : c < n) {p : List Int} (hp : Pm n p) : ∀ (m : Nat) (x best : Int), 0 ≤ x → x + m = n → 0 ≤ best → best < n → T.rep c best ≠ [] → (∀ y : Int, 0 ≤ y → y < x → T.rep c y ≠ [] → ap p best ≤ ap p y) →
    ∃ e : Int, Tells (fun k => bestL k T c p x best) e ∧ 0 ≤ e ∧ e < n ∧ T.rep c e ≠ [] ∧ ∀ y : Int, 0 ≤ y → y < n → T.rep c y ≠ [] → ap p e ≤ ap p y
  | 0, x, best, hx, hm, hb0, hb1, hr, hy => by
    have hT := hok.hn
    refine ⟨best, Tells.shift ?_, hb0, hb1, hr, fun y k0 k1 => hy y k0 (by omega)⟩; simp only [bestL]
    exact Tells.neg (by omega) Tells.now
  | m + 1, x, best, hx, hm, hb0, hb1, hr, hy => by
    have hT := hok.hn; have hpl := hp.1
    by_cases hz : T.rep c x = []
    · obtain ⟨e, ht, h2⟩ := best_tells hok h0 h1 hp m (x + 1) best (by omega) (by omega) hb0 hb1 hr (fun y k0 k1 k2 => by
        by_cases e : y = x
        · rw [e] at k2; exact absurd hz k2
        · exact hy y k0 (by omega) k2)
      refine ⟨e, Tells.shift ?_, h2⟩; simp only [bestL]
      exact Tells.pos (by omega) (Tells.pos hz ht)
    · by_cases hlt : ap p x < ap p best
      · obtain ⟨e, ht, h2⟩ := best_tells hok h0 h1 hp m (x + 1) x (by omega) (by omega) hx (by omega) hz (fun y k0 k1 k2 => by
          by_cases e : y = x
          · rw [e]; exact Int.le_refl _
          · have := hy y k0 (by omega) k2; omega)
        refine ⟨e, Tells.shift ?_, h2⟩; simp only [bestL, rd_ap]
        exact Tells.pos (by omega) (Tells.neg hz (Tells.pos (by omega) (Tells.pos hb0 (Tells.pos (by omega) (Tells.pos hlt ht)))))
      · obtain ⟨e, ht, h2⟩ := best_tells hok h0 h1 hp m (x + 1) best (by omega) (by omega) hb0 hb1 hr (fun y k0 k1 k2 => by
          by_cases e : y = x
          · rw [e]; omega
          · exact hy y k0 (by omega) k2)
        refine ⟨e, Tells.shift ?_, h2⟩; simp only [bestL, rd_ap]
        exact Tells.pos (by omega) (Tells.neg hz (Tells.pos (by omega) (Tells.pos hb0 (Tells.pos (by omega) (Tells.neg hlt ht)))))
theorem Gn.sub {n : Nat} {T : Tw} (hok : Ok n T) {b : Int} (h0 : 0 ≤ b) (h1 : b < n) (hc : Compn n T b) {p : List Int} (h : Gn n T (b + 1) p) : Gn n T b p :=
  Cl.sub (hok.gpm h0 (Int.le_of_lt h1)) (hc b (Int.le_refl _) h1).gens h
theorem canon_tells {n : Nat} {T : Tw} (hok : Ok n T) (h64 : n ≤ 64) : ∀ (m : Nat) (c : Int) (p : List Int), 0 ≤ c → c + m = n → Compn n T c → Pm n p →
    ∃ q, Tells (fun k => canonL k T p c) q ∧ (∃ s, Gn n T c s ∧ q = mulL s p) ∧ ∀ s, Gn n T c s → q = mulL s p ∨ Lx n q (mulL s p)
  | 0, c, p, h0, hm, hc, hp => by
    have hT := hok.hn; have hcn : c = n := by omega
    subst hcn
    refine ⟨p, Tells.shift ?_, ⟨idL n, .one, (id_mul hp).symm⟩, fun s hs => .inl ?_⟩
    · simp only [canonL]
      exact Tells.neg (by omega) Tells.now
    · have := hok.gfx (by omega) (by omega) hs; rw [this.2.all this.1, id_mul hp]
  | m + 1, c, p, h0, hm, hc, hp => by
    have hT := hok.hn; have h1 : c < n := by omega
    have hid := hok.id h0 h1; obtain ⟨x0, htb, hx0, hx1, hr, hmin⟩ := best_tells hok h0 h1 hp n 0 c (by omega) (by omega) h0 h1 (by rw [hid]; exact idL_ne (by omega)) (fun y k0 k1 => by omega); have hR := hok.rep h0 h1 hx0 hx1 hr; have hl := hc c (Int.le_refl _) h1; have hc1 : Compn n T (c + 1) := fun d k1 k2 => hc d (by omega) k2
    obtain ⟨q, htq, ⟨s1, hs1, hq1⟩, hleast⟩ := canon_tells hok h64 m (c + 1) (mulL (T.rep c x0) p) (by omega) (by omega) hc1 (hR.1.mul hp); have hs1p := hok.gfx (b := c + 1) (by omega) (by omega) hs1
    refine ⟨q, Tells.shift ?_, ⟨mulL s1 (T.rep c x0), Cl.mul' (hok.gpm h0 (Int.le_of_lt h1)) (Gn.sub hok h0 h1 hc hs1) (hl.reps _ hx0 hx1 hr), ?_⟩, fun s hs => ?_⟩
    · simp only [canonL]; have h2 := hR.1.1; have h3 := hp.1
      exact Tells.pos (by omega) (Tells.pos h0 (Tells.bind htb (Tells.pos hx0 (Tells.pos (by omega) (Tells.bind (then_tells _ _ (by omega) (by rw [h3]; exact hR.1.rg)) htq)))))
    · rw [hq1, mul_assoc hs1p.1 hR.1 hp]
    · have hsp := hok.gfx h0 (Int.le_of_lt h1) hs; have hsf := (sfI hok h0 (Int.le_of_lt h1) hc hsp.1 hsp.2).2 hs; rw [show (n - c).toNat = m + 1 by omega, Sf] at hsf; have hx := hsp.1.rng h0 h1; have hRx := hok.rep h0 h1 hx.1 hx.2 hsf.1; have hfx := strip_fx h0 h1 hsp.1 hsp.2 hRx.1 hRx.2.1 hRx.2.2; have hin : Gn n T (c + 1) (mulL s (invL (T.rep c (ap s c)))) := (sfI hok (by omega) (by omega) hc1 hfx.1 hfx.2).1 (by rw [show (n - (c + 1)).toNat = m by omega]; exact hsf.2)
      by_cases e : ap s c = x0
      · rw [e] at hin; have := hleast _ hin; rw [← mul_assoc (hsp.1.mul hR.1.inv) hR.1 hp, mul_inv_cancel hsp.1 hR.1] at this
        exact this
      · right
        have hlt : ap p x0 < ap p (ap s c) := by
          have := hmin _ hx.1 hx.2 hsf.1; have hne : ap p x0 ≠ ap p (ap s c) := fun k => e (hp.inj hx0 hx1 hx.1 hx.2 k).symm
          omega
        refine ⟨c, h0, h1, fun j k0 k1 => ?_, ?_⟩
        · rw [hq1, hs1p.1.ap_mul k0 (by omega), hs1p.2 j k0 (by omega), hR.1.ap_mul k0 (by omega), hR.2.1 j k0 k1, hsp.1.ap_mul k0 (by omega), hsp.2 j k0 k1]
        · rw [hq1, hs1p.1.ap_mul h0 h1, hs1p.2 c h0 (by omega), hR.1.ap_mul h0 h1, hR.2.2, hsp.1.ap_mul h0 h1]
          exact hlt
end Go.Proofs.Ytjjlhbgpdncpcaa.P.M
end
section
set_option linter.unusedVariables false
set_option linter.unusedSimpArgs false
namespace Go.Proofs.Ytjjlhbgpdncpcaa.P.M
open Go.RowKit Go.Proofs.YtjjlhbgpdncpcaaW.PrintWords Go.Proofs.YtjjlhbgpdncpcaaW.PrintLast Go.Proofs.YtjjlhbgpdncpcaaW.PrintMore
theorem checkL_zero {p : List Int} : checkL p = 0 ↔ Pm p.length p ∧ 1 ≤ p.length ∧ p.length ≤ 64 := by
  unfold checkL
  by_cases h1 : p.length < 1 ∨ 64 < p.length
  · rw [if_pos h1]; constructor
    · intro h; omega
    · rintro ⟨_, h2, h3⟩; omega
  rw [if_neg h1]
  by_cases h2 : ∃ x ∈ p, x < 0 ∨ (p.length : Int) ≤ x
  · rw [if_pos h2]; constructor
    · intro h; omega
    · rintro ⟨h3, _⟩; obtain ⟨x, hx, hb⟩ := h2; have := h3.2.1 x hx; omega
  rw [if_neg h2]
  by_cases h3 : p.Nodup
  · rw [if_pos h3]
    refine ⟨fun _ => ⟨⟨rfl, fun x hx => ?_, h3⟩, by omega, by omega⟩, fun _ => rfl⟩; have : ¬ (x < 0 ∨ (p.length : Int) ≤ x) := fun k => h2 ⟨x, hx, k⟩
    omega
  rw [if_neg h3]; constructor
  · intro h; omega
  · rintro ⟨h4, _⟩; exact absurd h4.2.2 h3
theorem nodup_iff_ap {p : List Int} : p.Nodup ↔ ∀ i j : Nat, j < i → i < p.length → ap p i ≠ ap p j := by
  rw [List.Nodup, List.pairwise_iff_getElem]
  constructor
  · intro h i j hj hi e
    have := h j i (by omega) hi hj; rw [ap_nat, ap_nat, List.getD_eq_getElem?_getD, List.getD_eq_getElem?_getD, List.getElem?_eq_getElem hi, List.getElem?_eq_getElem (show j < p.length by omega)] at e
    exact this e.symm
  · intro h i j hi hj hij e
    refine h j i hij hj ?_; rw [ap_nat, ap_nat, List.getD_eq_getElem?_getD, List.getD_eq_getElem?_getD, List.getElem?_eq_getElem hi, List.getElem?_eq_getElem hj]
    exact e.symm
theorem rck2 (p : List Int) (hl : p.length ≤ 64) (i : Nat) (hi : i < p.length) (v : Int) (hv : (∀ j : Nat, j < i → ap p i ≠ ap p j) → Tells (fun k => r30_Check.l1 k p (p.length : Int) ((i : Int) + 1)) v) (hd : (∃ j : Nat, j < i ∧ ap p i = ap p j) → v = 18) :
    ∀ (m j : Nat), j + m = i → (∀ a : Nat, a < j → ap p i ≠ ap p a) → Tells (fun k => r30_Check.l2 k p (p.length : Int) (i : Int) (j : Int)) v
  | 0, j, hj, ha => by
    refine Tells.shift ?_; simp only [r30_Check.l2]
    refine Tells.neg (by omega) ?_; rw [w64 (n := (i : Int) + 1) (by omega) (by omega)]
    exact hv (fun b hb => ha b (by omega))
  | m + 1, j, hj, ha => by
    refine Tells.shift ?_; simp only [r30_Check.l2, rd_ap]
    refine Tells.pos (by omega) (Tells.pos (by omega) (Tells.pos (by omega) (Tells.pos (by omega) (Tells.pos (by omega) ?_))))
    by_cases e : ap p i = ap p j
    · exact Tells.pos e (Tells.now' (hd ⟨j, by omega, e⟩).symm)
    · refine Tells.neg e ?_; rw [w64 (n := (j : Int) + 1) (by omega) (by omega)]
      refine rck2 p hl i hi v hv hd m (j + 1) (by omega) (fun a h => ?_)
      by_cases e2 : a = j
      · rw [e2]; exact e
      · exact ha a (by omega)
theorem rck1 (p : List Int) (hl : p.length ≤ 64) : ∀ (m i : Nat), i + m = p.length → (∀ a b : Nat, b < a → a < i → ap p a ≠ ap p b) → Tells (fun k => r30_Check.l1 k p (p.length : Int) (i : Int)) (if p.Nodup then 0 else 18)
  | 0, i, hi, ha => by
    refine Tells.shift ?_; simp only [r30_Check.l1]
    refine Tells.neg (by omega) (Tells.now' ?_); rw [if_pos (nodup_iff_ap.2 (fun a b h1 h2 => ha a b h1 (by omega)))]
  | m + 1, i, hi, ha => by
    refine Tells.shift ?_; simp only [r30_Check.l1]
    refine Tells.pos (by omega) ?_
    refine rck2 p hl i (by omega) _ (fun h => ?_) (fun ⟨j, hj, e⟩ => if_neg (fun h => nodup_iff_ap.1 h i j hj (by omega) e)) i 0 (by omega) (fun a h => by omega)
    have := rck1 p hl m (i + 1) (by omega) (fun a b h1 h2 => by
      by_cases e : a = i
      · rw [e]; exact h b (by omega)
      · exact ha a b h1 (by omega))
    exact this
theorem rck0 (p : List Int) (hl : p.length ≤ 64) : ∀ (m i : Nat), i + m = p.length → (∀ a : Nat, a < i → 0 ≤ ap p a ∧ ap p a < p.length) → Tells (fun k => r30_Check.l0 k p (p.length : Int) (i : Int)) (if ∃ x ∈ p, x < 0 ∨ (p.length : Int) ≤ x then 6 else if p.Nodup then 0 else 18)
  | 0, i, hi, ha => by
    refine Tells.shift ?_; simp only [r30_Check.l0]
    refine Tells.neg (by omega) ?_; rw [if_neg]
    · exact rck1 p hl p.length 0 (by omega) (fun a b h1 h2 => by omega)
    · rintro ⟨x, hx, hb⟩; obtain ⟨j, hj, rfl⟩ := List.getElem_of_mem hx; have := ha j (by omega); rw [ap_nat, List.getD_eq_getElem?_getD, List.getElem?_eq_getElem hj, Option.getD_some] at this; omega
  | m + 1, i, hi, ha => by
    refine Tells.shift ?_; simp only [r30_Check.l0, rd_ap]
    refine Tells.pos (by omega) (Tells.pos (by omega) (Tells.pos (by omega) ?_)); have hm : ap p i ∈ p := ap_mem (by omega) (by omega)
    by_cases e : ap p i < 0
    · refine Tells.pos e (Tells.now' ?_); rw [if_pos ⟨_, hm, .inl e⟩]
    · refine Tells.neg e ?_
      by_cases e2 : ap p i ≥ (p.length : Int)
      · refine Tells.pos e2 (Tells.now' ?_); rw [if_pos ⟨_, hm, .inr e2⟩]
      · refine Tells.neg e2 ?_; rw [w64 (n := (i : Int) + 1) (by omega) (by omega)]
        refine rck0 p hl m (i + 1) (by omega) (fun a h => ?_)
        by_cases e3 : a = i
        · rw [e3]; exact ⟨by omega, by omega⟩
        · exact ha a (by omega)
theorem Check_tells (p : List Int) : Tells (fun k => r30_Check.f k p) (checkL p) := by
  unfold r30_Check.f checkL
  by_cases h1 : (p.length : Int) < 1
  · refine Tells.pos h1 (Tells.shift ?_)
    simp only [r30_Check.j0]
    refine Tells.pos trivial (Tells.now' ?_); rw [if_pos (by omega)]
  refine Tells.neg h1 (Tells.shift ?_)
  simp only [r30_Check.j0]
  by_cases h2 : (p.length : Int) > 64
  · refine Tells.pos (decide_eq_true h2) (Tells.now' ?_)
    rw [if_pos (by omega)]
  refine Tells.neg (by rw [decide_eq_false h2]; decide) ?_
  rw [if_neg (by omega)]
  exact rck0 p (by omega) p.length 0 (by omega) (fun a h => by omega)
def allL (n : Int) (l : List (List Int)) : Int := match (l.map checkL).find? (fun e => e != 0) with
  | some e => e
  | none => if l.any (lenB n) then 10 else 0
theorem allL_zero {n : Int} {l : List (List Int)} : allL n l = 0 ↔ ∀ p ∈ l, checkL p = 0 ∧ (p.length : Int) = n := by
  unfold allL
  constructor
  · intro h
    split at h
    · rename_i e he
      have := List.find?_some he; simp [h] at this
    · rename_i he
      rw [List.find?_eq_none] at he; intro p hp
      refine ⟨by simpa using he (checkL p) (List.mem_map.2 ⟨p, hp, rfl⟩), ?_⟩
      apply Classical.byContradiction; intro hc; rw [if_pos (List.any_eq_true.2 ⟨p, hp, by simpa [lenB] using hc⟩)] at h
      cases h
  · intro h
    rw [List.find?_eq_none.2 (fun x hx => by
      rw [List.mem_map] at hx; obtain ⟨y, hy, rfl⟩ := hx; rw [(h y hy).1]; simp)]
    simp only; rw [if_neg]; rw [List.any_eq_true]; rintro ⟨p, hp, hb⟩; have := (h p hp).2; simp [lenB, this] at hb
end Go.Proofs.Ytjjlhbgpdncpcaa.P.M
end
section
set_option linter.unusedVariables false
set_option linter.unusedSimpArgs false
namespace Go.Proofs.Ytjjlhbgpdncpcaa.P.M
open Go.RowKit Go.Proofs.YtjjlhbgpdncpcaaW.PrintWords Go.Proofs.YtjjlhbgpdncpcaaW.PrintLast Go.Proofs.YtjjlhbgpdncpcaaW.PrintMore
open Classical
theorem Lx.asymm {n : Nat} {p q : List Int} (h : Lx n p q) (k : Lx n q p) : False := by
  obtain ⟨i, h0, h1, h2, h3⟩ := h
  obtain ⟨j, k0, k1, k2, k3⟩ := k
  rcases Int.lt_trichotomy i j with e | e | e
  · have := k2 i h0 e; omega
  · subst e; omega
  · have := h2 j k0 e; omega
def LeastAt (n : Nat) (G : List Int → Prop) (b x : Int) (q : List Int) : Prop := G q ∧ Fx b q ∧ ap q b = x ∧ ∀ s, G s → Fx b s → ap s b = x → q = s ∨ Lx n q s
theorem LeastAt.unique {n : Nat} {G : List Int → Prop} {b x : Int} {p q : List Int} (h : LeastAt n G b x p) (k : LeastAt n G b x q) : p = q := by
  rcases h.2.2.2 q k.1 k.2.1 k.2.2.1 with e | e
  · exact e
  · rcases k.2.2.2 p h.1 h.2.1 h.2.2.1 with e2 | e2
    · exact e2.symm
    · exact (e.asymm e2).elim
noncomputable def leastQ (n : Nat) (G : List Int → Prop) (b x : Int) : List Int := if h : ∃ q, LeastAt n G b x q then Classical.choose h else []
theorem leastQ_eq {n : Nat} {G : List Int → Prop} {b x : Int} {q : List Int} (h : LeastAt n G b x q) : leastQ n G b x = q := by
  have h' : ∃ q, LeastAt n G b x q := ⟨q, h⟩
  unfold leastQ
  rw [dif_pos h']
  exact (Classical.choose_spec h').unique h
noncomputable def orbF (n : Nat) (G : List Int → Prop) (b : Int) (x m : Nat) : List Int := ((List.range' x m).map (fun (y : Nat) => (y : Int))).filter (fun y => decide (∃ q, LeastAt n G b y q))
noncomputable def lvP (n : Nat) (G : List Int → Prop) (b : Int) : S74 := ⟨b, orbF n G b 0 n, (orbF n G b 0 n).map (leastQ n G b)⟩
noncomputable def lvsF (n : Nat) (G : List Int → Prop) (b m : Nat) : List S74 := ((List.range' b m).map (fun (c : Nat) => lvP n G (c : Int))).filter (fun l => decide (1 < l.f1.length))
noncomputable def chainP (n : Nat) (G : List Int → Prop) : List S74 := lvsF n G 0 n
theorem orbF_succ (n : Nat) (G : List Int → Prop) (b : Int) (x m : Nat) : orbF n G b x (m + 1) = (if ∃ q, LeastAt n G b (x : Int) q then [(x : Int)] else []) ++ orbF n G b (x + 1) m := by
  unfold orbF
  rw [List.range'_succ, List.map_cons, List.filter_cons]
  by_cases h : ∃ q, LeastAt n G b (x : Int) q
  · rw [if_pos h, if_pos (decide_eq_true h)]; rfl
  rw [if_neg h, if_neg (by rw [decide_eq_false h]; decide)]; rfl
theorem lvsF_succ (n : Nat) (G : List Int → Prop) (b m : Nat) : lvsF n G b (m + 1) = (if 1 < (lvP n G (b : Int)).f1.length then [lvP n G (b : Int)] else []) ++ lvsF n G (b + 1) m := by
  unfold lvsF
  rw [List.range'_succ, List.map_cons, List.filter_cons]
  by_cases h : 1 < (lvP n G (b : Int)).f1.length
  · rw [if_pos h, if_pos (decide_eq_true h)]; rfl
  rw [if_neg h, if_neg (by rw [decide_eq_false h]; decide)]; rfl
theorem inv_id (n : Nat) : invL (idL n) = idL n := (inv_unique (Pm_id n) (Pm_id n) (mul_id (Pm_id n))).symm
theorem stab {n : Nat} {T : Tw} (hok : Ok n T) (hc : Compn n T 0) : ∀ (b : Nat), b ≤ n → ∀ {g : List Int}, Gn n T 0 g → Fx (b : Int) g → Gn n T (b : Int) g
  | 0, hb, g, hg, hf => hg
  | b + 1, hb, g, hg, hf => by
    have ih := stab hok hc b (by omega) hg (fun i h0 h1 => hf i h0 (by omega)); have hgp := hok.gfx (b := (b : Int)) (by omega) (by omega) ih; have hs := (sfI hok (b := (b : Int)) (by omega) (by omega) (fun c k1 k2 => hc c (by omega) k2) hgp.1 hgp.2).2 ih; rw [show (n - (b : Int)).toNat = (n - ((b : Int) + 1)).toNat + 1 by omega, Sf] at hs; have e : ap g (b : Int) = b := hf b (by omega) (by omega); rw [e, hok.id (by omega) (by omega), inv_id, mul_id hgp.1] at hs
    exact (sfI hok (b := (b : Int) + 1) (by omega) (by omega) (fun c k1 k2 => hc c (by omega) k2) hgp.1 (show Fx ((b : Int) + 1) g from hf)).1 hs.2
theorem unstab {n : Nat} {T : Tw} (hok : Ok n T) (hc : Compn n T 0) : ∀ (b : Nat), b ≤ n → ∀ {g : List Int}, Gn n T (b : Int) g → Gn n T 0 g
  | 0, hb, g, hg => hg
  | b + 1, hb, g, hg => unstab hok hc b (by omega) (Gn.sub hok (by omega) (by omega) (fun c k1 k2 => hc c (by omega) k2) hg)
theorem least_of_rep {n : Nat} {T : Tw} (hok : Ok n T) (h64 : n ≤ 64) (hc : Compn n T 0) {b : Nat} (hb : b < n) {x : Int} (h0 : 0 ≤ x) (h1 : x < n) (hr : T.rep (b : Int) x ≠ []) :
    ∃ q, Tells (fun k => canonL k T (T.rep (b : Int) x) ((b : Int) + 1)) q ∧ LeastAt n (Gn n T 0) (b : Int) x q := by
  have hR := hok.rep (b := (b : Int)) (by omega) (by omega) h0 h1 hr
  have hcb : Compn n T (b : Int) := fun c k1 k2 => hc c (by omega) k2
  have hl := hcb (b : Int) (Int.le_refl _) (by omega)
  obtain ⟨q, ht, ⟨s, hs, hq⟩, hmin⟩ := canon_tells hok h64 (n - (b + 1)) ((b : Int) + 1) _ (by omega) (by omega) (fun c k1 k2 => hc c (by omega) k2) hR.1
  have hsp := hok.gfx (b := (b : Int) + 1) (by omega) (by omega) hs
  have hqG : Gn n T (b : Int) q := by
    rw [hq]
    exact Cl.mul' (hok.gpm (by omega) (by omega)) (Gn.sub hok (by omega) (by omega) hcb hs) (hl.reps x h0 h1 hr)
  have hqp := hok.gfx (b := (b : Int)) (by omega) (by omega) hqG
  refine ⟨q, ht, unstab hok hc b (by omega) hqG, hqp.2, ?_, fun s' hs' hf' he' => ?_⟩
  · rw [hq, hsp.1.ap_mul (by omega) (by omega), hsp.2 b (by omega) (by omega), hR.2.2]
  · have hsb := stab hok hc b (by omega) hs' hf'
    have hsp' := hok.gfx (b := (b : Int)) (by omega) (by omega) hsb; have hsf := (sfI hok (b := (b : Int)) (by omega) (by omega) hcb hsp'.1 hsp'.2).2 hsb; rw [show (n - (b : Int)).toNat = (n - ((b : Int) + 1)).toNat + 1 by omega, Sf, he'] at hsf; have hfx := strip_fx (b := (b : Int)) (by omega) (by omega) hsp'.1 hsp'.2 hR.1 hR.2.1 (hR.2.2.trans he'.symm); have hin := (sfI hok (b := (b : Int) + 1) (by omega) (by omega) (fun c k1 k2 => hc c (by omega) k2) hfx.1 hfx.2).1 hsf.2; have := hmin _ hin; rw [mul_inv_cancel hsp'.1 hR.1] at this
    exact this
theorem rep_of_least {n : Nat} {T : Tw} (hok : Ok n T) (hc : Compn n T 0) {b : Nat} (hb : b < n) {x : Int} {q : List Int} (h : LeastAt n (Gn n T 0) (b : Int) x q) : T.rep (b : Int) x ≠ [] := by
  have hsb := stab hok hc b (by omega) h.1 h.2.1
  have hsp := hok.gfx (b := (b : Int)) (by omega) (by omega) hsb
  have hsf := (sfI hok (b := (b : Int)) (by omega) (by omega) (fun c k1 k2 => hc c (by omega) k2) hsp.1 hsp.2).2 hsb
  rw [show (n - (b : Int)).toNat = (n - ((b : Int) + 1)).toNat + 1 by omega, Sf, h.2.2.1] at hsf
  exact hsf.1
theorem level_tells {n : Nat} {T : Tw} (hok : Ok n T) (h64 : n ≤ 64) (hc : Compn n T 0) {b : Nat} (hb : b < n) : ∀ (m x : Nat) (orb : List Int) (reps : List (List Int)), x + m = n →
    Tells (fun k => levelL k T (b : Int) (x : Int) orb reps) (orb ++ orbF n (Gn n T 0) (b : Int) x m, reps ++ (orbF n (Gn n T 0) (b : Int) x m).map (leastQ n (Gn n T 0) (b : Int)))
  | 0, x, orb, reps, hx => by
    have hT := hok.hn
    refine Tells.shift ?_; simp only [levelL]
    exact Tells.neg (by omega) (Tells.now' (by simp [orbF]))
  | m + 1, x, orb, reps, hx => by
    have hT := hok.hn
    refine Tells.shift ?_; simp only [levelL]
    refine Tells.pos (by omega) ?_; rw [orbF_succ]
    by_cases hr : T.rep (b : Int) (x : Int) = []
    · refine Tells.pos hr ?_; rw [if_neg (fun ⟨q, hq⟩ => rep_of_least hok hc hb hq hr), List.nil_append]
      exact level_tells hok h64 hc hb m (x + 1) orb reps (by omega)
    · obtain ⟨q, ht, hq⟩ := least_of_rep hok h64 hc hb (x := (x : Int)) (by omega) (by omega) hr
      refine Tells.neg hr (Tells.bind ht ?_); rw [if_pos ⟨q, hq⟩, List.map_append, List.map_singleton, leastQ_eq hq, ← List.append_assoc, ← List.append_assoc]
      exact level_tells hok h64 hc hb m (x + 1) _ _ (by omega)
theorem chain_tells {n : Nat} {T : Tw} (hok : Ok n T) (h64 : n ≤ 64) (hc : Compn n T 0) : ∀ (m b : Nat) (lv : List S74), b + m = n → Tells (fun k => chainL k T (b : Int) lv) (lv ++ lvsF n (Gn n T 0) b m)
  | 0, b, lv, hb => by
    have hT := hok.hn
    refine Tells.shift ?_; simp only [chainL]
    exact Tells.neg (by omega) (Tells.now' (by simp [lvsF]))
  | m + 1, b, lv, hb => by
    have hT := hok.hn
    refine Tells.shift ?_; simp only [chainL]
    refine Tells.pos (by omega) (Tells.bind (level_tells hok h64 hc (by omega) n 0 [] [] (by omega)) ?_); rw [lvsF_succ]; simp only [List.nil_append]
    have e : ∀ z, (if 1 < (orbF n (Gn n T 0) (b : Int) 0 n).length then lv ++ [lvP n (Gn n T 0) (b : Int)] else lv) ++ z = lv ++ ((if 1 < (lvP n (Gn n T 0) (b : Int)).f1.length then [lvP n (Gn n T 0) (b : Int)] else []) ++ z) := by
      intro z
      by_cases h : 1 < (orbF n (Gn n T 0) (b : Int) 0 n).length
      · rw [if_pos h, if_pos (show 1 < (lvP n (Gn n T 0) (b : Int)).f1.length from h), List.append_assoc]
      · rw [if_neg h, if_neg (show ¬ 1 < (lvP n (Gn n T 0) (b : Int)).f1.length from h)]; rfl
    rw [← e]
    exact chain_tells hok h64 hc m (b + 1) _ (by omega)
def gensE (n : Int) (l : List (List Int)) : Int := if n < 1 ∨ 64 < n then 4 else allL n l
theorem gensL_eq (n : Int) (l : List (List Int)) : gensL n l = gensE n l := rfl
def Gp (n : Nat) (l : List (List Int)) : List Int → Prop := Cl n (fun g => g ∈ l)
noncomputable def buildL (n : Int) (l : List (List Int)) : Int × List S74 × Int := if gensE n l = 0 then (n, chainP n.toNat (Gp n.toNat l), 0) else (0, [], gensE n l)
theorem gensE_zero {n : Int} {l : List (List Int)} (h : gensE n l = 0) : ∃ m : Nat, n = m ∧ 1 ≤ m ∧ m ≤ 64 ∧ ∀ p ∈ l, Pm m p := by
  unfold gensE at h
  split at h
  · cases h
  · refine ⟨n.toNat, by omega, by omega, by omega, fun p hp => ?_⟩
    have := allL_zero.1 h p hp; have h2 := checkL_zero.1 this.1; have : p.length = n.toNat := by omega
    rw [← this]; exact h2.1
theorem PBuild_tells (n : Int) (l : List (List Int)) : Tells (fun k => perm_Build.f k n l) (buildL n l) := by
  unfold perm_Build.f buildL
  refine Tells.bind (a := gensE n l) (Tells.now' (gensL_eq n l)) ?_
  by_cases h : gensE n l = 0
  · obtain ⟨m, rfl, h1, h64, hl⟩ := gensE_zero h
    obtain ⟨T0, T, ht0, ht, hok, hc, hG⟩ := tower_tells h1 h64 l hl; rw [if_pos h]; have hT := hok.hn; have e : Gn m T 0 = Gp m l := funext (fun p => propext (hG p)); have hch := chain_tells hok h64 hc m 0 [] (by omega); rw [e] at hch
    refine Tells.pos h (Tells.pos (by omega) ?_); rw [show ((m : Nat) : Int).toNat = m by omega]
    refine Tells.bind ht0 (Tells.bind ht (Tells.bind hch (Tells.now' ?_))); rw [hT]; rfl
  rw [if_neg h]
  exact Tells.neg h Tells.now
end Go.Proofs.Ytjjlhbgpdncpcaa.P.M
end
namespace Go.Proofs.Ytjjlhbgpdncpcaa.P
open Go.RowKit Go.Proofs.YtjjlhbgpdncpcaaW.PrintWords Go.Proofs.YtjjlhbgpdncpcaaW.PrintLast Go.Proofs.YtjjlhbgpdncpcaaW.PrintMore
set_option linter.unusedVariables false
set_option linter.unusedSimpArgs false
set_option maxHeartbeats 8000000
set_option maxRecDepth 100000
section

end
section
attribute [local go_sem] max2_int min2_int max_two min_two max_three min_three max_four min_four

end
section
attribute [local go_sem] max2_int min2_int max_two min_two max_three min_three max_four min_four

end
section
attribute [local go_sem] max2_int min2_int max_two min_two max_three min_three max_four min_four

end
section
attribute [local go_sem] max2_int min2_int max_two min_two max_three min_three max_four min_four

end
end Go.Proofs.Ytjjlhbgpdncpcaa.P
section
set_option linter.unusedVariables false
set_option linter.unusedSimpArgs false
namespace Go.Proofs.Ytjjlhbgpdncpcaa.P.M
open Go.RowKit Go.Proofs.YtjjlhbgpdncpcaaW.PrintWords Go.Proofs.YtjjlhbgpdncpcaaW.PrintLast Go.Proofs.YtjjlhbgpdncpcaaW.PrintMore
def cdF (a : Int) (l : List Int) : Int := l.foldl (fun a x => 6 * a + x) a
theorem Lx.trans {n : Nat} {p q r : List Int} (h : Lx n p q) (k : Lx n q r) : Lx n p r := by
  obtain ⟨i, h0, h1, h2, h3⟩ := h
  obtain ⟨j, k0, k1, k2, k3⟩ := k
  rcases Int.lt_trichotomy i j with e | e | e
  · exact ⟨i, h0, h1, fun a a0 a1 => (h2 a a0 a1).trans (k2 a a0 (by omega)), by have := k2 i h0 e; omega⟩
  · subst e
    exact ⟨i, h0, h1, fun a a0 a1 => (h2 a a0 a1).trans (k2 a a0 a1), by omega⟩
  · exact ⟨j, k0, k1, fun a a0 a1 => (h2 a a0 (by omega)).trans (k2 a a0 a1), by have := h2 j k0 e; omega⟩
theorem Lx.total {n : Nat} {p q : List Int} (hp : p.length = n) (hq : q.length = n) : Lx n p q ∨ p = q ∨ Lx n q p := by
  by_cases h : ∃ i : Nat, i < n ∧ ap p i ≠ ap q i
  · have : ∃ i : Nat, (i < n ∧ ap p i ≠ ap q i) ∧ ∀ j < i, ¬ (j < n ∧ ap p j ≠ ap q j) := by
      obtain ⟨i, hi⟩ := h
      have key : ∀ m : Nat, ∀ i ≤ m, (i < n ∧ ap p i ≠ ap q i) → ∃ i : Nat, (i < n ∧ ap p i ≠ ap q i) ∧ ∀ j < i, ¬ (j < n ∧ ap p j ≠ ap q j) := by
        intro m
        induction m with
        | zero => intro i hi h; exact ⟨i, h, fun j hj => by omega⟩
        | succ m ih =>
          intro i hi h
          by_cases hc : ∃ j < i, (j < n ∧ ap p j ≠ ap q j)
          · obtain ⟨j, hj, hh⟩ := hc
            exact ih j (by omega) hh
          · exact ⟨i, h, fun j hj hh => hc ⟨j, hj, hh⟩⟩
      exact key i i (Nat.le_refl _) hi
    obtain ⟨i, ⟨h1, h2⟩, h3⟩ := this
    have eqs : ∀ j : Int, 0 ≤ j → j < i → ap p j = ap q j := by
      intro j j0 j1; have := h3 j.toNat (by omega)
      apply Classical.byContradiction; intro hc
      exact this ⟨by omega, by rw [show ((j.toNat : Nat) : Int) = j by omega]; exact hc⟩
    rcases Int.lt_trichotomy (ap p i) (ap q i) with e | e | e
    · exact .inl ⟨i, by omega, by omega, eqs, e⟩
    · exact absurd e h2
    · exact .inr (.inr ⟨i, by omega, by omega, fun j j0 j1 => (eqs j j0 j1).symm, e⟩)
  right; left
  refine ap_ext hp hq (fun i h0 h1 => ?_)
  apply Classical.byContradiction
  intro hc
  exact h ⟨i.toNat, by omega, by rw [show ((i.toNat : Nat) : Int) = i by omega]; exact hc⟩
def at1 (l : List (List Int)) (i : Nat) : List Int := l.getD i []
theorem at1_eq {l : List (List Int)} {i : Nat} (h : i < l.length) : at1 l i = l[i] := by simp [at1, h]
def Le (n : Nat) (p q : List Int) : Prop := ¬ Lx n q p
theorem Le.trans {n : Nat} {p q r : List Int} (hp : p.length = n) (hq : q.length = n) (hr : r.length = n) (h : Le n p q) (k : Le n q r) : Le n p r := by
  intro c
  rcases Lx.total hp hq with a | a | a
  · rcases Lx.total hq hr with b | b | b
    · exact (a.trans b).asymm c
    · subst b; exact a.asymm c
    · exact k b
  · subst a; exact k c
  · exact h a
structure SortI (n : Nat) (l0 l : List (List Int)) : Prop where
  perm : l.Perm l0
  len : ∀ p ∈ l0, p.length = n
theorem SortI.at {n : Nat} {l0 l : List (List Int)} (h : SortI n l0 l) {i : Nat} (hi : i < l.length) : (at1 l i).length = n := by
  rw [at1_eq hi]
  exact h.len _ (h.perm.mem_iff.1 (List.getElem_mem hi))
theorem rd1_at (l : List (List Int)) (i : Nat) : rd_L1 l (i : Int) = at1 l i := by simp [rd_L1, at1]
end Go.Proofs.Ytjjlhbgpdncpcaa.P.M
end
namespace Go.Proofs.Ytjjlhbgpdncpcaa.P
open Go.RowKit Go.Proofs.YtjjlhbgpdncpcaaW.PrintWords Go.Proofs.YtjjlhbgpdncpcaaW.PrintLast Go.Proofs.YtjjlhbgpdncpcaaW.PrintMore
set_option linter.unusedVariables false
set_option linter.unusedSimpArgs false
set_option maxHeartbeats 8000000
set_option maxRecDepth 100000
section
attribute [local go_sem] max2_int min2_int max_two min_two max_three min_three max_four min_four

end
section
attribute [local go_sem] max2_int min2_int max_two min_two max_three min_three max_four min_four

end
section
attribute [local go_sem] max2_int min2_int max_two min_two max_three min_three max_four min_four

end
section
attribute [local go_sem] max2_int min2_int max_two min_two max_three min_three max_four min_four

end
section
attribute [local go_sem] max2_int min2_int max_two min_two max_three min_three max_four min_four

end
section
attribute [local go_sem] max2_int min2_int max_two min_two max_three min_three max_four min_four

end
end Go.Proofs.Ytjjlhbgpdncpcaa.P
section
set_option linter.unusedVariables false
set_option linter.unusedSimpArgs false
namespace Go.Proofs.Ytjjlhbgpdncpcaa.P.M
open Go.RowKit Go.Proofs.YtjjlhbgpdncpcaaW.PrintWords Go.Proofs.YtjjlhbgpdncpcaaW.PrintLast Go.Proofs.YtjjlhbgpdncpcaaW.PrintMore
def run (n : Nat) (p : List Int) (x : Int) (t : Nat) : List Int := (List.range t).map (fun s => ap (powL n p s) x)
end Go.Proofs.Ytjjlhbgpdncpcaa.P.M
end
namespace Go.Proofs.Ytjjlhbgpdncpcaa.P
open Go.RowKit Go.Proofs.YtjjlhbgpdncpcaaW.PrintWords Go.Proofs.YtjjlhbgpdncpcaaW.PrintLast Go.Proofs.YtjjlhbgpdncpcaaW.PrintMore
set_option linter.unusedVariables false
set_option linter.unusedSimpArgs false
set_option maxHeartbeats 8000000
set_option maxRecDepth 100000
section
attribute [local go_sem] max2_int min2_int max_two min_two max_three min_three max_four min_four

end
section
attribute [local go_sem] max2_int min2_int max_two min_two max_three min_three max_four min_four

end
section
attribute [local go_sem] max2_int min2_int max_two min_two max_three min_three max_four min_four

end
end Go.Proofs.Ytjjlhbgpdncpcaa.P
section
set_option linter.unusedVariables false
set_option linter.unusedSimpArgs false
namespace Go.Proofs.Ytjjlhbgpdncpcaa.P.M
open Go.RowKit Go.Proofs.YtjjlhbgpdncpcaaW.PrintWords Go.Proofs.YtjjlhbgpdncpcaaW.PrintLast Go.Proofs.YtjjlhbgpdncpcaaW.PrintMore
structure GI (n : Nat) (gens : List (List Int)) (seen : List Bool) (out : List (List Int)) : Prop where
  len : seen.length = 46656
  el : ∀ p ∈ out, Gp n gens p
  one : idL n ∈ out
  nd : out.Nodup
  mem : ∀ p, Pm n p → (rdOf false seen (cdF 0 p) = true ↔ p ∈ out)
  cnt : out.length = seen.count true
theorem GI.short {n : Nat} {gens : List (List Int)} {seen : List Bool} {out : List (List Int)} (h : GI n gens seen out) : out.length ≤ 46656 := by
  have h1 := h.cnt
  have h2 : seen.count true ≤ seen.length := List.count_le_length
  have := h.len
  omega
theorem orbF_len (n : Nat) (G : List Int → Prop) (b : Int) (x m : Nat) : (orbF n G b x m).length ≤ m := by
  unfold orbF
  have := List.length_filter_le (p := fun y => @decide (∃ q, LeastAt n G b y q) (Classical.propDecidable _)) ((List.range' x m).map (fun (y : Nat) => (y : Int)))
  rw [List.length_map, List.length_range'] at this
  exact this
end Go.Proofs.Ytjjlhbgpdncpcaa.P.M
end
namespace Go.Proofs.Ytjjlhbgpdncpcaa.P
open Go.RowKit Go.Proofs.YtjjlhbgpdncpcaaW.PrintWords Go.Proofs.YtjjlhbgpdncpcaaW.PrintLast Go.Proofs.YtjjlhbgpdncpcaaW.PrintMore
set_option linter.unusedVariables false
set_option linter.unusedSimpArgs false
set_option maxHeartbeats 8000000
set_option maxRecDepth 100000
section
attribute [local go_sem] max2_int min2_int max_two min_two max_three min_three max_four min_four

end
end Go.Proofs.Ytjjlhbgpdncpcaa.P
section
set_option linter.unusedVariables false
set_option linter.unusedSimpArgs false
namespace Go.Proofs.Ytjjlhbgpdncpcaa.P.M
open Go.RowKit Go.Proofs.YtjjlhbgpdncpcaaW.PrintWords Go.Proofs.YtjjlhbgpdncpcaaW.PrintLast Go.Proofs.YtjjlhbgpdncpcaaW.PrintMore
instance : DecidableEq S74 := fun x y =>
  if h : x.f0 = y.f0 ∧ x.f1 = y.f1 ∧ x.f2 = y.f2 then isTrue (by cases x; cases y; simp at h; simp [h]) else isFalse (fun e => h (by rw [e]; exact ⟨rfl, rfl, rfl⟩))
theorem s74_ext {x y : S74} (h0 : x.f0 = y.f0) (h1 : x.f1 = y.f1) (h2 : x.f2 = y.f2) : x = y := by
  cases x; cases y; simp at h0 h1 h2; simp [h0, h1, h2]
theorem rd74_at {l : List S74} {i : Nat} (h : i < l.length) : rd_T74 l (i : Int) = l[i] := by simp [rd_T74, h]
def Bg : Nat := 4611686018427387904
def Fine (l : List S74) : Prop := l.length ≤ Bg ∧ ∀ x ∈ l, x.f1.length ≤ Bg ∧ x.f2.length ≤ Bg ∧ ∀ r ∈ x.f2, r.length ≤ Bg
theorem leastQ_len {n : Nat} {G : List Int → Prop} (hG : ∀ p, G p → Pm n p) (b x : Int) : (leastQ n G b x).length ≤ n := by
  unfold leastQ
  split
  · rename_i h
    exact Nat.le_of_eq (hG _ (Classical.choose_spec h).1).1
  · simp
theorem lvsF_len (n : Nat) (G : List Int → Prop) (b m : Nat) : (lvsF n G b m).length ≤ m := by
  unfold lvsF
  have := List.length_filter_le (p := fun l : S74 => decide (1 < l.f1.length)) ((List.range' b m).map (fun (c : Nat) => lvP n G (c : Int)))
  rw [List.length_map, List.length_range'] at this
  exact this
theorem chainP_mem {n : Nat} {G : List Int → Prop} {x : S74} (h : x ∈ chainP n G) : ∃ c : Nat, c < n ∧ x = lvP n G (c : Int) ∧ 1 < x.f1.length := by
  unfold chainP lvsF at h
  rw [List.mem_filter, List.mem_map] at h
  obtain ⟨⟨c, hc, rfl⟩, h2⟩ := h
  rw [List.mem_range'] at hc
  obtain ⟨i, hi, rfl⟩ := hc
  exact ⟨_, by omega, rfl, by simpa using h2⟩
theorem chainP_small {n : Nat} {G : List Int → Prop} (hG : ∀ p, G p → Pm n p) : (chainP n G).length ≤ n ∧ ∀ x ∈ chainP n G, x.f1.length ≤ n ∧ x.f2.length = x.f1.length ∧ ∀ r ∈ x.f2, r.length ≤ n := by
  refine ⟨lvsF_len n G 0 n, fun x hx => ?_⟩
  obtain ⟨c, hc, rfl, _⟩ := chainP_mem hx
  refine ⟨orbF_len n G (c : Int) 0 n, by simp [lvP], fun r hr => ?_⟩
  simp only [lvP, List.mem_map] at hr
  obtain ⟨y, _, rfl⟩ := hr
  exact leastQ_len hG _ _
end Go.Proofs.Ytjjlhbgpdncpcaa.P.M
end
namespace Go.Proofs.Ytjjlhbgpdncpcaa.P
open Go.RowKit Go.Proofs.YtjjlhbgpdncpcaaW.PrintWords Go.Proofs.YtjjlhbgpdncpcaaW.PrintLast Go.Proofs.YtjjlhbgpdncpcaaW.PrintMore
set_option linter.unusedVariables false
set_option linter.unusedSimpArgs false
set_option maxHeartbeats 8000000
set_option maxRecDepth 100000
section
attribute [local go_sem] max2_int min2_int max_two min_two max_three min_three max_four min_four

end
section
attribute [local go_sem] max2_int min2_int max_two min_two max_three min_three max_four min_four

end
end Go.Proofs.Ytjjlhbgpdncpcaa.P
section
set_option linter.unusedVariables false
set_option linter.unusedSimpArgs false
namespace Go.Proofs.Ytjjlhbgpdncpcaa.P.M
open Go.RowKit Go.Proofs.YtjjlhbgpdncpcaaW.PrintWords Go.Proofs.YtjjlhbgpdncpcaaW.PrintLast Go.Proofs.YtjjlhbgpdncpcaaW.PrintMore
def OrbE (n : Nat) (l : List (List Int)) (x y : Int) : Prop := ∃ p, Gp n l p ∧ ap p x = y
section
variable {n : Nat} {l : List (List Int)}
theorem OrbE.refl {x : Int} (h0 : 0 ≤ x) (h1 : x < n) : OrbE n l x x := ⟨idL n, .one, ap_id h0 h1⟩
theorem OrbE.rng (hl : ∀ p ∈ l, Pm n p) {x y : Int} (h0 : 0 ≤ x) (h1 : x < n) (h : OrbE n l x y) : 0 ≤ y ∧ y < n := by
  obtain ⟨p, hp, rfl⟩ := h
  exact (hp.pm hl).rng h0 h1
theorem OrbE.symm (hl : ∀ p ∈ l, Pm n p) {x y : Int} (h0 : 0 ≤ x) (h1 : x < n) (h : OrbE n l x y) : OrbE n l y x := by
  obtain ⟨p, hp, rfl⟩ := h
  refine ⟨invL p, Cl.inv hl hp, ?_⟩
  have hpp := hp.pm hl
  have : ap (mulL p (invL p)) x = x := by rw [mul_inv hpp, ap_id h0 h1]
  rwa [hpp.ap_mul h0 h1] at this
theorem OrbE.trans (hl : ∀ p ∈ l, Pm n p) {x y z : Int} (h0 : 0 ≤ x) (h1 : x < n) (h : OrbE n l x y) (k : OrbE n l y z) : OrbE n l x z := by
  obtain ⟨p, hp, rfl⟩ := h
  obtain ⟨q, hq, rfl⟩ := k
  exact ⟨mulL p q, Cl.mul' hl hp hq, (hp.pm hl).ap_mul h0 h1⟩
theorem OrbE.step (hl : ∀ p ∈ l, Pm n p) {x : Int} (h0 : 0 ≤ x) (h1 : x < n) {g : List Int} (hg : g ∈ l) : OrbE n l x (ap g x) := ⟨g, Cl.gen hl hg, rfl⟩
end
open Classical in
noncomputable def clsL (n : Nat) (l : List (List Int)) (i : Int) : List Int := ((List.range n).map (fun (y : Nat) => (y : Int))).filter (fun y => decide (OrbE n l i y))
def MinP (n : Nat) (l : List (List Int)) (i : Int) : Prop := ∀ j : Int, 0 ≤ j → j < i → ¬ OrbE n l j i
open Classical in
noncomputable def orbsF (n : Nat) (l : List (List Int)) (i m : Nat) : List (List Int) := (((List.range' i m).map (fun (y : Nat) => (y : Int))).filter (fun y => decide (MinP n l y))).map (clsL n l)
open Classical in
theorem orbsF_succ (n : Nat) (l : List (List Int)) (i m : Nat) : orbsF n l i (m + 1) = (if MinP n l (i : Int) then [clsL n l (i : Int)] else []) ++ orbsF n l (i + 1) m := by
  unfold orbsF
  rw [List.range'_succ, List.map_cons, List.filter_cons]
  by_cases h : MinP n l (i : Int)
  · rw [if_pos h, if_pos (decide_eq_true h)]; rfl
  rw [if_neg h, if_neg (by rw [decide_eq_false h]; decide)]; rfl
theorem mem_cls {n : Nat} {l : List (List Int)} {i y : Int} : y ∈ clsL n l i ↔ 0 ≤ y ∧ y < n ∧ OrbE n l i y := by
  unfold clsL
  rw [List.mem_filter, List.mem_map]
  constructor
  · rintro ⟨⟨x, hx, rfl⟩, h⟩
    rw [List.mem_range] at hx
    exact ⟨by omega, by omega, by simpa using h⟩
  · rintro ⟨h0, h1, h⟩
    exact ⟨⟨y.toNat, List.mem_range.2 (by omega), by omega⟩, by simpa using h⟩
theorem cls_sorted (n : Nat) (l : List (List Int)) (i : Int) : (clsL n l i).Pairwise (· < ·) := by
  unfold clsL
  refine List.Pairwise.filter _ ?_
  rw [List.pairwise_map]
  refine List.Pairwise.imp (fun h => ?_) List.pairwise_lt_range
  omega
theorem cls_len (n : Nat) (l : List (List Int)) (i : Int) : (clsL n l i).length ≤ n := by
  unfold clsL
  have := List.length_filter_le (p := fun y => @decide (OrbE n l i y) (Classical.propDecidable _)) ((List.range n).map (fun (y : Nat) => (y : Int)))
  rw [List.length_map, List.length_range] at this
  exact this
theorem nodup_perm {a b : List Int} (ha : a.Nodup) (hb : b.Nodup) (h : ∀ x, x ∈ a ↔ x ∈ b) : a.Perm b := (List.perm_ext_iff_of_nodup ha hb).2 h
theorem sort_cls {n : Nat} {l : List (List Int)} {i : Int} {o : List Int} (hnd : o.Nodup) (h : ∀ y, y ∈ o ↔ y ∈ clsL n l i) : insL o = clsL n l i := by
  rw [insL_eq]
  have hs := cls_sorted n l i
  have hnd2 : (clsL n l i).Nodup := hs.imp (fun h => by omega)
  exact (sortL_unique (nodup_perm hnd2 hnd (fun y => (h y).symm)) (hs.imp (fun h => by omega))).symm
structure BI (n : Nat) (l : List (List Int)) (i : Int) (old seen : List Bool) (orb : List Int) : Prop where
  len : seen.length = n
  mem : ∀ y : Int, 0 ≤ y → y < n → (rdOf false seen y = true ↔ rdOf false old y = true ∨ y ∈ orb)
  nd : orb.Nodup
  el : ∀ y ∈ orb, 0 ≤ y ∧ y < n ∧ OrbE n l i y
  one : i ∈ orb
theorem BI.short {n : Nat} {l : List (List Int)} {i : Int} {old seen : List Bool} {orb : List Int} (h : BI n l i old seen orb) : orb.length ≤ n := by
  have := sub_len h.nd (l2 := idL n) (fun x hx => mem_idL.2 ⟨(h.el x hx).1, (h.el x hx).2.1⟩)
  rwa [idL_len] at this
theorem orb_l2 {n : Nat} (hn : n ≤ 64) {l : List (List Int)} (hl : ∀ p ∈ l, Pm n p) (hll : l.length ≤ 1000) {i : Nat} (hi : i < n) {old : List Bool} (hmin : ∀ y : Int, 0 ≤ y → y < n → OrbE n l (i : Int) y → rdOf false old y = false) {out : List (List Int)} (ho : out.length ≤ 64) (v : List (List Int) × Int)
    (cont : ∀ seen, seen.length = n → (∀ y : Int, 0 ≤ y → y < n → (rdOf false seen y = true ↔ rdOf false old y = true ∨ OrbE n l (i : Int) y)) → Tells (fun k => perm_Orbits.l0 k l seen (out ++ [clsL n l (i : Int)]) (n : Int) ((i : Int) + 1)) v)
    (seen : List Bool) (orb : List Int) (kk j : Nat) (h : BI n l (i : Int) old seen orb) (hk : kk < orb.length) (hj : j ≤ l.length)
    (hpr : ∀ a : Nat, a < kk → ∀ g ∈ l, ap g (ap orb (a : Int)) ∈ orb) (hpj : ∀ c : Nat, c < j → ∀ hc : c < l.length, ap l[c] (ap orb (kk : Int)) ∈ orb) :
    Tells (fun k => perm_Orbits.l2 k l seen out orb (kk : Int) (n : Int) (i : Int) l (l.length : Int) (j : Int)) v := by
  have hsh := h.short
  have hsl := h.len
  by_cases hjl : j < l.length
  · have hg := hl _ (List.getElem_mem hjl)
    have hel := h.el (ap orb (kk : Int)) (ap_mem (by omega) (by omega)); have hx := hg.rng hel.1 hel.2.1; have hox : OrbE n l (i : Int) (ap l[j] (ap orb (kk : Int))) := OrbE.trans hl (by omega) (by omega) hel.2.2 (OrbE.step hl hel.1 hel.2.1 (List.getElem_mem hjl)); have hgl := hg.1
    refine Tells.shift ?_; simp only [perm_Orbits.l2, rd1_at, at1_eq hjl, rd_ap]
    refine Tells.pos (by omega) (Tells.pos (by omega) (Tells.pos (by omega) (Tells.pos (by omega) (Tells.pos (by omega) (Tells.pos hel.1 (Tells.pos (by omega) (Tells.pos hx.1 (Tells.pos (by omega) ?_))))))))
    by_cases hs : rdOf false seen (ap l[j] (ap orb (kk : Int))) = true
    · have hin : ap l[j] (ap orb (kk : Int)) ∈ orb := by
        rcases (h.mem _ hx.1 hx.2).1 hs with k | k
        · rw [hmin _ hx.1 hx.2 hox] at k; cases k
        · exact k
      refine Tells.pos hs ?_; rw [w64 (n := (j : Int) + 1) (by omega) (by omega)]
      exact orb_l2 hn hl hll hi hmin ho v cont seen orb kk (j + 1) h hk (by omega) hpr (fun c hcj hcl => by
        by_cases e : c = j
        · subst e; exact hin
        · exact hpj c (by omega) hcl)
    · have hs' : rdOf false seen (ap l[j] (ap orb (kk : Int))) = false := by simpa using hs
      have hnot : ap l[j] (ap orb (kk : Int)) ∉ orb := fun k => hs ((h.mem _ hx.1 hx.2).2 (.inr k))
      have hap : ∀ a : Nat, a < orb.length → ap (orb ++ [ap l[j] (ap orb (kk : Int))]) (a : Int) = ap orb (a : Int) := by
        intro a ha; rw [ap_nat, List.getD_eq_getElem?_getD, List.getElem?_append_left ha, ← List.getD_eq_getElem?_getD]
        exact (ap_nat orb a).symm
      have hnx : BI n l (i : Int) old (seen.set (ap l[j] (ap orb (kk : Int))).toNat true) (orb ++ [ap l[j] (ap orb (kk : Int))]) := by
        refine ⟨by rw [List.length_set]; exact hsl, fun y k0 k1 => ?_, ?_, fun y hy => ?_, List.mem_append_left _ h.one⟩
        · have hset : rdOf false (seen.set (ap l[j] (ap orb (kk : Int))).toNat true) y = if y = ap l[j] (ap orb (kk : Int)) then true else rdOf false seen y := by
            have hb : (ap l[j] (ap orb (kk : Int))).toNat < seen.length := by omega
            by_cases e : y = ap l[j] (ap orb (kk : Int))
            · rw [if_pos e, e, rdOf, List.getD_eq_getElem?_getD, List.getElem?_set_self hb]; rfl
            · rw [if_neg e, rdOf, List.getD_eq_getElem?_getD, List.getElem?_set_ne (by omega), ← List.getD_eq_getElem?_getD]; rfl
          rw [hset, List.mem_append, List.mem_singleton]
          by_cases e : y = ap l[j] (ap orb (kk : Int))
          · rw [if_pos e]; simp [e]
          · rw [if_neg e, h.mem y k0 k1]; simp [e]
        · rw [List.nodup_append]
          refine ⟨h.nd, by simp, fun a ha b hb e => ?_⟩; rw [List.mem_singleton] at hb; subst hb; rw [e] at ha; exact hnot ha
        · rw [List.mem_append, List.mem_singleton] at hy
          rcases hy with hy | rfl
          · exact h.el y hy
          · exact ⟨hx.1, hx.2, hox⟩
      have hnl := hnx.short; rw [List.length_append, List.length_singleton] at hnl
      refine Tells.neg (by rw [hs']; decide) (Tells.pos (by omega) ?_); rw [w64 (n := (j : Int) + 1) (by omega) (by omega)]
      exact orb_l2 hn hl hll hi hmin ho v cont _ _ kk (j + 1) hnx (by rw [List.length_append]; omega) (by omega) (fun a ha g hgg => by
        rw [hap a (by omega)]
        exact List.mem_append_left _ (hpr a ha g hgg)) (fun c hcj hcl => by
        rw [hap kk hk]
        by_cases e : c = j
        · subst e; exact List.mem_append_right _ (List.mem_singleton.2 rfl)
        · exact List.mem_append_left _ (hpj c (by omega) hcl))
  · have hall : ∀ a : Nat, a < kk + 1 → ∀ g ∈ l, ap g (ap orb (a : Int)) ∈ orb := by
      intro a ha g hgg
      by_cases e : a = kk
      · subst e; obtain ⟨c, hc, rfl⟩ := List.getElem_of_mem hgg
        exact hpj c (by omega) hc
      · exact hpr a (by omega) g hgg
    refine Tells.shift ?_; simp only [perm_Orbits.l2]
    refine Tells.neg (by omega) ?_; rw [w64 (n := (kk : Int) + 1) (by omega) (by omega)]
    refine Tells.shift ?_; simp only [perm_Orbits.l1]
    by_cases hnx : kk + 1 < orb.length
    · refine Tells.pos (by omega) ?_
      exact orb_l2 hn hl hll hi hmin ho v cont seen orb (kk + 1) 0 h hnx (by omega) hall (fun c hc => by omega)
    · have hcls : ∀ y, y ∈ orb ↔ y ∈ clsL n l (i : Int) := by
        intro y; rw [mem_cls]
        refine ⟨h.el y, ?_⟩; rintro ⟨h0, h1, p, hp, rfl⟩
        have : Pm n p ∧ ap p (i : Int) ∈ orb := by
          refine Cl.least (H := fun p => Pm n p ∧ ap p (i : Int) ∈ orb) ⟨Pm_id n, by rw [ap_id (by omega) (by omega)]; exact h.one⟩ ?_ hp; rintro p g ⟨hpp, hin⟩ hgg
          refine ⟨hpp.mul (hl g hgg), ?_⟩; rw [hpp.ap_mul (by omega) (by omega)]; obtain ⟨a, ha, e⟩ := List.getElem_of_mem hin; have := hall a (by omega) g hgg
          rwa [ap_nat, List.getD_eq_getElem?_getD, List.getElem?_eq_getElem ha, Option.getD_some, e] at this
        exact this.2
      refine Tells.neg (by omega) ?_
      have hsort : slSort.f orb = some (clsL n l (i : Int)) := by
        unfold slSort.f; rw [if_pos (by omega), sort_cls h.nd hcls]
      refine Tells.bind (a := clsL n l (i : Int)) ⟨0, fun _ _ => hsort⟩ (Tells.pos (by omega) ?_); rw [w64 (n := (i : Int) + 1) (by omega) (by omega)]
      refine cont seen hsl (fun y k0 k1 => ?_); rw [h.mem y k0 k1, hcls y, mem_cls]
      constructor
      · rintro (k | k)
        · exact .inl k
        · exact .inr k.2.2
      · rintro (k | k)
        · exact .inl k
        · exact .inr ⟨k0, k1, k⟩
  termination_by (n - orb.length, orb.length - kk, l.length - j)
  decreasing_by
    · apply Prod.Lex.right; apply Prod.Lex.right; omega
    · apply Prod.Lex.left; simp only [List.length_append, List.length_singleton] at *; omega
    · apply Prod.Lex.right; apply Prod.Lex.left; omega
open Classical in
theorem orb_l0 {n : Nat} (hn : n ≤ 64) {l : List (List Int)} (hl : ∀ p ∈ l, Pm n p) (hll : l.length ≤ 1000) : ∀ (m i : Nat) (seen : List Bool) (out : List (List Int)), i + m = n → seen.length = n → out.length ≤ i → (∀ y : Int, 0 ≤ y → y < n → (rdOf false seen y = true ↔ ∃ j : Int, 0 ≤ j ∧ j < i ∧ OrbE n l j y)) →
    Tells (fun k => perm_Orbits.l0 k l seen out (n : Int) (i : Int)) (out ++ orbsF n l i m, 0)
  | 0, i, seen, out, hi, hsl, ho, hs => by
    refine Tells.shift ?_; simp only [perm_Orbits.l0]
    exact Tells.neg (by omega) (Tells.now' (by simp [orbsF]))
  | m + 1, i, seen, out, hi, hsl, ho, hs => by
    refine Tells.shift ?_; simp only [perm_Orbits.l0]
    refine Tells.pos (by omega) (Tells.pos (by omega) (Tells.pos (by omega) ?_)); rw [orbsF_succ]
    by_cases hsi : rdOf false seen (i : Int) = true
    · refine Tells.pos hsi ?_; obtain ⟨j, h0, h1, hj⟩ := (hs (i : Int) (by omega) (by omega)).1 hsi; rw [w64 (n := (i : Int) + 1) (by omega) (by omega), if_neg (fun h => h j h0 h1 hj), List.nil_append]
      refine orb_l0 hn hl hll m (i + 1) seen out (by omega) hsl (by omega) (fun y k0 k1 => ?_); rw [hs y k0 k1]
      constructor
      · rintro ⟨a, a0, a1, ha⟩; exact ⟨a, a0, by omega, ha⟩
      · rintro ⟨a, a0, a1, ha⟩
        by_cases e : a = i
        · subst e; exact ⟨j, h0, h1, OrbE.trans hl h0 (by omega) hj ha⟩
        · exact ⟨a, a0, by omega, ha⟩
    · have hsi' : rdOf false seen (i : Int) = false := by simpa using hsi
      have hmin : MinP n l (i : Int) := fun j h0 h1 hj => hsi ((hs (i : Int) (by omega) (by omega)).2 ⟨j, h0, h1, hj⟩)
      refine Tells.neg (by rw [hsi']; decide) ?_; rw [if_pos hmin, ← List.append_assoc]
      have hold : ∀ y : Int, 0 ≤ y → y < n → OrbE n l (i : Int) y → rdOf false seen y = false := by
        intro y k0 k1 hy
        cases hc : rdOf false seen y with
        | false => rfl
        | true =>
          obtain ⟨j, h0, h1, hj⟩ := (hs y k0 k1).1 hc
          exact absurd (OrbE.trans hl h0 (by omega) hj (OrbE.symm hl (by omega) (by omega) hy)) (hmin j h0 h1)
      have hset : ∀ y : Int, 0 ≤ y → rdOf false (seen.set (i : Int).toNat true) y = if y = i then true else rdOf false seen y := by
        intro y k0; have hb : ((i : Int)).toNat < seen.length := by omega
        by_cases e : y = i
        · rw [if_pos e, e, rdOf, List.getD_eq_getElem?_getD, List.getElem?_set_self hb]; rfl
        · rw [if_neg e, rdOf, List.getD_eq_getElem?_getD, List.getElem?_set_ne (by omega), ← List.getD_eq_getElem?_getD]; rfl
      refine Tells.shift ?_; simp only [perm_Orbits.l1]
      refine Tells.pos (by simp) ?_
      refine orb_l2 hn hl hll (by omega) hold (by omega) _ (fun seen' hl' hs' => ?_) (seen.set (i : Int).toNat true) [(i : Int)] 0 0 ⟨by rw [List.length_set]; exact hsl, fun y k0 k1 => ?_, by simp, fun y hy => ?_, by simp⟩ (by simp) (by omega) (fun a ha => by omega) (fun c hc => by omega)
      · refine orb_l0 hn hl hll m (i + 1) seen' _ (by omega) hl' (by rw [List.length_append, List.length_singleton]; omega) (fun y k0 k1 => ?_); rw [hs' y k0 k1, hs y k0 k1]
        constructor
        · rintro (⟨a, a0, a1, ha⟩ | h)
          · exact ⟨a, a0, by omega, ha⟩
          · exact ⟨(i : Int), by omega, by omega, h⟩
        · rintro ⟨a, a0, a1, ha⟩
          by_cases e : a = i
          · subst e; exact .inr ha
          · exact .inl ⟨a, a0, by omega, ha⟩
      · rw [hset y k0, List.mem_singleton]
        by_cases e : y = i
        · rw [if_pos e]; simp [e]
        · rw [if_neg e]; simp [e]
      · rw [List.mem_singleton] at hy; subst hy
        exact ⟨by omega, by omega, OrbE.refl (by omega) (by omega)⟩
noncomputable def orbitsL (n : Int) (l : List (List Int)) : List (List Int) × Int := if gensE n l = 0 then (orbsF n.toNat l 0 n.toNat, 0) else ([], gensE n l)
theorem POrbits_tells (n : Int) (l : List (List Int)) (hll : l.length ≤ 1000) : Tells (fun k => perm_Orbits.f k n l) (orbitsL n l) := by
  unfold perm_Orbits.f orbitsL
  refine Tells.bind (a := gensE n l) (Tells.now' (gensL_eq n l)) ?_
  by_cases h : gensE n l = 0
  · obtain ⟨m, rfl, h1, h64, hg⟩ := gensE_zero h
    rw [if_pos h]
    refine Tells.pos h (Tells.pos (by omega) (Tells.pos (by omega) ?_)); rw [show ((m : Nat) : Int).toNat = m by omega]
    have hz : ∀ y : Int, rdOf false (List.replicate m false) y = false := by
      intro y; simp only [rdOf, List.getD_eq_getElem?_getD, List.getElem?_replicate]
      split <;> rfl
    have := orb_l0 h64 hg hll m 0 (List.replicate m false) [] (by omega) (by simp) (by simp) (fun y k0 k1 => by
      rw [hz]
      constructor
      · intro h; cases h
      · rintro ⟨j, h0, h1, _⟩; omega)
    rw [List.nil_append] at this
    exact this
  rw [if_neg h]
  exact Tells.neg h Tells.now
end Go.Proofs.Ytjjlhbgpdncpcaa.P.M
end
namespace Go.Proofs.Ytjjlhbgpdncpcaa.P
open Go.RowKit Go.Proofs.YtjjlhbgpdncpcaaW.PrintWords Go.Proofs.YtjjlhbgpdncpcaaW.PrintLast Go.Proofs.YtjjlhbgpdncpcaaW.PrintMore
set_option linter.unusedVariables false
set_option linter.unusedSimpArgs false
set_option maxHeartbeats 8000000
set_option maxRecDepth 100000
section
attribute [local go_sem] max2_int min2_int max_two min_two max_three min_three max_four min_four

end
section
attribute [local go_sem] max2_int min2_int max_two min_two max_three min_three max_four min_four
def r30_CheckChain.T3 : Bool × List (List Nat × List Nat) := (true, [([], []), ([0], [0]), ([], []), ([2], [2]), ([1, 3, 3], [1, 3]), ([4], [4]), ([5], [5]), ([5], [5]), ([], []), ([8, 6, 4, 0, 1, 2, 3, 4, 5, 6, 8], [6, 8]), ([7, 9, 0, 1, 2, 3, 4, 5, 6, 7, 8, 9], [7])])
end
section
attribute [local go_sem] max2_int min2_int max_two min_two max_three min_three max_four min_four

end
end Go.Proofs.Ytjjlhbgpdncpcaa.P
