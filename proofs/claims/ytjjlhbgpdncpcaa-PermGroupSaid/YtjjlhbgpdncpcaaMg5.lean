/- The law of the claim, proved for every input: the last of its texts. -/
import Derived.Test.YtjjlhbgpdncpcaaRows
import Derived.Deep.Matrix
import Derived.WalkKit
import Derived.ProofKit
import Derived.OpenShut
import Derived.ShutString
import Derived.ChangeOld
import Derived.Below
import Derived.SizedLaws
import Derived.Carry
import Derived.Test.YtjjlhbgpdncpcaaMg1
import Derived.Test.YtjjlhbgpdncpcaaMg4
import Derived.Test.YtjjlhbgpdncpcaaMg3
import Derived.Test.YtjjlhbgpdncpcaaMg2
namespace Go.Proofs.Ytjjlhbgpdncpcaa.P
open Go.RowKit Go.Proofs.YtjjlhbgpdncpcaaW.PrintWords Go.Proofs.YtjjlhbgpdncpcaaW.PrintLast Go.Proofs.YtjjlhbgpdncpcaaW.PrintMore
set_option linter.unusedVariables false
set_option linter.unusedSimpArgs false
set_option maxHeartbeats 8000000
set_option maxRecDepth 100000
section
attribute [local go_sem] max2_int min2_int max_two min_two max_three min_three max_four min_four
mutual
def l30_PermGroup.j0 : Nat → List Int → List Int → List Int → Bool → Option (Bool)
  | 0, _, _, _, _ => none
  | k + 1, x0, x1, x2, x56 => if x56 = true then ((l30_awake.f).bind fun t402 => (some t402)) else ((perm_Compose.f k (([x0, x1] : List (List Int)))).bind fun bt406 => ((perm_Compose.f k (([x1, x2] : List (List Int)))).bind fun bt413 => ((perm_Compose.f k (([bt406.1, x2] : List (List Int)))).bind fun bt420 => ((perm_Compose.f k (([x0, bt413.1] : List (List Int)))).bind fun bt427 => ((perm_Inverse.f k x0).bind fun bt431 => ((perm_Compose.f k (([x0, bt431.1] : List (List Int)))).bind fun bt438 => ((perm_Compose.f k (([bt431.1, x0] : List (List Int)))).bind fun bt445 => ((perm_Order.f k x0).bind fun bt449 => (if bt406.2 = 0 then (if bt413.2 = 0 then (if bt420.2 = 0 then (if bt427.2 = 0 then (if bt431.2 = 0 then (if bt438.2 = 0 then (if bt445.2 = 0 then (if bt449.2 = 0 then ((r09_SameInts.f k bt420.1 bt427.1).bind fun t451 => (if t451 = true then (l30_PermGroup.j1 k x0 bt438.1 bt445.1 bt449.1 (decide (bt449.1 < 1))) else (l30_PermGroup.j1 k x0 bt438.1 bt445.1 bt449.1 true))) else (l30_PermGroup.j1 k x0 bt438.1 bt445.1 bt449.1 true)) else (l30_PermGroup.j1 k x0 bt438.1 bt445.1 bt449.1 true)) else (l30_PermGroup.j1 k x0 bt438.1 bt445.1 bt449.1 true)) else (l30_PermGroup.j1 k x0 bt438.1 bt445.1 bt449.1 true)) else (l30_PermGroup.j1 k x0 bt438.1 bt445.1 bt449.1 true)) else (l30_PermGroup.j1 k x0 bt438.1 bt445.1 bt449.1 true)) else (l30_PermGroup.j1 k x0 bt438.1 bt445.1 bt449.1 true)) else (l30_PermGroup.j1 k x0 bt438.1 bt445.1 bt449.1 true))))))))))
def l30_PermGroup.j1 : Nat → List Int → List Int → List Int → Int → Bool → Option (Bool)
  | 0, _, _, _, _, _ => none
  | k + 1, x0, x17, x19, x21, x149 => if x149 = true then (some false) else ((r30_Unit.f k (x0.length : Int)).bind fun t452 => ((r09_SameInts.f k x17 t452).bind fun t455 => (if t455 = true then ((r09_SameInts.f k x19 t452).bind fun t456 => (l30_PermGroup.j2 k x0 x21 t452 (!t456))) else (l30_PermGroup.j2 k x0 x21 t452 true))))
def l30_PermGroup.j2 : Nat → List Int → Int → List Int → Bool → Option (Bool)
  | 0, _, _, _, _ => none
  | k + 1, x0, x21, x23, x162 => if x162 = true then (some false) else (l30_PermGroup.l0 k x0 x21 x23 x0 1)
def l30_PermGroup.l0 : Nat → List Int → Int → List Int → List Int → Int → Option (Bool)
  | 0, _, _, _, _, _ => none
  | k + 1, x0, x21, x23, x24, x25 => if x25 ≤ 2000 then ((r09_SameInts.f k x24 x23).bind fun t457 => (if t457 = true then (l30_PermGroup.j4 k x0 x21 x23 x24 x25 true) else (l30_PermGroup.j4 k x0 x21 x23 x24 x25 (x25 == x21)))) else (some true)
def l30_PermGroup.j4 : Nat → List Int → Int → List Int → List Int → Int → Bool → Option (Bool)
  | 0, _, _, _, _, _, _ => none
  | k + 1, x0, x21, x23, x24, x25, x175 => if x175 = true then (if x25 = x21 then ((r09_SameInts.f k x24 x23).bind fun t458 => (some t458)) else (some false)) else ((perm_Compose.f k (([x24, x0] : List (List Int)))).bind fun bt462 => (if bt462.2 = 0 then (l30_PermGroup.l0 k x0 x21 x23 bt462.1 (wrap64 (x25 + 1))) else (some false)))
end
def l30_PermGroup.f (k : Nat) (l0 : List Int) (l1 : List Int) (l2 : List Int) : Option (Bool) := (l30_awake.f).bind fun t397 => (if t397 = true then (if (l0.length : Int) > 30 then (l30_PermGroup.j0 k l0 l1 l2 true) else (if (l1.length : Int) = (l0.length : Int) then (if (l2.length : Int) = (l0.length : Int) then ((l30_valid.f k (l0.length : Int) (([l0, l1, l2] : List (List Int)))).bind fun t401 => (l30_PermGroup.j0 k l0 l1 l2 (!t401))) else (l30_PermGroup.j0 k l0 l1 l2 true)) else (l30_PermGroup.j0 k l0 l1 l2 true))) else (l30_PermGroup.j0 k l0 l1 l2 true))
theorem l30_PermGroup.calls (k : Nat) (P0_ : Nat → Prop) (A0 : Option Addr) (c0 : Nat) (l0 : List Int) (P1_ : Nat → Prop) (A1 : Option Addr) (c1 : Nat) (l1 : List Int) (P2_ : Nat → Prop) (A2 : Option Addr) (c2 : Nat) (l2 : List Int) (r : Bool) (w : World) (hs0 : Kd.V (Kd.int .i64) 3 w w.heap.size (fun k_ => P0_ k_) (.slice A0 l0.length c0) l0) (hs1 : Kd.V (Kd.int .i64) 3 w w.heap.size (fun k_ => P1_ k_) (.slice A1 l1.length c1) l1) (hs2 : Kd.V (Kd.int .i64) 3 w w.heap.size (fun k_ => P2_ k_) (.slice A2 l2.length c2) l2) (h : l30_PermGroup.f k l0 l1 l2 = some r) (hr_ : r = true) :
    Calls Try.prog 4 #[.slice A0 l0.length c0, .slice A1 l1.length c1, .slice A2 l2.length c2] w fun e w' => e = .returned (.bool r) ∧ Below w.heap.size w w' := by
  have HR_ := aM hr_
  clear hr_
  have HO0 := aM (show Kd.V (Kd.int .i64) 3 w w.heap.size (fun k_ => ((P0_ k_ ∨ P1_ k_ ∨ P2_ k_) ∨ w.heap.size ≤ k_)) (.slice A0 l0.length c0) l0 from Kd.V_mono hs0 (fun k_ hk => .inl (.inl hk)))
  have HO1 := aM (show Kd.V (Kd.int .i64) 3 w w.heap.size (fun k_ => ((P0_ k_ ∨ P1_ k_ ∨ P2_ k_) ∨ w.heap.size ≤ k_)) (.slice A1 l1.length c1) l1 from Kd.V_mono hs1 (fun k_ hk => .inl (.inr (.inl hk))))
  have HO2 := aM (show Kd.V (Kd.int .i64) 3 w w.heap.size (fun k_ => ((P0_ k_ ∨ P1_ k_ ∨ P2_ k_) ∨ w.heap.size ≤ k_)) (.slice A2 l2.length c2) l2 from Kd.V_mono hs2 (fun k_ hk => .inl (.inr (.inr hk))))
  have HB := aM (Below.refl w.heap.size w)
  have H : ((l30_awake.f).bind fun t397 => (if t397 = true then (if (l0.length : Int) > 30 then (l30_PermGroup.j0 k l0 l1 l2 true) else (if (l1.length : Int) = (l0.length : Int) then (if (l2.length : Int) = (l0.length : Int) then ((l30_valid.f k (l0.length : Int) (([l0, l1, l2] : List (List Int)))).bind fun t401 => (l30_PermGroup.j0 k l0 l1 l2 (!t401))) else (l30_PermGroup.j0 k l0 l1 l2 true)) else (l30_PermGroup.j0 k l0 l1 l2 true))) else (l30_PermGroup.j0 k l0 l1 l2 true))) = some r := h
  clear h
  have HC4 := aM H
  clear H
  go_enter Try.func4, Try.ntmps4
  go_upto_region 1 with (fail)
  go_cut [56] (fun v56 wc => ∃ (kq : Nat) (x56_3 : Bool), v56 = .bool x56_3 ∧ Aside0 (l30_PermGroup.j0 kq l0 l1 l2 x56_3 = some r) ∧ Aside0 (kq ≤ k) ∧ Aside0 (Kd.V (Kd.int .i64) 3 wc w.heap.size (fun k_ => ((P0_ k_ ∨ P1_ k_ ∨ P2_ k_) ∨ w.heap.size ≤ k_)) (.slice A0 l0.length c0) l0) ∧ Aside0 (Kd.V (Kd.int .i64) 3 wc w.heap.size (fun k_ => ((P0_ k_ ∨ P1_ k_ ∨ P2_ k_) ∨ w.heap.size ≤ k_)) (.slice A1 l1.length c1) l1) ∧ Aside0 (Kd.V (Kd.int .i64) 3 wc w.heap.size (fun k_ => ((P0_ k_ ∨ P1_ k_ ∨ P2_ k_) ∨ w.heap.size ≤ k_)) (.slice A2 l2.length c2) l2) ∧ Aside0 (Below w.heap.size w wc))
  case first =>
    have H := HC4.out; clear HC4; replace H := Option.bind_eq_some_iff.mp H; obtain ⟨t397, A50, H⟩ := H; replace H : (if t397 = true then (if (l0.length : Int) > 30 then (l30_PermGroup.j0 k l0 l1 l2 true) else (if (l1.length : Int) = (l0.length : Int) then (if (l2.length : Int) = (l0.length : Int) then ((l30_valid.f k (l0.length : Int) (([l0, l1, l2] : List (List Int)))).bind fun t401 => (l30_PermGroup.j0 k l0 l1 l2 (!t401))) else (l30_PermGroup.j0 k l0 l1 l2 true)) else (l30_PermGroup.j0 k l0 l1 l2 true))) else (l30_PermGroup.j0 k l0 l1 l2 true)) = some r := H; have A5 := aM A50; clear A50
    by_cases c6 : t397 = true
    · subst c6; have H1 : (if (l0.length : Int) > 30 then (l30_PermGroup.j0 k l0 l1 l2 true) else (if (l1.length : Int) = (l0.length : Int) then (if (l2.length : Int) = (l0.length : Int) then ((l30_valid.f k (l0.length : Int) (([l0, l1, l2] : List (List Int)))).bind fun t401 => (l30_PermGroup.j0 k l0 l1 l2 (!t401))) else (l30_PermGroup.j0 k l0 l1 l2 true)) else (l30_PermGroup.j0 k l0 l1 l2 true))) = some r := by rw [if_pos rfl] at H; exact H
      clear H; have H := H1; clear H1
      by_cases c7 : (l0.length : Int) > 30
      · rw [if_pos c7] at H; have c7b0 := decide_eq_true c7; have c7b1 : decide (30 < l0.length) = true := decide_eq_true (by omega); clear c7
        (first | rw [c7b0] | (simp only [i64_w, i32_w]; rw [c7b0]) | skip)
        have H' := aM H; clear H
        go_wp2_with (first | ((with_reducible refine gate_callee (f := 12) rfl ?_); refine goesL_ (some 26) rfl rfl Try.func12 (by kernel_rfl) rfl #[] rfl zz47 ?_; (with_reducible refine (l30_awake.calls  true _ A5.out).mono ?_); rintro e w8 ⟨rfl, hb⟩; refine ⟨_, rfl, ?_⟩; replace HO0 := aM (Kd.V_below (zV HO0) hb); replace HO1 := aM (Kd.V_below (zV HO1) hb); replace HO2 := aM (Kd.V_below (zV HO2) hb); replace HB := aM (below_step zz48 hb); (try clear hb); (try clear hb2); (try clear hk); (try clear hi)))
        go_meet
        case rel => exact ⟨_, (true), zz73, H', ⟨zz76⟩, ⟨(zV HO0)⟩, ⟨(zV HO1)⟩, ⟨(zV HO2)⟩, ⟨zz48⟩⟩
      rw [if_neg c7] at H; have c7b0 := decide_eq_false c7; have c7b1 : decide (30 < l0.length) = false := decide_eq_false (by omega); clear c7
      (first | rw [c7b0] | (simp only [i64_w, i32_w]; rw [c7b0]) | skip)
      by_cases c9 : (l1.length : Int) = (l0.length : Int)
      · rw [if_pos c9] at H; have c9b0 := beq_iff_eq.mpr c9; have c9b1 := bne_eq_false_iff_eq.mpr c9; have c9b2 : (l1.length == l0.length) = true := by first | simpa using c9 | (simp at c9 ⊢; omega)
        clear c9
        by_cases c10 : (l2.length : Int) = (l0.length : Int)
        · rw [if_pos c10] at H; have c10b0 := beq_iff_eq.mpr c10; have c10b1 := bne_eq_false_iff_eq.mpr c10; have c10b2 : (l2.length == l0.length) = true := by first | simpa using c10 | (simp at c10 ⊢; omega)
          clear c10; obtain ⟨y398, hy398⟩ : ∃ y_ : List (List Int), y_ = (([l0, l1, l2] : List (List Int))) := ⟨_, rfl⟩; replace H : ((l30_valid.f k (l0.length : Int) y398).bind fun t401 => (l30_PermGroup.j0 k l0 l1 l2 (!t401))) = some r := by first | (rw [hy398]; with_reducible exact H) | (have H2_ := (Option.bind_some _ _).symm.trans H; rw [hy398]; with_reducible exact H2_) | (have H2_ := (Option.bind_some _ _).symm.trans H; with_reducible exact H2_) | with_reducible exact H | (rw [hy398]; exact H) | exact H
          have Ny398 := aM hy398; clear hy398; replace H := Option.bind_eq_some_iff.mp H; obtain ⟨t401, A110, H⟩ := H; replace H : (l30_PermGroup.j0 k l0 l1 l2 (!t401)) = some r := H; have A11 := aM A110; clear A110; have H' := aM H; clear H
          go_wp2_with (first | ((with_reducible refine gate_callee (f := 12) rfl ?_); refine goesL_ (some 26) rfl rfl Try.func12 (by kernel_rfl) rfl #[] rfl zz47 ?_; (with_reducible refine (l30_awake.calls  true _ A5.out).mono ?_); rintro e w12 ⟨rfl, hb⟩; refine ⟨_, rfl, ?_⟩; replace HO0 := aM (Kd.V_below (zV HO0) hb); replace HO1 := aM (Kd.V_below (zV HO1) hb); replace HO2 := aM (Kd.V_below (zV HO2) hb); replace HB := aM (below_step zz48 hb); (try clear hb); (try clear hb2); (try clear hk); (try clear hi)) | ((with_reducible refine gate_dst (N := 53) rfl ?_); (try (refine gate_guard (by rfl) ?_; dsimp only)); refine Kd.N_lit (Kd.slice 3 (Kd.int .i64)) _ 22 ?hg (N' := 53) ?hd (xs := ([l0, l1, l2] : List (List Int))) (inner := [.slice A0 l0.length c0, .slice A1 l1.length c1, .slice A2 l2.length c2]) (ok := (fun k_ => ((P0_ k_ ∨ P1_ k_ ∨ P2_ k_) ∨ w.heap.size ≤ k_))) (okp := (fun k_ => ((P0_ k_ ∨ P1_ k_ ∨ P2_ k_) ∨ w.heap.size ≤ k_))) ?hr ?hp (fun _ hk => hk) ((show ∀ k_, w12.heap.size ≤ k_ → (fun k_ => ((P0_ k_ ∨ P1_ k_ ∨ P2_ k_) ∨ w.heap.size ≤ k_)) k_ from fun k_ hk => (.inr (Nat.le_trans (below_size zz48) hk))) _ (Nat.le_refl _)) (Below.refl _ _) (Nat.le_refl _) (by simp) ?_; (case hd => rfl); (case hg => rfl); (case hr => first | (go_simp; done) | (go_simp; rfl)); (case hp => exact (Reps.one (show Kd.FK (Kd.slice 3 (Kd.int .i64)) _ _ l0 [.slice A0 l0.length c0] from (Kd.FK_slice_mk (Kd.V_reads' (Kd.V_mono (ok' := (fun k_ => ((P0_ k_ ∨ P1_ k_ ∨ P2_ k_) ∨ w.heap.size ≤ k_))) (HO0.out) (fun k_ hk => hk))).2.1 (Kd.V_F (Kd.V_mono (ok' := (fun k_ => ((P0_ k_ ∨ P1_ k_ ∨ P2_ k_) ∨ w.heap.size ≤ k_))) (HO0.out) (fun k_ hk => hk))))) (Reps.one (show Kd.FK (Kd.slice 3 (Kd.int .i64)) _ _ l1 [.slice A1 l1.length c1] from (Kd.FK_slice_mk (Kd.V_reads' (Kd.V_mono (ok' := (fun k_ => ((P0_ k_ ∨ P1_ k_ ∨ P2_ k_) ∨ w.heap.size ≤ k_))) (HO1.out) (fun k_ hk => hk))).2.1 (Kd.V_F (Kd.V_mono (ok' := (fun k_ => ((P0_ k_ ∨ P1_ k_ ∨ P2_ k_) ∨ w.heap.size ≤ k_))) (HO1.out) (fun k_ hk => hk))))) (Reps.one (show Kd.FK (Kd.slice 3 (Kd.int .i64)) _ _ l2 [.slice A2 l2.length c2] from (Kd.FK_slice_mk (Kd.V_reads' (Kd.V_mono (ok' := (fun k_ => ((P0_ k_ ∨ P1_ k_ ∨ P2_ k_) ∨ w.heap.size ≤ k_))) (HO2.out) (fun k_ hk => hk))).2.1 (Kd.V_F (Kd.V_mono (ok' := (fun k_ => ((P0_ k_ ∨ P1_ k_ ∨ P2_ k_) ∨ w.heap.size ≤ k_))) (HO2.out) (fun k_ hk => hk))))) (Reps.none _ _))))); intro v399 w13 ho14 hb hg_ hnew_; clear hg_ hnew_; (first | rw [← Ny398.out] at ho14 | (simp only [Int.reduceToNat] at ho14; rw [← Ny398.out] at ho14)); replace HO0 := aM (Kd.V_elder' (zV HO0) (Kd.N_base ho14) hb); replace HO1 := aM (Kd.V_elder' (zV HO1) (Kd.N_base ho14) hb); replace HO2 := aM (Kd.V_elder' (zV HO2) (Kd.N_base ho14) hb); have HO400 := aM (Kd.N_lower ho14 (below_size zz48)); replace HB := aM (below_step zz48 hb); clear hb ho14; obtain ⟨Ao15, co15, eo15⟩ := Kd.N_slice HO400.out; subst eo15) | (go_at_call 25; (with_reducible refine (l30_valid.calls k (l0.length : Int) _ _ y398 t401 _ ?side1 ?side2 A11.out).mono ?_); (case side1 => repeat (first | exact (Kd.N_reads' HO400.out).2.2 | (with_reducible refine Kd.C_alloc ?_ _) | (with_reducible refine Kd.C_drewN ?_ _) | (with_reducible refine Kd.C_drew ?_))); (case side2 => exact (Kd.N_reads' HO400.out).2.1); rintro e w' ⟨rfl, ⟨nd, rfl⟩⟩))
          go_meet
          case rel => exact ⟨_, (!t401), zz73, H', ⟨zz76⟩, ⟨(by (with_reducible repeat (first | apply Kd.V_alloc | apply Kd.V_drewN | apply Kd.V_drew)); exact Kd.V_mono HO0.out (fun _ hk => by first | exact hk.1 | ((repeat' apply And.intro) <;> (first | exact hk | exact hk.1 | exact hk.2 | exact hk.1.1 | exact hk.1.2 | exact hk.2.1 | exact hk.2.2 | exact hk.1.1.1 | exact hk.1.1.2 | exact hk.1.2.1 | exact hk.1.2.2 | exact hk.2.1.1 | exact hk.2.1.2 | exact hk.2.2.1 | exact hk.2.2.2 | exact hk.1.1.1.1 | exact hk.1.1.1.2 | exact hk.2.2.2.1 | exact hk.2.2.2.2))))⟩, ⟨(by (with_reducible repeat (first | apply Kd.V_alloc | apply Kd.V_drewN | apply Kd.V_drew)); exact Kd.V_mono HO1.out (fun _ hk => by first | exact hk.1 | ((repeat' apply And.intro) <;> (first | exact hk | exact hk.1 | exact hk.2 | exact hk.1.1 | exact hk.1.2 | exact hk.2.1 | exact hk.2.2 | exact hk.1.1.1 | exact hk.1.1.2 | exact hk.1.2.1 | exact hk.1.2.2 | exact hk.2.1.1 | exact hk.2.1.2 | exact hk.2.2.1 | exact hk.2.2.2 | exact hk.1.1.1.1 | exact hk.1.1.1.2 | exact hk.2.2.2.1 | exact hk.2.2.2.2))))⟩, ⟨(by (with_reducible repeat (first | apply Kd.V_alloc | apply Kd.V_drewN | apply Kd.V_drew)); exact Kd.V_mono HO2.out (fun _ hk => by first | exact hk.1 | ((repeat' apply And.intro) <;> (first | exact hk | exact hk.1 | exact hk.2 | exact hk.1.1 | exact hk.1.2 | exact hk.2.1 | exact hk.2.2 | exact hk.1.1.1 | exact hk.1.1.2 | exact hk.1.2.1 | exact hk.1.2.2 | exact hk.2.1.1 | exact hk.2.1.2 | exact hk.2.2.1 | exact hk.2.2.2 | exact hk.1.1.1.1 | exact hk.1.1.1.2 | exact hk.2.2.2.1 | exact hk.2.2.2.2))))⟩, ⟨zz48⟩⟩
        rw [if_neg c10] at H; have c10b0 := beq_eq_false_iff_ne.mpr c10; have c10b1 := bne_iff_ne.mpr c10; have c10b2 : (l2.length == l0.length) = false := by first | simpa using c10 | (simp at c10 ⊢; omega)
        have H' := aM H; clear H
        go_wp2_with (first | ((with_reducible refine gate_callee (f := 12) rfl ?_); refine goesL_ (some 26) rfl rfl Try.func12 (by kernel_rfl) rfl #[] rfl zz47 ?_; (with_reducible refine (l30_awake.calls  true _ A5.out).mono ?_); rintro e w16 ⟨rfl, hb⟩; refine ⟨_, rfl, ?_⟩; replace HO0 := aM (Kd.V_below (zV HO0) hb); replace HO1 := aM (Kd.V_below (zV HO1) hb); replace HO2 := aM (Kd.V_below (zV HO2) hb); replace HB := aM (below_step zz48 hb); (try clear hb); (try clear hb2); (try clear hk); (try clear hi)))
        go_meet
        case rel => exact ⟨_, (true), zz73, H', ⟨zz76⟩, ⟨(zV HO0)⟩, ⟨(zV HO1)⟩, ⟨(zV HO2)⟩, ⟨zz48⟩⟩
      rw [if_neg c9] at H; have c9b0 := beq_eq_false_iff_ne.mpr c9; have c9b1 := bne_iff_ne.mpr c9; have c9b2 : (l1.length == l0.length) = false := by first | simpa using c9 | (simp at c9 ⊢; omega)
      have H' := aM H; clear H
      go_wp2_with (first | ((with_reducible refine gate_callee (f := 12) rfl ?_); refine goesL_ (some 26) rfl rfl Try.func12 (by kernel_rfl) rfl #[] rfl zz47 ?_; (with_reducible refine (l30_awake.calls  true _ A5.out).mono ?_); rintro e w17 ⟨rfl, hb⟩; refine ⟨_, rfl, ?_⟩; replace HO0 := aM (Kd.V_below (zV HO0) hb); replace HO1 := aM (Kd.V_below (zV HO1) hb); replace HO2 := aM (Kd.V_below (zV HO2) hb); replace HB := aM (below_step zz48 hb); (try clear hb); (try clear hb2); (try clear hk); (try clear hi)))
      go_meet
      case rel => exact ⟨_, (true), zz73, H', ⟨zz76⟩, ⟨(zV HO0)⟩, ⟨(zV HO1)⟩, ⟨(zV HO2)⟩, ⟨zz48⟩⟩
    replace c6 := Bool.eq_false_iff.mpr c6; subst c6; have H1 : (l30_PermGroup.j0 k l0 l1 l2 true) = some r := by rw [if_neg (show ¬ (false = true) by decide)] at H; exact H
    clear H; have H := H1; clear H1; have H' := aM H; clear H
    go_wp2_with (first | ((with_reducible refine gate_callee (f := 12) rfl ?_); refine goesL_ (some 26) rfl rfl Try.func12 (by kernel_rfl) rfl #[] rfl zz47 ?_; (with_reducible refine (l30_awake.calls  false _ A5.out).mono ?_); rintro e w18 ⟨rfl, hb⟩; refine ⟨_, rfl, ?_⟩; replace HO0 := aM (Kd.V_below (zV HO0) hb); replace HO1 := aM (Kd.V_below (zV HO1) hb); replace HO2 := aM (Kd.V_below (zV HO2) hb); replace HB := aM (below_step zz48 hb); (try clear hb); (try clear hb2); (try clear hk); (try clear hi)))
    go_meet
    case rel => exact ⟨_, (true), zz73, H', ⟨zz76⟩, ⟨(zV HO0)⟩, ⟨(zV HO1)⟩, ⟨(zV HO2)⟩, ⟨zz48⟩⟩
  case rest =>
    clear HC4; (try clear c1); (try clear c2); (try clear p2); (try clear c4); (try clear c6); (try clear c7); (try clear c7b0); (try clear c7b1); (try clear c9); (try clear c9b0); (try clear c9b1); (try clear c9b2); (try clear c10); (try clear c10b0); (try clear c10b1); (try clear c10b2); (try clear c12); obtain ⟨kq, x56_3, rfl, HA, HJ3, HO_0, HO_1, HO_2, HB⟩ := hcut
    cases kq with
    | zero => exact absurd HA.out (by simp [l30_PermGroup.j0])
    | succ kj3 =>
      have H := HA.out; clear HA; simp only [l30_PermGroup.j0] at H
      by_cases c19 : x56_3 = true
      · subst c19; have H1 : ((l30_awake.f).bind fun t402 => (some t402)) = some r := by rw [if_pos rfl] at H; exact H
        clear H; have H := H1; clear H1; replace H := Option.bind_eq_some_iff.mp H; obtain ⟨t402, A200, H⟩ := H; replace H : (some t402) = some r := H; have A20 := aM A200; clear A200; obtain rfl := Option.some.inj H
        go_wp2_with (first | ((with_reducible refine gate_callee (f := 12) rfl ?_); refine goesL_ (some 57) rfl rfl Try.func12 (by kernel_rfl) rfl #[] rfl zz47 ?_; (with_reducible refine (l30_awake.calls  t402 _ A20.out).mono ?_); rintro e w21 ⟨rfl, hb⟩; refine ⟨_, rfl, ?_⟩; replace HO_0 := aM (Kd.V_below (zV HO_0) hb); replace HO_1 := aM (Kd.V_below (zV HO_1) hb); replace HO_2 := aM (Kd.V_below (zV HO_2) hb); replace HB := aM (below_step zz48 hb); (try clear hb); (try clear hb2); (try clear hk); (try clear hi)))
        go_ret
        exact ⟨by first | rfl | (simp [errW_none, errW_some] <;> rfl) | (simp [*, errW_none, errW_some] <;> rfl), by repeat (first | (with_reducible first | exact HB.out | apply below_alloc | apply pw_below_drewN | apply below_drew1) | exact HB.out)⟩
      replace c19 := Bool.eq_false_iff.mpr c19; subst c19; have H1 : ((perm_Compose.f kj3 (([l0, l1] : List (List Int)))).bind fun bt406 => ((perm_Compose.f kj3 (([l1, l2] : List (List Int)))).bind fun bt413 => ((perm_Compose.f kj3 (([bt406.1, l2] : List (List Int)))).bind fun bt420 => ((perm_Compose.f kj3 (([l0, bt413.1] : List (List Int)))).bind fun bt427 => ((perm_Inverse.f kj3 l0).bind fun bt431 => ((perm_Compose.f kj3 (([l0, bt431.1] : List (List Int)))).bind fun bt438 => ((perm_Compose.f kj3 (([bt431.1, l0] : List (List Int)))).bind fun bt445 => ((perm_Order.f kj3 l0).bind fun bt449 => (if bt406.2 = 0 then (if bt413.2 = 0 then (if bt420.2 = 0 then (if bt427.2 = 0 then (if bt431.2 = 0 then (if bt438.2 = 0 then (if bt445.2 = 0 then (if bt449.2 = 0 then ((r09_SameInts.f kj3 bt420.1 bt427.1).bind fun t451 => (if t451 = true then (l30_PermGroup.j1 kj3 l0 bt438.1 bt445.1 bt449.1 (decide (bt449.1 < 1))) else (l30_PermGroup.j1 kj3 l0 bt438.1 bt445.1 bt449.1 true))) else (l30_PermGroup.j1 kj3 l0 bt438.1 bt445.1 bt449.1 true)) else (l30_PermGroup.j1 kj3 l0 bt438.1 bt445.1 bt449.1 true)) else (l30_PermGroup.j1 kj3 l0 bt438.1 bt445.1 bt449.1 true)) else (l30_PermGroup.j1 kj3 l0 bt438.1 bt445.1 bt449.1 true)) else (l30_PermGroup.j1 kj3 l0 bt438.1 bt445.1 bt449.1 true)) else (l30_PermGroup.j1 kj3 l0 bt438.1 bt445.1 bt449.1 true)) else (l30_PermGroup.j1 kj3 l0 bt438.1 bt445.1 bt449.1 true)) else (l30_PermGroup.j1 kj3 l0 bt438.1 bt445.1 bt449.1 true)))))))))) = some r := by rw [if_neg (show ¬ (false = true) by decide)] at H; exact H
      clear H; have H := H1; clear H1; obtain ⟨y403, hy403⟩ : ∃ y_ : List (List Int), y_ = (([l0, l1] : List (List Int))) := ⟨_, rfl⟩; replace H : ((perm_Compose.f kj3 y403).bind fun bt406 => ((perm_Compose.f kj3 (([l1, l2] : List (List Int)))).bind fun bt413 => ((perm_Compose.f kj3 (([bt406.1, l2] : List (List Int)))).bind fun bt420 => ((perm_Compose.f kj3 (([l0, bt413.1] : List (List Int)))).bind fun bt427 => ((perm_Inverse.f kj3 l0).bind fun bt431 => ((perm_Compose.f kj3 (([l0, bt431.1] : List (List Int)))).bind fun bt438 => ((perm_Compose.f kj3 (([bt431.1, l0] : List (List Int)))).bind fun bt445 => ((perm_Order.f kj3 l0).bind fun bt449 => (if bt406.2 = 0 then (if bt413.2 = 0 then (if bt420.2 = 0 then (if bt427.2 = 0 then (if bt431.2 = 0 then (if bt438.2 = 0 then (if bt445.2 = 0 then (if bt449.2 = 0 then ((r09_SameInts.f kj3 bt420.1 bt427.1).bind fun t451 => (if t451 = true then (l30_PermGroup.j1 kj3 l0 bt438.1 bt445.1 bt449.1 (decide (bt449.1 < 1))) else (l30_PermGroup.j1 kj3 l0 bt438.1 bt445.1 bt449.1 true))) else (l30_PermGroup.j1 kj3 l0 bt438.1 bt445.1 bt449.1 true)) else (l30_PermGroup.j1 kj3 l0 bt438.1 bt445.1 bt449.1 true)) else (l30_PermGroup.j1 kj3 l0 bt438.1 bt445.1 bt449.1 true)) else (l30_PermGroup.j1 kj3 l0 bt438.1 bt445.1 bt449.1 true)) else (l30_PermGroup.j1 kj3 l0 bt438.1 bt445.1 bt449.1 true)) else (l30_PermGroup.j1 kj3 l0 bt438.1 bt445.1 bt449.1 true)) else (l30_PermGroup.j1 kj3 l0 bt438.1 bt445.1 bt449.1 true)) else (l30_PermGroup.j1 kj3 l0 bt438.1 bt445.1 bt449.1 true)))))))))) = some r := by first | (rw [hy403]; with_reducible exact H) | (have H2_ := (Option.bind_some _ _).symm.trans H; rw [hy403]; with_reducible exact H2_) | (have H2_ := (Option.bind_some _ _).symm.trans H; with_reducible exact H2_) | with_reducible exact H | (rw [hy403]; exact H) | exact H
      have Ny403 := aM hy403; clear hy403; replace H := Option.bind_eq_some_iff.mp H; obtain ⟨⟨t406, t409⟩, A220, H⟩ := H; replace H : ((perm_Compose.f kj3 (([l1, l2] : List (List Int)))).bind fun bt413 => ((perm_Compose.f kj3 (([t406, l2] : List (List Int)))).bind fun bt420 => ((perm_Compose.f kj3 (([l0, bt413.1] : List (List Int)))).bind fun bt427 => ((perm_Inverse.f kj3 l0).bind fun bt431 => ((perm_Compose.f kj3 (([l0, bt431.1] : List (List Int)))).bind fun bt438 => ((perm_Compose.f kj3 (([bt431.1, l0] : List (List Int)))).bind fun bt445 => ((perm_Order.f kj3 l0).bind fun bt449 => (if t409 = 0 then (if bt413.2 = 0 then (if bt420.2 = 0 then (if bt427.2 = 0 then (if bt431.2 = 0 then (if bt438.2 = 0 then (if bt445.2 = 0 then (if bt449.2 = 0 then ((r09_SameInts.f kj3 bt420.1 bt427.1).bind fun t451 => (if t451 = true then (l30_PermGroup.j1 kj3 l0 bt438.1 bt445.1 bt449.1 (decide (bt449.1 < 1))) else (l30_PermGroup.j1 kj3 l0 bt438.1 bt445.1 bt449.1 true))) else (l30_PermGroup.j1 kj3 l0 bt438.1 bt445.1 bt449.1 true)) else (l30_PermGroup.j1 kj3 l0 bt438.1 bt445.1 bt449.1 true)) else (l30_PermGroup.j1 kj3 l0 bt438.1 bt445.1 bt449.1 true)) else (l30_PermGroup.j1 kj3 l0 bt438.1 bt445.1 bt449.1 true)) else (l30_PermGroup.j1 kj3 l0 bt438.1 bt445.1 bt449.1 true)) else (l30_PermGroup.j1 kj3 l0 bt438.1 bt445.1 bt449.1 true)) else (l30_PermGroup.j1 kj3 l0 bt438.1 bt445.1 bt449.1 true)) else (l30_PermGroup.j1 kj3 l0 bt438.1 bt445.1 bt449.1 true))))))))) = some r := H; have A22 := aM A220; clear A220; obtain ⟨y410, hy410⟩ : ∃ y_ : List (List Int), y_ = (([l1, l2] : List (List Int))) := ⟨_, rfl⟩; replace H : ((perm_Compose.f kj3 y410).bind fun bt413 => ((perm_Compose.f kj3 (([t406, l2] : List (List Int)))).bind fun bt420 => ((perm_Compose.f kj3 (([l0, bt413.1] : List (List Int)))).bind fun bt427 => ((perm_Inverse.f kj3 l0).bind fun bt431 => ((perm_Compose.f kj3 (([l0, bt431.1] : List (List Int)))).bind fun bt438 => ((perm_Compose.f kj3 (([bt431.1, l0] : List (List Int)))).bind fun bt445 => ((perm_Order.f kj3 l0).bind fun bt449 => (if t409 = 0 then (if bt413.2 = 0 then (if bt420.2 = 0 then (if bt427.2 = 0 then (if bt431.2 = 0 then (if bt438.2 = 0 then (if bt445.2 = 0 then (if bt449.2 = 0 then ((r09_SameInts.f kj3 bt420.1 bt427.1).bind fun t451 => (if t451 = true then (l30_PermGroup.j1 kj3 l0 bt438.1 bt445.1 bt449.1 (decide (bt449.1 < 1))) else (l30_PermGroup.j1 kj3 l0 bt438.1 bt445.1 bt449.1 true))) else (l30_PermGroup.j1 kj3 l0 bt438.1 bt445.1 bt449.1 true)) else (l30_PermGroup.j1 kj3 l0 bt438.1 bt445.1 bt449.1 true)) else (l30_PermGroup.j1 kj3 l0 bt438.1 bt445.1 bt449.1 true)) else (l30_PermGroup.j1 kj3 l0 bt438.1 bt445.1 bt449.1 true)) else (l30_PermGroup.j1 kj3 l0 bt438.1 bt445.1 bt449.1 true)) else (l30_PermGroup.j1 kj3 l0 bt438.1 bt445.1 bt449.1 true)) else (l30_PermGroup.j1 kj3 l0 bt438.1 bt445.1 bt449.1 true)) else (l30_PermGroup.j1 kj3 l0 bt438.1 bt445.1 bt449.1 true))))))))) = some r := by first | (rw [hy410]; with_reducible exact H) | (have H2_ := (Option.bind_some _ _).symm.trans H; rw [hy410]; with_reducible exact H2_) | (have H2_ := (Option.bind_some _ _).symm.trans H; with_reducible exact H2_) | with_reducible exact H | (rw [hy410]; exact H) | exact H
      have Ny410 := aM hy410; clear hy410; replace H := Option.bind_eq_some_iff.mp H; obtain ⟨⟨t413, t416⟩, A230, H⟩ := H; replace H : ((perm_Compose.f kj3 (([t406, l2] : List (List Int)))).bind fun bt420 => ((perm_Compose.f kj3 (([l0, t413] : List (List Int)))).bind fun bt427 => ((perm_Inverse.f kj3 l0).bind fun bt431 => ((perm_Compose.f kj3 (([l0, bt431.1] : List (List Int)))).bind fun bt438 => ((perm_Compose.f kj3 (([bt431.1, l0] : List (List Int)))).bind fun bt445 => ((perm_Order.f kj3 l0).bind fun bt449 => (if t409 = 0 then (if t416 = 0 then (if bt420.2 = 0 then (if bt427.2 = 0 then (if bt431.2 = 0 then (if bt438.2 = 0 then (if bt445.2 = 0 then (if bt449.2 = 0 then ((r09_SameInts.f kj3 bt420.1 bt427.1).bind fun t451 => (if t451 = true then (l30_PermGroup.j1 kj3 l0 bt438.1 bt445.1 bt449.1 (decide (bt449.1 < 1))) else (l30_PermGroup.j1 kj3 l0 bt438.1 bt445.1 bt449.1 true))) else (l30_PermGroup.j1 kj3 l0 bt438.1 bt445.1 bt449.1 true)) else (l30_PermGroup.j1 kj3 l0 bt438.1 bt445.1 bt449.1 true)) else (l30_PermGroup.j1 kj3 l0 bt438.1 bt445.1 bt449.1 true)) else (l30_PermGroup.j1 kj3 l0 bt438.1 bt445.1 bt449.1 true)) else (l30_PermGroup.j1 kj3 l0 bt438.1 bt445.1 bt449.1 true)) else (l30_PermGroup.j1 kj3 l0 bt438.1 bt445.1 bt449.1 true)) else (l30_PermGroup.j1 kj3 l0 bt438.1 bt445.1 bt449.1 true)) else (l30_PermGroup.j1 kj3 l0 bt438.1 bt445.1 bt449.1 true)))))))) = some r := H; have A23 := aM A230; clear A230; obtain ⟨y417, hy417⟩ : ∃ y_ : List (List Int), y_ = (([t406, l2] : List (List Int))) := ⟨_, rfl⟩; replace H : ((perm_Compose.f kj3 y417).bind fun bt420 => ((perm_Compose.f kj3 (([l0, t413] : List (List Int)))).bind fun bt427 => ((perm_Inverse.f kj3 l0).bind fun bt431 => ((perm_Compose.f kj3 (([l0, bt431.1] : List (List Int)))).bind fun bt438 => ((perm_Compose.f kj3 (([bt431.1, l0] : List (List Int)))).bind fun bt445 => ((perm_Order.f kj3 l0).bind fun bt449 => (if t409 = 0 then (if t416 = 0 then (if bt420.2 = 0 then (if bt427.2 = 0 then (if bt431.2 = 0 then (if bt438.2 = 0 then (if bt445.2 = 0 then (if bt449.2 = 0 then ((r09_SameInts.f kj3 bt420.1 bt427.1).bind fun t451 => (if t451 = true then (l30_PermGroup.j1 kj3 l0 bt438.1 bt445.1 bt449.1 (decide (bt449.1 < 1))) else (l30_PermGroup.j1 kj3 l0 bt438.1 bt445.1 bt449.1 true))) else (l30_PermGroup.j1 kj3 l0 bt438.1 bt445.1 bt449.1 true)) else (l30_PermGroup.j1 kj3 l0 bt438.1 bt445.1 bt449.1 true)) else (l30_PermGroup.j1 kj3 l0 bt438.1 bt445.1 bt449.1 true)) else (l30_PermGroup.j1 kj3 l0 bt438.1 bt445.1 bt449.1 true)) else (l30_PermGroup.j1 kj3 l0 bt438.1 bt445.1 bt449.1 true)) else (l30_PermGroup.j1 kj3 l0 bt438.1 bt445.1 bt449.1 true)) else (l30_PermGroup.j1 kj3 l0 bt438.1 bt445.1 bt449.1 true)) else (l30_PermGroup.j1 kj3 l0 bt438.1 bt445.1 bt449.1 true)))))))) = some r := by first | (rw [hy417]; with_reducible exact H) | (have H2_ := (Option.bind_some _ _).symm.trans H; rw [hy417]; with_reducible exact H2_) | (have H2_ := (Option.bind_some _ _).symm.trans H; with_reducible exact H2_) | with_reducible exact H | (rw [hy417]; exact H) | exact H
      have Ny417 := aM hy417; clear hy417; replace H := Option.bind_eq_some_iff.mp H; obtain ⟨⟨t420, t423⟩, A240, H⟩ := H; replace H : ((perm_Compose.f kj3 (([l0, t413] : List (List Int)))).bind fun bt427 => ((perm_Inverse.f kj3 l0).bind fun bt431 => ((perm_Compose.f kj3 (([l0, bt431.1] : List (List Int)))).bind fun bt438 => ((perm_Compose.f kj3 (([bt431.1, l0] : List (List Int)))).bind fun bt445 => ((perm_Order.f kj3 l0).bind fun bt449 => (if t409 = 0 then (if t416 = 0 then (if t423 = 0 then (if bt427.2 = 0 then (if bt431.2 = 0 then (if bt438.2 = 0 then (if bt445.2 = 0 then (if bt449.2 = 0 then ((r09_SameInts.f kj3 t420 bt427.1).bind fun t451 => (if t451 = true then (l30_PermGroup.j1 kj3 l0 bt438.1 bt445.1 bt449.1 (decide (bt449.1 < 1))) else (l30_PermGroup.j1 kj3 l0 bt438.1 bt445.1 bt449.1 true))) else (l30_PermGroup.j1 kj3 l0 bt438.1 bt445.1 bt449.1 true)) else (l30_PermGroup.j1 kj3 l0 bt438.1 bt445.1 bt449.1 true)) else (l30_PermGroup.j1 kj3 l0 bt438.1 bt445.1 bt449.1 true)) else (l30_PermGroup.j1 kj3 l0 bt438.1 bt445.1 bt449.1 true)) else (l30_PermGroup.j1 kj3 l0 bt438.1 bt445.1 bt449.1 true)) else (l30_PermGroup.j1 kj3 l0 bt438.1 bt445.1 bt449.1 true)) else (l30_PermGroup.j1 kj3 l0 bt438.1 bt445.1 bt449.1 true)) else (l30_PermGroup.j1 kj3 l0 bt438.1 bt445.1 bt449.1 true))))))) = some r := H; have A24 := aM A240; clear A240; obtain ⟨y424, hy424⟩ : ∃ y_ : List (List Int), y_ = (([l0, t413] : List (List Int))) := ⟨_, rfl⟩; replace H : ((perm_Compose.f kj3 y424).bind fun bt427 => ((perm_Inverse.f kj3 l0).bind fun bt431 => ((perm_Compose.f kj3 (([l0, bt431.1] : List (List Int)))).bind fun bt438 => ((perm_Compose.f kj3 (([bt431.1, l0] : List (List Int)))).bind fun bt445 => ((perm_Order.f kj3 l0).bind fun bt449 => (if t409 = 0 then (if t416 = 0 then (if t423 = 0 then (if bt427.2 = 0 then (if bt431.2 = 0 then (if bt438.2 = 0 then (if bt445.2 = 0 then (if bt449.2 = 0 then ((r09_SameInts.f kj3 t420 bt427.1).bind fun t451 => (if t451 = true then (l30_PermGroup.j1 kj3 l0 bt438.1 bt445.1 bt449.1 (decide (bt449.1 < 1))) else (l30_PermGroup.j1 kj3 l0 bt438.1 bt445.1 bt449.1 true))) else (l30_PermGroup.j1 kj3 l0 bt438.1 bt445.1 bt449.1 true)) else (l30_PermGroup.j1 kj3 l0 bt438.1 bt445.1 bt449.1 true)) else (l30_PermGroup.j1 kj3 l0 bt438.1 bt445.1 bt449.1 true)) else (l30_PermGroup.j1 kj3 l0 bt438.1 bt445.1 bt449.1 true)) else (l30_PermGroup.j1 kj3 l0 bt438.1 bt445.1 bt449.1 true)) else (l30_PermGroup.j1 kj3 l0 bt438.1 bt445.1 bt449.1 true)) else (l30_PermGroup.j1 kj3 l0 bt438.1 bt445.1 bt449.1 true)) else (l30_PermGroup.j1 kj3 l0 bt438.1 bt445.1 bt449.1 true))))))) = some r := by first | (rw [hy424]; with_reducible exact H) | (have H2_ := (Option.bind_some _ _).symm.trans H; rw [hy424]; with_reducible exact H2_) | (have H2_ := (Option.bind_some _ _).symm.trans H; with_reducible exact H2_) | with_reducible exact H | (rw [hy424]; exact H) | exact H
      have Ny424 := aM hy424; clear hy424; replace H := Option.bind_eq_some_iff.mp H; obtain ⟨⟨t427, t430⟩, A250, H⟩ := H; replace H : ((perm_Inverse.f kj3 l0).bind fun bt431 => ((perm_Compose.f kj3 (([l0, bt431.1] : List (List Int)))).bind fun bt438 => ((perm_Compose.f kj3 (([bt431.1, l0] : List (List Int)))).bind fun bt445 => ((perm_Order.f kj3 l0).bind fun bt449 => (if t409 = 0 then (if t416 = 0 then (if t423 = 0 then (if t430 = 0 then (if bt431.2 = 0 then (if bt438.2 = 0 then (if bt445.2 = 0 then (if bt449.2 = 0 then ((r09_SameInts.f kj3 t420 t427).bind fun t451 => (if t451 = true then (l30_PermGroup.j1 kj3 l0 bt438.1 bt445.1 bt449.1 (decide (bt449.1 < 1))) else (l30_PermGroup.j1 kj3 l0 bt438.1 bt445.1 bt449.1 true))) else (l30_PermGroup.j1 kj3 l0 bt438.1 bt445.1 bt449.1 true)) else (l30_PermGroup.j1 kj3 l0 bt438.1 bt445.1 bt449.1 true)) else (l30_PermGroup.j1 kj3 l0 bt438.1 bt445.1 bt449.1 true)) else (l30_PermGroup.j1 kj3 l0 bt438.1 bt445.1 bt449.1 true)) else (l30_PermGroup.j1 kj3 l0 bt438.1 bt445.1 bt449.1 true)) else (l30_PermGroup.j1 kj3 l0 bt438.1 bt445.1 bt449.1 true)) else (l30_PermGroup.j1 kj3 l0 bt438.1 bt445.1 bt449.1 true)) else (l30_PermGroup.j1 kj3 l0 bt438.1 bt445.1 bt449.1 true)))))) = some r := H; have A25 := aM A250; clear A250; replace H := Option.bind_eq_some_iff.mp H; obtain ⟨⟨t431, t434⟩, A260, H⟩ := H; replace H : ((perm_Compose.f kj3 (([l0, t431] : List (List Int)))).bind fun bt438 => ((perm_Compose.f kj3 (([t431, l0] : List (List Int)))).bind fun bt445 => ((perm_Order.f kj3 l0).bind fun bt449 => (if t409 = 0 then (if t416 = 0 then (if t423 = 0 then (if t430 = 0 then (if t434 = 0 then (if bt438.2 = 0 then (if bt445.2 = 0 then (if bt449.2 = 0 then ((r09_SameInts.f kj3 t420 t427).bind fun t451 => (if t451 = true then (l30_PermGroup.j1 kj3 l0 bt438.1 bt445.1 bt449.1 (decide (bt449.1 < 1))) else (l30_PermGroup.j1 kj3 l0 bt438.1 bt445.1 bt449.1 true))) else (l30_PermGroup.j1 kj3 l0 bt438.1 bt445.1 bt449.1 true)) else (l30_PermGroup.j1 kj3 l0 bt438.1 bt445.1 bt449.1 true)) else (l30_PermGroup.j1 kj3 l0 bt438.1 bt445.1 bt449.1 true)) else (l30_PermGroup.j1 kj3 l0 bt438.1 bt445.1 bt449.1 true)) else (l30_PermGroup.j1 kj3 l0 bt438.1 bt445.1 bt449.1 true)) else (l30_PermGroup.j1 kj3 l0 bt438.1 bt445.1 bt449.1 true)) else (l30_PermGroup.j1 kj3 l0 bt438.1 bt445.1 bt449.1 true)) else (l30_PermGroup.j1 kj3 l0 bt438.1 bt445.1 bt449.1 true))))) = some r := H; have A26 := aM A260; clear A260; obtain ⟨y435, hy435⟩ : ∃ y_ : List (List Int), y_ = (([l0, t431] : List (List Int))) := ⟨_, rfl⟩; replace H : ((perm_Compose.f kj3 y435).bind fun bt438 => ((perm_Compose.f kj3 (([t431, l0] : List (List Int)))).bind fun bt445 => ((perm_Order.f kj3 l0).bind fun bt449 => (if t409 = 0 then (if t416 = 0 then (if t423 = 0 then (if t430 = 0 then (if t434 = 0 then (if bt438.2 = 0 then (if bt445.2 = 0 then (if bt449.2 = 0 then ((r09_SameInts.f kj3 t420 t427).bind fun t451 => (if t451 = true then (l30_PermGroup.j1 kj3 l0 bt438.1 bt445.1 bt449.1 (decide (bt449.1 < 1))) else (l30_PermGroup.j1 kj3 l0 bt438.1 bt445.1 bt449.1 true))) else (l30_PermGroup.j1 kj3 l0 bt438.1 bt445.1 bt449.1 true)) else (l30_PermGroup.j1 kj3 l0 bt438.1 bt445.1 bt449.1 true)) else (l30_PermGroup.j1 kj3 l0 bt438.1 bt445.1 bt449.1 true)) else (l30_PermGroup.j1 kj3 l0 bt438.1 bt445.1 bt449.1 true)) else (l30_PermGroup.j1 kj3 l0 bt438.1 bt445.1 bt449.1 true)) else (l30_PermGroup.j1 kj3 l0 bt438.1 bt445.1 bt449.1 true)) else (l30_PermGroup.j1 kj3 l0 bt438.1 bt445.1 bt449.1 true)) else (l30_PermGroup.j1 kj3 l0 bt438.1 bt445.1 bt449.1 true))))) = some r := by first | (rw [hy435]; with_reducible exact H) | (have H2_ := (Option.bind_some _ _).symm.trans H; rw [hy435]; with_reducible exact H2_) | (have H2_ := (Option.bind_some _ _).symm.trans H; with_reducible exact H2_) | with_reducible exact H | (rw [hy435]; exact H) | exact H
      have Ny435 := aM hy435; clear hy435; replace H := Option.bind_eq_some_iff.mp H; obtain ⟨⟨t438, t441⟩, A270, H⟩ := H; replace H : ((perm_Compose.f kj3 (([t431, l0] : List (List Int)))).bind fun bt445 => ((perm_Order.f kj3 l0).bind fun bt449 => (if t409 = 0 then (if t416 = 0 then (if t423 = 0 then (if t430 = 0 then (if t434 = 0 then (if t441 = 0 then (if bt445.2 = 0 then (if bt449.2 = 0 then ((r09_SameInts.f kj3 t420 t427).bind fun t451 => (if t451 = true then (l30_PermGroup.j1 kj3 l0 t438 bt445.1 bt449.1 (decide (bt449.1 < 1))) else (l30_PermGroup.j1 kj3 l0 t438 bt445.1 bt449.1 true))) else (l30_PermGroup.j1 kj3 l0 t438 bt445.1 bt449.1 true)) else (l30_PermGroup.j1 kj3 l0 t438 bt445.1 bt449.1 true)) else (l30_PermGroup.j1 kj3 l0 t438 bt445.1 bt449.1 true)) else (l30_PermGroup.j1 kj3 l0 t438 bt445.1 bt449.1 true)) else (l30_PermGroup.j1 kj3 l0 t438 bt445.1 bt449.1 true)) else (l30_PermGroup.j1 kj3 l0 t438 bt445.1 bt449.1 true)) else (l30_PermGroup.j1 kj3 l0 t438 bt445.1 bt449.1 true)) else (l30_PermGroup.j1 kj3 l0 t438 bt445.1 bt449.1 true)))) = some r := H; have A27 := aM A270; clear A270; obtain ⟨y442, hy442⟩ : ∃ y_ : List (List Int), y_ = (([t431, l0] : List (List Int))) := ⟨_, rfl⟩; replace H : ((perm_Compose.f kj3 y442).bind fun bt445 => ((perm_Order.f kj3 l0).bind fun bt449 => (if t409 = 0 then (if t416 = 0 then (if t423 = 0 then (if t430 = 0 then (if t434 = 0 then (if t441 = 0 then (if bt445.2 = 0 then (if bt449.2 = 0 then ((r09_SameInts.f kj3 t420 t427).bind fun t451 => (if t451 = true then (l30_PermGroup.j1 kj3 l0 t438 bt445.1 bt449.1 (decide (bt449.1 < 1))) else (l30_PermGroup.j1 kj3 l0 t438 bt445.1 bt449.1 true))) else (l30_PermGroup.j1 kj3 l0 t438 bt445.1 bt449.1 true)) else (l30_PermGroup.j1 kj3 l0 t438 bt445.1 bt449.1 true)) else (l30_PermGroup.j1 kj3 l0 t438 bt445.1 bt449.1 true)) else (l30_PermGroup.j1 kj3 l0 t438 bt445.1 bt449.1 true)) else (l30_PermGroup.j1 kj3 l0 t438 bt445.1 bt449.1 true)) else (l30_PermGroup.j1 kj3 l0 t438 bt445.1 bt449.1 true)) else (l30_PermGroup.j1 kj3 l0 t438 bt445.1 bt449.1 true)) else (l30_PermGroup.j1 kj3 l0 t438 bt445.1 bt449.1 true)))) = some r := by first | (rw [hy442]; with_reducible exact H) | (have H2_ := (Option.bind_some _ _).symm.trans H; rw [hy442]; with_reducible exact H2_) | (have H2_ := (Option.bind_some _ _).symm.trans H; with_reducible exact H2_) | with_reducible exact H | (rw [hy442]; exact H) | exact H
      have Ny442 := aM hy442; clear hy442; replace H := Option.bind_eq_some_iff.mp H; obtain ⟨⟨t445, t448⟩, A280, H⟩ := H; replace H : ((perm_Order.f kj3 l0).bind fun bt449 => (if t409 = 0 then (if t416 = 0 then (if t423 = 0 then (if t430 = 0 then (if t434 = 0 then (if t441 = 0 then (if t448 = 0 then (if bt449.2 = 0 then ((r09_SameInts.f kj3 t420 t427).bind fun t451 => (if t451 = true then (l30_PermGroup.j1 kj3 l0 t438 t445 bt449.1 (decide (bt449.1 < 1))) else (l30_PermGroup.j1 kj3 l0 t438 t445 bt449.1 true))) else (l30_PermGroup.j1 kj3 l0 t438 t445 bt449.1 true)) else (l30_PermGroup.j1 kj3 l0 t438 t445 bt449.1 true)) else (l30_PermGroup.j1 kj3 l0 t438 t445 bt449.1 true)) else (l30_PermGroup.j1 kj3 l0 t438 t445 bt449.1 true)) else (l30_PermGroup.j1 kj3 l0 t438 t445 bt449.1 true)) else (l30_PermGroup.j1 kj3 l0 t438 t445 bt449.1 true)) else (l30_PermGroup.j1 kj3 l0 t438 t445 bt449.1 true)) else (l30_PermGroup.j1 kj3 l0 t438 t445 bt449.1 true))) = some r := H; have A28 := aM A280; clear A280; replace H := Option.bind_eq_some_iff.mp H; obtain ⟨⟨t449, t450⟩, A290, H⟩ := H; replace H : (if t409 = 0 then (if t416 = 0 then (if t423 = 0 then (if t430 = 0 then (if t434 = 0 then (if t441 = 0 then (if t448 = 0 then (if t450 = 0 then ((r09_SameInts.f kj3 t420 t427).bind fun t451 => (if t451 = true then (l30_PermGroup.j1 kj3 l0 t438 t445 t449 (decide (t449 < 1))) else (l30_PermGroup.j1 kj3 l0 t438 t445 t449 true))) else (l30_PermGroup.j1 kj3 l0 t438 t445 t449 true)) else (l30_PermGroup.j1 kj3 l0 t438 t445 t449 true)) else (l30_PermGroup.j1 kj3 l0 t438 t445 t449 true)) else (l30_PermGroup.j1 kj3 l0 t438 t445 t449 true)) else (l30_PermGroup.j1 kj3 l0 t438 t445 t449 true)) else (l30_PermGroup.j1 kj3 l0 t438 t445 t449 true)) else (l30_PermGroup.j1 kj3 l0 t438 t445 t449 true)) else (l30_PermGroup.j1 kj3 l0 t438 t445 t449 true)) = some r := H; have A29 := aM A290; clear A290; have HC30 := aM H; clear H
      go_upto_region 11 with (first | ((with_reducible refine gate_dst (N := 61) rfl ?_); (try (refine gate_guard (by rfl) ?_; dsimp only)); refine Kd.N_lit (Kd.slice 3 (Kd.int .i64)) _ 22 ?hg (N' := 61) ?hd (xs := ([l0, l1] : List (List Int))) (inner := [.slice A0 l0.length c0, .slice A1 l1.length c1]) (ok := (fun k_ => ((P0_ k_ ∨ P1_ k_ ∨ P2_ k_) ∨ w.heap.size ≤ k_))) (okp := (fun k_ => ((P0_ k_ ∨ P1_ k_ ∨ P2_ k_) ∨ w.heap.size ≤ k_))) ?hr ?hp (fun _ hk => hk) ((show ∀ k_, wc.heap.size ≤ k_ → (fun k_ => ((P0_ k_ ∨ P1_ k_ ∨ P2_ k_) ∨ w.heap.size ≤ k_)) k_ from fun k_ hk => (.inr (Nat.le_trans (below_size zz48) hk))) _ (Nat.le_refl _)) (Below.refl _ _) (Nat.le_refl _) (by simp) ?_; (case hd => rfl); (case hg => rfl); (case hr => first | (go_simp; done) | (go_simp; rfl)); (case hp => exact (Reps.one (show Kd.FK (Kd.slice 3 (Kd.int .i64)) _ _ l0 [.slice A0 l0.length c0] from (Kd.FK_slice_mk (Kd.V_reads' (Kd.V_mono (ok' := (fun k_ => ((P0_ k_ ∨ P1_ k_ ∨ P2_ k_) ∨ w.heap.size ≤ k_))) (HO_0.out) (fun k_ hk => hk))).2.1 (Kd.V_F (Kd.V_mono (ok' := (fun k_ => ((P0_ k_ ∨ P1_ k_ ∨ P2_ k_) ∨ w.heap.size ≤ k_))) (HO_0.out) (fun k_ hk => hk))))) (Reps.one (show Kd.FK (Kd.slice 3 (Kd.int .i64)) _ _ l1 [.slice A1 l1.length c1] from (Kd.FK_slice_mk (Kd.V_reads' (Kd.V_mono (ok' := (fun k_ => ((P0_ k_ ∨ P1_ k_ ∨ P2_ k_) ∨ w.heap.size ≤ k_))) (HO_1.out) (fun k_ hk => hk))).2.1 (Kd.V_F (Kd.V_mono (ok' := (fun k_ => ((P0_ k_ ∨ P1_ k_ ∨ P2_ k_) ∨ w.heap.size ≤ k_))) (HO_1.out) (fun k_ hk => hk))))) (Reps.none _ _)))); intro v404 w31 ho32 hb hg_ hnew_; clear hg_ hnew_; (first | rw [← Ny403.out] at ho32 | (simp only [Int.reduceToNat] at ho32; rw [← Ny403.out] at ho32)); replace HO_0 := aM (Kd.V_elder' (zV HO_0) (Kd.N_base ho32) hb); replace HO_1 := aM (Kd.V_elder' (zV HO_1) (Kd.N_base ho32) hb); replace HO_2 := aM (Kd.V_elder' (zV HO_2) (Kd.N_base ho32) hb); have HO405 := aM (Kd.N_lower ho32 (below_size zz48)); replace HB := aM (below_step zz48 hb); clear hb ho32; obtain ⟨Ao33, co33, eo33⟩ := Kd.N_slice HO405.out; subst eo33) | ((with_reducible refine gate_callee (f := 13) rfl ?_); refine goesL_ (some 62) rfl rfl Try.func13 (by kernel_rfl) rfl #[.slice Ao33 y403.length co33] rfl zz47 ?_; (with_reducible refine (perm_Compose.callsV kj3 _ _ y403 t406 t409 _ ?side1 ?side2 A22.out).mono ?_); (case side1 => repeat (first | exact (Kd.N_reads' HO405.out).2.2 | (with_reducible refine Kd.C_alloc ?_ _) | (with_reducible refine Kd.C_drewN ?_ _) | (with_reducible refine Kd.C_drew ?_))); (case side2 => exact (Kd.N_reads' HO405.out).2.1); rintro e w34 ⟨v407, rfl, ho0, hb⟩; refine ⟨_, rfl, ?_⟩; replace HO_0 := aM (Kd.V_below (zV HO_0) hb); replace HO_1 := aM (Kd.V_below (zV HO_1) hb); replace HO_2 := aM (Kd.V_below (zV HO_2) hb); have HO408 := aM (Kd.V_lower (Kd.V_mono (ok' := fun k_ => ((P0_ k_ ∨ P1_ k_ ∨ P2_ k_) ∨ w.heap.size ≤ k_) ∧ some k_ ≠ (.slice Ao33 y403.length co33 : Value).ownBlock) ho0 (fun k_ hk_ => ⟨(.inr (Nat.le_trans (below_size zz48) hk_)), (Kd.fresh' (Kd.N_lt (zN HO405)) k_ hk_)⟩)) (below_size zz48)); replace HO405 := aM (Kd.N_below (zN HO405) hb); replace HB := aM (below_step zz48 hb); (try clear hb); (try clear hb2); (try clear hk); (try clear hi); (try clear ho0)) | ((with_reducible refine gate_dst (N := 68) rfl ?_); (try (refine gate_guard (by rfl) ?_; dsimp only)); refine Kd.N_lit (Kd.slice 3 (Kd.int .i64)) _ 22 ?hg (N' := 68) ?hd (xs := ([l1, l2] : List (List Int))) (inner := [.slice A1 l1.length c1, .slice A2 l2.length c2]) (ok := (fun k_ => ((P0_ k_ ∨ P1_ k_ ∨ P2_ k_) ∨ w.heap.size ≤ k_) ∧ some k_ ≠ (.slice Ao33 y403.length co33 : Value).ownBlock)) (okp := (fun k_ => ((P0_ k_ ∨ P1_ k_ ∨ P2_ k_) ∨ w.heap.size ≤ k_) ∧ some k_ ≠ (.slice Ao33 y403.length co33 : Value).ownBlock)) ?hr ?hp (fun _ hk => hk) ((show ∀ k_, w34.heap.size ≤ k_ → (fun k_ => ((P0_ k_ ∨ P1_ k_ ∨ P2_ k_) ∨ w.heap.size ≤ k_) ∧ some k_ ≠ (.slice Ao33 y403.length co33 : Value).ownBlock) k_ from fun k_ hk => ⟨(.inr (Nat.le_trans (below_size zz48) hk)), Kd.fresh' (Kd.N_lt (zN HO405)) k_ hk⟩) _ (Nat.le_refl _)) (Below.refl _ _) (Nat.le_refl _) (by simp) ?_; (case hd => rfl); (case hg => rfl); (case hr => first | (go_simp; done) | (go_simp; rfl)); (case hp => exact (Reps.one (show Kd.FK (Kd.slice 3 (Kd.int .i64)) _ _ l1 [.slice A1 l1.length c1] from (Kd.FK_slice_mk (Kd.V_reads' (Kd.V_mono (ok' := (fun k_ => ((P0_ k_ ∨ P1_ k_ ∨ P2_ k_) ∨ w.heap.size ≤ k_) ∧ some k_ ≠ (.slice Ao33 y403.length co33 : Value).ownBlock)) (HO_1.out) (fun k_ hk => by first | exact ⟨hk.1, hk.2⟩ | ((repeat' apply And.intro) <;> (first | exact hk | exact hk.1 | exact hk.2 | exact hk.1.1 | exact hk.1.2 | exact hk.2.1 | exact hk.2.2 | exact hk.1.1.1 | exact hk.1.1.2 | exact hk.1.2.1 | exact hk.1.2.2 | exact hk.2.1.1 | exact hk.2.1.2 | exact hk.2.2.1 | exact hk.2.2.2 | exact hk.1.1.1.1 | exact hk.1.1.1.2 | exact hk.2.2.2.1 | exact hk.2.2.2.2))))).2.1 (Kd.V_F (Kd.V_mono (ok' := (fun k_ => ((P0_ k_ ∨ P1_ k_ ∨ P2_ k_) ∨ w.heap.size ≤ k_) ∧ some k_ ≠ (.slice Ao33 y403.length co33 : Value).ownBlock)) (HO_1.out) (fun k_ hk => by first | exact ⟨hk.1, hk.2⟩ | ((repeat' apply And.intro) <;> (first | exact hk | exact hk.1 | exact hk.2 | exact hk.1.1 | exact hk.1.2 | exact hk.2.1 | exact hk.2.2 | exact hk.1.1.1 | exact hk.1.1.2 | exact hk.1.2.1 | exact hk.1.2.2 | exact hk.2.1.1 | exact hk.2.1.2 | exact hk.2.2.1 | exact hk.2.2.2 | exact hk.1.1.1.1 | exact hk.1.1.1.2 | exact hk.2.2.2.1 | exact hk.2.2.2.2))))))) (Reps.one (show Kd.FK (Kd.slice 3 (Kd.int .i64)) _ _ l2 [.slice A2 l2.length c2] from (Kd.FK_slice_mk (Kd.V_reads' (Kd.V_mono (ok' := (fun k_ => ((P0_ k_ ∨ P1_ k_ ∨ P2_ k_) ∨ w.heap.size ≤ k_) ∧ some k_ ≠ (.slice Ao33 y403.length co33 : Value).ownBlock)) (HO_2.out) (fun k_ hk => by first | exact ⟨hk.1, hk.2⟩ | ((repeat' apply And.intro) <;> (first | exact hk | exact hk.1 | exact hk.2 | exact hk.1.1 | exact hk.1.2 | exact hk.2.1 | exact hk.2.2 | exact hk.1.1.1 | exact hk.1.1.2 | exact hk.1.2.1 | exact hk.1.2.2 | exact hk.2.1.1 | exact hk.2.1.2 | exact hk.2.2.1 | exact hk.2.2.2 | exact hk.1.1.1.1 | exact hk.1.1.1.2 | exact hk.2.2.2.1 | exact hk.2.2.2.2))))).2.1 (Kd.V_F (Kd.V_mono (ok' := (fun k_ => ((P0_ k_ ∨ P1_ k_ ∨ P2_ k_) ∨ w.heap.size ≤ k_) ∧ some k_ ≠ (.slice Ao33 y403.length co33 : Value).ownBlock)) (HO_2.out) (fun k_ hk => by first | exact ⟨hk.1, hk.2⟩ | ((repeat' apply And.intro) <;> (first | exact hk | exact hk.1 | exact hk.2 | exact hk.1.1 | exact hk.1.2 | exact hk.2.1 | exact hk.2.2 | exact hk.1.1.1 | exact hk.1.1.2 | exact hk.1.2.1 | exact hk.1.2.2 | exact hk.2.1.1 | exact hk.2.1.2 | exact hk.2.2.1 | exact hk.2.2.2 | exact hk.1.1.1.1 | exact hk.1.1.1.2 | exact hk.2.2.2.1 | exact hk.2.2.2.2))))))) (Reps.none _ _)))); intro v411 w35 ho36 hb hg_ hnew_; clear hg_ hnew_; (first | rw [← Ny410.out] at ho36 | (simp only [Int.reduceToNat] at ho36; rw [← Ny410.out] at ho36)); replace HO_0 := aM (Kd.V_elder' (zV HO_0) (Kd.N_base ho36) hb); replace HO_1 := aM (Kd.V_elder' (zV HO_1) (Kd.N_base ho36) hb); replace HO_2 := aM (Kd.V_elder' (zV HO_2) (Kd.N_base ho36) hb); replace HO405 := aM (Kd.N_elder' (zN HO405) (Kd.N_base ho36) hb); replace HO408 := aM (Kd.V_elder' (zV HO408) (Kd.N_base ho36) hb); have HO412 := aM (Kd.N_lower ho36 (below_size zz48)); replace HB := aM (below_step zz48 hb); clear hb ho36; obtain ⟨Ao37, co37, eo37⟩ := Kd.N_slice HO412.out; subst eo37) | ((with_reducible refine gate_callee (f := 13) rfl ?_); refine goesL_ (some 69) rfl rfl Try.func13 (by kernel_rfl) rfl #[.slice Ao37 y410.length co37] rfl zz47 ?_; (with_reducible refine (perm_Compose.callsV kj3 _ _ y410 t413 t416 _ ?side1 ?side2 A23.out).mono ?_); (case side1 => repeat (first | exact (Kd.N_reads' HO412.out).2.2 | (with_reducible refine Kd.C_alloc ?_ _) | (with_reducible refine Kd.C_drewN ?_ _) | (with_reducible refine Kd.C_drew ?_))); (case side2 => exact (Kd.N_reads' HO412.out).2.1); rintro e w38 ⟨v414, rfl, ho0, hb⟩; refine ⟨_, rfl, ?_⟩; replace HO_0 := aM (Kd.V_below (zV HO_0) hb); replace HO_1 := aM (Kd.V_below (zV HO_1) hb); replace HO_2 := aM (Kd.V_below (zV HO_2) hb); replace HO408 := aM (Kd.V_below (zV HO408) hb); have HO415 := aM (Kd.V_lower (Kd.V_mono (ok' := fun k_ => ((P0_ k_ ∨ P1_ k_ ∨ P2_ k_) ∨ w.heap.size ≤ k_) ∧ some k_ ≠ (.slice Ao33 y403.length co33 : Value).ownBlock ∧ some k_ ≠ (.slice Ao37 y410.length co37 : Value).ownBlock) ho0 (fun k_ hk_ => ⟨(.inr (Nat.le_trans (below_size zz48) hk_)), (Kd.fresh' (Kd.N_lt (zN HO405)) k_ hk_), (Kd.fresh' (Kd.N_lt (zN HO412)) k_ hk_)⟩)) (below_size zz48)); replace HO405 := aM (Kd.N_below (zN HO405) hb); replace HO412 := aM (Kd.N_below (zN HO412) hb); replace HB := aM (below_step zz48 hb); (try clear hb); (try clear hb2); (try clear hk); (try clear hi); (try clear ho0); obtain ⟨Ao39, co39, eo39⟩ := Kd.V_slice HO408.out; subst eo39) | ((with_reducible refine gate_dst (N := 75) rfl ?_); (try (refine gate_guard (by rfl) ?_; dsimp only)); refine Kd.N_lit (Kd.slice 3 (Kd.int .i64)) _ 22 ?hg (N' := 75) ?hd (xs := ([t406, l2] : List (List Int))) (inner := [.slice Ao39 t406.length co39, .slice A2 l2.length c2]) (ok := (fun k_ => ((P0_ k_ ∨ P1_ k_ ∨ P2_ k_) ∨ w.heap.size ≤ k_) ∧ some k_ ≠ (.slice Ao33 y403.length co33 : Value).ownBlock ∧ some k_ ≠ (.slice Ao37 y410.length co37 : Value).ownBlock)) (okp := (fun k_ => ((P0_ k_ ∨ P1_ k_ ∨ P2_ k_) ∨ w.heap.size ≤ k_) ∧ some k_ ≠ (.slice Ao33 y403.length co33 : Value).ownBlock ∧ some k_ ≠ (.slice Ao37 y410.length co37 : Value).ownBlock)) ?hr ?hp (fun _ hk => hk) ((show ∀ k_, w38.heap.size ≤ k_ → (fun k_ => ((P0_ k_ ∨ P1_ k_ ∨ P2_ k_) ∨ w.heap.size ≤ k_) ∧ some k_ ≠ (.slice Ao33 y403.length co33 : Value).ownBlock ∧ some k_ ≠ (.slice Ao37 y410.length co37 : Value).ownBlock) k_ from fun k_ hk => ⟨(.inr (Nat.le_trans (below_size zz48) hk)), Kd.fresh' (Kd.N_lt (zN HO405)) k_ hk, Kd.fresh' (Kd.N_lt (zN HO412)) k_ hk⟩) _ (Nat.le_refl _)) (Below.refl _ _) (Nat.le_refl _) (by simp) ?_; (case hd => rfl); (case hg => rfl); (case hr => first | (go_simp; done) | (go_simp; rfl)); (case hp => exact (Reps.one (show Kd.FK (Kd.slice 3 (Kd.int .i64)) _ _ t406 [.slice Ao39 t406.length co39] from (Kd.FK_slice_mk (Kd.V_reads' (Kd.V_mono (ok' := (fun k_ => ((P0_ k_ ∨ P1_ k_ ∨ P2_ k_) ∨ w.heap.size ≤ k_) ∧ some k_ ≠ (.slice Ao33 y403.length co33 : Value).ownBlock ∧ some k_ ≠ (.slice Ao37 y410.length co37 : Value).ownBlock)) (HO408.out) (fun k_ hk => by first | exact ⟨hk.1.1, ⟨hk.1.2, hk.2⟩⟩ | ((repeat' apply And.intro) <;> (first | exact hk | exact hk.1 | exact hk.2 | exact hk.1.1 | exact hk.1.2 | exact hk.2.1 | exact hk.2.2 | exact hk.1.1.1 | exact hk.1.1.2 | exact hk.1.2.1 | exact hk.1.2.2 | exact hk.2.1.1 | exact hk.2.1.2 | exact hk.2.2.1 | exact hk.2.2.2 | exact hk.1.1.1.1 | exact hk.1.1.1.2 | exact hk.2.2.2.1 | exact hk.2.2.2.2))))).2.1 (Kd.V_F (Kd.V_mono (ok' := (fun k_ => ((P0_ k_ ∨ P1_ k_ ∨ P2_ k_) ∨ w.heap.size ≤ k_) ∧ some k_ ≠ (.slice Ao33 y403.length co33 : Value).ownBlock ∧ some k_ ≠ (.slice Ao37 y410.length co37 : Value).ownBlock)) (HO408.out) (fun k_ hk => by first | exact ⟨hk.1.1, ⟨hk.1.2, hk.2⟩⟩ | ((repeat' apply And.intro) <;> (first | exact hk | exact hk.1 | exact hk.2 | exact hk.1.1 | exact hk.1.2 | exact hk.2.1 | exact hk.2.2 | exact hk.1.1.1 | exact hk.1.1.2 | exact hk.1.2.1 | exact hk.1.2.2 | exact hk.2.1.1 | exact hk.2.1.2 | exact hk.2.2.1 | exact hk.2.2.2 | exact hk.1.1.1.1 | exact hk.1.1.1.2 | exact hk.2.2.2.1 | exact hk.2.2.2.2))))))) (Reps.one (show Kd.FK (Kd.slice 3 (Kd.int .i64)) _ _ l2 [.slice A2 l2.length c2] from (Kd.FK_slice_mk (Kd.V_reads' (Kd.V_mono (ok' := (fun k_ => ((P0_ k_ ∨ P1_ k_ ∨ P2_ k_) ∨ w.heap.size ≤ k_) ∧ some k_ ≠ (.slice Ao33 y403.length co33 : Value).ownBlock ∧ some k_ ≠ (.slice Ao37 y410.length co37 : Value).ownBlock)) (HO_2.out) (fun k_ hk => by first | exact ⟨hk.1.1, ⟨hk.1.2, hk.2⟩⟩ | ((repeat' apply And.intro) <;> (first | exact hk | exact hk.1 | exact hk.2 | exact hk.1.1 | exact hk.1.2 | exact hk.2.1 | exact hk.2.2 | exact hk.1.1.1 | exact hk.1.1.2 | exact hk.1.2.1 | exact hk.1.2.2 | exact hk.2.1.1 | exact hk.2.1.2 | exact hk.2.2.1 | exact hk.2.2.2 | exact hk.1.1.1.1 | exact hk.1.1.1.2 | exact hk.2.2.2.1 | exact hk.2.2.2.2))))).2.1 (Kd.V_F (Kd.V_mono (ok' := (fun k_ => ((P0_ k_ ∨ P1_ k_ ∨ P2_ k_) ∨ w.heap.size ≤ k_) ∧ some k_ ≠ (.slice Ao33 y403.length co33 : Value).ownBlock ∧ some k_ ≠ (.slice Ao37 y410.length co37 : Value).ownBlock)) (HO_2.out) (fun k_ hk => by first | exact ⟨hk.1.1, ⟨hk.1.2, hk.2⟩⟩ | ((repeat' apply And.intro) <;> (first | exact hk | exact hk.1 | exact hk.2 | exact hk.1.1 | exact hk.1.2 | exact hk.2.1 | exact hk.2.2 | exact hk.1.1.1 | exact hk.1.1.2 | exact hk.1.2.1 | exact hk.1.2.2 | exact hk.2.1.1 | exact hk.2.1.2 | exact hk.2.2.1 | exact hk.2.2.2 | exact hk.1.1.1.1 | exact hk.1.1.1.2 | exact hk.2.2.2.1 | exact hk.2.2.2.2))))))) (Reps.none _ _)))); intro v418 w40 ho41 hb hg_ hnew_; clear hg_ hnew_; (first | rw [← Ny417.out] at ho41 | (simp only [Int.reduceToNat] at ho41; rw [← Ny417.out] at ho41)); replace HO_0 := aM (Kd.V_elder' (zV HO_0) (Kd.N_base ho41) hb); replace HO_1 := aM (Kd.V_elder' (zV HO_1) (Kd.N_base ho41) hb); replace HO_2 := aM (Kd.V_elder' (zV HO_2) (Kd.N_base ho41) hb); replace HO405 := aM (Kd.N_elder' (zN HO405) (Kd.N_base ho41) hb); replace HO408 := aM (Kd.V_elder' (zV HO408) (Kd.N_base ho41) hb); replace HO412 := aM (Kd.N_elder' (zN HO412) (Kd.N_base ho41) hb); replace HO415 := aM (Kd.V_elder' (zV HO415) (Kd.N_base ho41) hb); have HO419 := aM (Kd.N_lower ho41 (below_size zz48)); replace HB := aM (below_step zz48 hb); clear hb ho41; obtain ⟨Ao42, co42, eo42⟩ := Kd.N_slice HO419.out; subst eo42) | ((with_reducible refine gate_callee (f := 13) rfl ?_); refine goesL_ (some 76) rfl rfl Try.func13 (by kernel_rfl) rfl #[.slice Ao42 y417.length co42] rfl zz47 ?_; (with_reducible refine (perm_Compose.callsV kj3 _ _ y417 t420 t423 _ ?side1 ?side2 A24.out).mono ?_); (case side1 => repeat (first | exact (Kd.N_reads' HO419.out).2.2 | (with_reducible refine Kd.C_alloc ?_ _) | (with_reducible refine Kd.C_drewN ?_ _) | (with_reducible refine Kd.C_drew ?_))); (case side2 => exact (Kd.N_reads' HO419.out).2.1); rintro e w43 ⟨v421, rfl, ho0, hb⟩; refine ⟨_, rfl, ?_⟩; replace HO_0 := aM (Kd.V_below (zV HO_0) hb); replace HO_1 := aM (Kd.V_below (zV HO_1) hb); replace HO_2 := aM (Kd.V_below (zV HO_2) hb); replace HO408 := aM (Kd.V_below (zV HO408) hb); replace HO415 := aM (Kd.V_below (zV HO415) hb); have HO422 := aM (Kd.V_lower (Kd.V_mono (ok' := fun k_ => ((P0_ k_ ∨ P1_ k_ ∨ P2_ k_) ∨ w.heap.size ≤ k_) ∧ some k_ ≠ (.slice Ao33 y403.length co33 : Value).ownBlock ∧ some k_ ≠ (.slice Ao37 y410.length co37 : Value).ownBlock ∧ some k_ ≠ (.slice Ao42 y417.length co42 : Value).ownBlock) ho0 (fun k_ hk_ => ⟨(.inr (Nat.le_trans (below_size zz48) hk_)), (Kd.fresh' (Kd.N_lt (zN HO405)) k_ hk_), (Kd.fresh' (Kd.N_lt (zN HO412)) k_ hk_), (Kd.fresh' (Kd.N_lt (zN HO419)) k_ hk_)⟩)) (below_size zz48)); replace HO405 := aM (Kd.N_below (zN HO405) hb); replace HO412 := aM (Kd.N_below (zN HO412) hb); replace HO419 := aM (Kd.N_below (zN HO419) hb); replace HB := aM (below_step zz48 hb); (try clear hb); (try clear hb2); (try clear hk); (try clear hi); (try clear ho0); obtain ⟨Ao44, co44, eo44⟩ := Kd.V_slice HO415.out; subst eo44) | ((with_reducible refine gate_dst (N := 82) rfl ?_); (try (refine gate_guard (by rfl) ?_; dsimp only)); refine Kd.N_lit (Kd.slice 3 (Kd.int .i64)) _ 22 ?hg (N' := 82) ?hd (xs := ([l0, t413] : List (List Int))) (inner := [.slice A0 l0.length c0, .slice Ao44 t413.length co44]) (ok := (fun k_ => ((P0_ k_ ∨ P1_ k_ ∨ P2_ k_) ∨ w.heap.size ≤ k_) ∧ some k_ ≠ (.slice Ao33 y403.length co33 : Value).ownBlock ∧ some k_ ≠ (.slice Ao37 y410.length co37 : Value).ownBlock ∧ some k_ ≠ (.slice Ao42 y417.length co42 : Value).ownBlock)) (okp := (fun k_ => ((P0_ k_ ∨ P1_ k_ ∨ P2_ k_) ∨ w.heap.size ≤ k_) ∧ some k_ ≠ (.slice Ao33 y403.length co33 : Value).ownBlock ∧ some k_ ≠ (.slice Ao37 y410.length co37 : Value).ownBlock ∧ some k_ ≠ (.slice Ao42 y417.length co42 : Value).ownBlock)) ?hr ?hp (fun _ hk => hk) ((show ∀ k_, w43.heap.size ≤ k_ → (fun k_ => ((P0_ k_ ∨ P1_ k_ ∨ P2_ k_) ∨ w.heap.size ≤ k_) ∧ some k_ ≠ (.slice Ao33 y403.length co33 : Value).ownBlock ∧ some k_ ≠ (.slice Ao37 y410.length co37 : Value).ownBlock ∧ some k_ ≠ (.slice Ao42 y417.length co42 : Value).ownBlock) k_ from fun k_ hk => ⟨(.inr (Nat.le_trans (below_size zz48) hk)), Kd.fresh' (Kd.N_lt (zN HO405)) k_ hk, Kd.fresh' (Kd.N_lt (zN HO412)) k_ hk, Kd.fresh' (Kd.N_lt (zN HO419)) k_ hk⟩) _ (Nat.le_refl _)) (Below.refl _ _) (Nat.le_refl _) (by simp) ?_; (case hd => rfl); (case hg => rfl); (case hr => first | (go_simp; done) | (go_simp; rfl)); (case hp => exact (Reps.one (show Kd.FK (Kd.slice 3 (Kd.int .i64)) _ _ l0 [.slice A0 l0.length c0] from (Kd.FK_slice_mk (Kd.V_reads' (Kd.V_mono (ok' := (fun k_ => ((P0_ k_ ∨ P1_ k_ ∨ P2_ k_) ∨ w.heap.size ≤ k_) ∧ some k_ ≠ (.slice Ao33 y403.length co33 : Value).ownBlock ∧ some k_ ≠ (.slice Ao37 y410.length co37 : Value).ownBlock ∧ some k_ ≠ (.slice Ao42 y417.length co42 : Value).ownBlock)) (HO_0.out) (fun k_ hk => by first | exact ⟨hk.1.1.1, ⟨hk.1.1.2, ⟨hk.1.2, hk.2⟩⟩⟩ | ((repeat' apply And.intro) <;> (first | exact hk | exact hk.1 | exact hk.2 | exact hk.1.1 | exact hk.1.2 | exact hk.2.1 | exact hk.2.2 | exact hk.1.1.1 | exact hk.1.1.2 | exact hk.1.2.1 | exact hk.1.2.2 | exact hk.2.1.1 | exact hk.2.1.2 | exact hk.2.2.1 | exact hk.2.2.2 | exact hk.1.1.1.1 | exact hk.1.1.1.2 | exact hk.2.2.2.1 | exact hk.2.2.2.2))))).2.1 (Kd.V_F (Kd.V_mono (ok' := (fun k_ => ((P0_ k_ ∨ P1_ k_ ∨ P2_ k_) ∨ w.heap.size ≤ k_) ∧ some k_ ≠ (.slice Ao33 y403.length co33 : Value).ownBlock ∧ some k_ ≠ (.slice Ao37 y410.length co37 : Value).ownBlock ∧ some k_ ≠ (.slice Ao42 y417.length co42 : Value).ownBlock)) (HO_0.out) (fun k_ hk => by first | exact ⟨hk.1.1.1, ⟨hk.1.1.2, ⟨hk.1.2, hk.2⟩⟩⟩ | ((repeat' apply And.intro) <;> (first | exact hk | exact hk.1 | exact hk.2 | exact hk.1.1 | exact hk.1.2 | exact hk.2.1 | exact hk.2.2 | exact hk.1.1.1 | exact hk.1.1.2 | exact hk.1.2.1 | exact hk.1.2.2 | exact hk.2.1.1 | exact hk.2.1.2 | exact hk.2.2.1 | exact hk.2.2.2 | exact hk.1.1.1.1 | exact hk.1.1.1.2 | exact hk.2.2.2.1 | exact hk.2.2.2.2))))))) (Reps.one (show Kd.FK (Kd.slice 3 (Kd.int .i64)) _ _ t413 [.slice Ao44 t413.length co44] from (Kd.FK_slice_mk (Kd.V_reads' (Kd.V_mono (ok' := (fun k_ => ((P0_ k_ ∨ P1_ k_ ∨ P2_ k_) ∨ w.heap.size ≤ k_) ∧ some k_ ≠ (.slice Ao33 y403.length co33 : Value).ownBlock ∧ some k_ ≠ (.slice Ao37 y410.length co37 : Value).ownBlock ∧ some k_ ≠ (.slice Ao42 y417.length co42 : Value).ownBlock)) (HO415.out) (fun k_ hk => by first | exact ⟨hk.1.1, ⟨hk.1.2.1, ⟨hk.1.2.2, hk.2⟩⟩⟩ | ((repeat' apply And.intro) <;> (first | exact hk | exact hk.1 | exact hk.2 | exact hk.1.1 | exact hk.1.2 | exact hk.2.1 | exact hk.2.2 | exact hk.1.1.1 | exact hk.1.1.2 | exact hk.1.2.1 | exact hk.1.2.2 | exact hk.2.1.1 | exact hk.2.1.2 | exact hk.2.2.1 | exact hk.2.2.2 | exact hk.1.1.1.1 | exact hk.1.1.1.2 | exact hk.2.2.2.1 | exact hk.2.2.2.2))))).2.1 (Kd.V_F (Kd.V_mono (ok' := (fun k_ => ((P0_ k_ ∨ P1_ k_ ∨ P2_ k_) ∨ w.heap.size ≤ k_) ∧ some k_ ≠ (.slice Ao33 y403.length co33 : Value).ownBlock ∧ some k_ ≠ (.slice Ao37 y410.length co37 : Value).ownBlock ∧ some k_ ≠ (.slice Ao42 y417.length co42 : Value).ownBlock)) (HO415.out) (fun k_ hk => by first | exact ⟨hk.1.1, ⟨hk.1.2.1, ⟨hk.1.2.2, hk.2⟩⟩⟩ | ((repeat' apply And.intro) <;> (first | exact hk | exact hk.1 | exact hk.2 | exact hk.1.1 | exact hk.1.2 | exact hk.2.1 | exact hk.2.2 | exact hk.1.1.1 | exact hk.1.1.2 | exact hk.1.2.1 | exact hk.1.2.2 | exact hk.2.1.1 | exact hk.2.1.2 | exact hk.2.2.1 | exact hk.2.2.2 | exact hk.1.1.1.1 | exact hk.1.1.1.2 | exact hk.2.2.2.1 | exact hk.2.2.2.2))))))) (Reps.none _ _)))); intro v425 w45 ho46 hb hg_ hnew_; clear hg_ hnew_; (first | rw [← Ny424.out] at ho46 | (simp only [Int.reduceToNat] at ho46; rw [← Ny424.out] at ho46)); replace HO_0 := aM (Kd.V_elder' (zV HO_0) (Kd.N_base ho46) hb); replace HO_1 := aM (Kd.V_elder' (zV HO_1) (Kd.N_base ho46) hb); replace HO_2 := aM (Kd.V_elder' (zV HO_2) (Kd.N_base ho46) hb); replace HO405 := aM (Kd.N_elder' (zN HO405) (Kd.N_base ho46) hb); replace HO408 := aM (Kd.V_elder' (zV HO408) (Kd.N_base ho46) hb); replace HO412 := aM (Kd.N_elder' (zN HO412) (Kd.N_base ho46) hb); replace HO415 := aM (Kd.V_elder' (zV HO415) (Kd.N_base ho46) hb); replace HO419 := aM (Kd.N_elder' (zN HO419) (Kd.N_base ho46) hb); replace HO422 := aM (Kd.V_elder' (zV HO422) (Kd.N_base ho46) hb); have HO426 := aM (Kd.N_lower ho46 (below_size zz48)); replace HB := aM (below_step zz48 hb); clear hb ho46; obtain ⟨Ao47, co47, eo47⟩ := Kd.N_slice HO426.out; subst eo47) | ((with_reducible refine gate_callee (f := 13) rfl ?_); refine goesL_ (some 83) rfl rfl Try.func13 (by kernel_rfl) rfl #[.slice Ao47 y424.length co47] rfl zz47 ?_; (with_reducible refine (perm_Compose.callsV kj3 _ _ y424 t427 t430 _ ?side1 ?side2 A25.out).mono ?_); (case side1 => repeat (first | exact (Kd.N_reads' HO426.out).2.2 | (with_reducible refine Kd.C_alloc ?_ _) | (with_reducible refine Kd.C_drewN ?_ _) | (with_reducible refine Kd.C_drew ?_))); (case side2 => exact (Kd.N_reads' HO426.out).2.1); rintro e w48 ⟨v428, rfl, ho0, hb⟩; refine ⟨_, rfl, ?_⟩; replace HO_0 := aM (Kd.V_below (zV HO_0) hb); replace HO_1 := aM (Kd.V_below (zV HO_1) hb); replace HO_2 := aM (Kd.V_below (zV HO_2) hb); replace HO408 := aM (Kd.V_below (zV HO408) hb); replace HO415 := aM (Kd.V_below (zV HO415) hb); replace HO422 := aM (Kd.V_below (zV HO422) hb); have HO429 := aM (Kd.V_lower (Kd.V_mono (ok' := fun k_ => ((P0_ k_ ∨ P1_ k_ ∨ P2_ k_) ∨ w.heap.size ≤ k_) ∧ some k_ ≠ (.slice Ao33 y403.length co33 : Value).ownBlock ∧ some k_ ≠ (.slice Ao37 y410.length co37 : Value).ownBlock ∧ some k_ ≠ (.slice Ao42 y417.length co42 : Value).ownBlock ∧ some k_ ≠ (.slice Ao47 y424.length co47 : Value).ownBlock) ho0 (fun k_ hk_ => ⟨(.inr (Nat.le_trans (below_size zz48) hk_)), (Kd.fresh' (Kd.N_lt (zN HO405)) k_ hk_), (Kd.fresh' (Kd.N_lt (zN HO412)) k_ hk_), (Kd.fresh' (Kd.N_lt (zN HO419)) k_ hk_), (Kd.fresh' (Kd.N_lt (zN HO426)) k_ hk_)⟩)) (below_size zz48)); replace HO405 := aM (Kd.N_below (zN HO405) hb); replace HO412 := aM (Kd.N_below (zN HO412) hb); replace HO419 := aM (Kd.N_below (zN HO419) hb); replace HO426 := aM (Kd.N_below (zN HO426) hb); replace HB := aM (below_step zz48 hb); (try clear hb); (try clear hb2); (try clear hk); (try clear hi); (try clear ho0)) | ((with_reducible refine gate_callee (f := 18) rfl ?_); refine goesL_ (some 88) rfl rfl Try.func18 (by kernel_rfl) rfl #[.slice A0 l0.length c0] rfl zz47 ?_; (with_reducible refine (perm_Inverse.callsV kj3 _ _ l0 t431 t434 _ ?side1 ?side2 A26.out).mono ?_); (case side1 => repeat (first | exact (Kd.V_reads' HO_0.out).2.2 | (with_reducible refine Kd.C_alloc ?_ _) | (with_reducible refine Kd.C_drewN ?_ _) | (with_reducible refine Kd.C_drew ?_))); (case side2 => exact (Kd.V_reads' HO_0.out).2.1); rintro e w49 ⟨v432, rfl, ho0, hb⟩; refine ⟨_, rfl, ?_⟩; replace HO_0 := aM (Kd.V_below (zV HO_0) hb); replace HO_1 := aM (Kd.V_below (zV HO_1) hb); replace HO_2 := aM (Kd.V_below (zV HO_2) hb); replace HO408 := aM (Kd.V_below (zV HO408) hb); replace HO415 := aM (Kd.V_below (zV HO415) hb); replace HO422 := aM (Kd.V_below (zV HO422) hb); replace HO429 := aM (Kd.V_below (zV HO429) hb); have HO433 := aM (Kd.V_lower (Kd.V_mono (ok' := fun k_ => ((P0_ k_ ∨ P1_ k_ ∨ P2_ k_) ∨ w.heap.size ≤ k_) ∧ some k_ ≠ (.slice Ao33 y403.length co33 : Value).ownBlock ∧ some k_ ≠ (.slice Ao37 y410.length co37 : Value).ownBlock ∧ some k_ ≠ (.slice Ao42 y417.length co42 : Value).ownBlock ∧ some k_ ≠ (.slice Ao47 y424.length co47 : Value).ownBlock) ho0 (fun k_ hk_ => ⟨(.inr (Nat.le_trans (below_size zz48) hk_)), (Kd.fresh' (Kd.N_lt (zN HO405)) k_ hk_), (Kd.fresh' (Kd.N_lt (zN HO412)) k_ hk_), (Kd.fresh' (Kd.N_lt (zN HO419)) k_ hk_), (Kd.fresh' (Kd.N_lt (zN HO426)) k_ hk_)⟩)) (below_size zz48)); replace HO405 := aM (Kd.N_below (zN HO405) hb); replace HO412 := aM (Kd.N_below (zN HO412) hb); replace HO419 := aM (Kd.N_below (zN HO419) hb); replace HO426 := aM (Kd.N_below (zN HO426) hb); replace HB := aM (below_step zz48 hb); (try clear hb); (try clear hb2); (try clear hk); (try clear hi); (try clear ho0); obtain ⟨Ao50, co50, eo50⟩ := Kd.V_slice HO433.out; subst eo50) | ((with_reducible refine gate_dst (N := 94) rfl ?_); (try (refine gate_guard (by rfl) ?_; dsimp only)); refine Kd.N_lit (Kd.slice 3 (Kd.int .i64)) _ 22 ?hg (N' := 94) ?hd (xs := ([l0, t431] : List (List Int))) (inner := [.slice A0 l0.length c0, .slice Ao50 t431.length co50]) (ok := (fun k_ => ((P0_ k_ ∨ P1_ k_ ∨ P2_ k_) ∨ w.heap.size ≤ k_) ∧ some k_ ≠ (.slice Ao33 y403.length co33 : Value).ownBlock ∧ some k_ ≠ (.slice Ao37 y410.length co37 : Value).ownBlock ∧ some k_ ≠ (.slice Ao42 y417.length co42 : Value).ownBlock ∧ some k_ ≠ (.slice Ao47 y424.length co47 : Value).ownBlock)) (okp := (fun k_ => ((P0_ k_ ∨ P1_ k_ ∨ P2_ k_) ∨ w.heap.size ≤ k_) ∧ some k_ ≠ (.slice Ao33 y403.length co33 : Value).ownBlock ∧ some k_ ≠ (.slice Ao37 y410.length co37 : Value).ownBlock ∧ some k_ ≠ (.slice Ao42 y417.length co42 : Value).ownBlock ∧ some k_ ≠ (.slice Ao47 y424.length co47 : Value).ownBlock)) ?hr ?hp (fun _ hk => hk) ((show ∀ k_, w49.heap.size ≤ k_ → (fun k_ => ((P0_ k_ ∨ P1_ k_ ∨ P2_ k_) ∨ w.heap.size ≤ k_) ∧ some k_ ≠ (.slice Ao33 y403.length co33 : Value).ownBlock ∧ some k_ ≠ (.slice Ao37 y410.length co37 : Value).ownBlock ∧ some k_ ≠ (.slice Ao42 y417.length co42 : Value).ownBlock ∧ some k_ ≠ (.slice Ao47 y424.length co47 : Value).ownBlock) k_ from fun k_ hk => ⟨(.inr (Nat.le_trans (below_size zz48) hk)), Kd.fresh' (Kd.N_lt (zN HO405)) k_ hk, Kd.fresh' (Kd.N_lt (zN HO412)) k_ hk, Kd.fresh' (Kd.N_lt (zN HO419)) k_ hk, Kd.fresh' (Kd.N_lt (zN HO426)) k_ hk⟩) _ (Nat.le_refl _)) (Below.refl _ _) (Nat.le_refl _) (by simp) ?_; (case hd => rfl); (case hg => rfl); (case hr => first | (go_simp; done) | (go_simp; rfl)); (case hp => exact (Reps.one (show Kd.FK (Kd.slice 3 (Kd.int .i64)) _ _ l0 [.slice A0 l0.length c0] from (Kd.FK_slice_mk (Kd.V_reads' (Kd.V_mono (ok' := (fun k_ => ((P0_ k_ ∨ P1_ k_ ∨ P2_ k_) ∨ w.heap.size ≤ k_) ∧ some k_ ≠ (.slice Ao33 y403.length co33 : Value).ownBlock ∧ some k_ ≠ (.slice Ao37 y410.length co37 : Value).ownBlock ∧ some k_ ≠ (.slice Ao42 y417.length co42 : Value).ownBlock ∧ some k_ ≠ (.slice Ao47 y424.length co47 : Value).ownBlock)) (HO_0.out) (fun k_ hk => by first | exact ⟨hk.1.1.1.1, ⟨hk.1.1.1.2, ⟨hk.1.1.2, ⟨hk.1.2, hk.2⟩⟩⟩⟩ | ((repeat' apply And.intro) <;> (first | exact hk | exact hk.1 | exact hk.2 | exact hk.1.1 | exact hk.1.2 | exact hk.2.1 | exact hk.2.2 | exact hk.1.1.1 | exact hk.1.1.2 | exact hk.1.2.1 | exact hk.1.2.2 | exact hk.2.1.1 | exact hk.2.1.2 | exact hk.2.2.1 | exact hk.2.2.2 | exact hk.1.1.1.1 | exact hk.1.1.1.2 | exact hk.2.2.2.1 | exact hk.2.2.2.2))))).2.1 (Kd.V_F (Kd.V_mono (ok' := (fun k_ => ((P0_ k_ ∨ P1_ k_ ∨ P2_ k_) ∨ w.heap.size ≤ k_) ∧ some k_ ≠ (.slice Ao33 y403.length co33 : Value).ownBlock ∧ some k_ ≠ (.slice Ao37 y410.length co37 : Value).ownBlock ∧ some k_ ≠ (.slice Ao42 y417.length co42 : Value).ownBlock ∧ some k_ ≠ (.slice Ao47 y424.length co47 : Value).ownBlock)) (HO_0.out) (fun k_ hk => by first | exact ⟨hk.1.1.1.1, ⟨hk.1.1.1.2, ⟨hk.1.1.2, ⟨hk.1.2, hk.2⟩⟩⟩⟩ | ((repeat' apply And.intro) <;> (first | exact hk | exact hk.1 | exact hk.2 | exact hk.1.1 | exact hk.1.2 | exact hk.2.1 | exact hk.2.2 | exact hk.1.1.1 | exact hk.1.1.2 | exact hk.1.2.1 | exact hk.1.2.2 | exact hk.2.1.1 | exact hk.2.1.2 | exact hk.2.2.1 | exact hk.2.2.2 | exact hk.1.1.1.1 | exact hk.1.1.1.2 | exact hk.2.2.2.1 | exact hk.2.2.2.2))))))) (Reps.one (show Kd.FK (Kd.slice 3 (Kd.int .i64)) _ _ t431 [.slice Ao50 t431.length co50] from (Kd.FK_slice_mk (Kd.V_reads' (Kd.V_mono (ok' := (fun k_ => ((P0_ k_ ∨ P1_ k_ ∨ P2_ k_) ∨ w.heap.size ≤ k_) ∧ some k_ ≠ (.slice Ao33 y403.length co33 : Value).ownBlock ∧ some k_ ≠ (.slice Ao37 y410.length co37 : Value).ownBlock ∧ some k_ ≠ (.slice Ao42 y417.length co42 : Value).ownBlock ∧ some k_ ≠ (.slice Ao47 y424.length co47 : Value).ownBlock)) (HO433.out) (fun k_ hk => by first | exact ⟨hk.1, ⟨hk.2.1, ⟨hk.2.2.1, ⟨hk.2.2.2.1, hk.2.2.2.2⟩⟩⟩⟩ | ((repeat' apply And.intro) <;> (first | exact hk | exact hk.1 | exact hk.2 | exact hk.1.1 | exact hk.1.2 | exact hk.2.1 | exact hk.2.2 | exact hk.1.1.1 | exact hk.1.1.2 | exact hk.1.2.1 | exact hk.1.2.2 | exact hk.2.1.1 | exact hk.2.1.2 | exact hk.2.2.1 | exact hk.2.2.2 | exact hk.1.1.1.1 | exact hk.1.1.1.2 | exact hk.2.2.2.1 | exact hk.2.2.2.2))))).2.1 (Kd.V_F (Kd.V_mono (ok' := (fun k_ => ((P0_ k_ ∨ P1_ k_ ∨ P2_ k_) ∨ w.heap.size ≤ k_) ∧ some k_ ≠ (.slice Ao33 y403.length co33 : Value).ownBlock ∧ some k_ ≠ (.slice Ao37 y410.length co37 : Value).ownBlock ∧ some k_ ≠ (.slice Ao42 y417.length co42 : Value).ownBlock ∧ some k_ ≠ (.slice Ao47 y424.length co47 : Value).ownBlock)) (HO433.out) (fun k_ hk => by first | exact ⟨hk.1, ⟨hk.2.1, ⟨hk.2.2.1, ⟨hk.2.2.2.1, hk.2.2.2.2⟩⟩⟩⟩ | ((repeat' apply And.intro) <;> (first | exact hk | exact hk.1 | exact hk.2 | exact hk.1.1 | exact hk.1.2 | exact hk.2.1 | exact hk.2.2 | exact hk.1.1.1 | exact hk.1.1.2 | exact hk.1.2.1 | exact hk.1.2.2 | exact hk.2.1.1 | exact hk.2.1.2 | exact hk.2.2.1 | exact hk.2.2.2 | exact hk.1.1.1.1 | exact hk.1.1.1.2 | exact hk.2.2.2.1 | exact hk.2.2.2.2))))))) (Reps.none _ _)))); intro v436 w51 ho52 hb hg_ hnew_; clear hg_ hnew_; (first | rw [← Ny435.out] at ho52 | (simp only [Int.reduceToNat] at ho52; rw [← Ny435.out] at ho52)); replace HO_0 := aM (Kd.V_elder' (zV HO_0) (Kd.N_base ho52) hb); replace HO_1 := aM (Kd.V_elder' (zV HO_1) (Kd.N_base ho52) hb); replace HO_2 := aM (Kd.V_elder' (zV HO_2) (Kd.N_base ho52) hb); replace HO405 := aM (Kd.N_elder' (zN HO405) (Kd.N_base ho52) hb); replace HO408 := aM (Kd.V_elder' (zV HO408) (Kd.N_base ho52) hb); replace HO412 := aM (Kd.N_elder' (zN HO412) (Kd.N_base ho52) hb); replace HO415 := aM (Kd.V_elder' (zV HO415) (Kd.N_base ho52) hb); replace HO419 := aM (Kd.N_elder' (zN HO419) (Kd.N_base ho52) hb); replace HO422 := aM (Kd.V_elder' (zV HO422) (Kd.N_base ho52) hb); replace HO426 := aM (Kd.N_elder' (zN HO426) (Kd.N_base ho52) hb); replace HO429 := aM (Kd.V_elder' (zV HO429) (Kd.N_base ho52) hb); replace HO433 := aM (Kd.V_elder' (zV HO433) (Kd.N_base ho52) hb); have HO437 := aM (Kd.N_lower ho52 (below_size zz48)); replace HB := aM (below_step zz48 hb); clear hb ho52; obtain ⟨Ao53, co53, eo53⟩ := Kd.N_slice HO437.out; subst eo53) | ((with_reducible refine gate_callee (f := 13) rfl ?_); refine goesL_ (some 95) rfl rfl Try.func13 (by kernel_rfl) rfl #[.slice Ao53 y435.length co53] rfl zz47 ?_; (with_reducible refine (perm_Compose.callsV kj3 _ _ y435 t438 t441 _ ?side1 ?side2 A27.out).mono ?_); (case side1 => repeat (first | exact (Kd.N_reads' HO437.out).2.2 | (with_reducible refine Kd.C_alloc ?_ _) | (with_reducible refine Kd.C_drewN ?_ _) | (with_reducible refine Kd.C_drew ?_))); (case side2 => exact (Kd.N_reads' HO437.out).2.1); rintro e w54 ⟨v439, rfl, ho0, hb⟩; refine ⟨_, rfl, ?_⟩; replace HO_0 := aM (Kd.V_below (zV HO_0) hb); replace HO_1 := aM (Kd.V_below (zV HO_1) hb); replace HO_2 := aM (Kd.V_below (zV HO_2) hb); replace HO408 := aM (Kd.V_below (zV HO408) hb); replace HO415 := aM (Kd.V_below (zV HO415) hb); replace HO422 := aM (Kd.V_below (zV HO422) hb); replace HO429 := aM (Kd.V_below (zV HO429) hb); replace HO433 := aM (Kd.V_below (zV HO433) hb); have HO440 := aM (Kd.V_lower (Kd.V_mono (ok' := fun k_ => ((P0_ k_ ∨ P1_ k_ ∨ P2_ k_) ∨ w.heap.size ≤ k_) ∧ some k_ ≠ (.slice Ao33 y403.length co33 : Value).ownBlock ∧ some k_ ≠ (.slice Ao37 y410.length co37 : Value).ownBlock ∧ some k_ ≠ (.slice Ao42 y417.length co42 : Value).ownBlock ∧ some k_ ≠ (.slice Ao47 y424.length co47 : Value).ownBlock ∧ some k_ ≠ (.slice Ao53 y435.length co53 : Value).ownBlock) ho0 (fun k_ hk_ => ⟨(.inr (Nat.le_trans (below_size zz48) hk_)), (Kd.fresh' (Kd.N_lt (zN HO405)) k_ hk_), (Kd.fresh' (Kd.N_lt (zN HO412)) k_ hk_), (Kd.fresh' (Kd.N_lt (zN HO419)) k_ hk_), (Kd.fresh' (Kd.N_lt (zN HO426)) k_ hk_), (Kd.fresh' (Kd.N_lt (zN HO437)) k_ hk_)⟩)) (below_size zz48)); replace HO405 := aM (Kd.N_below (zN HO405) hb); replace HO412 := aM (Kd.N_below (zN HO412) hb); replace HO419 := aM (Kd.N_below (zN HO419) hb); replace HO426 := aM (Kd.N_below (zN HO426) hb); replace HO437 := aM (Kd.N_below (zN HO437) hb); replace HB := aM (below_step zz48 hb); (try clear hb); (try clear hb2); (try clear hk); (try clear hi); (try clear ho0)) | ((with_reducible refine gate_dst (N := 101) rfl ?_); (try (refine gate_guard (by rfl) ?_; dsimp only)); refine Kd.N_lit (Kd.slice 3 (Kd.int .i64)) _ 22 ?hg (N' := 101) ?hd (xs := ([t431, l0] : List (List Int))) (inner := [.slice Ao50 t431.length co50, .slice A0 l0.length c0]) (ok := (fun k_ => ((P0_ k_ ∨ P1_ k_ ∨ P2_ k_) ∨ w.heap.size ≤ k_) ∧ some k_ ≠ (.slice Ao33 y403.length co33 : Value).ownBlock ∧ some k_ ≠ (.slice Ao37 y410.length co37 : Value).ownBlock ∧ some k_ ≠ (.slice Ao42 y417.length co42 : Value).ownBlock ∧ some k_ ≠ (.slice Ao47 y424.length co47 : Value).ownBlock ∧ some k_ ≠ (.slice Ao53 y435.length co53 : Value).ownBlock)) (okp := (fun k_ => ((P0_ k_ ∨ P1_ k_ ∨ P2_ k_) ∨ w.heap.size ≤ k_) ∧ some k_ ≠ (.slice Ao33 y403.length co33 : Value).ownBlock ∧ some k_ ≠ (.slice Ao37 y410.length co37 : Value).ownBlock ∧ some k_ ≠ (.slice Ao42 y417.length co42 : Value).ownBlock ∧ some k_ ≠ (.slice Ao47 y424.length co47 : Value).ownBlock ∧ some k_ ≠ (.slice Ao53 y435.length co53 : Value).ownBlock)) ?hr ?hp (fun _ hk => hk) ((show ∀ k_, w54.heap.size ≤ k_ → (fun k_ => ((P0_ k_ ∨ P1_ k_ ∨ P2_ k_) ∨ w.heap.size ≤ k_) ∧ some k_ ≠ (.slice Ao33 y403.length co33 : Value).ownBlock ∧ some k_ ≠ (.slice Ao37 y410.length co37 : Value).ownBlock ∧ some k_ ≠ (.slice Ao42 y417.length co42 : Value).ownBlock ∧ some k_ ≠ (.slice Ao47 y424.length co47 : Value).ownBlock ∧ some k_ ≠ (.slice Ao53 y435.length co53 : Value).ownBlock) k_ from fun k_ hk => ⟨(.inr (Nat.le_trans (below_size zz48) hk)), Kd.fresh' (Kd.N_lt (zN HO405)) k_ hk, Kd.fresh' (Kd.N_lt (zN HO412)) k_ hk, Kd.fresh' (Kd.N_lt (zN HO419)) k_ hk, Kd.fresh' (Kd.N_lt (zN HO426)) k_ hk, Kd.fresh' (Kd.N_lt (zN HO437)) k_ hk⟩) _ (Nat.le_refl _)) (Below.refl _ _) (Nat.le_refl _) (by simp) ?_; (case hd => rfl); (case hg => rfl); (case hr => first | (go_simp; done) | (go_simp; rfl)); (case hp => exact (Reps.one (show Kd.FK (Kd.slice 3 (Kd.int .i64)) _ _ t431 [.slice Ao50 t431.length co50] from (Kd.FK_slice_mk (Kd.V_reads' (Kd.V_mono (ok' := (fun k_ => ((P0_ k_ ∨ P1_ k_ ∨ P2_ k_) ∨ w.heap.size ≤ k_) ∧ some k_ ≠ (.slice Ao33 y403.length co33 : Value).ownBlock ∧ some k_ ≠ (.slice Ao37 y410.length co37 : Value).ownBlock ∧ some k_ ≠ (.slice Ao42 y417.length co42 : Value).ownBlock ∧ some k_ ≠ (.slice Ao47 y424.length co47 : Value).ownBlock ∧ some k_ ≠ (.slice Ao53 y435.length co53 : Value).ownBlock)) (HO433.out) (fun k_ hk => by first | exact ⟨hk.1.1, ⟨hk.1.2.1, ⟨hk.1.2.2.1, ⟨hk.1.2.2.2.1, ⟨hk.1.2.2.2.2, hk.2⟩⟩⟩⟩⟩ | ((repeat' apply And.intro) <;> (first | exact hk | exact hk.1 | exact hk.2 | exact hk.1.1 | exact hk.1.2 | exact hk.2.1 | exact hk.2.2 | exact hk.1.1.1 | exact hk.1.1.2 | exact hk.1.2.1 | exact hk.1.2.2 | exact hk.2.1.1 | exact hk.2.1.2 | exact hk.2.2.1 | exact hk.2.2.2 | exact hk.1.1.1.1 | exact hk.1.1.1.2 | exact hk.2.2.2.1 | exact hk.2.2.2.2))))).2.1 (Kd.V_F (Kd.V_mono (ok' := (fun k_ => ((P0_ k_ ∨ P1_ k_ ∨ P2_ k_) ∨ w.heap.size ≤ k_) ∧ some k_ ≠ (.slice Ao33 y403.length co33 : Value).ownBlock ∧ some k_ ≠ (.slice Ao37 y410.length co37 : Value).ownBlock ∧ some k_ ≠ (.slice Ao42 y417.length co42 : Value).ownBlock ∧ some k_ ≠ (.slice Ao47 y424.length co47 : Value).ownBlock ∧ some k_ ≠ (.slice Ao53 y435.length co53 : Value).ownBlock)) (HO433.out) (fun k_ hk => by first | exact ⟨hk.1.1, ⟨hk.1.2.1, ⟨hk.1.2.2.1, ⟨hk.1.2.2.2.1, ⟨hk.1.2.2.2.2, hk.2⟩⟩⟩⟩⟩ | ((repeat' apply And.intro) <;> (first | exact hk | exact hk.1 | exact hk.2 | exact hk.1.1 | exact hk.1.2 | exact hk.2.1 | exact hk.2.2 | exact hk.1.1.1 | exact hk.1.1.2 | exact hk.1.2.1 | exact hk.1.2.2 | exact hk.2.1.1 | exact hk.2.1.2 | exact hk.2.2.1 | exact hk.2.2.2 | exact hk.1.1.1.1 | exact hk.1.1.1.2 | exact hk.2.2.2.1 | exact hk.2.2.2.2))))))) (Reps.one (show Kd.FK (Kd.slice 3 (Kd.int .i64)) _ _ l0 [.slice A0 l0.length c0] from (Kd.FK_slice_mk (Kd.V_reads' (Kd.V_mono (ok' := (fun k_ => ((P0_ k_ ∨ P1_ k_ ∨ P2_ k_) ∨ w.heap.size ≤ k_) ∧ some k_ ≠ (.slice Ao33 y403.length co33 : Value).ownBlock ∧ some k_ ≠ (.slice Ao37 y410.length co37 : Value).ownBlock ∧ some k_ ≠ (.slice Ao42 y417.length co42 : Value).ownBlock ∧ some k_ ≠ (.slice Ao47 y424.length co47 : Value).ownBlock ∧ some k_ ≠ (.slice Ao53 y435.length co53 : Value).ownBlock)) (HO_0.out) (fun k_ hk => by first | exact ⟨hk.1.1.1.1.1, ⟨hk.1.1.1.1.2, ⟨hk.1.1.1.2, ⟨hk.1.1.2, ⟨hk.1.2, hk.2⟩⟩⟩⟩⟩ | ((repeat' apply And.intro) <;> (first | exact hk | exact hk.1 | exact hk.2 | exact hk.1.1 | exact hk.1.2 | exact hk.2.1 | exact hk.2.2 | exact hk.1.1.1 | exact hk.1.1.2 | exact hk.1.2.1 | exact hk.1.2.2 | exact hk.2.1.1 | exact hk.2.1.2 | exact hk.2.2.1 | exact hk.2.2.2 | exact hk.1.1.1.1 | exact hk.1.1.1.2 | exact hk.2.2.2.1 | exact hk.2.2.2.2))))).2.1 (Kd.V_F (Kd.V_mono (ok' := (fun k_ => ((P0_ k_ ∨ P1_ k_ ∨ P2_ k_) ∨ w.heap.size ≤ k_) ∧ some k_ ≠ (.slice Ao33 y403.length co33 : Value).ownBlock ∧ some k_ ≠ (.slice Ao37 y410.length co37 : Value).ownBlock ∧ some k_ ≠ (.slice Ao42 y417.length co42 : Value).ownBlock ∧ some k_ ≠ (.slice Ao47 y424.length co47 : Value).ownBlock ∧ some k_ ≠ (.slice Ao53 y435.length co53 : Value).ownBlock)) (HO_0.out) (fun k_ hk => by first | exact ⟨hk.1.1.1.1.1, ⟨hk.1.1.1.1.2, ⟨hk.1.1.1.2, ⟨hk.1.1.2, ⟨hk.1.2, hk.2⟩⟩⟩⟩⟩ | ((repeat' apply And.intro) <;> (first | exact hk | exact hk.1 | exact hk.2 | exact hk.1.1 | exact hk.1.2 | exact hk.2.1 | exact hk.2.2 | exact hk.1.1.1 | exact hk.1.1.2 | exact hk.1.2.1 | exact hk.1.2.2 | exact hk.2.1.1 | exact hk.2.1.2 | exact hk.2.2.1 | exact hk.2.2.2 | exact hk.1.1.1.1 | exact hk.1.1.1.2 | exact hk.2.2.2.1 | exact hk.2.2.2.2))))))) (Reps.none _ _)))); intro v443 w55 ho56 hb hg_ hnew_; clear hg_ hnew_; (first | rw [← Ny442.out] at ho56 | (simp only [Int.reduceToNat] at ho56; rw [← Ny442.out] at ho56)); replace HO_0 := aM (Kd.V_elder' (zV HO_0) (Kd.N_base ho56) hb); replace HO_1 := aM (Kd.V_elder' (zV HO_1) (Kd.N_base ho56) hb); replace HO_2 := aM (Kd.V_elder' (zV HO_2) (Kd.N_base ho56) hb); replace HO405 := aM (Kd.N_elder' (zN HO405) (Kd.N_base ho56) hb); replace HO408 := aM (Kd.V_elder' (zV HO408) (Kd.N_base ho56) hb); replace HO412 := aM (Kd.N_elder' (zN HO412) (Kd.N_base ho56) hb); replace HO415 := aM (Kd.V_elder' (zV HO415) (Kd.N_base ho56) hb); replace HO419 := aM (Kd.N_elder' (zN HO419) (Kd.N_base ho56) hb); replace HO422 := aM (Kd.V_elder' (zV HO422) (Kd.N_base ho56) hb); replace HO426 := aM (Kd.N_elder' (zN HO426) (Kd.N_base ho56) hb); replace HO429 := aM (Kd.V_elder' (zV HO429) (Kd.N_base ho56) hb); replace HO433 := aM (Kd.V_elder' (zV HO433) (Kd.N_base ho56) hb); replace HO437 := aM (Kd.N_elder' (zN HO437) (Kd.N_base ho56) hb); replace HO440 := aM (Kd.V_elder' (zV HO440) (Kd.N_base ho56) hb); have HO444 := aM (Kd.N_lower ho56 (below_size zz48)); replace HB := aM (below_step zz48 hb); clear hb ho56; obtain ⟨Ao57, co57, eo57⟩ := Kd.N_slice HO444.out; subst eo57) | ((with_reducible refine gate_callee (f := 13) rfl ?_); refine goesL_ (some 102) rfl rfl Try.func13 (by kernel_rfl) rfl #[.slice Ao57 y442.length co57] rfl zz47 ?_; (with_reducible refine (perm_Compose.callsV kj3 _ _ y442 t445 t448 _ ?side1 ?side2 A28.out).mono ?_); (case side1 => repeat (first | exact (Kd.N_reads' HO444.out).2.2 | (with_reducible refine Kd.C_alloc ?_ _) | (with_reducible refine Kd.C_drewN ?_ _) | (with_reducible refine Kd.C_drew ?_))); (case side2 => exact (Kd.N_reads' HO444.out).2.1); rintro e w58 ⟨v446, rfl, ho0, hb⟩; refine ⟨_, rfl, ?_⟩; replace HO_0 := aM (Kd.V_below (zV HO_0) hb); replace HO_1 := aM (Kd.V_below (zV HO_1) hb); replace HO_2 := aM (Kd.V_below (zV HO_2) hb); replace HO408 := aM (Kd.V_below (zV HO408) hb); replace HO415 := aM (Kd.V_below (zV HO415) hb); replace HO422 := aM (Kd.V_below (zV HO422) hb); replace HO429 := aM (Kd.V_below (zV HO429) hb); replace HO433 := aM (Kd.V_below (zV HO433) hb); replace HO440 := aM (Kd.V_below (zV HO440) hb); have HO447 := aM (Kd.V_lower (Kd.V_mono (ok' := fun k_ => ((P0_ k_ ∨ P1_ k_ ∨ P2_ k_) ∨ w.heap.size ≤ k_) ∧ some k_ ≠ (.slice Ao33 y403.length co33 : Value).ownBlock ∧ some k_ ≠ (.slice Ao37 y410.length co37 : Value).ownBlock ∧ some k_ ≠ (.slice Ao42 y417.length co42 : Value).ownBlock ∧ some k_ ≠ (.slice Ao47 y424.length co47 : Value).ownBlock ∧ some k_ ≠ (.slice Ao53 y435.length co53 : Value).ownBlock ∧ some k_ ≠ (.slice Ao57 y442.length co57 : Value).ownBlock) ho0 (fun k_ hk_ => ⟨(.inr (Nat.le_trans (below_size zz48) hk_)), (Kd.fresh' (Kd.N_lt (zN HO405)) k_ hk_), (Kd.fresh' (Kd.N_lt (zN HO412)) k_ hk_), (Kd.fresh' (Kd.N_lt (zN HO419)) k_ hk_), (Kd.fresh' (Kd.N_lt (zN HO426)) k_ hk_), (Kd.fresh' (Kd.N_lt (zN HO437)) k_ hk_), (Kd.fresh' (Kd.N_lt (zN HO444)) k_ hk_)⟩)) (below_size zz48)); replace HO405 := aM (Kd.N_below (zN HO405) hb); replace HO412 := aM (Kd.N_below (zN HO412) hb); replace HO419 := aM (Kd.N_below (zN HO419) hb); replace HO426 := aM (Kd.N_below (zN HO426) hb); replace HO437 := aM (Kd.N_below (zN HO437) hb); replace HO444 := aM (Kd.N_below (zN HO444) hb); replace HB := aM (below_step zz48 hb); (try clear hb); (try clear hb2); (try clear hk); (try clear hi); (try clear ho0)) | ((with_reducible refine gate_callee (f := 22) rfl ?_); refine goesL_ (some 107) rfl rfl Try.func22 (by kernel_rfl) rfl #[.slice A0 l0.length c0] rfl zz47 ?_; (with_reducible refine (perm_Order.calls kj3 _ _ l0 t449 t450 _ ?side1 ?side2 A29.out).mono ?_); (case side1 => repeat (first | exact (Kd.V_reads' HO_0.out).2.2 | (with_reducible refine Kd.C_alloc ?_ _) | (with_reducible refine Kd.C_drewN ?_ _) | (with_reducible refine Kd.C_drew ?_))); (case side2 => exact (Kd.V_reads' HO_0.out).2.1); rintro e w59 ⟨rfl, hb⟩; refine ⟨_, rfl, ?_⟩; replace HO_0 := aM (Kd.V_below (zV HO_0) hb); replace HO_1 := aM (Kd.V_below (zV HO_1) hb); replace HO_2 := aM (Kd.V_below (zV HO_2) hb); replace HO405 := aM (Kd.N_below (zN HO405) hb); replace HO408 := aM (Kd.V_below (zV HO408) hb); replace HO412 := aM (Kd.N_below (zN HO412) hb); replace HO415 := aM (Kd.V_below (zV HO415) hb); replace HO419 := aM (Kd.N_below (zN HO419) hb); replace HO422 := aM (Kd.V_below (zV HO422) hb); replace HO426 := aM (Kd.N_below (zN HO426) hb); replace HO429 := aM (Kd.V_below (zV HO429) hb); replace HO433 := aM (Kd.V_below (zV HO433) hb); replace HO437 := aM (Kd.N_below (zN HO437) hb); replace HO440 := aM (Kd.V_below (zV HO440) hb); replace HO444 := aM (Kd.N_below (zN HO444) hb); replace HO447 := aM (Kd.V_below (zV HO447) hb); replace HB := aM (below_step zz48 hb); (try clear hb); (try clear hb2); (try clear hk); (try clear hi)))
      (try simp only [Act.put, List.setIfInBounds_toArray, List.set_cons_zero, List.set_cons_succ])
      go_cut [149] (fun v149 wc => ∃ (kq : Nat) (x149_29 : Bool), v149 = .bool x149_29 ∧ Aside0 (l30_PermGroup.j1 kq l0 t438 t445 t449 x149_29 = some r) ∧ Aside0 (kq ≤ kj3) ∧ Aside0 (Kd.V (Kd.int .i64) 3 wc w.heap.size (fun k_ => ((P0_ k_ ∨ P1_ k_ ∨ P2_ k_) ∨ w.heap.size ≤ k_)) (.slice A0 l0.length c0) l0) ∧ Aside0 (Kd.V (Kd.int .i64) 3 wc w.heap.size (fun k_ => ((P0_ k_ ∨ P1_ k_ ∨ P2_ k_) ∨ w.heap.size ≤ k_)) v439 t438) ∧ Aside0 (Kd.V (Kd.int .i64) 3 wc w.heap.size (fun k_ => ((P0_ k_ ∨ P1_ k_ ∨ P2_ k_) ∨ w.heap.size ≤ k_)) v446 t445) ∧ Aside0 (Below w.heap.size w wc))
      case first =>
        have H := HC30.out; clear HC30
        by_cases c60 : t409 = 0
        · rw [if_pos c60] at H; have c60b0 := beq_iff_eq.mpr c60; have c60b1 := bne_eq_false_iff_eq.mpr c60; clear c60
          (first | rw [c60b0] | (simp only [i64_w, i32_w]; rw [c60b0]) | skip)
          by_cases c61 : t416 = 0
          · rw [if_pos c61] at H; have c61b0 := beq_iff_eq.mpr c61; have c61b1 := bne_eq_false_iff_eq.mpr c61; clear c61
            by_cases c62 : t423 = 0
            · rw [if_pos c62] at H; have c62b0 := beq_iff_eq.mpr c62; have c62b1 := bne_eq_false_iff_eq.mpr c62; clear c62
              by_cases c63 : t430 = 0
              · rw [if_pos c63] at H; have c63b0 := beq_iff_eq.mpr c63; have c63b1 := bne_eq_false_iff_eq.mpr c63; clear c63
                by_cases c64 : t434 = 0
                · rw [if_pos c64] at H; have c64b0 := beq_iff_eq.mpr c64; have c64b1 := bne_eq_false_iff_eq.mpr c64; clear c64
                  by_cases c65 : t441 = 0
                  · rw [if_pos c65] at H; have c65b0 := beq_iff_eq.mpr c65; have c65b1 := bne_eq_false_iff_eq.mpr c65; clear c65
                    by_cases c66 : t448 = 0
                    · rw [if_pos c66] at H; have c66b0 := beq_iff_eq.mpr c66; have c66b1 := bne_eq_false_iff_eq.mpr c66; clear c66
                      by_cases c67 : t450 = 0
                      · rw [if_pos c67] at H; have c67b0 := beq_iff_eq.mpr c67; have c67b1 := bne_eq_false_iff_eq.mpr c67; clear c67; replace H := Option.bind_eq_some_iff.mp H; obtain ⟨t451, A680, H⟩ := H; replace H : (if t451 = true then (l30_PermGroup.j1 kj3 l0 t438 t445 t449 (decide (t449 < 1))) else (l30_PermGroup.j1 kj3 l0 t438 t445 t449 true)) = some r := H; have A68 := aM A680; clear A680
                        by_cases c69 : t451 = true
                        · subst c69; have H1 : (l30_PermGroup.j1 kj3 l0 t438 t445 t449 (decide (t449 < 1))) = some r := by rw [if_pos rfl] at H; exact H
                          clear H; have H := H1; clear H1; have H' := aM H; clear H; obtain ⟨Ao70, co70, eo70⟩ := Kd.V_slice HO422.out; subst eo70; obtain ⟨Ao71, co71, eo71⟩ := Kd.V_slice HO429.out; subst eo71
                          go_wp2_with (first | (go_at_call 15; (with_reducible refine (r09_SameInts.calls kj3 _ _ t420 _ _ t427 true _ ?side1 ?side2 ?side3 ?side4 A68.out).mono ?_); (case side1 => repeat (first | exact (Kd.V_reads' HO422.out).2.2 | (with_reducible refine Kd.C_alloc ?_ _) | (with_reducible refine Kd.C_drewN ?_ _) | (with_reducible refine Kd.C_drew ?_))); (case side2 => exact (Kd.V_reads' HO422.out).2.1); (case side3 => repeat (first | exact (Kd.V_reads' HO429.out).2.2 | (with_reducible refine Kd.C_alloc ?_ _) | (with_reducible refine Kd.C_drewN ?_ _) | (with_reducible refine Kd.C_drew ?_))); (case side4 => exact (Kd.V_reads' HO429.out).2.1); rintro e w' ⟨rfl, ⟨nd, rfl⟩⟩))
                          go_meet
                          case rel => exact ⟨_, (decide (t449 < 1)), zz73, H', ⟨(by have := HJ3.out; first | omega | exact Nat.le_refl _)⟩, ⟨(by (with_reducible repeat (first | apply Kd.V_alloc | apply Kd.V_drewN | apply Kd.V_drew)); exact Kd.V_mono HO_0.out (fun _ hk => by first | exact hk.1.1.1.1.1.1 | ((repeat' apply And.intro) <;> (first | exact hk | exact hk.1 | exact hk.2 | exact hk.1.1 | exact hk.1.2 | exact hk.2.1 | exact hk.2.2 | exact hk.1.1.1 | exact hk.1.1.2 | exact hk.1.2.1 | exact hk.1.2.2 | exact hk.2.1.1 | exact hk.2.1.2 | exact hk.2.2.1 | exact hk.2.2.2 | exact hk.1.1.1.1 | exact hk.1.1.1.2 | exact hk.2.2.2.1 | exact hk.2.2.2.2))))⟩, ⟨(by (with_reducible repeat (first | apply Kd.V_alloc | apply Kd.V_drewN | apply Kd.V_drew)); exact Kd.V_mono HO440.out (fun _ hk => by first | exact hk.1.1 | ((repeat' apply And.intro) <;> (first | exact hk | exact hk.1 | exact hk.2 | exact hk.1.1 | exact hk.1.2 | exact hk.2.1 | exact hk.2.2 | exact hk.1.1.1 | exact hk.1.1.2 | exact hk.1.2.1 | exact hk.1.2.2 | exact hk.2.1.1 | exact hk.2.1.2 | exact hk.2.2.1 | exact hk.2.2.2 | exact hk.1.1.1.1 | exact hk.1.1.1.2 | exact hk.2.2.2.1 | exact hk.2.2.2.2))))⟩, ⟨(by (with_reducible repeat (first | apply Kd.V_alloc | apply Kd.V_drewN | apply Kd.V_drew)); exact Kd.V_mono HO447.out (fun _ hk => by first | exact hk.1 | ((repeat' apply And.intro) <;> (first | exact hk | exact hk.1 | exact hk.2 | exact hk.1.1 | exact hk.1.2 | exact hk.2.1 | exact hk.2.2 | exact hk.1.1.1 | exact hk.1.1.2 | exact hk.1.2.1 | exact hk.1.2.2 | exact hk.2.1.1 | exact hk.2.1.2 | exact hk.2.2.1 | exact hk.2.2.2 | exact hk.1.1.1.1 | exact hk.1.1.1.2 | exact hk.2.2.2.1 | exact hk.2.2.2.2))))⟩, ⟨zz48⟩⟩
                        replace c69 := Bool.eq_false_iff.mpr c69; subst c69; have H1 : (l30_PermGroup.j1 kj3 l0 t438 t445 t449 true) = some r := by rw [if_neg (show ¬ (false = true) by decide)] at H; exact H
                        clear H; have H := H1; clear H1
                        exact absurd (H.trans (congrArg some HR_.out)) zz75
                      rw [if_neg c67] at H; have c67b0 := beq_eq_false_iff_ne.mpr c67; have c67b1 := bne_iff_ne.mpr c67
                      exact absurd (H.trans (congrArg some HR_.out)) zz75
                    rw [if_neg c66] at H; have c66b0 := beq_eq_false_iff_ne.mpr c66; have c66b1 := bne_iff_ne.mpr c66
                    exact absurd (H.trans (congrArg some HR_.out)) zz75
                  rw [if_neg c65] at H; have c65b0 := beq_eq_false_iff_ne.mpr c65; have c65b1 := bne_iff_ne.mpr c65
                  exact absurd (H.trans (congrArg some HR_.out)) zz75
                rw [if_neg c64] at H; have c64b0 := beq_eq_false_iff_ne.mpr c64; have c64b1 := bne_iff_ne.mpr c64
                exact absurd (H.trans (congrArg some HR_.out)) zz75
              rw [if_neg c63] at H; have c63b0 := beq_eq_false_iff_ne.mpr c63; have c63b1 := bne_iff_ne.mpr c63
              exact absurd (H.trans (congrArg some HR_.out)) zz75
            rw [if_neg c62] at H; have c62b0 := beq_eq_false_iff_ne.mpr c62; have c62b1 := bne_iff_ne.mpr c62
            exact absurd (H.trans (congrArg some HR_.out)) zz75
          rw [if_neg c61] at H; have c61b0 := beq_eq_false_iff_ne.mpr c61; have c61b1 := bne_iff_ne.mpr c61
          exact absurd (H.trans (congrArg some HR_.out)) zz75
        rw [if_neg c60] at H; have c60b0 := beq_eq_false_iff_ne.mpr c60; have c60b1 := bne_iff_ne.mpr c60
        (first | rw [c60b0] | (simp only [i64_w, i32_w]; rw [c60b0]) | skip)
        exact absurd (H.trans (congrArg some HR_.out)) zz75
      case rest =>
        clear HC30; (try clear c1); (try clear c2); (try clear p2); (try clear c4); (try clear c6); (try clear c7); (try clear c7b0); (try clear c7b1); (try clear c9); (try clear c9b0); (try clear c9b1); (try clear c9b2); (try clear c10); (try clear c10b0); (try clear c10b1); (try clear c10b2); (try clear c12); (try clear c13); (try clear c18); (try clear c19); (try clear c22); (try clear c60); (try clear c60b0); (try clear c60b1); (try clear c61); (try clear c61b0); (try clear c61b1); (try clear c62); (try clear c62b0); (try clear c62b1); (try clear c63); (try clear c63b0); (try clear c63b1); (try clear c64); (try clear c64b0); (try clear c64b1); (try clear c65); (try clear c65b0); (try clear c65b1); (try clear c66); (try clear c66b0); (try clear c66b1); (try clear c67); (try clear c67b0); (try clear c67b1); (try clear c69); (try clear p2); obtain ⟨kq, x149_29, rfl, HA, HJ29, HO_0, HO_17, HO_19, HB⟩ := hcut
        cases kq with
        | zero => exact absurd HA.out (by simp [l30_PermGroup.j1])
        | succ kj29 =>
          have H := HA.out; clear HA; simp only [l30_PermGroup.j1] at H
          by_cases c74 : x149_29 = true
          · subst c74; have H1 : (some false) = some r := by rw [if_pos rfl] at H; exact H
            clear H; have H := H1; clear H1
            exact absurd (Option.some.inj (H.trans (congrArg some HR_.out))) (by decide)
          replace c74 := Bool.eq_false_iff.mpr c74; subst c74; have H1 : ((r30_Unit.f kj29 (l0.length : Int)).bind fun t452 => ((r09_SameInts.f kj29 t438 t452).bind fun t455 => (if t455 = true then ((r09_SameInts.f kj29 t445 t452).bind fun t456 => (l30_PermGroup.j2 kj29 l0 t449 t452 (!t456))) else (l30_PermGroup.j2 kj29 l0 t449 t452 true)))) = some r := by rw [if_neg (show ¬ (false = true) by decide)] at H; exact H
          clear H; have H := H1; clear H1; replace H := Option.bind_eq_some_iff.mp H; obtain ⟨t452, A750, H⟩ := H; replace H : ((r09_SameInts.f kj29 t438 t452).bind fun t455 => (if t455 = true then ((r09_SameInts.f kj29 t445 t452).bind fun t456 => (l30_PermGroup.j2 kj29 l0 t449 t452 (!t456))) else (l30_PermGroup.j2 kj29 l0 t449 t452 true))) = some r := H; have A75 := aM A750; clear A750; have HC76 := aM H; clear H
          go_upto_region 14 with (first | ((with_reducible refine gate_callee (f := 26) rfl ?_); refine goesL_ (some 152) rfl rfl Try.func26 (by kernel_rfl) rfl #[.int .i64 (l0.length : Int)] rfl zz47 ?_; (with_reducible refine (r30_Unit.calls kj29 (l0.length : Int) t452 _ A75.out).mono ?_); rintro e w77 ⟨v453, rfl, ho0, hb⟩; refine ⟨_, rfl, ?_⟩; replace HO_0 := aM (Kd.V_elder' (zV HO_0) (Kd.R_base ho0) hb); replace HO_17 := aM (Kd.V_elder' (zV HO_17) (Kd.R_base ho0) hb); replace HO_19 := aM (Kd.V_elder' (zV HO_19) (Kd.R_base ho0) hb); have HO454 := aM (Kd.R_lower (Kd.R_newM (M := fun k_ => (w.heap.size ≤ k_)) ho0 (below_size zz48) (fun k_ h_ => h_)) (below_size zz48)); replace HB := aM (below_step zz48 hb); (try clear hb); (try clear hb2); (try clear hk); (try clear hi); (try clear ho0)))
          (try simp only [Act.put, List.setIfInBounds_toArray, List.set_cons_zero, List.set_cons_succ])
          go_cut [162] (fun v162 wc => ∃ (kq : Nat) (x162_75 : Bool), v162 = .bool x162_75 ∧ Aside0 (l30_PermGroup.j2 kq l0 t449 t452 x162_75 = some r) ∧ Aside0 (kq ≤ kj29) ∧ Aside0 (Kd.V (Kd.int .i64) 3 wc w.heap.size (fun k_ => ((P0_ k_ ∨ P1_ k_ ∨ P2_ k_) ∨ w.heap.size ≤ k_) ∧ some k_ ≠ (v453 : Value).ownBlock) (.slice A0 l0.length c0) l0) ∧ Aside0 (Kd.R (Kd.int .i64) 3 wc w.heap.size (fun k_ => (w.heap.size ≤ k_)) v453 t452) ∧ Aside0 (Below w.heap.size w wc))
          case first =>
            have H := HC76.out; clear HC76; replace H := Option.bind_eq_some_iff.mp H; obtain ⟨t455, A780, H⟩ := H; replace H : (if t455 = true then ((r09_SameInts.f kj29 t445 t452).bind fun t456 => (l30_PermGroup.j2 kj29 l0 t449 t452 (!t456))) else (l30_PermGroup.j2 kj29 l0 t449 t452 true)) = some r := H; have A78 := aM A780; clear A780
            by_cases c79 : t455 = true
            · subst c79; have H1 : ((r09_SameInts.f kj29 t445 t452).bind fun t456 => (l30_PermGroup.j2 kj29 l0 t449 t452 (!t456))) = some r := by rw [if_pos rfl] at H; exact H
              clear H; have H := H1; clear H1; replace H := Option.bind_eq_some_iff.mp H; obtain ⟨t456, A800, H⟩ := H; replace H : (l30_PermGroup.j2 kj29 l0 t449 t452 (!t456)) = some r := H; have A80 := aM A800; clear A800; have H' := aM H; clear H; obtain ⟨Ao81, co81, eo81⟩ := Kd.V_slice HO_17.out; subst eo81; obtain ⟨Ao82, co82, eo82⟩ := Kd.R_slice HO454.out; subst eo82
              go_wp2_with (first | ((with_reducible refine gate_callee (f := 15) rfl ?_); refine goesL_ (some 155) rfl rfl Try.func15 (by kernel_rfl) rfl #[.slice Ao81 t438.length co81, .slice Ao82 t452.length co82] rfl zz47 ?_; (with_reducible refine (r09_SameInts.calls kj29 _ _ t438 _ _ t452 true _ ?side1 ?side2 ?side3 ?side4 A78.out).mono ?_); (case side1 => repeat (first | exact (Kd.V_reads' HO_17.out).2.2 | (with_reducible refine Kd.C_alloc ?_ _) | (with_reducible refine Kd.C_drewN ?_ _) | (with_reducible refine Kd.C_drew ?_))); (case side2 => exact (Kd.V_reads' HO_17.out).2.1); (case side3 => repeat (first | exact (Kd.R_reads' HO454.out).2.2 | (with_reducible refine Kd.C_alloc ?_ _) | (with_reducible refine Kd.C_drewN ?_ _) | (with_reducible refine Kd.C_drew ?_))); (case side4 => exact (Kd.R_reads' HO454.out).2.1); rintro e w' ⟨rfl, ⟨nd, rfl⟩⟩; refine ⟨_, rfl, ?_⟩; obtain ⟨Ao83, co83, eo83⟩ := Kd.V_slice HO_19.out; subst eo83) | (go_at_call 15; (with_reducible refine (r09_SameInts.calls kj29 _ _ t445 _ _ t452 t456 _ ?side1 ?side2 ?side3 ?side4 A80.out).mono ?_); (case side1 => repeat (first | exact (Kd.V_reads' HO_19.out).2.2 | (with_reducible refine Kd.C_alloc ?_ _) | (with_reducible refine Kd.C_drewN ?_ _) | (with_reducible refine Kd.C_drew ?_))); (case side2 => exact (Kd.V_reads' HO_19.out).2.1); (case side3 => repeat (first | exact (Kd.R_reads' HO454.out).2.2 | (with_reducible refine Kd.C_alloc ?_ _) | (with_reducible refine Kd.C_drewN ?_ _) | (with_reducible refine Kd.C_drew ?_))); (case side4 => exact (Kd.R_reads' HO454.out).2.1); rintro e w' ⟨rfl, ⟨nd, rfl⟩⟩))
              go_meet
              case rel => exact ⟨_, (!t456), zz73, H', ⟨(by have := HJ3.out; have := HJ29.out; first | omega | exact Nat.le_refl _)⟩, ⟨(zV HO_0)⟩, ⟨(by (with_reducible repeat (first | apply Kd.R_alloc | apply Kd.R_drewN | apply Kd.R_drew)); exact Kd.R_mono HO454.out (fun _ hk => by first | exact hk.1 | ((repeat' apply And.intro) <;> (first | exact hk | exact hk.1 | exact hk.2 | exact hk.1.1 | exact hk.1.2 | exact hk.2.1 | exact hk.2.2 | exact hk.1.1.1 | exact hk.1.1.2 | exact hk.1.2.1 | exact hk.1.2.2 | exact hk.2.1.1 | exact hk.2.1.2 | exact hk.2.2.1 | exact hk.2.2.2 | exact hk.1.1.1.1 | exact hk.1.1.1.2 | exact hk.2.2.2.1 | exact hk.2.2.2.2))))⟩, ⟨zz48⟩⟩
            replace c79 := Bool.eq_false_iff.mpr c79; subst c79; have H1 : (l30_PermGroup.j2 kj29 l0 t449 t452 true) = some r := by rw [if_neg (show ¬ (false = true) by decide)] at H; exact H
            clear H; have H := H1; clear H1
            exact absurd (H.trans (congrArg some HR_.out)) (by cases kj29 <;> simp [l30_PermGroup.j2])
          case rest =>
            clear HC76; (try clear c1); (try clear c2); (try clear p2); (try clear c4); (try clear c6); (try clear c7); (try clear c7b0); (try clear c7b1); (try clear c9); (try clear c9b0); (try clear c9b1); (try clear c9b2); (try clear c10); (try clear c10b0); (try clear c10b1); (try clear c10b2); (try clear c12); (try clear c13); (try clear c15); (try clear c18); (try clear c19); (try clear c22); (try clear c26); (try clear c60); (try clear c60b0); (try clear c60b1); (try clear c61); (try clear c61b0); (try clear c61b1); (try clear c62); (try clear c62b0); (try clear c62b1); (try clear c63); (try clear c63b0); (try clear c63b1); (try clear c64); (try clear c64b0); (try clear c64b1); (try clear c65); (try clear c65b0); (try clear c65b1); (try clear c66); (try clear c66b0); (try clear c66b1); (try clear c67); (try clear c67b0); (try clear c67b1); (try clear c69); (try clear c74); (try clear c79); (try clear p2); obtain ⟨kq, x162_75, rfl, HA, HJ75, HO_0, HO_23, HB⟩ := hcut
            cases kq with
            | zero => exact absurd HA.out (by simp [l30_PermGroup.j2])
            | succ kj75 =>
              have H := HA.out; clear HA; simp only [l30_PermGroup.j2] at H
              by_cases c86 : x162_75 = true
              · subst c86; have H1 : (some false) = some r := by rw [if_pos rfl] at H; exact H
                clear H; have H := H1; clear H1
                exact absurd (Option.some.inj (H.trans (congrArg some HR_.out))) (by decide)
              replace c86 := Bool.eq_false_iff.mpr c86; subst c86; have H1 : (l30_PermGroup.l0 kj75 l0 t449 t452 l0 1) = some r := by rw [if_neg (show ¬ (false = true) by decide)] at H; exact H
              clear H; have H := H1; clear H1; have H' := aM H; clear H; go_wp2
              go_loopg [24, 25] kj75 (fun kq v24 v25 w' => ∃ (x24_4 : List Int) (x25_4 : Int), v25 = .int .i64 x25_4 ∧ Aside0 (l30_PermGroup.l0 kq l0 t449 t452 x24_4 x25_4 = some r) ∧ Aside0 (kq ≤ kj75) ∧ Aside0 (Kd.V (Kd.int .i64) 3 w' w.heap.size (fun k_ => ((P0_ k_ ∨ P1_ k_ ∨ P2_ k_) ∨ w.heap.size ≤ k_) ∧ some k_ ≠ (v453 : Value).ownBlock) (.slice A0 l0.length c0) l0) ∧ Aside0 (Kd.R (Kd.int .i64) 3 w' w.heap.size (fun k_ => (w.heap.size ≤ k_)) v453 t452) ∧ Aside0 (Kd.V (Kd.int .i64) 3 w' w.heap.size (fun k_ => ((P0_ k_ ∨ P1_ k_ ∨ P2_ k_) ∨ w.heap.size ≤ k_) ∧ some k_ ≠ (v453 : Value).ownBlock) v24 x24_4) ∧ Aside0 (Below w.heap.size w w'))
              case atStart => exact ⟨(l0), (1), zz73, H', ⟨Nat.le_refl _⟩, ⟨(zV HO_0)⟩, ⟨(zR HO_23)⟩, ⟨(zV HO_0)⟩, ⟨zz48⟩⟩
              case round =>
                clear H'; (try clear c1); (try clear c2); (try clear p2); (try clear c4); (try clear c6); (try clear c7); (try clear c7b0); (try clear c7b1); (try clear c8); (try clear c9); (try clear c9b0); (try clear c9b1); (try clear c9b2); (try clear c10); (try clear c10b0); (try clear c10b1); (try clear c10b2); (try clear c12); (try clear c13); (try clear c15); (try clear c18); (try clear c19); (try clear c22); (try clear c26); (try clear c60); (try clear c60b0); (try clear c60b1); (try clear c61); (try clear c61b0); (try clear c61b1); (try clear c62); (try clear c62b0); (try clear c62b1); (try clear c63); (try clear c63b0); (try clear c63b1); (try clear c64); (try clear c64b0); (try clear c64b1); (try clear c65); (try clear c65b0); (try clear c65b1); (try clear c66); (try clear c66b0); (try clear c66b1); (try clear c67); (try clear c67b0); (try clear c67b1); (try clear c69); (try clear c74); (try clear c79); (try clear c86); (try clear p2); obtain ⟨x24_4, x25_4, rfl, HA, HK4, HO_0, HO_23, HO_24, HB⟩ := hrel
                cases gk with
                | zero => exact absurd HA.out (by simp [l30_PermGroup.l0])
                | succ k4 =>
                  have H := HA.out; clear HA; simp only [l30_PermGroup.l0] at H
                  by_cases c87 : x25_4 ≤ 2000
                  · rw [if_pos c87] at H; have c87b0 := decide_eq_true c87; clear c87; have HC88 := aM H; clear H
                    go_upto_region 20 with (fail)
                    go_cut [175] (fun v175 wc => ∃ (kq : Nat) (x175_87 : Bool), v175 = .bool x175_87 ∧ Aside0 (l30_PermGroup.j4 kq l0 t449 t452 x24_4 x25_4 x175_87 = some r) ∧ Aside0 (kq ≤ k4) ∧ Aside0 (Kd.V (Kd.int .i64) 3 wc w.heap.size (fun k_ => ((P0_ k_ ∨ P1_ k_ ∨ P2_ k_) ∨ w.heap.size ≤ k_) ∧ some k_ ≠ (v453 : Value).ownBlock) (.slice A0 l0.length c0) l0) ∧ Aside0 (Kd.R (Kd.int .i64) 3 wc w.heap.size (fun k_ => (w.heap.size ≤ k_)) v453 t452) ∧ Aside0 (Kd.V (Kd.int .i64) 3 wc w.heap.size (fun k_ => ((P0_ k_ ∨ P1_ k_ ∨ P2_ k_) ∨ w.heap.size ≤ k_) ∧ some k_ ≠ (v453 : Value).ownBlock) u24 x24_4) ∧ Aside0 (Below w.heap.size w wc))
                    case first =>
                      have H := HC88.out; clear HC88; replace H := Option.bind_eq_some_iff.mp H; obtain ⟨t457, A890, H⟩ := H; replace H : (if t457 = true then (l30_PermGroup.j4 k4 l0 t449 t452 x24_4 x25_4 true) else (l30_PermGroup.j4 k4 l0 t449 t452 x24_4 x25_4 (x25_4 == t449))) = some r := H; have A89 := aM A890; clear A890
                      by_cases c90 : t457 = true
                      · subst c90; have H1 : (l30_PermGroup.j4 k4 l0 t449 t452 x24_4 x25_4 true) = some r := by rw [if_pos rfl] at H; exact H
                        clear H; have H := H1; clear H1; have H' := aM H; clear H; obtain ⟨Ao91, co91, eo91⟩ := Kd.V_slice HO_24.out; subst eo91; obtain ⟨Ao92, co92, eo92⟩ := Kd.R_slice HO_23.out; subst eo92
                        go_wp2_with (first | ((with_reducible refine gate_callee (f := 15) rfl ?_); refine goesL_ (some 170) rfl rfl Try.func15 (by kernel_rfl) rfl #[.slice Ao91 x24_4.length co91, .slice Ao92 t452.length co92] rfl zz47 ?_; (with_reducible refine (r09_SameInts.calls k4 _ _ x24_4 _ _ t452 true _ ?side1 ?side2 ?side3 ?side4 A89.out).mono ?_); (case side1 => repeat (first | exact (Kd.V_reads' HO_24.out).2.2 | (with_reducible refine Kd.C_alloc ?_ _) | (with_reducible refine Kd.C_drewN ?_ _) | (with_reducible refine Kd.C_drew ?_))); (case side2 => exact (Kd.V_reads' HO_24.out).2.1); (case side3 => repeat (first | exact (Kd.R_reads' HO_23.out).2.2 | (with_reducible refine Kd.C_alloc ?_ _) | (with_reducible refine Kd.C_drewN ?_ _) | (with_reducible refine Kd.C_drew ?_))); (case side4 => exact (Kd.R_reads' HO_23.out).2.1); rintro e w' ⟨rfl, ⟨nd, rfl⟩⟩; refine ⟨_, rfl, ?_⟩))
                        go_meet
                        case rel => exact ⟨_, (true), zz73, H', ⟨zz56⟩, ⟨(zV HO_0)⟩, ⟨(zR HO_23)⟩, ⟨(zV HO_24)⟩, ⟨zz48⟩⟩
                      replace c90 := Bool.eq_false_iff.mpr c90; subst c90; have H1 : (l30_PermGroup.j4 k4 l0 t449 t452 x24_4 x25_4 (x25_4 == t449)) = some r := by rw [if_neg (show ¬ (false = true) by decide)] at H; exact H
                      clear H; have H := H1; clear H1; have H' := aM H; clear H; obtain ⟨Ao93, co93, eo93⟩ := Kd.V_slice HO_24.out; subst eo93; obtain ⟨Ao94, co94, eo94⟩ := Kd.R_slice HO_23.out; subst eo94
                      go_wp2_with (first | ((with_reducible refine gate_callee (f := 15) rfl ?_); refine goesL_ (some 170) rfl rfl Try.func15 (by kernel_rfl) rfl #[.slice Ao93 x24_4.length co93, .slice Ao94 t452.length co94] rfl zz47 ?_; (with_reducible refine (r09_SameInts.calls k4 _ _ x24_4 _ _ t452 false _ ?side1 ?side2 ?side3 ?side4 A89.out).mono ?_); (case side1 => repeat (first | exact (Kd.V_reads' HO_24.out).2.2 | (with_reducible refine Kd.C_alloc ?_ _) | (with_reducible refine Kd.C_drewN ?_ _) | (with_reducible refine Kd.C_drew ?_))); (case side2 => exact (Kd.V_reads' HO_24.out).2.1); (case side3 => repeat (first | exact (Kd.R_reads' HO_23.out).2.2 | (with_reducible refine Kd.C_alloc ?_ _) | (with_reducible refine Kd.C_drewN ?_ _) | (with_reducible refine Kd.C_drew ?_))); (case side4 => exact (Kd.R_reads' HO_23.out).2.1); rintro e w' ⟨rfl, ⟨nd, rfl⟩⟩; refine ⟨_, rfl, ?_⟩))
                      go_meet
                      case rel => exact ⟨_, ((x25_4 == t449)), zz73, H', ⟨zz56⟩, ⟨(zV HO_0)⟩, ⟨(zR HO_23)⟩, ⟨(zV HO_24)⟩, ⟨zz48⟩⟩
                    case rest =>
                      clear HC88; (try clear c1); (try clear c2); (try clear p2); (try clear c4); (try clear c6); (try clear c7); (try clear c7b0); (try clear c7b1); (try clear c8); (try clear c9); (try clear c9b0); (try clear c9b1); (try clear c9b2); (try clear c10); (try clear c10b0); (try clear c10b1); (try clear c10b2); (try clear c12); (try clear c13); (try clear c15); (try clear c18); (try clear c19); (try clear c22); (try clear c26); (try clear c60); (try clear c60b0); (try clear c60b1); (try clear c61); (try clear c61b0); (try clear c61b1); (try clear c62); (try clear c62b0); (try clear c62b1); (try clear c63); (try clear c63b0); (try clear c63b1); (try clear c64); (try clear c64b0); (try clear c64b1); (try clear c65); (try clear c65b0); (try clear c65b1); (try clear c66); (try clear c66b0); (try clear c66b1); (try clear c67); (try clear c67b0); (try clear c67b1); (try clear c69); (try clear c74); (try clear c79); (try clear c86); (try clear c87); (try clear c87b0); (try clear c90); (try clear p2); obtain ⟨kq, x175_87, rfl, HA, HJ87, HO_0, HO_23, HO_24, HB⟩ := hcut
                      cases kq with
                      | zero => exact absurd HA.out (by simp [l30_PermGroup.j4])
                      | succ kj87 =>
                        have H := HA.out; clear HA; simp only [l30_PermGroup.j4] at H
                        by_cases c95 : x175_87 = true
                        · subst c95; have H1 : (if x25_4 = t449 then ((r09_SameInts.f kj87 x24_4 t452).bind fun t458 => (some t458)) else (some false)) = some r := by rw [if_pos rfl] at H; exact H
                          clear H; have H := H1; clear H1
                          by_cases c96 : x25_4 = t449
                          · rw [if_pos c96] at H; have c96b0 := beq_iff_eq.mpr c96; have c96b1 := bne_eq_false_iff_eq.mpr c96; clear c96; replace H := Option.bind_eq_some_iff.mp H; obtain ⟨t458, A970, H⟩ := H; replace H : (some t458) = some r := H; have A97 := aM A970; clear A970; obtain rfl := Option.some.inj H; obtain ⟨Ao98, co98, eo98⟩ := Kd.V_slice HO_24.out; subst eo98; obtain ⟨Ao99, co99, eo99⟩ := Kd.R_slice HO_23.out; subst eo99
                            go_wp2_with (first | (go_at_call 15; (with_reducible refine (r09_SameInts.calls kj87 _ _ x24_4 _ _ t452 t458 _ ?side1 ?side2 ?side3 ?side4 A97.out).mono ?_); (case side1 => repeat (first | exact (Kd.V_reads' HO_24.out).2.2 | (with_reducible refine Kd.C_alloc ?_ _) | (with_reducible refine Kd.C_drewN ?_ _) | (with_reducible refine Kd.C_drew ?_))); (case side2 => exact (Kd.V_reads' HO_24.out).2.1); (case side3 => repeat (first | exact (Kd.R_reads' HO_23.out).2.2 | (with_reducible refine Kd.C_alloc ?_ _) | (with_reducible refine Kd.C_drewN ?_ _) | (with_reducible refine Kd.C_drew ?_))); (case side4 => exact (Kd.R_reads' HO_23.out).2.1); rintro e w' ⟨rfl, ⟨nd, rfl⟩⟩))
                            go_ret
                            exact ⟨by first | rfl | (simp [errW_none, errW_some] <;> rfl) | (simp [*, errW_none, errW_some] <;> rfl), by repeat (first | (with_reducible first | exact HB.out | apply below_alloc | apply pw_below_drewN | apply below_drew1) | exact HB.out)⟩
                          rw [if_neg c96] at H; have c96b0 := beq_eq_false_iff_ne.mpr c96; have c96b1 := bne_iff_ne.mpr c96
                          exact absurd (Option.some.inj (H.trans (congrArg some HR_.out))) (by decide)
                        replace c95 := Bool.eq_false_iff.mpr c95; subst c95; have H1 : ((perm_Compose.f kj87 (([x24_4, l0] : List (List Int)))).bind fun bt462 => (if bt462.2 = 0 then (l30_PermGroup.l0 kj87 l0 t449 t452 bt462.1 (wrap64 (x25_4 + 1))) else (some false))) = some r := by rw [if_neg (show ¬ (false = true) by decide)] at H; exact H
                        clear H; have H := H1; clear H1; obtain ⟨y459, hy459⟩ : ∃ y_ : List (List Int), y_ = (([x24_4, l0] : List (List Int))) := ⟨_, rfl⟩; replace H : ((perm_Compose.f kj87 y459).bind fun bt462 => (if bt462.2 = 0 then (l30_PermGroup.l0 kj87 l0 t449 t452 bt462.1 (wrap64 (x25_4 + 1))) else (some false))) = some r := by first | (rw [hy459]; with_reducible exact H) | (have H2_ := (Option.bind_some _ _).symm.trans H; rw [hy459]; with_reducible exact H2_) | (have H2_ := (Option.bind_some _ _).symm.trans H; with_reducible exact H2_) | with_reducible exact H | (rw [hy459]; exact H) | exact H
                        have Ny459 := aM hy459; clear hy459; replace H := Option.bind_eq_some_iff.mp H; obtain ⟨⟨t462, t465⟩, A1000, H⟩ := H; replace H : (if t465 = 0 then (l30_PermGroup.l0 kj87 l0 t449 t452 t462 (wrap64 (x25_4 + 1))) else (some false)) = some r := H; have A100 := aM A1000; clear A1000
                        by_cases c101 : t465 = 0
                        · rw [if_pos c101] at H; have c101b0 := beq_iff_eq.mpr c101; have c101b1 := bne_eq_false_iff_eq.mpr c101; clear c101; have H' := aM H; clear H; obtain ⟨Ao102, co102, eo102⟩ := Kd.V_slice HO_24.out; subst eo102
                          go_wp2_with (first | ((with_reducible refine gate_dst (N := 187) rfl ?_); (try (refine gate_guard (by rfl) ?_; dsimp only)); refine Kd.N_lit (Kd.slice 3 (Kd.int .i64)) _ 22 ?hg (N' := 187) ?hd (xs := ([x24_4, l0] : List (List Int))) (inner := [.slice Ao102 x24_4.length co102, .slice A0 l0.length c0]) (ok := (fun k_ => ((P0_ k_ ∨ P1_ k_ ∨ P2_ k_) ∨ w.heap.size ≤ k_) ∧ some k_ ≠ (v453 : Value).ownBlock)) (okp := (fun k_ => ((P0_ k_ ∨ P1_ k_ ∨ P2_ k_) ∨ w.heap.size ≤ k_) ∧ some k_ ≠ (v453 : Value).ownBlock)) ?hr ?hp (fun _ hk => hk) ((show ∀ k_, wc.heap.size ≤ k_ → (fun k_ => ((P0_ k_ ∨ P1_ k_ ∨ P2_ k_) ∨ w.heap.size ≤ k_) ∧ some k_ ≠ (v453 : Value).ownBlock) k_ from fun k_ hk => ⟨(.inr (Nat.le_trans (below_size zz48) hk)), Kd.fresh' (Kd.R_lt (zR HO_23)) k_ hk⟩) _ (Nat.le_refl _)) (Below.refl _ _) (Nat.le_refl _) (by simp) ?_; (case hd => rfl); (case hg => rfl); (case hr => first | (go_simp; done) | (go_simp; rfl)); (case hp => exact (Reps.one (show Kd.FK (Kd.slice 3 (Kd.int .i64)) _ _ x24_4 [.slice Ao102 x24_4.length co102] from (Kd.FK_slice_mk (Kd.V_reads' (Kd.V_mono (ok' := (fun k_ => ((P0_ k_ ∨ P1_ k_ ∨ P2_ k_) ∨ w.heap.size ≤ k_) ∧ some k_ ≠ (v453 : Value).ownBlock)) (HO_24.out) (fun k_ hk => by first | exact ⟨hk.1, hk.2⟩ | ((repeat' apply And.intro) <;> (first | exact hk | exact hk.1 | exact hk.2 | exact hk.1.1 | exact hk.1.2 | exact hk.2.1 | exact hk.2.2 | exact hk.1.1.1 | exact hk.1.1.2 | exact hk.1.2.1 | exact hk.1.2.2 | exact hk.2.1.1 | exact hk.2.1.2 | exact hk.2.2.1 | exact hk.2.2.2 | exact hk.1.1.1.1 | exact hk.1.1.1.2 | exact hk.2.2.2.1 | exact hk.2.2.2.2))))).2.1 (Kd.V_F (Kd.V_mono (ok' := (fun k_ => ((P0_ k_ ∨ P1_ k_ ∨ P2_ k_) ∨ w.heap.size ≤ k_) ∧ some k_ ≠ (v453 : Value).ownBlock)) (HO_24.out) (fun k_ hk => by first | exact ⟨hk.1, hk.2⟩ | ((repeat' apply And.intro) <;> (first | exact hk | exact hk.1 | exact hk.2 | exact hk.1.1 | exact hk.1.2 | exact hk.2.1 | exact hk.2.2 | exact hk.1.1.1 | exact hk.1.1.2 | exact hk.1.2.1 | exact hk.1.2.2 | exact hk.2.1.1 | exact hk.2.1.2 | exact hk.2.2.1 | exact hk.2.2.2 | exact hk.1.1.1.1 | exact hk.1.1.1.2 | exact hk.2.2.2.1 | exact hk.2.2.2.2))))))) (Reps.one (show Kd.FK (Kd.slice 3 (Kd.int .i64)) _ _ l0 [.slice A0 l0.length c0] from (Kd.FK_slice_mk (Kd.V_reads' (Kd.V_mono (ok' := (fun k_ => ((P0_ k_ ∨ P1_ k_ ∨ P2_ k_) ∨ w.heap.size ≤ k_) ∧ some k_ ≠ (v453 : Value).ownBlock)) (HO_0.out) (fun k_ hk => by first | exact ⟨hk.1, hk.2⟩ | ((repeat' apply And.intro) <;> (first | exact hk | exact hk.1 | exact hk.2 | exact hk.1.1 | exact hk.1.2 | exact hk.2.1 | exact hk.2.2 | exact hk.1.1.1 | exact hk.1.1.2 | exact hk.1.2.1 | exact hk.1.2.2 | exact hk.2.1.1 | exact hk.2.1.2 | exact hk.2.2.1 | exact hk.2.2.2 | exact hk.1.1.1.1 | exact hk.1.1.1.2 | exact hk.2.2.2.1 | exact hk.2.2.2.2))))).2.1 (Kd.V_F (Kd.V_mono (ok' := (fun k_ => ((P0_ k_ ∨ P1_ k_ ∨ P2_ k_) ∨ w.heap.size ≤ k_) ∧ some k_ ≠ (v453 : Value).ownBlock)) (HO_0.out) (fun k_ hk => by first | exact ⟨hk.1, hk.2⟩ | ((repeat' apply And.intro) <;> (first | exact hk | exact hk.1 | exact hk.2 | exact hk.1.1 | exact hk.1.2 | exact hk.2.1 | exact hk.2.2 | exact hk.1.1.1 | exact hk.1.1.2 | exact hk.1.2.1 | exact hk.1.2.2 | exact hk.2.1.1 | exact hk.2.1.2 | exact hk.2.2.1 | exact hk.2.2.2 | exact hk.1.1.1.1 | exact hk.1.1.1.2 | exact hk.2.2.2.1 | exact hk.2.2.2.2))))))) (Reps.none _ _)))); intro v460 w103 ho104 hb hg_ hnew_; clear hg_ hnew_; (first | rw [← Ny459.out] at ho104 | (simp only [Int.reduceToNat] at ho104; rw [← Ny459.out] at ho104)); replace HO_0 := aM (Kd.V_elder' (zV HO_0) (Kd.N_base ho104) hb); replace HO_23 := aM (Kd.R_below (zR HO_23) hb); replace HO_24 := aM (Kd.V_elder' (zV HO_24) (Kd.N_base ho104) hb); have HO461 := aM (Kd.N_lower ho104 (below_size zz48)); replace HB := aM (below_step zz48 hb); clear hb ho104; obtain ⟨Ao105, co105, eo105⟩ := Kd.N_slice HO461.out; subst eo105) | ((with_reducible refine gate_callee (f := 13) rfl ?_); refine goesL_ (some 188) rfl rfl Try.func13 (by kernel_rfl) rfl #[.slice Ao105 y459.length co105] rfl zz47 ?_; (with_reducible refine (perm_Compose.callsV kj87 _ _ y459 t462 t465 _ ?side1 ?side2 A100.out).mono ?_); (case side1 => repeat (first | exact (Kd.N_reads' HO461.out).2.2 | (with_reducible refine Kd.C_alloc ?_ _) | (with_reducible refine Kd.C_drewN ?_ _) | (with_reducible refine Kd.C_drew ?_))); (case side2 => exact (Kd.N_reads' HO461.out).2.1); rintro e w106 ⟨v463, rfl, ho0, hb⟩; refine ⟨_, rfl, ?_⟩; replace HO_0 := aM (Kd.V_below (zV HO_0) hb); replace HO_24 := aM (Kd.V_below (zV HO_24) hb); have HO464 := aM (Kd.V_lower (Kd.V_mono (ok' := fun k_ => ((P0_ k_ ∨ P1_ k_ ∨ P2_ k_) ∨ w.heap.size ≤ k_) ∧ some k_ ≠ (v453 : Value).ownBlock ∧ some k_ ≠ (.slice Ao105 y459.length co105 : Value).ownBlock) ho0 (fun k_ hk_ => ⟨(.inr (Nat.le_trans (below_size zz48) hk_)), (Kd.fresh' (Kd.R_lt (zR HO_23)) k_ hk_), (Kd.fresh' (Kd.N_lt (zN HO461)) k_ hk_)⟩)) (below_size zz48)); replace HO_23 := aM (Kd.R_below (zR HO_23) hb); replace HO461 := aM (Kd.N_below (zN HO461) hb); replace HB := aM (below_step zz48 hb); (try clear hb); (try clear hb2); (try clear hk); (try clear hi); (try clear ho0)))
                          go_roundg kj87
                          case measure => have := HJ3.out; have := HJ29.out; have := HJ75.out; have := HK4.out; have := HJ87.out; omega
                          case rel => exact ⟨(t462), (wrap64 (x25_4 + 1)), zz73, H', ⟨(by have := HJ3.out; have := HJ29.out; have := HJ75.out; have := HK4.out; have := HJ87.out; omega)⟩, ⟨(by (with_reducible repeat (first | apply Kd.V_alloc | apply Kd.V_drewN | apply Kd.V_drew)); exact Kd.V_mono HO_0.out (fun _ hk => by first | exact ⟨hk.1.1, hk.1.2⟩ | ((repeat' apply And.intro) <;> (first | exact hk | exact hk.1 | exact hk.2 | exact hk.1.1 | exact hk.1.2 | exact hk.2.1 | exact hk.2.2 | exact hk.1.1.1 | exact hk.1.1.2 | exact hk.1.2.1 | exact hk.1.2.2 | exact hk.2.1.1 | exact hk.2.1.2 | exact hk.2.2.1 | exact hk.2.2.2 | exact hk.1.1.1.1 | exact hk.1.1.1.2 | exact hk.2.2.2.1 | exact hk.2.2.2.2))))⟩, ⟨(zR HO_23)⟩, ⟨(by (with_reducible repeat (first | apply Kd.V_alloc | apply Kd.V_drewN | apply Kd.V_drew)); exact Kd.V_mono HO464.out (fun _ hk => by first | exact ⟨hk.1, hk.2.1⟩ | ((repeat' apply And.intro) <;> (first | exact hk | exact hk.1 | exact hk.2 | exact hk.1.1 | exact hk.1.2 | exact hk.2.1 | exact hk.2.2 | exact hk.1.1.1 | exact hk.1.1.2 | exact hk.1.2.1 | exact hk.1.2.2 | exact hk.2.1.1 | exact hk.2.1.2 | exact hk.2.2.1 | exact hk.2.2.2 | exact hk.1.1.1.1 | exact hk.1.1.1.2 | exact hk.2.2.2.1 | exact hk.2.2.2.2))))⟩, ⟨zz48⟩⟩
                        rw [if_neg c101] at H; have c101b0 := beq_eq_false_iff_ne.mpr c101; have c101b1 := bne_iff_ne.mpr c101
                        exact absurd (Option.some.inj (H.trans (congrArg some HR_.out))) (by decide)
                  rw [if_neg c87] at H; have c87b0 := decide_eq_false c87; clear c87; obtain rfl := Option.some.inj H; go_wp2; go_ret
                  exact ⟨by first | rfl | (simp [errW_none, errW_some] <;> rfl) | (simp [*, errW_none, errW_some] <;> rfl), by repeat (first | (with_reducible first | exact HB.out | apply below_alloc | apply pw_below_drewN | apply below_drew1) | exact HB.out)⟩
end
end Go.Proofs.Ytjjlhbgpdncpcaa.P
section
set_option linter.unusedVariables false
set_option linter.unusedSimpArgs false
namespace Go.Proofs.Ytjjlhbgpdncpcaa.P.M
def ap (l : List Int) (i : Int) : Int := l.getD i.toNat 0
def Pm (n : Nat) (l : List Int) : Prop := l.length = n ∧ (∀ x ∈ l, 0 ≤ x ∧ x < (n : Int)) ∧ l.Nodup
def mulL (p q : List Int) : List Int := p.map (fun x => ap q x)
def idL (n : Nat) : List Int := (List.range n).map (fun (i : Nat) => (i : Int))
def invL (p : List Int) : List Int := (List.range p.length).map (fun (i : Nat) => ((p.idxOf (i : Int) : Nat) : Int))
theorem ap_nat (l : List Int) (i : Nat) : ap l (i : Int) = l.getD i 0 := by simp [ap]
theorem ap_mem {l : List Int} {i : Int} (h0 : 0 ≤ i) (h1 : i < (l.length : Int)) : ap l i ∈ l := by
  have h : i.toNat < l.length := by omega
  simp only [ap, List.getD_eq_getElem?_getD, List.getElem?_eq_getElem h, Option.getD_some]
  exact List.getElem_mem h
theorem ap_map (f : Int → Int) (l : List Int) {i : Int} (h0 : 0 ≤ i) (h1 : i < (l.length : Int)) : ap (l.map f) i = f (ap l i) := by
  have h : i.toNat < l.length := by omega
  simp [ap, List.getD_eq_getElem?_getD, List.getElem?_eq_getElem h]
theorem ap_range (n : Nat) (f : Nat → Int) {i : Int} (h0 : 0 ≤ i) (h1 : i < (n : Int)) : ap ((List.range n).map f) i = f i.toNat := by
  have h : i.toNat < n := by omega
  simp [ap, List.getD_eq_getElem?_getD, h]
theorem ap_ext {n : Nat} {p q : List Int} (hp : p.length = n) (hq : q.length = n) (h : ∀ i : Int, 0 ≤ i → i < n → ap p i = ap q i) : p = q := by
  apply List.ext_getElem (by omega)
  intro i h1 h2
  have := h i (by omega) (by omega)
  rw [ap_nat, ap_nat] at this
  simpa [List.getD_eq_getElem?_getD, h1, h2] using this
theorem Pm.rng {n : Nat} {p : List Int} (h : Pm n p) {i : Int} (h0 : 0 ≤ i) (h1 : i < n) : 0 ≤ ap p i ∧ ap p i < n := h.2.1 _ (ap_mem h0 (by rw [h.1]; exact h1))
theorem Pm.inj {n : Nat} {p : List Int} (h : Pm n p) {i j : Int} (h0 : 0 ≤ i) (h1 : i < n) (k0 : 0 ≤ j) (k1 : j < n) (e : ap p i = ap p j) : i = j := by
  have hi : i.toNat < p.length := by have := h.1; omega
  have hj : j.toNat < p.length := by have := h.1; omega
  simp only [ap, List.getD_eq_getElem?_getD, List.getElem?_eq_getElem hi, List.getElem?_eq_getElem hj, Option.getD_some] at e
  have := (List.getElem_inj h.2.2).1 e
  omega
theorem sub_len : ∀ {l1 l2 : List Int}, l1.Nodup → (∀ x ∈ l1, x ∈ l2) → l1.length ≤ l2.length
  | [], _, _, _ => by simp
  | a :: l1, l2, h, hs => by
    rw [List.nodup_cons] at h; have ha : a ∈ l2 := hs a (by simp); have := sub_len (l1 := l1) (l2 := l2.erase a) h.2 (fun x hx => (List.mem_erase_of_ne (fun e => h.1 (by rw [← e]; exact hx))).2 (hs x (by simp [hx]))); rw [List.length_erase_of_mem ha] at this; have := List.length_pos_of_mem ha; simp only [List.length_cons]; omega
theorem sub_back : ∀ {l1 l2 : List Int}, l1.Nodup → (∀ x ∈ l1, x ∈ l2) → l2.length ≤ l1.length → ∀ x ∈ l2, x ∈ l1
  | [], l2, _, _, hl, x, hx => by have := List.length_pos_of_mem hx; simp only [List.length_nil] at hl; omega
  | a :: l1, l2, h, hs, hl, x, hx => by
    rw [List.nodup_cons] at h; have ha : a ∈ l2 := hs a (by simp)
    by_cases e : x = a
    · simp [e]
    · refine List.mem_cons_of_mem _ (sub_back (l1 := l1) (l2 := l2.erase a) h.2 (fun y hy => (List.mem_erase_of_ne (fun e => h.1 (by rw [← e]; exact hy))).2 (hs y (by simp [hy]))) ?_ x ((List.mem_erase_of_ne e).2 hx)); rw [List.length_erase_of_mem ha]; simp only [List.length_cons] at hl; omega
theorem mem_idL {n : Nat} {x : Int} : x ∈ idL n ↔ 0 ≤ x ∧ x < n := by
  simp only [idL, List.mem_map, List.mem_range]
  constructor
  · rintro ⟨i, hi, rfl⟩; omega
  · intro h; exact ⟨x.toNat, by omega, by omega⟩
theorem idL_len (n : Nat) : (idL n).length = n := by simp [idL]
theorem map_nodup {α β : Type} {f : α → β} {l : List α} (h : l.Nodup) (hf : ∀ x ∈ l, ∀ y ∈ l, f x = f y → x = y) : (l.map f).Nodup := by
  rw [List.Nodup, List.pairwise_map]
  refine List.Pairwise.imp_of_mem ?_ h
  intro a b ha hb hab e
  exact hab (hf a ha b hb e)
theorem Pm_id (n : Nat) : Pm n (idL n) := by
  refine ⟨idL_len n, fun x hx => mem_idL.1 hx, ?_⟩
  exact map_nodup List.nodup_range (fun x _ y _ e => by omega)
theorem ap_id {n : Nat} {i : Int} (h0 : 0 ≤ i) (h1 : i < n) : ap (idL n) i = i := by rw [idL, ap_range n _ h0 h1]; omega
theorem Pm.surj {n : Nat} {p : List Int} (h : Pm n p) {y : Int} (h0 : 0 ≤ y) (h1 : y < n) : y ∈ p :=
  sub_back h.2.2 (fun x hx => mem_idL.2 (h.2.1 x hx)) (by rw [idL_len, h.1]; exact Nat.le_refl _) y (mem_idL.2 ⟨h0, h1⟩)
theorem Pm.idx {n : Nat} {p : List Int} (h : Pm n p) {y : Int} (h0 : 0 ≤ y) (h1 : y < n) : p.idxOf y < n ∧ ap p (p.idxOf y : Nat) = y := by
  have hy := h.surj h0 h1
  have hl := List.idxOf_lt_length_of_mem hy
  refine ⟨h.1 ▸ hl, ?_⟩
  rw [ap_nat, List.getD_eq_getElem?_getD, List.getElem?_eq_getElem hl, Option.getD_some]
  exact List.getElem_idxOf hl
theorem mul_len (p q : List Int) : (mulL p q).length = p.length := by simp [mulL]
theorem ap_mul {p q : List Int} {i : Int} (h0 : 0 ≤ i) (h1 : i < (p.length : Int)) : ap (mulL p q) i = ap q (ap p i) := by rw [mulL, ap_map _ _ h0 h1]
theorem Pm.ap_mul {n : Nat} {p q : List Int} (h : Pm n p) {i : Int} (h0 : 0 ≤ i) (h1 : i < n) : ap (mulL p q) i = ap q (ap p i) := M.ap_mul h0 (by rw [h.1]; exact h1)
theorem Pm.mul {n : Nat} {p q : List Int} (hp : Pm n p) (hq : Pm n q) : Pm n (mulL p q) := by
  refine ⟨by rw [mul_len, hp.1], ?_, ?_⟩
  · intro x hx
    rw [mulL, List.mem_map] at hx; obtain ⟨y, hy, rfl⟩ := hx
    exact hq.rng (hp.2.1 y hy).1 (hp.2.1 y hy).2
  · exact map_nodup hp.2.2 (fun x hx y hy e => hq.inj (hp.2.1 x hx).1 (hp.2.1 x hx).2 (hp.2.1 y hy).1 (hp.2.1 y hy).2 e)
theorem mul_assoc {n : Nat} {p q r : List Int} (hp : Pm n p) (hq : Pm n q) (hr : Pm n r) : mulL (mulL p q) r = mulL p (mulL q r) := by
  refine ap_ext ((hp.mul hq).mul hr).1 (hp.mul (hq.mul hr)).1 (fun i h0 h1 => ?_)
  have := hp.rng h0 h1
  rw [(hp.mul hq).ap_mul h0 h1, hp.ap_mul h0 h1, hp.ap_mul h0 h1, hq.ap_mul this.1 this.2]
theorem mul_id {n : Nat} {p : List Int} (hp : Pm n p) : mulL p (idL n) = p := by
  refine ap_ext (hp.mul (Pm_id n)).1 hp.1 (fun i h0 h1 => ?_)
  have := hp.rng h0 h1
  rw [hp.ap_mul h0 h1, ap_id this.1 this.2]
theorem id_mul {n : Nat} {p : List Int} (hp : Pm n p) : mulL (idL n) p = p := by
  refine ap_ext ((Pm_id n).mul hp).1 hp.1 (fun i h0 h1 => ?_)
  rw [(Pm_id n).ap_mul h0 h1, ap_id h0 h1]
theorem inv_len (p : List Int) : (invL p).length = p.length := by simp [invL]
theorem Pm.ap_inv {n : Nat} {p : List Int} (hp : Pm n p) {i : Int} (h0 : 0 ≤ i) (h1 : i < n) : ap (invL p) i = (p.idxOf i : Nat) := by
  rw [invL, hp.1, ap_range n _ h0 h1]
  rw [show ((i.toNat : Nat) : Int) = i by omega]
theorem Pm.inv {n : Nat} {p : List Int} (hp : Pm n p) : Pm n (invL p) := by
  refine ⟨by rw [inv_len, hp.1], ?_, ?_⟩
  · intro x hx
    rw [invL, hp.1, List.mem_map] at hx; obtain ⟨i, hi, rfl⟩ := hx; rw [List.mem_range] at hi; have := hp.idx (y := i) (by omega) (by omega); omega
  · rw [invL, hp.1]
    refine map_nodup List.nodup_range (fun x hx y hy e => ?_); rw [List.mem_range] at hx hy; have h1 := hp.idx (y := x) (by omega) (by omega); have h2 := hp.idx (y := y) (by omega) (by omega); rw [e] at h1; have := h1.2.symm.trans h2.2; omega
theorem inv_mul {n : Nat} {p : List Int} (hp : Pm n p) : mulL (invL p) p = idL n := by
  refine ap_ext (hp.inv.mul hp).1 (Pm_id n).1 (fun i h0 h1 => ?_)
  rw [hp.inv.ap_mul h0 h1, hp.ap_inv h0 h1, (hp.idx h0 h1).2, ap_id h0 h1]
theorem mul_inv {n : Nat} {p : List Int} (hp : Pm n p) : mulL p (invL p) = idL n := by
  refine ap_ext (hp.mul hp.inv).1 (Pm_id n).1 (fun i h0 h1 => ?_)
  have hr := hp.rng h0 h1
  rw [hp.ap_mul h0 h1, hp.ap_inv hr.1 hr.2, ap_id h0 h1]
  have h2 := hp.idx hr.1 hr.2
  exact hp.inj (by omega) (by omega) h0 h1 h2.2
theorem mul_cancel_inv {n : Nat} {p r : List Int} (hp : Pm n p) (hr : Pm n r) : mulL (mulL p r) (invL r) = p := by rw [mul_assoc hp hr hr.inv, mul_inv hr, mul_id hp]
theorem inv_unique {n : Nat} {p q : List Int} (hp : Pm n p) (hq : Pm n q) (e : mulL q p = idL n) : q = invL p := by
  have := congrArg (fun x => mulL x (invL p)) e
  simp only [mul_cancel_inv hq hp, id_mul hp.inv] at this
  exact this
def powL (n : Nat) (p : List Int) : Nat → List Int
  | 0 => idL n
  | k + 1 => mulL (powL n p k) p
theorem Pm.pow {n : Nat} {p : List Int} (hp : Pm n p) : ∀ k, Pm n (powL n p k)
  | 0 => Pm_id n
  | k + 1 => (hp.pow k).mul hp
theorem pow_add {n : Nat} {p : List Int} (hp : Pm n p) (a : Nat) : ∀ b, powL n p (a + b) = mulL (powL n p a) (powL n p b)
  | 0 => (mul_id (hp.pow a)).symm
  | b + 1 => by
    show mulL (powL n p (a + b)) p = mulL (powL n p a) (mulL (powL n p b) p)
    rw [pow_add hp a b, mul_assoc (hp.pow a) (hp.pow b) hp]
theorem pow_fix {n : Nat} {p : List Int} (hp : Pm n p) {d : Nat} {i : Int} (h0 : 0 ≤ i) (h1 : i < n) (e : ap (powL n p d) i = i) : ∀ k, ap (powL n p (d * k)) i = i
  | 0 => ap_id h0 h1
  | k + 1 => by rw [Nat.mul_succ, pow_add hp, (hp.pow _).ap_mul h0 h1, pow_fix hp h0 h1 e k, e]
theorem pow_back {n : Nat} {p : List Int} (hp : Pm n p) {i : Int} (h0 : 0 ≤ i) (h1 : i < n) : ∃ d, 1 ≤ d ∧ d ≤ n ∧ ap (powL n p d) i = i := by
  have hn : ¬ ((List.range (n + 1)).map (fun k => ap (powL n p k) i)).Nodup := by
    intro h
    have := sub_len (l2 := idL n) h (fun x hx => by
      rw [List.mem_map] at hx; obtain ⟨k, _, rfl⟩ := hx
      exact mem_idL.2 ((hp.pow k).rng h0 h1))
    simp only [idL_len, List.length_map, List.length_range] at this; omega
  have : ∃ a b, a < b ∧ b ≤ n ∧ ap (powL n p a) i = ap (powL n p b) i := by
    apply Classical.byContradiction; intro hc
    apply hn
    apply map_nodup List.nodup_range; intro x hx y hy e; rw [List.mem_range] at hx hy
    rcases Nat.lt_trichotomy x y with h | h | h
    · exact absurd ⟨x, y, h, by omega, e⟩ hc
    · exact h
    · exact absurd ⟨y, x, h, by omega, e.symm⟩ hc
  obtain ⟨a, b, hab, hb, e⟩ := this
  refine ⟨b - a, by omega, by omega, ?_⟩
  rw [show b = (b - a) + a by omega, pow_add hp, (hp.pow _).ap_mul h0 h1] at e
  have hr := (hp.pow (b - a)).rng h0 h1
  exact ((hp.pow a).inj h0 h1 hr.1 hr.2 e).symm
def fac : Nat → Nat
  | 0 => 1
  | k + 1 => (k + 1) * fac k
theorem fac_pos : ∀ k, 1 ≤ fac k
  | 0 => Nat.le_refl _
  | k + 1 => Nat.mul_pos (Nat.succ_pos k) (fac_pos k)
theorem dvd_fac : ∀ {d n : Nat}, 1 ≤ d → d ≤ n → d ∣ fac n
  | d, 0, h, k => by omega
  | d, n + 1, h, k => by
    by_cases e : d = n + 1
    · subst e; exact Nat.dvd_mul_right (n + 1) (fac n)
    · exact Nat.dvd_trans (dvd_fac h (by omega)) (Nat.dvd_mul_left _ _)
theorem pow_fac {n : Nat} {p : List Int} (hp : Pm n p) : powL n p (fac n) = idL n := by
  refine ap_ext (hp.pow _).1 (Pm_id n).1 (fun i h0 h1 => ?_)
  obtain ⟨d, hd, hd', e⟩ := pow_back hp h0 h1
  obtain ⟨k, hk⟩ := dvd_fac hd hd'
  rw [hk, pow_fix hp h0 h1 e, ap_id h0 h1]
theorem inv_pow {n : Nat} {p : List Int} (hp : Pm n p) : powL n p (fac n - 1) = invL p := by
  refine inv_unique hp (hp.pow _) ?_
  have h := fac_pos n
  rw [← pow_fac hp]
  conv => rhs; rw [show fac n = (fac n - 1) + 1 by omega]
  rfl
inductive Cl (n : Nat) (S : List Int → Prop) : List Int → Prop
  | one : Cl n S (idL n)
  | mul {p g : List Int} : Cl n S p → S g → Cl n S (mulL p g)
theorem Cl.pm {n : Nat} {S : List Int → Prop} (hS : ∀ g, S g → Pm n g) {p : List Int} (h : Cl n S p) : Pm n p := by
  induction h with
  | one => exact Pm_id n
  | mul _ hg ih => exact ih.mul (hS _ hg)
theorem Cl.gen {n : Nat} {S : List Int → Prop} (hS : ∀ g, S g → Pm n g) {g : List Int} (h : S g) : Cl n S g := by
  have := Cl.mul (Cl.one (n := n) (S := S)) h
  rwa [id_mul (hS g h)] at this
theorem Cl.mul' {n : Nat} {S : List Int → Prop} (hS : ∀ g, S g → Pm n g) {p q : List Int} (hp : Cl n S p) (hq : Cl n S q) : Cl n S (mulL p q) := by
  induction hq with
  | one => rw [mul_id (hp.pm hS)]; exact hp
  | mul hq hg ih => rw [← mul_assoc (hp.pm hS) (hq.pm hS) (hS _ hg)]; exact ih.mul hg
theorem Cl.pow {n : Nat} {S : List Int → Prop} (hS : ∀ g, S g → Pm n g) {p : List Int} (hp : Cl n S p) : ∀ k, Cl n S (powL n p k)
  | 0 => .one
  | k + 1 => Cl.mul' hS (Cl.pow hS hp k) hp
theorem Cl.inv {n : Nat} {S : List Int → Prop} (hS : ∀ g, S g → Pm n g) {p : List Int} (hp : Cl n S p) : Cl n S (invL p) := by
  rw [← inv_pow (hp.pm hS)]; exact hp.pow hS _
end Go.Proofs.Ytjjlhbgpdncpcaa.P.M
end
section
set_option linter.unusedVariables false
set_option linter.unusedSimpArgs false
namespace Go.Proofs.Ytjjlhbgpdncpcaa.P.M
def Fx (b : Int) (p : List Int) : Prop := ∀ i : Int, 0 ≤ i → i < b → ap p i = i
theorem Fx.id (n : Nat) {b : Int} (hb : b ≤ n) : Fx b (idL n) := fun i h0 h1 => ap_id h0 (by omega)
theorem Fx.mul {n : Nat} {b : Int} {p q : List Int} (hp : Pm n p) (hq : Pm n q) (hb : b ≤ n) (h : Fx b p) (k : Fx b q) : Fx b (mulL p q) :=
  fun i h0 h1 => by rw [hp.ap_mul h0 (by omega), h i h0 h1, k i h0 h1]
theorem Fx.inv {n : Nat} {b : Int} {p : List Int} (hp : Pm n p) (hb : b ≤ n) (h : Fx b p) : Fx b (invL p) := fun i h0 h1 => by
  have e : ap (mulL (invL p) p) i = i := by rw [inv_mul hp, ap_id h0 (by omega)]
  rw [hp.inv.ap_mul h0 (by omega)] at e
  have hr := hp.inv.rng h0 (show i < n by omega)
  exact hp.inj hr.1 hr.2 h0 (by omega) (e.trans (h i h0 h1).symm)
theorem Fx.all {n : Nat} {p : List Int} (hp : Pm n p) (h : Fx n p) : p = idL n :=
  ap_ext hp.1 (idL_len n) (fun i h0 h1 => by rw [h i h0 h1, ap_id h0 h1])
def Sf (n : Nat) (rep : Int → Int → List Int) : Nat → Int → List Int → Prop
  | 0, _, p => p = idL n
  | m + 1, b, p => rep b (ap p b) ≠ [] ∧ Sf n rep m (b + 1) (mulL p (invL (rep b (ap p b))))
structure Wf (T : Tw) : Prop where
  n1 : 1 ≤ T.n
  n64 : T.n ≤ 64
  lr : T.reps.length = T.n
  lrr : ∀ b : Int, 0 ≤ b → b < T.n → (T.row b).length = T.n
  lg : T.gens.length = T.n
  one : ∀ b : Int, 0 ≤ b → b < T.n → T.rep b b = idL T.n
  rep : ∀ b x : Int, 0 ≤ b → b < T.n → 0 ≤ x → x < T.n → T.rep b x ≠ [] → Pm T.n (T.rep b x) ∧ Fx b (T.rep b x) ∧ ap (T.rep b x) b = x
  gen : ∀ b : Int, 0 ≤ b → b < T.n → ∀ g ∈ T.gen b, Pm T.n g ∧ Fx b g
def Ext (T T' : Tw) : Prop := T'.n = T.n ∧ ∀ b x : Int, 0 ≤ b → b < T.n → 0 ≤ x → x < T.n → T.rep b x ≠ [] → T'.rep b x = T.rep b x
theorem Ext.refl (T : Tw) : Ext T T := ⟨rfl, fun _ _ _ _ _ _ _ => rfl⟩
theorem Ext.trans {T T' T'' : Tw} (h : Ext T T') (k : Ext T' T'') : Ext T T'' := by
  refine ⟨k.1.trans h.1, fun b x h0 h1 h2 h3 hr => ?_⟩
  have e := h.2 b x h0 h1 h2 h3 hr
  rw [← e]
  exact k.2 b x h0 (by rw [h.1]; exact h1) h2 (by rw [h.1]; exact h3) (by rw [e]; exact hr)
theorem Sf.ext {T T' : Tw} (hw : Wf T) (h : Ext T T') : ∀ (m : Nat) (b : Int) (p : List Int), 0 ≤ b → b + m = T.n → Pm T.n p → Sf T.n T.rep m b p → Sf T'.n T'.rep m b p
  | 0, b, p, h0, hb, hp, hs => by rw [Sf] at hs ⊢; rw [h.1]; exact hs
  | m + 1, b, p, h0, hb, hp, hs => by
    obtain ⟨h1, h2⟩ := hs; have hx := hp.rng h0 (show b < T.n by omega); have e := h.2 b _ h0 (by omega) hx.1 hx.2 h1
    refine ⟨by rw [e]; exact h1, ?_⟩; rw [e]
    exact Sf.ext hw h m (b + 1) _ (by omega) (by omega) (hp.mul (hw.rep b _ h0 (by omega) hx.1 hx.2 h1).1.inv) h2
theorem Sf.same {T T' : Tw} (hw' : Wf T') (h : Ext T T') (b0 : Int) (hn : ∀ b x : Int, b0 ≤ b → b < T.n → 0 ≤ x → x < T.n → T.rep b x = [] → T'.rep b x = []) : ∀ (m : Nat) (b : Int) (p : List Int), 0 ≤ b → b0 ≤ b → b + m = T.n → Pm T.n p → Sf T'.n T'.rep m b p → Sf T.n T.rep m b p
  | 0, b, p, h0, hb0, hb, hp, hs => by rw [Sf] at hs ⊢; rw [← h.1]; exact hs
  | m + 1, b, p, h0, hb0, hb, hp, hs => by
    obtain ⟨h1, h2⟩ := hs; have hx := hp.rng h0 (show b < T.n by omega); have h1' : T.rep b (ap p b) ≠ [] := fun e => h1 (hn b _ hb0 (by omega) hx.1 hx.2 e)
    have e := h.2 b _ h0 (by omega) hx.1 hx.2 h1'; rw [e] at h2; have hr := hw'.rep b _ h0 (by rw [h.1]; omega) hx.1 (by rw [h.1]; exact hx.2) h1; rw [e, h.1] at hr
    exact ⟨h1', Sf.same hw' h b0 hn m (b + 1) _ (by omega) (by omega) (by omega) (hp.mul hr.1.inv) h2⟩
theorem rep_set {T : Tw} (hw : Wf T) {b x : Int} (h0 : 0 ≤ b) (h1 : b < T.n) (h2 : 0 ≤ x) (h3 : x < T.n) (p : List Int) {c y : Int} (k0 : 0 ≤ c) (k2 : 0 ≤ y) :
    (T.setRep b x p).rep c y = if c = b ∧ y = x then p else T.rep c y := by
  have hl : b.toNat < T.reps.length := by rw [hw.lr]; omega
  have hl2 : x.toNat < (T.row b).length := by rw [hw.lrr b h0 h1]; omega
  simp only [Tw.rep, Tw.setRep, Tw.row]
  by_cases e : c = b
  · subst e
    have : (T.reps.set c.toNat ((T.reps.getD c.toNat []).set x.toNat p)).getD c.toNat [] = (T.reps.getD c.toNat []).set x.toNat p := by
      rw [List.getD_eq_getElem?_getD, List.getElem?_set_self hl]; rfl
    rw [this]
    by_cases e2 : y = x
    · subst e2; rw [List.getD_eq_getElem?_getD, List.getElem?_set_self (show y.toNat < (T.reps.getD c.toNat []).length from hl2)]; simp
    rw [List.getD_eq_getElem?_getD, List.getElem?_set_ne (by omega), ← List.getD_eq_getElem?_getD, if_neg (fun k => e2 k.2)]
  have : (T.reps.set b.toNat ((T.reps.getD b.toNat []).set x.toNat p)).getD c.toNat [] = T.reps.getD c.toNat [] := by
    rw [List.getD_eq_getElem?_getD, List.getElem?_set_ne (by omega), ← List.getD_eq_getElem?_getD]
  rw [this, if_neg (fun k => e k.1)]
theorem gen_add {T : Tw} (hw : Wf T) {b : Int} (h0 : 0 ≤ b) (h1 : b < T.n) (p : List Int) {c : Int} (k0 : 0 ≤ c) : (T.addGen b p).gen c = if c = b then T.gen b ++ [p] else T.gen c := by
  have hl : b.toNat < T.gens.length := by rw [hw.lg]; omega
  simp only [Tw.gen, Tw.addGen]
  by_cases e : c = b
  · subst e
    rw [List.getD_eq_getElem?_getD, List.getElem?_set_self hl, if_pos rfl]; rfl
  rw [List.getD_eq_getElem?_getD, List.getElem?_set_ne (by omega), ← List.getD_eq_getElem?_getD, if_neg e]
theorem Wf.setRep {T : Tw} (hw : Wf T) {b x : Int} (h0 : 0 ≤ b) (h1 : b < T.n) (h2 : 0 ≤ x) (h3 : x < T.n) {p : List Int} (hp : Pm T.n p) (hf : Fx b p) (hx : ap p b = x) (hn : T.rep b x = []) : Wf (T.setRep b x p) := by
  have hl : b.toNat < T.reps.length := by rw [hw.lr]; omega
  have hne : ∀ c : Int, 0 ≤ c → c < T.n → ¬ (c = b ∧ c = x) := by
    rintro c k0 k1 ⟨rfl, rfl⟩; have := hw.one c k0 k1; rw [hn] at this; have := congrArg List.length this; rw [idL_len] at this; simp at this; omega
  refine ⟨hw.n1, hw.n64, by simp [Tw.setRep, hw.lr], ?_, hw.lg, ?_, ?_, hw.gen⟩
  · intro c k0 k1
    show (List.getD (T.reps.set b.toNat ((T.row b).set x.toNat p)) c.toNat []).length = T.n
    by_cases e : c = b
    · subst e; rw [List.getD_eq_getElem?_getD, List.getElem?_set_self hl, Option.getD_some, List.length_set]
      exact hw.lrr c k0 k1
    rw [List.getD_eq_getElem?_getD, List.getElem?_set_ne (by omega), ← List.getD_eq_getElem?_getD]
    exact hw.lrr c k0 k1
  · intro c k0 k1
    rw [rep_set hw h0 h1 h2 h3 p k0 k0, if_neg (hne c k0 k1)]
    exact hw.one c k0 k1
  · intro c y k0 k1 k2 k3
    rw [rep_set hw h0 h1 h2 h3 p k0 k2]
    by_cases e : c = b ∧ y = x
    · rw [if_pos e]; intro _; obtain ⟨rfl, rfl⟩ := e
      exact ⟨hp, hf, hx⟩
    rw [if_neg e]
    exact hw.rep c y k0 k1 k2 k3
theorem Wf.addGen {T : Tw} (hw : Wf T) {b : Int} (h0 : 0 ≤ b) (h1 : b < T.n) {p : List Int} (hp : Pm T.n p) (hf : Fx b p) : Wf (T.addGen b p) := by
  refine ⟨hw.n1, hw.n64, hw.lr, hw.lrr, by simp [Tw.addGen, hw.lg], hw.one, hw.rep, ?_⟩
  intro c k0 k1 g
  rw [gen_add hw h0 h1 p k0]
  by_cases e : c = b
  · subst e
    rw [if_pos rfl, List.mem_append, List.mem_singleton]; rintro (h | rfl)
    · exact hw.gen c k0 k1 g h
    · exact ⟨hp, hf⟩
  rw [if_neg e]; exact hw.gen c k0 k1 g
end Go.Proofs.Ytjjlhbgpdncpcaa.P.M
end
namespace Go.Proofs.Ytjjlhbgpdncpcaa.P
open Go.RowKit Go.Proofs.YtjjlhbgpdncpcaaW.PrintWords Go.Proofs.YtjjlhbgpdncpcaaW.PrintLast Go.Proofs.YtjjlhbgpdncpcaaW.PrintMore
set_option linter.unusedVariables false
set_option linter.unusedSimpArgs false
set_option maxHeartbeats 8000000
set_option maxRecDepth 100000
section
attribute [local go_sem] max2_int min2_int max_two min_two max_three min_three max_four min_four

end
section
attribute [local go_sem] max2_int min2_int max_two min_two max_three min_three max_four min_four

end
section
attribute [local go_sem] max2_int min2_int max_two min_two max_three min_three max_four min_four

end
section
attribute [local go_sem] max2_int min2_int max_two min_two max_three min_three max_four min_four

end
section
attribute [local go_sem] max2_int min2_int max_two min_two max_three min_three max_four min_four

end
end Go.Proofs.Ytjjlhbgpdncpcaa.P
section
set_option linter.unusedVariables false
set_option linter.unusedSimpArgs false
namespace Go.Proofs.Ytjjlhbgpdncpcaa.P.M
open Go.RowKit Go.Proofs.YtjjlhbgpdncpcaaW.PrintWords Go.Proofs.YtjjlhbgpdncpcaaW.PrintLast Go.Proofs.YtjjlhbgpdncpcaaW.PrintMore
def Tells {α : Type} (g : Nat → Option α) (v : α) : Prop := ∃ k0, ∀ k, k0 ≤ k → g k = some v
theorem Tells.now {α : Type} {v : α} : Tells (fun _ => some v) v := ⟨0, fun _ _ => rfl⟩
theorem Tells.now' {α : Type} {v u : α} (h : v = u) : Tells (fun _ => some v) u := ⟨0, fun _ _ => by rw [h]⟩
theorem Tells.eq {α : Type} {g : Nat → Option α} {v u : α} (h : Tells g v) (e : v = u) : Tells g u := e ▸ h
theorem Tells.step {α : Type} {g F : Nat → Option α} {v : α} (hg : ∀ k, g (k + 1) = F k) (h : Tells F v) : Tells g v := by
  obtain ⟨k0, h⟩ := h
  refine ⟨k0 + 1, fun k hk => ?_⟩
  obtain ⟨j, rfl⟩ : ∃ j, k = j + 1 := ⟨k - 1, by omega⟩
  rw [hg, h j (by omega)]
theorem Tells.shift {α : Type} {g : Nat → Option α} {v : α} (h : Tells (fun k => g (k + 1)) v) : Tells g v := Tells.step (fun _ => rfl) h
theorem Tells.bind {α β : Type} {g : Nat → Option α} {h : Nat → α → Option β} {a : α} {v : β} (h1 : Tells g a) (h2 : Tells (fun k => h k a) v) : Tells (fun k => (g k).bind (fun x => h k x)) v := by
  obtain ⟨k1, h1⟩ := h1
  obtain ⟨k2, h2⟩ := h2
  refine ⟨max k1 k2, fun k hk => ?_⟩
  show (g k).bind _ = _
  rw [h1 k (by omega)]
  exact h2 k (by omega)
theorem Tells.pos {α : Type} {c : Prop} [Decidable c] {A B : Nat → Option α} {v : α} (hc : c) (h : Tells A v) : Tells (fun k => if c then A k else B k) v := by simpa only [if_pos hc] using h
theorem Tells.neg {α : Type} {c : Prop} [Decidable c] {A B : Nat → Option α} {v : α} (hc : ¬ c) (h : Tells B v) : Tells (fun k => if c then A k else B k) v := by simpa only [if_neg hc] using h
theorem Tells.mono {α : Type} {g : Nat → Option α} {v : α} (hm : ∀ k, LeO (g k) (g (k + 1))) {k : Nat} (h : g k = some v) : Tells g v := by
  refine ⟨k, fun j hj => ?_⟩
  obtain ⟨d, rfl⟩ : ∃ d, j = k + d := ⟨j - k, by omega⟩
  clear hj
  induction d with
  | zero => exact h
  | succ d ih => exact hm _ _ ih
theorem Tells.some {α : Type} {g : Nat → Option α} {v : α} (h : Tells g v) : ∃ k, g k = some v := h.elim fun k hk => ⟨k, hk k (Nat.le_refl _)⟩
theorem rd_ap (l : List Int) (i : Int) : rd l i = ap l i := rfl
theorem w64 {n : Int} (h0 : -9223372036854775808 ≤ n) (h1 : n ≤ 9223372036854775807) : wrap64 n = n := by unfold wrap64; omega
theorem ap_set {l : List Int} {i : Int} (v : Int) (h0 : 0 ≤ i) (h1 : i < (l.length : Int)) {j : Int} (k0 : 0 ≤ j) : ap (l.set i.toNat v) j = if j = i then v else ap l j := by
  have hi : i.toNat < l.length := by omega
  by_cases e : j = i
  · subst e
    rw [if_pos rfl, ap, List.getD_eq_getElem?_getD, List.getElem?_set_self hi]; rfl
  rw [if_neg e, ap, List.getD_eq_getElem?_getD, List.getElem?_set_ne (by omega), ← List.getD_eq_getElem?_getD]; rfl
def Rg (n : Nat) (p : List Int) : Prop := ∀ x ∈ p, 0 ≤ x ∧ x < (n : Int)
theorem Rg.ap {n : Nat} {p : List Int} (h : Rg n p) {i : Int} (h0 : 0 ≤ i) (h1 : i < (p.length : Int)) : 0 ≤ M.ap p i ∧ M.ap p i < n := h _ (ap_mem h0 h1)
theorem Pm.rg {n : Nat} {p : List Int} (h : Pm n p) : Rg n p := h.2.1
theorem then_loop (p q : List Int) (hl : p.length ≤ 4611686018427387904) (hr : Rg q.length p) : ∀ (m i : Nat) (x : List Int), i + m = p.length → x.length = p.length → (∀ j : Int, 0 ≤ j → j < i → ap x j = ap q (ap p j)) → Tells (fun k => perm_then.l0 k q x p (p.length : Int) (i : Int)) (mulL p q)
  | 0, i, x, hi, hx, hv => by
    refine Tells.shift ?_; simp only [perm_then.l0]
    refine Tells.neg (by omega) (Tells.now' ?_)
    exact ap_ext hx (mul_len p q) (fun j h0 h1 => by rw [hv j h0 (by omega), ap_mul h0 h1])
  | m + 1, i, x, hi, hx, hv => by
    refine Tells.shift ?_; simp only [perm_then.l0]; have hr' := hr.ap (i := (i : Int)) (by omega) (by omega); simp only [rd_ap]
    refine Tells.pos (by omega) (Tells.pos (by omega) (Tells.pos (by omega) (Tells.pos hr'.1 (Tells.pos hr'.2 (Tells.pos (by omega) ?_))))); rw [w64 (n := (i : Int) + 1) (by omega) (by omega)]
    refine then_loop p q hl hr m (i + 1) _ (by omega) zz79 (fun j h0 h1 => ?_); rw [ap_set _ (by omega) (by omega) h0]
    by_cases e : j = i
    · rw [if_pos e, e]
    · rw [if_neg e, hv j h0 (by omega)]
theorem then_tells (p q : List Int) (hl : p.length ≤ 1000000) (hr : Rg q.length p) : Tells (fun k => perm_then.f k p q) (mulL p q) := by
  unfold perm_then.f
  refine Tells.pos (by omega) (Tells.pos (by omega) ?_)
  exact then_loop p q (by omega) hr p.length 0 _ (by omega) (by simp) (fun j h0 h1 => by omega)
theorem identity_loop (n : Nat) (hl : n ≤ 4611686018427387904) : ∀ (m i : Nat) (x : List Int), i + m = n → x.length = n → (∀ j : Int, 0 ≤ j → j < i → ap x j = j) → Tells (fun k => perm_identity.l0 k x (n : Int) (i : Int)) (idL n)
  | 0, i, x, hi, hx, hv => by
    refine Tells.shift ?_; simp only [perm_identity.l0]
    refine Tells.neg (by omega) (Tells.now' ?_)
    exact ap_ext hx (idL_len n) (fun j h0 h1 => by rw [hv j h0 (by omega), ap_id h0 h1])
  | m + 1, i, x, hi, hx, hv => by
    refine Tells.shift ?_; simp only [perm_identity.l0]
    refine Tells.pos (by omega) (Tells.pos (by omega) (Tells.pos (by omega) ?_)); rw [w64 (n := (i : Int) + 1) (by omega) (by omega)]
    refine identity_loop n hl m (i + 1) _ (by omega) zz79 (fun j h0 h1 => ?_); rw [ap_set _ (by omega) (by omega) h0]
    by_cases e : j = i
    · rw [if_pos e, e]
    · rw [if_neg e, hv j h0 (by omega)]
theorem identity_tells (n : Nat) (hl : n ≤ 1000000) : Tells (fun k => perm_identity.f k (n : Int)) (idL n) := by
  unfold perm_identity.f
  refine Tells.pos (by omega) (Tells.pos (by omega) (Tells.bind Tells.now ?_))
  rw [List.length_replicate, show ((n : Int)).toNat = n by omega]
  exact identity_loop n (by omega) n 0 _ (by omega) (by simp) (fun j h0 h1 => by omega)
theorem Unit_loop (n : Nat) (hl : n ≤ 4611686018427387904) : ∀ (m i : Nat) (x : List Int), i + m = n → x.length = n → (∀ j : Int, 0 ≤ j → j < i → ap x j = j) → Tells (fun k => r30_Unit.l0 k (n : Int) x (i : Int)) (idL n)
  | 0, i, x, hi, hx, hv => by
    refine Tells.shift ?_; simp only [r30_Unit.l0]
    refine Tells.neg (by omega) (Tells.now' ?_)
    exact ap_ext hx (idL_len n) (fun j h0 h1 => by rw [hv j h0 (by omega), ap_id h0 h1])
  | m + 1, i, x, hi, hx, hv => by
    refine Tells.shift ?_; simp only [r30_Unit.l0]
    refine Tells.pos (by omega) (Tells.pos (by omega) (Tells.pos (by omega) ?_)); rw [w64 (n := (i : Int) + 1) (by omega) (by omega)]
    refine Unit_loop n hl m (i + 1) _ (by omega) zz79 (fun j h0 h1 => ?_); rw [ap_set _ (by omega) (by omega) h0]
    by_cases e : j = i
    · rw [if_pos e, e]
    · rw [if_neg e, hv j h0 (by omega)]
theorem Unit_tells (n : Nat) (hl : n ≤ 1000000) : Tells (fun k => r30_Unit.f k (n : Int)) (idL n) := by
  unfold r30_Unit.f
  refine Tells.pos (by omega) (Tells.pos (by omega) ?_)
  rw [show ((n : Int)).toNat = n by omega]
  exact Unit_loop n (by omega) n 0 _ (by omega) (by simp) (fun j h0 h1 => by omega)
theorem inv_end {n : Nat} {p x : List Int} (hp : Pm n p) (hx : x.length = n) (hv : ∀ j : Int, 0 ≤ j → j < n → ap x (ap p j) = j) : x = invL p := by
  refine ap_ext hx hp.inv.1 (fun i h0 h1 => ?_)
  rw [hp.ap_inv h0 h1]
  have h := hp.idx h0 h1
  conv => lhs; rw [← h.2]
  exact hv _ (by omega) (by omega)
theorem inverse_loop {n : Nat} {p : List Int} (hp : Pm n p) (hl : n ≤ 4611686018427387904) : ∀ (m i : Nat) (x : List Int), i + m = n → x.length = n → (∀ j : Int, 0 ≤ j → j < i → ap x (ap p j) = j) → Tells (fun k => perm_inverse.l0 k x p (n : Int) (i : Int)) (invL p)
  | 0, i, x, hi, hx, hv => by
    refine Tells.shift ?_; simp only [perm_inverse.l0]
    exact Tells.neg (by omega) (Tells.now' (inv_end hp hx (fun j h0 h1 => hv j h0 (by omega))))
  | m + 1, i, x, hi, hx, hv => by
    refine Tells.shift ?_; simp only [perm_inverse.l0]; have hr := hp.rng (i := (i : Int)) (by omega) (by omega); have hpl := hp.1; simp only [rd_ap]
    refine Tells.pos (by omega) (Tells.pos (by omega) (Tells.pos (by omega) (Tells.pos hr.1 (Tells.pos (by omega) ?_)))); rw [w64 (n := (i : Int) + 1) (by omega) (by omega)]
    refine inverse_loop hp hl m (i + 1) _ (by omega) zz79 (fun j h0 h1 => ?_); have hj := hp.rng (i := j) h0 (by omega); rw [ap_set _ hr.1 (by omega) hj.1]
    by_cases e : j = i
    · rw [if_pos (by rw [e]), e]
    · rw [if_neg (fun k => e (hp.inj h0 (by omega) (by omega) (by omega) k)), hv j h0 (by omega)]
theorem inverse_tells {n : Nat} {p : List Int} (hp : Pm n p) (hl : n ≤ 1000000) : Tells (fun k => perm_inverse.f k p) (invL p) := by
  unfold perm_inverse.f
  have hpl := hp.1
  refine Tells.pos (by omega) (Tells.pos (by omega) ?_)
  rw [hpl]
  exact inverse_loop hp (by omega) n 0 _ (by omega) (by simp) (fun j h0 h1 => by omega)
theorem take_succ_ap {x y : List Int} {i : Nat} (hx : i < x.length) (hy : i < y.length) : x.take (i + 1) = y.take (i + 1) ↔ x.take i = y.take i ∧ ap x i = ap y i := by
  rw [ap_nat, ap_nat, List.take_succ_eq_append_getElem hx, List.take_succ_eq_append_getElem hy, List.getD_eq_getElem?_getD, List.getD_eq_getElem?_getD, List.getElem?_eq_getElem hx, List.getElem?_eq_getElem hy, Option.getD_some, Option.getD_some]
  constructor
  · intro h
    have := List.append_inj h (by rw [List.length_take, List.length_take]; omega)
    exact ⟨this.1, by simpa using this.2⟩
  · rintro ⟨h1, h2⟩; rw [h1, h2]
theorem same_loop (x y : List Int) (hxy : x.length = y.length) (hl : x.length ≤ 4611686018427387904) : ∀ (m i : Nat), i + m = x.length → x.take i = y.take i → Tells (fun k => r09_SameInts.l0 k x y (i : Int)) (decide (x = y))
  | 0, i, hi, ht => by
    refine Tells.shift ?_; simp only [r09_SameInts.l0]
    refine Tells.neg (by omega) (Tells.now' ?_); rw [List.take_of_length_le (by omega), List.take_of_length_le (by omega)] at ht
    exact (decide_eq_true ht).symm
  | m + 1, i, hi, ht => by
    refine Tells.shift ?_; simp only [r09_SameInts.l0]; simp only [rd_ap]
    refine Tells.pos (by omega) (Tells.pos (by omega) (Tells.pos (by omega) ?_))
    by_cases e : ap x i = ap y i
    · refine Tells.pos e ?_; rw [w64 (n := (i : Int) + 1) (by omega) (by omega)]
      exact same_loop x y hxy hl m (i + 1) (by omega) ((take_succ_ap (by omega) (by omega)).2 ⟨ht, e⟩)
    · refine Tells.neg e (Tells.now' ?_)
      refine (decide_eq_false (fun h => e ?_)).symm; rw [h]
theorem SameInts_tells (x y : List Int) (hl : x.length ≤ 4611686018427387904) : Tells (fun k => r09_SameInts.f k x y) (decide (x = y)) := by
  unfold r09_SameInts.f
  by_cases h : x.length = y.length
  · exact Tells.pos (by omega) (same_loop x y h hl x.length 0 (by omega) rfl)
  exact Tells.neg (by omega) (Tells.now' (decide_eq_false (fun e => h (by rw [e]))).symm)
end Go.Proofs.Ytjjlhbgpdncpcaa.P.M
end
section
set_option linter.unusedVariables false
set_option linter.unusedSimpArgs false
namespace Go.Proofs.Ytjjlhbgpdncpcaa.P.M
open Go.RowKit Go.Proofs.YtjjlhbgpdncpcaaW.PrintWords Go.Proofs.YtjjlhbgpdncpcaaW.PrintLast Go.Proofs.YtjjlhbgpdncpcaaW.PrintMore
theorem checkL_zero {p : List Int} : checkL p = 0 ↔ Pm p.length p ∧ 1 ≤ p.length ∧ p.length ≤ 64 := by
  unfold checkL
  by_cases h1 : p.length < 1 ∨ 64 < p.length
  · rw [if_pos h1]; constructor
    · intro h; omega
    · rintro ⟨_, h2, h3⟩; omega
  rw [if_neg h1]
  by_cases h2 : ∃ x ∈ p, x < 0 ∨ (p.length : Int) ≤ x
  · rw [if_pos h2]; constructor
    · intro h; omega
    · rintro ⟨h3, _⟩; obtain ⟨x, hx, hb⟩ := h2; have := h3.2.1 x hx; omega
  rw [if_neg h2]
  by_cases h3 : p.Nodup
  · rw [if_pos h3]
    refine ⟨fun _ => ⟨⟨rfl, fun x hx => ?_, h3⟩, by omega, by omega⟩, fun _ => rfl⟩; have : ¬ (x < 0 ∨ (p.length : Int) ≤ x) := fun k => h2 ⟨x, hx, k⟩
    omega
  rw [if_neg h3]; constructor
  · intro h; omega
  · rintro ⟨h4, _⟩; exact absurd h4.2.2 h3
theorem nodup_iff_ap {p : List Int} : p.Nodup ↔ ∀ i j : Nat, j < i → i < p.length → ap p i ≠ ap p j := by
  rw [List.Nodup, List.pairwise_iff_getElem]
  constructor
  · intro h i j hj hi e
    have := h j i (by omega) hi hj; rw [ap_nat, ap_nat, List.getD_eq_getElem?_getD, List.getD_eq_getElem?_getD, List.getElem?_eq_getElem hi, List.getElem?_eq_getElem (show j < p.length by omega)] at e
    exact this e.symm
  · intro h i j hi hj hij e
    refine h j i hij hj ?_; rw [ap_nat, ap_nat, List.getD_eq_getElem?_getD, List.getD_eq_getElem?_getD, List.getElem?_eq_getElem hi, List.getElem?_eq_getElem hj]
    exact e.symm
theorem rck2 (p : List Int) (hl : p.length ≤ 64) (i : Nat) (hi : i < p.length) (v : Int) (hv : (∀ j : Nat, j < i → ap p i ≠ ap p j) → Tells (fun k => r30_Check.l1 k p (p.length : Int) ((i : Int) + 1)) v) (hd : (∃ j : Nat, j < i ∧ ap p i = ap p j) → v = 18) :
    ∀ (m j : Nat), j + m = i → (∀ a : Nat, a < j → ap p i ≠ ap p a) → Tells (fun k => r30_Check.l2 k p (p.length : Int) (i : Int) (j : Int)) v
  | 0, j, hj, ha => by
    refine Tells.shift ?_; simp only [r30_Check.l2]
    refine Tells.neg (by omega) ?_; rw [w64 (n := (i : Int) + 1) (by omega) (by omega)]
    exact hv (fun b hb => ha b (by omega))
  | m + 1, j, hj, ha => by
    refine Tells.shift ?_; simp only [r30_Check.l2, rd_ap]
    refine Tells.pos (by omega) (Tells.pos (by omega) (Tells.pos (by omega) (Tells.pos (by omega) (Tells.pos (by omega) ?_))))
    by_cases e : ap p i = ap p j
    · exact Tells.pos e (Tells.now' (hd ⟨j, by omega, e⟩).symm)
    · refine Tells.neg e ?_; rw [w64 (n := (j : Int) + 1) (by omega) (by omega)]
      refine rck2 p hl i hi v hv hd m (j + 1) (by omega) (fun a h => ?_)
      by_cases e2 : a = j
      · rw [e2]; exact e
      · exact ha a (by omega)
theorem rck1 (p : List Int) (hl : p.length ≤ 64) : ∀ (m i : Nat), i + m = p.length → (∀ a b : Nat, b < a → a < i → ap p a ≠ ap p b) → Tells (fun k => r30_Check.l1 k p (p.length : Int) (i : Int)) (if p.Nodup then 0 else 18)
  | 0, i, hi, ha => by
    refine Tells.shift ?_; simp only [r30_Check.l1]
    refine Tells.neg (by omega) (Tells.now' ?_); rw [if_pos (nodup_iff_ap.2 (fun a b h1 h2 => ha a b h1 (by omega)))]
  | m + 1, i, hi, ha => by
    refine Tells.shift ?_; simp only [r30_Check.l1]
    refine Tells.pos (by omega) ?_
    refine rck2 p hl i (by omega) _ (fun h => ?_) (fun ⟨j, hj, e⟩ => if_neg (fun h => nodup_iff_ap.1 h i j hj (by omega) e)) i 0 (by omega) (fun a h => by omega)
    have := rck1 p hl m (i + 1) (by omega) (fun a b h1 h2 => by
      by_cases e : a = i
      · rw [e]; exact h b (by omega)
      · exact ha a b h1 (by omega))
    exact this
theorem rck0 (p : List Int) (hl : p.length ≤ 64) : ∀ (m i : Nat), i + m = p.length → (∀ a : Nat, a < i → 0 ≤ ap p a ∧ ap p a < p.length) → Tells (fun k => r30_Check.l0 k p (p.length : Int) (i : Int)) (if ∃ x ∈ p, x < 0 ∨ (p.length : Int) ≤ x then 6 else if p.Nodup then 0 else 18)
  | 0, i, hi, ha => by
    refine Tells.shift ?_; simp only [r30_Check.l0]
    refine Tells.neg (by omega) ?_; rw [if_neg]
    · exact rck1 p hl p.length 0 (by omega) (fun a b h1 h2 => by omega)
    · rintro ⟨x, hx, hb⟩; obtain ⟨j, hj, rfl⟩ := List.getElem_of_mem hx; have := ha j (by omega); rw [ap_nat, List.getD_eq_getElem?_getD, List.getElem?_eq_getElem hj, Option.getD_some] at this; omega
  | m + 1, i, hi, ha => by
    refine Tells.shift ?_; simp only [r30_Check.l0, rd_ap]
    refine Tells.pos (by omega) (Tells.pos (by omega) (Tells.pos (by omega) ?_)); have hm : ap p i ∈ p := ap_mem (by omega) (by omega)
    by_cases e : ap p i < 0
    · refine Tells.pos e (Tells.now' ?_); rw [if_pos ⟨_, hm, .inl e⟩]
    · refine Tells.neg e ?_
      by_cases e2 : ap p i ≥ (p.length : Int)
      · refine Tells.pos e2 (Tells.now' ?_); rw [if_pos ⟨_, hm, .inr e2⟩]
      · refine Tells.neg e2 ?_; rw [w64 (n := (i : Int) + 1) (by omega) (by omega)]
        refine rck0 p hl m (i + 1) (by omega) (fun a h => ?_)
        by_cases e3 : a = i
        · rw [e3]; exact ⟨by omega, by omega⟩
        · exact ha a (by omega)
theorem Check_tells (p : List Int) : Tells (fun k => r30_Check.f k p) (checkL p) := by
  unfold r30_Check.f checkL
  by_cases h1 : (p.length : Int) < 1
  · refine Tells.pos h1 (Tells.shift ?_)
    simp only [r30_Check.j0]
    refine Tells.pos trivial (Tells.now' ?_); rw [if_pos (by omega)]
  refine Tells.neg h1 (Tells.shift ?_)
  simp only [r30_Check.j0]
  by_cases h2 : (p.length : Int) > 64
  · refine Tells.pos (decide_eq_true h2) (Tells.now' ?_)
    rw [if_pos (by omega)]
  refine Tells.neg (by rw [decide_eq_false h2]; decide) ?_
  rw [if_neg (by omega)]
  exact rck0 p (by omega) p.length 0 (by omega) (fun a h => by omega)
theorem rdL1_nat {l : List (List Int)} {i : Nat} (h : i < l.length) : rd_L1 l (i : Int) = l[i] := by simp [rd_L1, h]
def allL (n : Int) (l : List (List Int)) : Int := match (l.map checkL).find? (fun e => e != 0) with
  | some e => e
  | none => if l.any (lenB n) then 10 else 0
theorem find_at {l : List (List Int)} {i : Nat} (h : i < l.length) (ha : ∀ a : Nat, a < i → ∀ k : a < l.length, checkL l[a] = 0) (hb : checkL l[i] ≠ 0) : (l.map checkL).find? (fun e => e != 0) = some (checkL l[i]) := by
  rw [List.find?_eq_some_iff_getElem]
  refine ⟨by simpa using hb, i, by simpa using h, by simp, fun j hj => ?_⟩
  have := ha j hj (by omega)
  simp [this]
theorem find_zero {l : List (List Int)} (ha : ∀ a : Nat, ∀ k : a < l.length, checkL l[a] = 0) : (l.map checkL).find? (fun e => e != 0) = none := by
  rw [List.find?_eq_none]
  intro x hx
  rw [List.mem_map] at hx
  obtain ⟨y, hy, rfl⟩ := hx
  obtain ⟨j, hj, rfl⟩ := List.getElem_of_mem hy
  rw [ha j hj]; simp
theorem allL_zero {n : Int} {l : List (List Int)} : allL n l = 0 ↔ ∀ p ∈ l, checkL p = 0 ∧ (p.length : Int) = n := by
  unfold allL
  constructor
  · intro h
    split at h
    · rename_i e he
      have := List.find?_some he; simp [h] at this
    · rename_i he
      rw [List.find?_eq_none] at he; intro p hp
      refine ⟨by simpa using he (checkL p) (List.mem_map.2 ⟨p, hp, rfl⟩), ?_⟩
      apply Classical.byContradiction; intro hc; rw [if_pos (List.any_eq_true.2 ⟨p, hp, by simpa [lenB] using hc⟩)] at h
      cases h
  · intro h
    rw [List.find?_eq_none.2 (fun x hx => by
      rw [List.mem_map] at hx; obtain ⟨y, hy, rfl⟩ := hx; rw [(h y hy).1]; simp)]
    simp only; rw [if_neg]; rw [List.any_eq_true]; rintro ⟨p, hp, hb⟩; have := (h p hp).2; simp [lenB, this] at hb
def prodL (n : Nat) (l : List (List Int)) : List Int := l.foldl mulL (idL n)
theorem fold_take {α : Type} (f : List Int → α → List Int) (x : List Int) (l : List α) (i : Nat) (h : i < l.length) : (l.take (i + 1)).foldl f x = f ((l.take i).foldl f x) l[i] := by
  rw [List.take_succ_eq_append_getElem h, List.foldl_append]; rfl
theorem fold_pm {n : Nat} : ∀ {l : List (List Int)} {x : List Int}, Pm n x → (∀ p ∈ l, Pm n p) → Pm n (l.foldl mulL x)
  | [], x, hx, h => hx
  | p :: l, x, hx, h => fold_pm (l := l) (hx.mul (h p (by simp))) (fun q hq => h q (by simp [hq]))
def composeL (l : List (List Int)) : List Int × Int :=
  match l with
  | [] => ([], 11)
  | p :: _ => if allL p.length l = 0 then (prodL p.length l, 0) else ([], allL p.length l)
theorem PCompose_l1 {n : Nat} (l : List (List Int)) (hn : n ≤ 64) (hl : l.length ≤ 4611686018427387904) (h : ∀ p ∈ l, Pm p.length p) : ∀ (m i : Nat), i + m = l.length → (∀ a : Nat, a < i → ∀ k : a < l.length, l[a].length = n) → Tells (fun k => perm_Compose.l1 k ((l.take i).foldl mulL (idL n)) l (l.length : Int) (i : Int)) (if l.any (lenB n) then ([], 10) else (prodL n l, 0))
  | 0, i, hi, ha => by
    refine Tells.shift ?_; simp only [perm_Compose.l1]
    refine Tells.neg (by omega) (Tells.now' ?_); rw [if_neg, List.take_of_length_le (by omega)]
    · rfl
    · rw [List.any_eq_true]; rintro ⟨x, hx, hb⟩; obtain ⟨j, hj, rfl⟩ := List.getElem_of_mem hx; have := ha j (by omega) hj; simp [lenB, this] at hb
  | m + 1, i, hi, ha => by
    refine Tells.shift ?_; simp only [perm_Compose.l1]; have hb : i < l.length := by omega
    have hp := h _ (List.getElem_mem hb)
    have hx : Pm n ((l.take i).foldl mulL (idL n)) := fold_pm (Pm_id n) (fun p hp => by
      obtain ⟨j, hj, rfl⟩ := List.getElem_of_mem hp; rw [List.getElem_take]; have hj' : j < i ∧ j < l.length := by rw [List.length_take] at hj; omega
      have := ha j hj'.1 hj'.2; rw [← this]
      exact h _ (List.getElem_mem hj'.2))
    rw [rdL1_nat hb]; have hxl := hx.1
    refine Tells.pos (by omega) (Tells.pos (by omega) (Tells.pos (by omega) ?_))
    by_cases e : l[i].length = n
    · refine Tells.pos (by omega) (Tells.bind (then_tells _ _ (by omega) (by rw [e]; exact hx.rg)) ?_); rw [w64 (n := (i : Int) + 1) (by omega) (by omega), ← fold_take mulL _ l i hb]
      refine PCompose_l1 l hn hl h m (i + 1) (by omega) (fun a h1 h2 => ?_)
      by_cases e2 : a = i
      · subst e2; exact e
      · exact ha a (by omega) h2
    · refine Tells.neg (by omega) (Tells.now' ?_); rw [if_pos]; rw [List.any_eq_true]
      exact ⟨l[i], List.getElem_mem hb, by simp [lenB]; omega⟩
theorem PCompose_l0 (p : List Int) (l0 : List (List Int)) (hl : (p :: l0).length ≤ 4611686018427387904) : ∀ (m i : Nat), i + m = (p :: l0).length → (∀ a : Nat, a < i → ∀ k : a < (p :: l0).length, checkL (p :: l0)[a] = 0) → Tells (fun k => perm_Compose.l0 k (p :: l0) (p :: l0) ((p :: l0).length : Int) (i : Int)) (composeL (p :: l0))
  | 0, i, hi, ha => by
    refine Tells.shift ?_; simp only [perm_Compose.l0]; have h0 := checkL_zero.1 (ha 0 (by simp only [List.length_cons] at hi; omega) (by simp)); simp only [List.getElem_cons_zero] at h0; have e : rd_L1 (p :: l0) 0 = p := rfl; rw [e]
    refine Tells.neg (by omega) (Tells.pos (by simp only [List.length_cons]; omega) (Tells.bind (identity_tells p.length (by omega)) ?_))
    have := PCompose_l1 (n := p.length) (p :: l0) h0.2.2 hl (fun q hq => by
      obtain ⟨j, hj, rfl⟩ := List.getElem_of_mem hq
      exact (checkL_zero.1 (ha j (by omega) hj)).1) (p :: l0).length 0 (by omega) (fun a h => by omega)
    refine this.eq ?_; simp only [composeL]
    have hz : allL p.length (p :: l0) = if (p :: l0).any (lenB p.length) then 10 else 0 := by
      rw [allL, find_zero (fun a k => ha a (by omega) k)]
    rw [hz]
    by_cases hb : (p :: l0).any (lenB p.length) = true
    · rw [if_pos hb, if_pos hb]; rfl
    · rw [if_neg hb, if_neg hb]; rfl
  | m + 1, i, hi, ha => by
    refine Tells.shift ?_; simp only [perm_Compose.l0]; have hb : i < (p :: l0).length := by omega
    rw [rdL1_nat hb]
    refine Tells.pos (by omega) (Tells.pos (by omega) (Tells.pos (by omega) (Tells.bind (a := checkL (p :: l0)[i]) Tells.now ?_)))
    by_cases e : checkL (p :: l0)[i] = 0
    · refine Tells.pos e ?_; rw [w64 (n := (i : Int) + 1) (by omega) (by omega)]
      refine PCompose_l0 p l0 hl m (i + 1) (by omega) (fun a h1 h2 => ?_)
      by_cases e2 : a = i
      · subst e2; exact e
      · exact ha a (by omega) h2
    · refine Tells.neg e (Tells.now' ?_); have hz : allL p.length (p :: l0) = checkL (p :: l0)[i] := by rw [allL, find_at hb ha e]
      simp only [composeL, hz]; rw [if_neg e]
theorem PCompose_tells (l : List (List Int)) (hl : l.length ≤ 1000000) : Tells (fun k => perm_Compose.f k l) (composeL l) := by
  unfold perm_Compose.f
  cases l with
  | nil => exact Tells.pos rfl (Tells.now' rfl)
  | cons p l =>
    refine Tells.neg (by simp only [List.length_cons]; omega) ?_
    exact PCompose_l0 p l (by omega) (p :: l).length 0 (by omega) (fun a h => by omega)
def inverseL (p : List Int) : List Int × Int := if checkL p = 0 then (invL p, 0) else ([], checkL p)
theorem PInverse_tells (p : List Int) : Tells (fun k => perm_Inverse.f k p) (inverseL p) := by
  unfold perm_Inverse.f inverseL
  refine Tells.bind (a := checkL p) Tells.now ?_
  by_cases h : checkL p = 0
  · have h' := checkL_zero.1 h
    rw [if_pos h]
    exact Tells.pos h (Tells.bind (inverse_tells h'.1 (by omega)) Tells.now)
  rw [if_neg h]
  exact Tells.neg h Tells.now
end Go.Proofs.Ytjjlhbgpdncpcaa.P.M
end
namespace Go.Proofs.Ytjjlhbgpdncpcaa.P
open Go.RowKit Go.Proofs.YtjjlhbgpdncpcaaW.PrintWords Go.Proofs.YtjjlhbgpdncpcaaW.PrintLast Go.Proofs.YtjjlhbgpdncpcaaW.PrintMore
set_option linter.unusedVariables false
set_option linter.unusedSimpArgs false
set_option maxHeartbeats 8000000
set_option maxRecDepth 100000
section
attribute [local go_sem] max2_int min2_int max_two min_two max_three min_three max_four min_four
mutual
def r30_Cycles.l0 : Nat → List Int → List Bool → List (List Int) → Int → Option ((List (List Int)) × Int)
  | 0, _, _, _, _ => none
  | k + 1, x0, x5, x6, x7 => if x7 < (x0.length : Int) then (r30_Cycles.l1 k x0 x5 x6 x7 ([] : List Int) x7) else (some (x6, 0))
def r30_Cycles.l1 : Nat → List Int → List Bool → List (List Int) → Int → List Int → Int → Option ((List (List Int)) × Int)
  | 0, _, _, _, _, _, _ => none
  | k + 1, x0, x5, x6, x7, x8, x9 => if 0 ≤ x9 then (if x9 < (x5.length : Int) then (if rdOf false x5 x9 = true then (if (x8.length : Int) > 1 then (if x6.length < 5864062014805 then (r30_Cycles.l0 k x0 x5 (x6 ++ [x8]) (wrap64 (x7 + 1))) else (none)) else (r30_Cycles.l0 k x0 x5 x6 (wrap64 (x7 + 1)))) else (if x8.length < 17592186044416 then (if x9 < (x0.length : Int) then (r30_Cycles.l1 k x0 (x5.set (x9 : Int).toNat true) x6 x7 (x8 ++ [x9]) (rd x0 x9)) else (none)) else (none))) else (none)) else (none)
end
def r30_Cycles.f (k : Nat) (l0 : List Int) : Option ((List (List Int)) × Int) := (r30_Check.f k l0).bind fun t337 => (if t337 = 0 then (if 0 ≤ (l0.length : Int) then (if ((l0.length : Int) : Int).toNat ≤ 281474976710656 then (r30_Cycles.l0 k l0 (List.replicate ((l0.length : Int) : Int).toNat false) ([] : List (List Int)) 0) else (none)) else (none)) else (some (([] : List (List Int)), t337)))
end
section
attribute [local go_sem] max2_int min2_int max_two min_two max_three min_three max_four min_four
def r03_small.f (a0 : Int) : Option (Bool) := if a0 ≥ (-2147483647) then (some (decide (a0 ≤ 2147483647))) else (some false)
end
section
attribute [local go_sem] max2_int min2_int max_two min_two max_three min_three max_four min_four
def r03_gcd.l0 : Nat → Int → Int → Option (Int)
  | 0, _, _ => none
  | k + 1, x0, x1 => if x1 = 0 then (some x0) else (r03_gcd.l0 k x1 (Int.tmod x0 x1))
def r03_gcd.f (k : Nat) (a0 : Int) (a1 : Int) : Option (Int) := r03_gcd.l0 k a0 a1
end
section
attribute [local go_sem] max2_int min2_int max_two min_two max_three min_three max_four min_four
def r03_abs.f (a0 : Int) : Option (Int) := if a0 < 0 then (some (wrap64 (-a0))) else (some a0)
end
section
attribute [local go_sem] max2_int min2_int max_two min_two max_three min_three max_four min_four
def r03_Gcd.j0 : Nat → Int → Int → Bool → Option (Int × Int)
  | 0, _, _, _ => none
  | k + 1, x0, x1, x13 => if x13 = true then (some (0, 6)) else ((r03_abs.f x0).bind fun t352 => ((r03_abs.f x1).bind fun t353 => ((r03_gcd.f k t352 t353).bind fun t354 => (some (t354, 0)))))
def r03_Gcd.f (k : Nat) (a0 : Int) (a1 : Int) : Option (Int × Int) := (r03_small.f a0).bind fun t350 => (if t350 = true then ((r03_small.f a1).bind fun t351 => (r03_Gcd.j0 k a0 a1 (!t351))) else (r03_Gcd.j0 k a0 a1 true))
end
section
attribute [local go_sem] max2_int min2_int max_two min_two max_three min_three max_four min_four
def r30_Order.l0 : Nat → List (List Int) → Int → Int → Option (Int × Int)
  | 0, _, _, _ => none
  | k + 1, x4, x6, x7 => if x7 < (x4.length : Int) then (if 0 ≤ x7 then (if ((rd_L1 x4 x7).length : Int) = 0 then (none) else ((r03_Gcd.f k (Int.tmod x6 ((rd_L1 x4 x7).length : Int)) ((rd_L1 x4 x7).length : Int)).bind fun bt361 => (if bt361.1 = 0 then (none) else (r30_Order.l0 k x4 (wrap64 ((wrap64 (Int.tdiv x6 bt361.1)) * ((rd_L1 x4 x7).length : Int))) (wrap64 (x7 + 1)))))) else (none)) else (some (x6, 0))
def r30_Order.f (k : Nat) (l0 : List Int) : Option (Int × Int) := (r30_Cycles.f k l0).bind fun bt355 => (if bt355.2 = 0 then (r30_Order.l0 k bt355.1 1 0) else (some (0, bt355.2)))
end
end Go.Proofs.Ytjjlhbgpdncpcaa.P
section
set_option linter.unusedVariables false
set_option linter.unusedSimpArgs false
namespace Go.Proofs.Ytjjlhbgpdncpcaa.P.M
open Go.RowKit Go.Proofs.YtjjlhbgpdncpcaaW.PrintWords Go.Proofs.YtjjlhbgpdncpcaaW.PrintLast Go.Proofs.YtjjlhbgpdncpcaaW.PrintMore
theorem cyc_same (p : List Int) : ∀ k : Nat, (∀ out seen i, perm_Cycles.l0 k p out seen (p.length : Int) i = r30_Cycles.l0 k p seen out i) ∧ (∀ out seen c j i, perm_Cycles.l1 k p out seen c j (p.length : Int) i = r30_Cycles.l1 k p seen out i c j)
  | 0 => ⟨fun _ _ _ => by simp only [perm_Cycles.l0, r30_Cycles.l0], fun _ _ _ _ _ => by simp only [perm_Cycles.l1, r30_Cycles.l1]⟩
  | k + 1 => by
    obtain ⟨h0, h1⟩ := cyc_same p k
    refine ⟨fun out seen i => ?_, fun out seen c j i => ?_⟩
    · simp only [perm_Cycles.l0, r30_Cycles.l0, h1]
    · simp only [perm_Cycles.l1, r30_Cycles.l1, h0, h1]
def run (n : Nat) (p : List Int) (x : Int) (t : Nat) : List Int := (List.range t).map (fun s => ap (powL n p s) x)
theorem run_succ (n : Nat) (p : List Int) (x : Int) (t : Nat) : run n p x (t + 1) = run n p x t ++ [ap (powL n p t) x] := by simp [run, List.range_succ]
theorem mem_run {n : Nat} {p : List Int} {x y : Int} {t : Nat} : y ∈ run n p x t ↔ ∃ s, s < t ∧ ap (powL n p s) x = y := by simp [run]
def IsCyc (n : Nat) (p : List Int) (c : List Int) : Prop := ∃ x : Int, 0 ≤ x ∧ x < n ∧ c = run n p x c.length ∧ ap (powL n p c.length) x = x ∧ c.Nodup
def lens (v : List (List Int)) : Nat := (v.map List.length).sum
structure CycInv (n : Nat) (p : List Int) (out : List (List Int)) (seen : List Bool) : Prop where
  len : seen.length = n
  sum : lens out ≤ seen.count true
  cyc : ∀ c ∈ out, 2 ≤ c.length ∧ IsCyc n p c
  got : ∀ y : Int, 0 ≤ y → y < n → rdOf false seen y = true → ap p y = y ∨ ∃ c ∈ out, y ∈ c
  inv : ∀ y : Int, 0 ≤ y → y < n → (rdOf false seen y = true ↔ rdOf false seen (ap p y) = true)
theorem rdb_set {l : List Bool} {i : Int} (v : Bool) (h0 : 0 ≤ i) (h1 : i < (l.length : Int)) {j : Int} (k0 : 0 ≤ j) : rdOf false (l.set i.toNat v) j = if j = i then v else rdOf false l j := by
  have hi : i.toNat < l.length := by omega
  by_cases e : j = i
  · subst e
    rw [if_pos rfl, rdOf, List.getD_eq_getElem?_getD, List.getElem?_set_self hi]; rfl
  rw [if_neg e, rdOf, List.getD_eq_getElem?_getD, List.getElem?_set_ne (by omega), ← List.getD_eq_getElem?_getD]; rfl
theorem count_set : ∀ {l : List Bool} {i : Nat}, i < l.length → l.getD i false = false → (l.set i true).count true = l.count true + 1
  | [], i, h, _ => by simp at h
  | b :: l, 0, h, e => by
    have : b = false := by simpa using e
    subst this; simp [List.count_cons]
  | b :: l, i + 1, h, e => by
    have := count_set (l := l) (i := i) (by simpa using h) (by simpa using e); simp only [List.set_cons_succ, List.count_cons, this]; omega
theorem rdb_lt {l : List Bool} {i : Int} (h0 : 0 ≤ i) (h1 : i < (l.length : Int)) (e : rdOf false l i = false) : (l.set i.toNat true).count true = l.count true + 1 := count_set (by omega) e
theorem lens_snoc (v : List (List Int)) (c : List Int) : lens (v ++ [c]) = lens v + c.length := by simp [lens]
structure RunInv (n : Nat) (p : List Int) (old : List Bool) (x : Int) (t : Nat) (seen : List Bool) : Prop where
  len : seen.length = n
  cnt : seen.count true = old.count true + t
  mem : ∀ y : Int, 0 ≤ y → y < n → (rdOf false seen y = true ↔ rdOf false old y = true ∨ y ∈ run n p x t)
  nod : (run n p x t).Nodup
theorem run_end {n : Nat} {p : List Int} (hp : Pm n p) {out : List (List Int)} {old seen : List Bool} {x : Int} {t : Nat} (ho : CycInv n p out old) (h0 : 0 ≤ x) (h1 : x < n) (hx : rdOf false old x = false)
    (h : RunInv n p old x t seen) (ht : 1 ≤ t) (he : rdOf false seen (ap (powL n p t) x) = true) : ap (powL n p t) x = x := by
  have hr := fun s => (hp.pow s).rng h0 h1
  have nold : ∀ s, rdOf false old (ap (powL n p s) x) = false := by
    intro s
    induction s with
    | zero => rw [powL, ap_id h0 h1]; exact hx
    | succ s ih =>
      rw [powL, (hp.pow s).ap_mul h0 h1]; have := ho.inv _ (hr s).1 (hr s).2; rw [ih] at this
      cases hc : rdOf false old (ap p (ap (powL n p s) x)) with
      | false => rfl
      | true => rw [hc] at this; simp at this
  rcases (h.mem _ (hr t).1 (hr t).2).1 he with k | k
  · rw [nold t] at k; cases k
  · obtain ⟨s, hs, e⟩ := mem_run.1 k
    -- p^s x = p^t x, s < t
    have e2 : ap (powL n p (t - s)) x = x := by
      have : ap (powL n p s) (ap (powL n p (t - s)) x) = ap (powL n p s) x := by
        rw [← (hp.pow (t - s)).ap_mul h0 h1, ← pow_add hp, show t - s + s = t by omega, e]
      exact (hp.pow s).inj (hr (t - s)).1 (hr (t - s)).2 h0 h1 this
    by_cases hz : s = 0
    · rw [hz] at e2; simpa using e2
    -- p^(t-s) x = p^0 x, both in the run
    exfalso; have hnd := h.nod; rw [run, List.Nodup, List.pairwise_map] at hnd; have := List.pairwise_iff_getElem.1 hnd 0 (t - s) (by simp; omega) (by simp; omega) (by omega); simp only [List.getElem_range] at this
    exact this (by rw [e2, powL, ap_id h0 h1])
theorem run_step {n : Nat} {p : List Int} (hp : Pm n p) {old seen : List Bool} {x : Int} {t : Nat} (h0 : 0 ≤ x) (h1 : x < n)
    (h : RunInv n p old x t seen) (he : rdOf false seen (ap (powL n p t) x) = false) : RunInv n p old x (t + 1) (seen.set (ap (powL n p t) x).toNat true) := by
  have hr := (hp.pow t).rng h0 h1
  have hl := h.len
  refine ⟨by rw [List.length_set]; exact hl, ?_, ?_, ?_⟩
  · rw [rdb_lt hr.1 (by omega) he, h.cnt]; omega
  · intro y k0 k1
    rw [rdb_set true hr.1 (by omega) k0, run_succ, List.mem_append, List.mem_singleton]
    by_cases e : y = ap (powL n p t) x
    · rw [if_pos e]; simp [e]
    rw [if_neg e, h.mem y k0 k1]; simp [e]
  · rw [run_succ, List.nodup_append]
    refine ⟨h.nod, by simp, ?_⟩; intro a ha b hb e; rw [List.mem_singleton] at hb; subst hb; rw [e] at ha; rw [(h.mem _ hr.1 hr.2).2 (.inr ha)] at he; cases he
theorem run_close {n : Nat} {p : List Int} (hp : Pm n p) {out : List (List Int)} {old seen : List Bool} {x : Int} {t : Nat} (ho : CycInv n p out old) (h0 : 0 ≤ x) (h1 : x < n)
    (h : RunInv n p old x t seen) (ht : 1 ≤ t) (he : ap (powL n p t) x = x) : CycInv n p (if 2 ≤ t then out ++ [run n p x t] else out) seen ∧ (∀ y : Int, 0 ≤ y → y < n → rdOf false old y = true → rdOf false seen y = true) ∧ rdOf false seen x = true := by
  have hlen : (run n p x t).length = t := by simp [run]
  have hmemp : ∀ y : Int, 0 ≤ y → y < n → (y ∈ run n p x t ↔ ap p y ∈ run n p x t) := by
    intro y k0 k1
    constructor
    · intro hy; obtain ⟨s, hs, rfl⟩ := mem_run.1 hy
      by_cases e : s + 1 < t
      · exact mem_run.2 ⟨s + 1, e, by rw [powL, (hp.pow s).ap_mul h0 h1]⟩
      · refine mem_run.2 ⟨0, by omega, ?_⟩; rw [powL, ap_id h0 h1, ← (hp.pow s).ap_mul h0 h1]
        show x = ap (powL n p (s + 1)) x
        rw [show s + 1 = t by omega, he]
    · intro hy; obtain ⟨s, hs, e⟩ := mem_run.1 hy
      cases s with
      | zero =>
        rw [powL, ap_id h0 h1] at e
        refine mem_run.2 ⟨t - 1, by omega, ?_⟩
        have : ap p (ap (powL n p (t - 1)) x) = ap p y := by
          rw [← (hp.pow (t - 1)).ap_mul h0 h1, ← e]
          show ap (powL n p (t - 1 + 1)) x = x
          rw [show t - 1 + 1 = t by omega, he]
        exact hp.inj ((hp.pow _).rng h0 h1).1 ((hp.pow _).rng h0 h1).2 k0 k1 this
      | succ s =>
        refine mem_run.2 ⟨s, by omega, ?_⟩; rw [powL, (hp.pow s).ap_mul h0 h1] at e
        exact hp.inj ((hp.pow _).rng h0 h1).1 ((hp.pow _).rng h0 h1).2 k0 k1 e
  refine ⟨⟨h.len, ?_, ?_, ?_, ?_⟩, fun y k0 k1 hy => (h.mem y k0 k1).2 (.inl hy), (h.mem x h0 h1).2 (.inr (mem_run.2 ⟨0, by omega, ap_id h0 h1⟩))⟩
  · have := ho.sum
    rw [h.cnt]
    split
    · rw [lens_snoc, hlen]; omega
    · omega
  · intro c hc
    split at hc
    · rename_i h2
      rw [List.mem_append, List.mem_singleton] at hc
      rcases hc with hc | rfl
      · exact ho.cyc c hc
      · rw [hlen]
        exact ⟨h2, x, h0, h1, by rw [hlen], by rw [hlen]; exact he, h.nod⟩
    · exact ho.cyc c hc
  · intro y k0 k1 hy
    rcases (h.mem y k0 k1).1 hy with k | k
    · rcases ho.got y k0 k1 k with e | ⟨c, hc, hy'⟩
      · exact .inl e
      · right
        refine ⟨c, ?_, hy'⟩
        split
        · exact List.mem_append_left _ hc
        · exact hc
    · by_cases h2 : 2 ≤ t
      · right
        rw [if_pos h2]
        exact ⟨_, List.mem_append_right _ (List.mem_singleton.2 rfl), k⟩
      left
      have ht1 : t = 1 := by omega
      subst ht1; obtain ⟨s, hs, rfl⟩ := mem_run.1 k; have : s = 0 := by omega
      subst this; rw [powL, ap_id h0 h1]; have e := he; rw [powL, powL, id_mul hp] at e
      exact e
  · intro y k0 k1
    have hr := hp.rng k0 k1; rw [h.mem y k0 k1, h.mem _ hr.1 hr.2, ho.inv y k0 k1, hmemp y k0 k1]
theorem cycles_l1 {n : Nat} {p : List Int} (hp : Pm n p) (hn : n ≤ 64) {out : List (List Int)} {old : List Bool} {x : Int} (ho : CycInv n p out old) (h0 : 0 ≤ x) (h1 : x < n) (hx : rdOf false old x = false) (P : List (List Int) → Prop)
    (cont : ∀ out' seen', CycInv n p out' seen' → (∀ y : Int, 0 ≤ y → y < n → rdOf false old y = true → rdOf false seen' y = true) → rdOf false seen' x = true → ∃ v, P v ∧ Tells (fun k => perm_Cycles.l0 k p out' seen' (n : Int) (x + 1)) (v, 0)) :
    ∀ (m t : Nat) (seen : List Bool), n - seen.count true = m → RunInv n p old x t seen → (1 ≤ t ∨ rdOf false seen (ap (powL n p t) x) = false) → ∃ v, P v ∧ Tells (fun k => perm_Cycles.l1 k p out seen (run n p x t) (ap (powL n p t) x) (n : Int) x) (v, 0)
  | m, t, seen, hm, h, ht => by
    have hr := (hp.pow t).rng h0 h1; have hl := h.len; have hpl := hp.1; have hrl : (run n p x t).length = t := by simp [run]
    by_cases hs : rdOf false seen (ap (powL n p t) x) = true
    · have ht1 : 1 ≤ t := by rcases ht with k | k; exact k; rw [hs] at k; cases k
      have hc := run_close hp ho h0 h1 h ht1 (run_end hp ho h0 h1 hx h ht1 hs); obtain ⟨v, hv, htl⟩ := cont _ seen hc.1 hc.2.1 hc.2.2
      refine ⟨v, hv, Tells.shift ?_⟩; simp only [perm_Cycles.l1]
      refine Tells.pos hr.1 (Tells.pos (by omega) (Tells.pos hs ?_)); rw [w64 (n := x + 1) (by omega) (by omega), hrl]
      by_cases h2 : 2 ≤ t
      · rw [if_pos h2] at htl
        have hcl : out.length ≤ 64 := by
          have h3 := ho.sum
          have h4 : out.length ≤ lens out := by
            have : ∀ v : List (List Int), (∀ c ∈ v, 2 ≤ c.length) → v.length ≤ lens v := by
              intro v
              induction v with
              | nil => intro _; simp
              | cons c v ih =>
                intro hv; have := hv c (by simp); have := ih (fun d hd => hv d (by simp [hd])); simp only [lens, List.map_cons, List.sum_cons, List.length_cons] at *; omega
            exact this out (fun c hc => (ho.cyc c hc).1)
          have h5 : old.count true ≤ old.length := List.count_le_length; have := ho.len; omega
        exact Tells.pos (by omega) (Tells.pos (by omega) htl)
      · rw [if_neg h2] at htl
        exact Tells.neg (by omega) htl
    · have hs' : rdOf false seen (ap (powL n p t) x) = false := by simpa using hs
      have hstep := run_step hp h0 h1 h hs'; have hcnt : (seen.set (ap (powL n p t) x).toNat true).count true = seen.count true + 1 := rdb_lt hr.1 (by omega) hs'
      have hle : (seen.set (ap (powL n p t) x).toNat true).count true ≤ n := by
        have := List.count_le_length (a := true) (l := seen.set (ap (powL n p t) x).toNat true); rw [List.length_set] at this; omega
      obtain ⟨v, hv, htl⟩ := cycles_l1 hp hn ho h0 h1 hx P cont (m - 1) (t + 1) _ (by omega) hstep (.inl (by omega))
      refine ⟨v, hv, Tells.shift ?_⟩; simp only [perm_Cycles.l1, rd_ap]
      refine Tells.pos hr.1 (Tells.pos (by omega) (Tells.neg (by rw [hs']; decide) (Tells.pos (by have := h.cnt; omega) (Tells.pos (by omega) ?_)))); rw [run_succ, powL, (hp.pow t).ap_mul h0 h1] at htl
      exact htl
  termination_by m => m
  decreasing_by omega
theorem cycles_l0 {n : Nat} {p : List Int} (hp : Pm n p) (hn : n ≤ 64) : ∀ (m i : Nat) (out : List (List Int)) (seen : List Bool), i + m = n → CycInv n p out seen → (∀ y : Int, 0 ≤ y → y < i → rdOf false seen y = true) →
    ∃ v, (∃ s, CycInv n p v s ∧ ∀ y : Int, 0 ≤ y → y < n → rdOf false s y = true) ∧ Tells (fun k => perm_Cycles.l0 k p out seen (n : Int) (i : Int)) (v, 0)
  | 0, i, out, seen, hi, ho, hy => by
    refine ⟨out, ⟨seen, ho, fun y h0 h1 => hy y h0 (by omega)⟩, Tells.shift ?_⟩; simp only [perm_Cycles.l0]
    exact Tells.neg (by omega) Tells.now
  | m + 1, i, out, seen, hi, ho, hy => by
    have next : ∀ out' seen', CycInv n p out' seen' → (∀ y : Int, 0 ≤ y → y < n → rdOf false seen y = true → rdOf false seen' y = true) → rdOf false seen' (i : Int) = true → ∃ v, (∃ s, CycInv n p v s ∧ ∀ y : Int, 0 ≤ y → y < n → rdOf false s y = true) ∧ Tells (fun k => perm_Cycles.l0 k p out' seen' (n : Int) ((i : Int) + 1)) (v, 0) := by
      intro out' seen' h1 h2 h3
      exact cycles_l0 hp hn m (i + 1) out' seen' (by omega) h1 (fun y k0 k1 => by
        by_cases e : y = i
        · rw [e]; exact h3
        · exact h2 y k0 (by omega) (hy y k0 (by omega)))
    have hpl := hp.1; have hl := ho.len
    by_cases hs : rdOf false seen (i : Int) = true
    · obtain ⟨v, hv, ht⟩ := next out seen ho (fun _ _ _ h => h) hs
      refine ⟨v, hv, Tells.shift ?_⟩; simp only [perm_Cycles.l0]
      refine Tells.pos (by omega) (Tells.shift ?_); simp only [perm_Cycles.l1]
      refine Tells.pos (by omega) (Tells.pos (by omega) (Tells.pos hs (Tells.neg (by simp) ?_))); rw [w64 (n := (i : Int) + 1) (by omega) (by omega)]
      exact ht
    · have hs' : rdOf false seen (i : Int) = false := by simpa using hs
      have hid : ap (powL n p 0) (i : Int) = i := ap_id (by omega) (by omega); obtain ⟨v, hv, ht⟩ := cycles_l1 hp hn ho (x := (i : Int)) (by omega) (by omega) hs' _ next (n - seen.count true) 0 seen rfl ⟨hl, by omega, fun y _ _ => by simp [run], by simp [run]⟩ (.inr (by rw [hid]; exact hs'))
      refine ⟨v, hv, Tells.shift ?_⟩; simp only [perm_Cycles.l0]
      refine Tells.pos (by omega) ?_; rw [hid] at ht
      exact ht
structure CycOf (n : Nat) (p : List Int) (v : List (List Int)) : Prop where
  sum : lens v ≤ 64
  cyc : ∀ c ∈ v, 2 ≤ c.length ∧ IsCyc n p c
  got : ∀ y : Int, 0 ≤ y → y < n → ap p y = y ∨ ∃ c ∈ v, y ∈ c
theorem Cycles_tells {n : Nat} {p : List Int} (hp : Pm n p) (h1 : 1 ≤ n) (hn : n ≤ 64) : ∃ v, CycOf n p v ∧ Tells (fun k => perm_Cycles.f k p) (v, 0) ∧ Tells (fun k => r30_Cycles.f k p) (v, 0) := by
  have hpl := hp.1
  have hz : ∀ y : Int, rdOf false (List.replicate n false) y = false := by
    intro y; simp only [rdOf, List.getD_eq_getElem?_getD, List.getElem?_replicate]
    split <;> rfl
  have hc : checkL p = 0 := checkL_zero.2 ⟨hpl ▸ hp, by omega, by omega⟩
  obtain ⟨v, ⟨s, hs, hall⟩, ht⟩ := cycles_l0 hp hn n 0 [] (List.replicate n false) (by omega) ⟨by simp, by simp [lens], fun c hc => by simp at hc, fun y _ _ h => (by rw [hz] at h; cases h), fun y _ _ => by rw [hz, hz]⟩ (fun y h0 h1 => by omega)
  refine ⟨v, ⟨?_, hs.cyc, fun y h0 h1 => hs.got y h0 h1 (hall y h0 h1)⟩, ?_, ?_⟩
  · have := hs.sum
    have h2 : s.count true ≤ s.length := List.count_le_length; have := hs.len; omega
  · unfold perm_Cycles.f
    refine Tells.bind (a := checkL p) Tells.now (Tells.pos hc (Tells.pos (by omega) (Tells.pos (by omega) ?_))); rw [hpl]
    exact ht
  · unfold r30_Cycles.f
    refine Tells.bind (Check_tells p) (Tells.pos hc (Tells.pos (by omega) (Tells.pos (by omega) ?_))); rw [hpl]; have : ∀ k, r30_Cycles.l0 k p (List.replicate n false) [] 0 = perm_Cycles.l0 k p [] (List.replicate n false) (n : Int) 0 := fun k => by rw [← (cyc_same p k).1, hpl]
    show Tells (fun k => r30_Cycles.l0 k p (List.replicate n false) [] 0) (v, 0)
    simp only [this]
    exact ht
end Go.Proofs.Ytjjlhbgpdncpcaa.P.M
end
namespace Go.Proofs.Ytjjlhbgpdncpcaa.P
open Go.RowKit Go.Proofs.YtjjlhbgpdncpcaaW.PrintWords Go.Proofs.YtjjlhbgpdncpcaaW.PrintLast Go.Proofs.YtjjlhbgpdncpcaaW.PrintMore
set_option linter.unusedVariables false
set_option linter.unusedSimpArgs false
set_option maxHeartbeats 8000000
set_option maxRecDepth 100000
section
attribute [local go_sem] max2_int min2_int max_two min_two max_three min_three max_four min_four

end
end Go.Proofs.Ytjjlhbgpdncpcaa.P
section
set_option linter.unusedVariables false
set_option linter.unusedSimpArgs false
namespace Go.Proofs.Ytjjlhbgpdncpcaa.P.M
open Go.RowKit Go.Proofs.YtjjlhbgpdncpcaaW.PrintWords Go.Proofs.YtjjlhbgpdncpcaaW.PrintLast Go.Proofs.YtjjlhbgpdncpcaaW.PrintMore
def lcmL (v : List (List Int)) : Nat := v.foldl (fun a c => a / Nat.gcd a c.length * c.length) 1
theorem lcmL_snoc (v : List (List Int)) (c : List Int) : lcmL (v ++ [c]) = lcmL v / Nat.gcd (lcmL v) c.length * c.length := by simp [lcmL, List.foldl_append]
theorem cube_le : ∀ {l : Nat}, 2 ≤ l → l * l * l ≤ 3 ^ l
  | 0, h => by omega
  | 1, h => by omega
  | 2, _ => by decide
  | 3, _ => by decide
  | l + 4, _ => by
    have ih : (l + 3) * (l + 3) * (l + 3) ≤ 3 ^ (l + 3) := cube_le (by omega)
    have h : (l + 4) * (l + 4) * (l + 4) ≤ 3 * ((l + 3) * (l + 3) * (l + 3)) := by
      have e1 : (l + 4) * (l + 4) * (l + 4) = l * l * l + 12 * (l * l) + 48 * l + 64 := by grind
      have e2 : 3 * ((l + 3) * (l + 3) * (l + 3)) = 3 * (l * l * l) + 27 * (l * l) + 81 * l + 81 := by grind
      omega
    rw [show l + 4 = (l + 3) + 1 by omega, Nat.pow_succ, show l + 3 + 1 = l + 4 by omega]; omega
theorem lcm_bound : ∀ (v : List (List Int)), (∀ c ∈ v, 2 ≤ c.length) → ∀ a : Nat, (v.foldl (fun a c => a / Nat.gcd a c.length * c.length) a) ^ 3 ≤ a ^ 3 * 3 ^ lens v ∧ (1 ≤ a → 1 ≤ v.foldl (fun a c => a / Nat.gcd a c.length * c.length) a)
  | [], _, a => by simp [lens]
  | c :: v, h, a => by
    have ih := lcm_bound v (fun d hd => h d (by simp [hd])) (a / Nat.gcd a c.length * c.length); have hc := h c (by simp); have h1 : a / Nat.gcd a c.length ≤ a := Nat.div_le_self _ _
    have h2 : (a / Nat.gcd a c.length * c.length) ^ 3 ≤ a ^ 3 * 3 ^ c.length := by
      rw [Nat.mul_pow]; have := cube_le hc
      exact Nat.mul_le_mul (Nat.pow_le_pow_left h1 3) (by rw [show c.length ^ 3 = c.length * c.length * c.length by grind]; exact this)
    have h3 : lens (c :: v) = c.length + lens v := by simp [lens]
    refine ⟨?_, fun ha => ?_⟩
    · refine Nat.le_trans ih.1 ?_; rw [h3, Nat.pow_add, ← Nat.mul_assoc]
      exact Nat.mul_le_mul_right _ h2
    · refine ih.2 ?_; have hg : 0 < Nat.gcd a c.length := Nat.gcd_pos_of_pos_left _ ha; have : 1 ≤ a / Nat.gcd a c.length := (Nat.le_div_iff_mul_le hg).2 (by rw [Nat.one_mul]; exact Nat.le_of_dvd ha (Nat.gcd_dvd_left _ _))
      exact Nat.mul_pos this (by omega)
theorem lens_take (v : List (List Int)) (i : Nat) : lens (v.take i) ≤ lens v := by
  have : lens (v.take i ++ v.drop i) = lens (v.take i) + lens (v.drop i) := by simp only [lens, List.map_append, List.sum_append]
  rw [List.take_append_drop] at this
  omega
theorem lcm_small {v : List (List Int)} (h : ∀ c ∈ v, 2 ≤ c.length) (hs : lens v ≤ 64) (i : Nat) : lcmL (v.take i) < 17179869184 ∧ 1 ≤ lcmL (v.take i) := by
  have hb := lcm_bound (v.take i) (fun c hc => h c (List.mem_of_mem_take hc)) 1
  refine ⟨?_, hb.2 (Nat.le_refl _)⟩
  have h1 : (lcmL (v.take i)) ^ 3 ≤ 3 ^ 64 := by
    have := hb.1; rw [Nat.one_pow, Nat.one_mul] at this
    exact Nat.le_trans this (Nat.pow_le_pow_right (by omega) (Nat.le_trans (lens_take v i) hs))
  apply Classical.byContradiction
  intro hc
  have : 17179869184 ^ 3 ≤ (lcmL (v.take i)) ^ 3 := Nat.pow_le_pow_left (by omega) 3
  have h3 : (3 : Nat) ^ 64 < 17179869184 ^ 3 := by decide
  omega
theorem w64n (n : Nat) (h : n ≤ 9223372036854775807) : wrap64 (n : Int) = n := w64 (by omega) (by omega)
theorem tmod_nat (a b : Nat) : Int.tmod (a : Int) (b : Int) = ((a % b : Nat) : Int) := rfl
theorem tdiv_nat (a b : Nat) : Int.tdiv (a : Int) (b : Int) = ((a / b : Nat) : Int) := rfl
theorem gcd_step (a b : Nat) : Nat.gcd b (a % b) = Nat.gcd a b := by rw [Nat.gcd_comm b, ← Nat.gcd_rec, Nat.gcd_comm]
theorem gcd_tells : ∀ (b a : Nat), Tells (fun k => r03_gcd.l0 k (a : Int) (b : Int)) ((Nat.gcd a b : Nat) : Int)
  | b, a => by
    refine Tells.shift ?_; simp only [r03_gcd.l0]
    by_cases h : b = 0
    · subst h
      refine Tells.pos rfl (Tells.now' ?_); rw [Nat.gcd_zero_right]
    · refine Tells.neg (by omega) ?_; rw [tmod_nat, ← gcd_step]; have : a % b < b := Nat.mod_lt _ (by omega)
      exact gcd_tells (a % b) b
  termination_by b => b
theorem Gcd_tells (a b : Nat) (ha : a ≤ 2147483647) (hb : b ≤ 2147483647) : Tells (fun k => r03_Gcd.f k (a : Int) (b : Int)) (((Nat.gcd a b : Nat) : Int), 0) := by
  unfold r03_Gcd.f
  have sm : ∀ x : Nat, x ≤ 2147483647 → r03_small.f (x : Int) = some true := by
    intro x hx; unfold r03_small.f; rw [if_pos (by omega), decide_eq_true (by omega)]
  have ab : ∀ x : Nat, r03_abs.f (x : Int) = some (x : Int) := by
    intro x; unfold r03_abs.f; rw [if_neg (by omega)]
  rw [sm a ha, sm b hb]
  refine Tells.bind (a := true) Tells.now (Tells.pos rfl (Tells.bind (a := true) Tells.now (Tells.shift ?_)))
  simp only [r03_Gcd.j0, ab, Option.bind_some, Bool.not_true, Bool.false_eq_true, if_false]
  unfold r03_gcd.f
  exact Tells.bind (gcd_tells b a) Tells.now
theorem ROrder_loop {v : List (List Int)} (h : ∀ c ∈ v, 2 ≤ c.length) (hs : lens v ≤ 64) (hv : v.length ≤ 4611686018427387904) : ∀ (m i : Nat), i + m = v.length → Tells (fun k => r30_Order.l0 k v ((lcmL (v.take i) : Nat) : Int) (i : Int)) (((lcmL v : Nat) : Int), 0)
  | 0, i, hi => by
    refine Tells.shift ?_; simp only [r30_Order.l0]
    refine Tells.neg (by omega) (Tells.now' ?_); rw [List.take_of_length_le (by omega)]
  | m + 1, i, hi => by
    refine Tells.shift ?_; simp only [r30_Order.l0]; have hb : i < v.length := by omega
    have hc := h _ (List.getElem_mem hb)
    have hl : v[i].length ≤ 64 := by
      have h1 := lens_take v (i + 1); rw [List.take_succ_eq_append_getElem hb, lens_snoc] at h1; omega
    have hsm := lcm_small h hs i; have hsm2 := lcm_small h hs (i + 1); rw [List.take_succ_eq_append_getElem hb, lcmL_snoc] at hsm2; have hg : 0 < Nat.gcd (lcmL (v.take i)) v[i].length := Nat.gcd_pos_of_pos_left _ (by omega); have hge : Nat.gcd (lcmL (v.take i) % v[i].length) v[i].length = Nat.gcd (lcmL (v.take i)) v[i].length := by rw [Nat.gcd_comm, gcd_step]
    have hml : lcmL (v.take i) % v[i].length < v[i].length := Nat.mod_lt _ (by omega); have hdl : lcmL (v.take i) / Nat.gcd (lcmL (v.take i)) v[i].length ≤ lcmL (v.take i) := Nat.div_le_self _ _; rw [rdL1_nat hb, tmod_nat]
    refine Tells.pos (by omega) (Tells.pos (by omega) (Tells.neg (by omega) (Tells.bind (Gcd_tells _ _ (by omega) (by omega)) ?_))); simp only; rw [hge, tdiv_nat, w64n (lcmL (v.take i) / Nat.gcd (lcmL (v.take i)) v[i].length) (by omega)]
    refine Tells.neg (by omega) ?_; rw [show (((lcmL (v.take i) / Nat.gcd (lcmL (v.take i)) v[i].length : Nat) : Int) * (v[i].length : Int)) = ((lcmL (v.take i) / Nat.gcd (lcmL (v.take i)) v[i].length * v[i].length : Nat) : Int) by rw [Int.natCast_mul], w64n _ (by omega), w64 (n := (i : Int) + 1) (by omega) (by omega), ← lcmL_snoc, ← List.take_succ_eq_append_getElem hb]
    exact ROrder_loop h hs hv m (i + 1) (by omega)
theorem POrder_l1 {v : List (List Int)} (c : List Int) (i : Int) (x : Int) (u : Int × Int) : ∀ (b a : Nat), 1 ≤ a ∨ 1 ≤ b →
    Tells (fun k => perm_Order.l0 k (wrap64 ((wrap64 (Int.tdiv x ((Nat.gcd a b : Nat) : Int))) * (c.length : Int))) v (v.length : Int) (wrap64 (i + 1))) u →
    Tells (fun k => perm_Order.l1 k x c (a : Int) (b : Int) v (v.length : Int) i) u
  | b, a, ha, h => by
    refine Tells.shift ?_; simp only [perm_Order.l1]
    by_cases hb : b = 0
    · subst hb; rw [Nat.gcd_zero_right] at h
      exact Tells.neg (by omega) (Tells.neg (by omega) h)
    · have hlt : a % b < b := Nat.mod_lt _ (by omega)
      refine Tells.pos (by omega) (Tells.neg (by omega) ?_); rw [tmod_nat]; rw [← gcd_step] at h
      exact POrder_l1 c i x u (a % b) b (.inl (by omega)) h
  termination_by b => b
theorem POrder_loop {v : List (List Int)} (h : ∀ c ∈ v, 2 ≤ c.length) (hs : lens v ≤ 64) (hv : v.length ≤ 4611686018427387904) : ∀ (m i : Nat), i + m = v.length → Tells (fun k => perm_Order.l0 k ((lcmL (v.take i) : Nat) : Int) v (v.length : Int) (i : Int)) (((lcmL v : Nat) : Int), 0)
  | 0, i, hi => by
    refine Tells.shift ?_; simp only [perm_Order.l0]
    refine Tells.neg (by omega) (Tells.now' ?_); rw [List.take_of_length_le (by omega)]
  | m + 1, i, hi => by
    refine Tells.shift ?_; simp only [perm_Order.l0]; have hb : i < v.length := by omega
    have hc := h _ (List.getElem_mem hb); have hsm := lcm_small h hs i; have hsm2 := lcm_small h hs (i + 1); rw [List.take_succ_eq_append_getElem hb, lcmL_snoc] at hsm2; have hdl : lcmL (v.take i) / Nat.gcd (lcmL (v.take i)) v[i].length ≤ lcmL (v.take i) := Nat.div_le_self _ _; rw [rdL1_nat hb]
    refine Tells.pos (by omega) (Tells.pos (by omega) (Tells.pos (by omega) (POrder_l1 _ _ _ _ v[i].length (lcmL (v.take i)) (.inl (by omega)) ?_))); rw [tdiv_nat, w64n (lcmL (v.take i) / Nat.gcd (lcmL (v.take i)) v[i].length) (by omega), show (((lcmL (v.take i) / Nat.gcd (lcmL (v.take i)) v[i].length : Nat) : Int) * (v[i].length : Int)) = ((lcmL (v.take i) / Nat.gcd (lcmL (v.take i)) v[i].length * v[i].length : Nat) : Int) by rw [Int.natCast_mul], w64n _ (by omega), w64 (n := (i : Int) + 1) (by omega) (by omega), ← lcmL_snoc, ← List.take_succ_eq_append_getElem hb]
    exact POrder_loop h hs hv m (i + 1) (by omega)
theorem CycOf.short {n : Nat} {p : List Int} {v : List (List Int)} (h : CycOf n p v) : v.length ≤ 64 := by
  have : ∀ v : List (List Int), (∀ c ∈ v, 2 ≤ c.length) → v.length ≤ lens v := by
    intro v
    induction v with
    | nil => intro _; simp
    | cons c v ih =>
      intro hv; have := hv c (by simp); have := ih (fun d hd => hv d (by simp [hd])); simp only [lens, List.map_cons, List.sum_cons, List.length_cons] at *; omega
  have := this v (fun c hc => (h.cyc c hc).1)
  have := h.sum
  omega
theorem CycOrd_tells (p : List Int) : ∃ (v : List (List Int)) (e m : Int), Tells (fun k => perm_Cycles.f k p) (v, e) ∧ Tells (fun k => r30_Cycles.f k p) (v, e) ∧ Tells (fun k => perm_Order.f k p) (m, e) ∧ Tells (fun k => r30_Order.f k p) (m, e)
    ∧ v.length ≤ 64 ∧ (∀ c ∈ v, c.length ≤ 64) ∧ (checkL p = 0 → e = 0 ∧ m = ((lcmL v : Nat) : Int) ∧ CycOf p.length p v) := by
  by_cases hc : checkL p = 0
  · have h := checkL_zero.1 hc
    obtain ⟨v, hv, h1, h2⟩ := Cycles_tells h.1 h.2.1 h.2.2; have hvl := hv.short
    refine ⟨v, 0, ((lcmL v : Nat) : Int), h1, h2, ?_, ?_, hvl, ?_, fun _ => ⟨rfl, rfl, hv⟩⟩
    · unfold perm_Order.f
      exact Tells.bind h1 (Tells.pos rfl (POrder_loop (fun c hc => (hv.cyc c hc).1) hv.sum (by omega) v.length 0 (by omega)))
    · unfold r30_Order.f
      exact Tells.bind h2 (Tells.pos rfl (ROrder_loop (fun c hc => (hv.cyc c hc).1) hv.sum (by omega) v.length 0 (by omega)))
    · intro c hc; obtain ⟨i, hi, rfl⟩ := List.getElem_of_mem hc; have h1 := lens_take v (i + 1); rw [List.take_succ_eq_append_getElem hi, lens_snoc] at h1; have := hv.sum; omega
  refine ⟨[], checkL p, 0, ?_, ?_, ?_, ?_, by simp, by simp, fun h => absurd h hc⟩
  · unfold perm_Cycles.f
    exact Tells.bind (a := checkL p) Tells.now (Tells.neg hc Tells.now)
  · unfold r30_Cycles.f
    exact Tells.bind (Check_tells p) (Tells.neg hc Tells.now)
  · unfold perm_Order.f perm_Cycles.f
    exact Tells.bind (Tells.bind (a := checkL p) Tells.now (Tells.neg hc Tells.now)) (Tells.neg hc Tells.now)
  · unfold r30_Order.f r30_Cycles.f
    exact Tells.bind (Tells.bind (Check_tells p) (Tells.neg hc Tells.now)) (Tells.neg hc Tells.now)
end Go.Proofs.Ytjjlhbgpdncpcaa.P.M
end
section
set_option linter.unusedVariables false
set_option linter.unusedSimpArgs false
namespace Go.Proofs.Ytjjlhbgpdncpcaa.P.M
open Go.RowKit Go.Proofs.YtjjlhbgpdncpcaaW.PrintWords Go.Proofs.YtjjlhbgpdncpcaaW.PrintLast Go.Proofs.YtjjlhbgpdncpcaaW.PrintMore
theorem lcm_step (a c : Nat) : a / Nat.gcd a c * c = Nat.lcm a c := by
  unfold Nat.lcm
  rw [Nat.mul_comm, ← Nat.mul_div_assoc _ (Nat.gcd_dvd_left a c), Nat.mul_comm]
theorem lcmL_dvd : ∀ (v : List (List Int)) (a m : Nat), v.foldl (fun a c => a / Nat.gcd a c.length * c.length) a ∣ m ↔ a ∣ m ∧ ∀ c ∈ v, c.length ∣ m
  | [], a, m => by simp
  | c :: v, a, m => by
    rw [List.foldl_cons, lcm_step, lcmL_dvd v]
    constructor
    · rintro ⟨h1, h2⟩
      refine ⟨Nat.dvd_trans (Nat.dvd_lcm_left a c.length) h1, fun d hd => ?_⟩
      rcases List.mem_cons.1 hd with rfl | hd
      · exact Nat.dvd_trans (Nat.dvd_lcm_right a d.length) h1
      · exact h2 d hd
    · rintro ⟨h1, h2⟩
      exact ⟨Nat.lcm_dvd h1 (h2 c (by simp)), fun d hd => h2 d (by simp [hd])⟩
theorem pow_one {n : Nat} {p : List Int} (hp : Pm n p) : powL n p 1 = p := id_mul hp
theorem pow_mod {n : Nat} {p : List Int} (hp : Pm n p) {x : Int} (h0 : 0 ≤ x) (h1 : x < n) {d : Nat} (e : ap (powL n p d) x = x) (m : Nat) : ap (powL n p m) x = ap (powL n p (m % d)) x := by
  conv => lhs; rw [← Nat.div_add_mod m d, pow_add hp, (hp.pow _).ap_mul h0 h1, pow_fix hp h0 h1 e]
theorem pow_id_iff {n : Nat} {p : List Int} (hp : Pm n p) {v : List (List Int)} (hv : CycOf n p v) (m : Nat) : powL n p m = idL n ↔ lcmL v ∣ m := by
  unfold lcmL
  rw [lcmL_dvd]
  constructor
  · intro h
    refine ⟨Nat.one_dvd m, fun c hc => ?_⟩; obtain ⟨h2, x, h0, h1, hr, hcl, hnd⟩ := hv.cyc c hc
    apply Classical.byContradiction; intro hnot; have hpos : 0 < m % c.length := Nat.pos_of_ne_zero (fun e => hnot (Nat.dvd_of_mod_eq_zero e)); have hlt : m % c.length < c.length := Nat.mod_lt _ (by omega); have e := pow_mod hp h0 h1 hcl m; rw [h, ap_id h0 h1] at e; rw [hr, run, List.Nodup, List.pairwise_map] at hnd; have := List.pairwise_iff_getElem.1 hnd 0 (m % c.length) (by simp; omega) (by simp; exact hlt) hpos; simp only [List.getElem_range] at this
    exact this (by rw [← e, powL, ap_id h0 h1])
  · rintro ⟨_, h⟩
    refine ap_ext (hp.pow m).1 (idL_len n) (fun y h0 h1 => ?_); rw [ap_id h0 h1]
    rcases hv.got y h0 h1 with e | ⟨c, hc, hy⟩
    · have e1 : ap (powL n p 1) y = y := by rw [pow_one hp]; exact e
      have := pow_fix hp h0 h1 e1 m
      rwa [Nat.one_mul] at this
    · obtain ⟨h2, x, x0, x1, hr, hcl, hnd⟩ := hv.cyc c hc; obtain ⟨q, rfl⟩ := h c hc; have hxm := pow_fix hp x0 x1 hcl q; rw [hr] at hy; obtain ⟨s, hs, rfl⟩ := mem_run.1 hy; rw [← (hp.pow s).ap_mul x0 x1, ← pow_add hp, Nat.add_comm, pow_add hp, (hp.pow _).ap_mul x0 x1, hxm]
theorem compose2 {n : Nat} {p q : List Int} (hp : Pm n p) (hq : Pm n q) (h1 : 1 ≤ n) (h64 : n ≤ 64) : composeL [p, q] = (mulL p q, 0) := by
  have hpl := hp.1
  have hql := hq.1
  have cp : checkL p = 0 := checkL_zero.2 ⟨by rw [hpl]; exact hp, by omega, by omega⟩
  have cq : checkL q = 0 := checkL_zero.2 ⟨by rw [hql]; exact hq, by omega, by omega⟩
  have hz : allL (p.length : Int) [p, q] = 0 := allL_zero.2 (fun x hx => by
    simp only [List.mem_cons, List.not_mem_nil, or_false] at hx
    rcases hx with rfl | rfl
    · exact ⟨cp, rfl⟩
    · exact ⟨cq, by omega⟩)
  simp only [composeL]
  rw [if_pos hz, hpl]
  simp only [prodL, List.foldl_cons, List.foldl_nil, id_mul hp]
theorem vloop3 (d : Int) (l : List (List Int)) (hl : l.length ≤ 1000000) : ∀ (m i : Nat), i + m = l.length → (∀ a : Nat, a < i → ∀ h : a < l.length, checkL l[a] = 0 ∧ (l[a].length : Int) = d) → ∃ b, Tells (fun k => l30_valid.l0 k d l (l.length : Int) (i : Int)) b ∧ (b = true → ∀ p ∈ l, checkL p = 0 ∧ (p.length : Int) = d)
  | 0, i, hi, ha => by
    refine ⟨true, Tells.shift ?_, fun _ p hp => ?_⟩
    · simp only [l30_valid.l0]
      exact Tells.neg (by omega) Tells.now
    · obtain ⟨a, h, rfl⟩ := List.getElem_of_mem hp
      exact ha a (by omega) h
  | m + 1, i, hi, ha => by
    have hil : i < l.length := by omega
    by_cases h1 : checkL l[i] = 0
    · by_cases h2 : (l[i].length : Int) = d
      · obtain ⟨b, ht, hb⟩ := vloop3 d l hl m (i + 1) (by omega) (fun a k1 k2 => by
          by_cases e : a = i
          · subst e; exact ⟨h1, h2⟩
          · exact ha a (by omega) k2)
        refine ⟨b, Tells.shift ?_, hb⟩; simp only [l30_valid.l0, rdL1_nat hil]
        refine Tells.pos (by omega) (Tells.pos (by omega) (Tells.pos (by omega) (Tells.bind (Check_tells _) (Tells.pos h1 (Tells.pos h2 ?_))))); rw [w64 (n := (i : Int) + 1) (by omega) (by omega)]
        exact ht
      · refine ⟨false, Tells.shift ?_, fun h => by cases h⟩; simp only [l30_valid.l0, rdL1_nat hil]
        exact Tells.pos (by omega) (Tells.pos (by omega) (Tells.pos (by omega) (Tells.bind (Check_tells _) (Tells.pos h1 (Tells.neg h2 Tells.now)))))
    · refine ⟨false, Tells.shift ?_, fun h => by cases h⟩; simp only [l30_valid.l0, rdL1_nat hil]
      exact Tells.pos (by omega) (Tells.pos (by omega) (Tells.pos (by omega) (Tells.bind (Check_tells _) (Tells.neg h1 Tells.now))))
theorem awt4 : Tells (fun _ : Nat => l30_awake.f) true := Tells.now
theorem group_loop {n : Nat} {p : List Int} (hp : Pm n p) (h1 : 1 ≤ n) (h64 : n ≤ 64) {v : List (List Int)} (hv : CycOf n p v) : ∀ (m i : Nat), i + m = 2001 → 1 ≤ i → (∀ j : Nat, 1 ≤ j → j < i → powL n p j ≠ idL n ∧ j ≠ lcmL v) → Tells (fun k => l30_PermGroup.l0 k p ((lcmL v : Nat) : Int) (idL n) (powL n p i) (i : Int)) true
  | 0, i, hi, h0, hpr => by
    refine Tells.shift ?_; simp only [l30_PermGroup.l0]
    exact Tells.neg (by omega) Tells.now
  | m + 1, i, hi, h0, hpr => by
    have hpi := hp.pow i; have hil := hpi.1
    refine Tells.shift ?_; simp only [l30_PermGroup.l0]
    refine Tells.pos (by omega) (Tells.bind (SameInts_tells _ _ (by omega)) ?_)
    have fin : powL n p i = idL n → Tells (fun k => l30_PermGroup.j4 k p ((lcmL v : Nat) : Int) (idL n) (powL n p i) (i : Int) true) true := by
      intro e; have hd := (pow_id_iff hp hv i).1 e; have hle : lcmL v ≤ i := Nat.le_of_dvd (by omega) hd; have hpos : 1 ≤ lcmL v := Nat.pos_of_dvd_of_pos hd (by omega)
      have heq : i = lcmL v := by
        apply Classical.byContradiction; intro hne
        exact (hpr (lcmL v) hpos (by omega)).2 rfl
      refine Tells.shift ?_; simp only [l30_PermGroup.j4]
      exact Tells.pos trivial (Tells.pos (by omega) (Tells.bind (SameInts_tells _ _ (by omega)) (Tells.now' (decide_eq_true e))))
    by_cases e : powL n p i = idL n
    · exact Tells.pos (decide_eq_true e) (fin e)
    · refine Tells.neg (by rw [decide_eq_false e]; decide) ?_
      by_cases e2 : (i : Int) = ((lcmL v : Nat) : Int)
      · exact absurd ((pow_id_iff hp hv i).2 (by rw [show i = lcmL v by omega]; exact Nat.dvd_refl _)) e
      · rw [show ((i : Int) == ((lcmL v : Nat) : Int)) = false from beq_eq_false_iff_ne.2 e2]
        refine Tells.shift ?_; simp only [l30_PermGroup.j4]; have hc := PCompose_tells [powL n p i, p] (by simp); rw [compose2 hpi hp h1 h64] at hc
        refine Tells.neg (by simp) (Tells.bind hc (Tells.pos rfl ?_)); rw [w64 (n := (i : Int) + 1) (by omega) (by omega)]
        exact group_loop hp h1 h64 hv m (i + 1) (by omega) (by omega) (fun j j1 j2 => by
          by_cases e3 : j = i
          · subst e3; exact ⟨e, fun k => e2 (by omega)⟩
          · exact hpr j j1 (by omega))
theorem group_true (p q r : List Int) : ∃ k, l30_PermGroup.f k p q r = some true := by
  apply Tells.some
  unfold l30_PermGroup.f
  refine Tells.bind awt4 (Tells.pos rfl ?_)
  have big : Tells (fun k => l30_PermGroup.j0 k p q r true) true := by
    refine Tells.shift ?_; simp only [l30_PermGroup.j0]
    exact Tells.pos trivial (Tells.bind awt4 Tells.now)
  by_cases g1 : (p.length : Int) > 30
  · exact Tells.pos g1 big
  refine Tells.neg g1 ?_
  by_cases g2 : (q.length : Int) = (p.length : Int)
  · refine Tells.pos g2 ?_
    by_cases g3 : (r.length : Int) = (p.length : Int)
    · refine Tells.pos g3 ?_; obtain ⟨b, hb, hbv⟩ := vloop3 (p.length : Int) [p, q, r] (by simp) 3 0 (by simp) (fun a h => by omega); have hb' : Tells (fun k => l30_valid.f k (p.length : Int) [p, q, r]) b := by unfold l30_valid.f; exact hb
      refine Tells.bind hb' ?_
      cases b with
      | false => exact big
      | true =>
        have hv3 := hbv rfl; have cp := checkL_zero.1 (hv3 p (by simp)).1; have cq := checkL_zero.1 (hv3 q (by simp)).1; have cr := checkL_zero.1 (hv3 r (by simp)).1; have hp : Pm p.length p := cp.1; have hq : Pm p.length q := by have := cq.1; rwa [show q.length = p.length by omega] at this
        have hr : Pm p.length r := by have := cr.1; rwa [show r.length = p.length by omega] at this
        have h1 := cp.2.1; have h64 := cp.2.2
        have cc : ∀ a b : List Int, Pm p.length a → Pm p.length b → Tells (fun k => perm_Compose.f k [a, b]) (mulL a b, 0) := by
          intro a b ha hb; have := PCompose_tells [a, b] (by simp)
          rwa [compose2 ha hb h1 h64] at this
        obtain ⟨v, e, m, _, _, o1, _, _, _, hvo⟩ := CycOrd_tells p; obtain ⟨he, hm, hv⟩ := hvo (hv3 p (by simp)).1; subst he; subst hm; have hinv := PInverse_tells p; have hinv2 : inverseL p = (invL p, 0) := if_pos (hv3 p (by simp)).1; rw [hinv2] at hinv; have hlb := lcm_small (fun c hc => (hv.cyc c hc).1) hv.sum v.length; rw [List.take_of_length_le (Nat.le_refl _)] at hlb; have l1 := (hp.mul hq).mul hr; have hil := l1.1; have hid := idL_len p.length
        refine Tells.shift ?_; simp only [l30_PermGroup.j0]
        refine Tells.neg (by simp) (Tells.bind (cc p q hp hq) (Tells.bind (cc q r hq hr) (Tells.bind (cc _ r (hp.mul hq) hr) (Tells.bind (cc p _ hp (hq.mul hr)) (Tells.bind hinv (Tells.bind (cc p _ hp hp.inv) (Tells.bind (cc _ p hp.inv hp) (Tells.bind o1 ?_))))))))
        refine Tells.pos rfl (Tells.pos rfl (Tells.pos rfl (Tells.pos rfl (Tells.pos rfl (Tells.pos rfl (Tells.pos rfl (Tells.pos rfl (Tells.bind (SameInts_tells _ _ (by show (mulL (mulL p q) r).length ≤ _; omega)) (Tells.pos (decide_eq_true (mul_assoc hp hq hr)) ?_))))))))); rw [show decide ((((lcmL v : Nat) : Int)) < 1) = false from decide_eq_false (by omega)]
        refine Tells.shift ?_; simp only [l30_PermGroup.j1]; rw [mul_inv hp, inv_mul hp]
        refine Tells.neg (by simp) (Tells.bind (Unit_tells p.length (by omega)) (Tells.bind (SameInts_tells _ _ (by omega)) (Tells.pos (by simp) (Tells.bind (SameInts_tells _ _ (by omega)) ?_)))); rw [show (!decide (idL p.length = idL p.length)) = false by simp]
        refine Tells.shift ?_; simp only [l30_PermGroup.j2]
        refine Tells.neg (by simp) ?_; have := group_loop hp h1 h64 hv 2000 1 (by omega) (by omega) (fun j j1 j2 => by omega); rw [pow_one hp] at this
        exact this
    exact Tells.neg g3 big
  exact Tells.neg g2 big
end Go.Proofs.Ytjjlhbgpdncpcaa.P.M
end
section
namespace Go.Proofs.Ytjjlhbgpdncpcaa.P
open Go.ChangeShapes Go.WideShapes Go.ChangeAt Go.RowKit Go.Proofs.YtjjlhbgpdncpcaaW.PrintWords Go.Proofs.YtjjlhbgpdncpcaaW.PrintLast Go.Proofs.YtjjlhbgpdncpcaaW.PrintMore
set_option linter.unusedVariables false
section
variable {H : Type} {enc : TypeId × Value → H} {W : World} {v : Value} {d : DataW H} {ps : List MemPlace} {held : Bool}
set_option maxRecDepth 100000 in
theorem open_list {base : Nat} (hv : Value.okWide Try.prog W .any base 22 v) (h : DataW.Trod enc Try.prog W 0 (fun _ => true) held 22 v d ps) :
    ∃ (a : Option Addr) (c : Nat) (l : List Int), v = .slice a l.length c ∧ (Kd.int .i64).C W a l.length l ∧ l.length ≤ c ∧ ∀ x ∈ l, (Lit.int .i64 x).wf = true := by
  obtain ⟨a, len, cap, rfl⟩ := okWide_slice Try.underlying22 hv
  obtain ⟨fuel, hf⟩ := h
  have key : ∃ zs : List Int, (a = none ∧ len = 0 ∧ cap = 0 ∧ zs = []) ∨ ∃ x, a = some x ∧ len ≤ cap ∧ cap ≤ maxLen ∧ zs.length = cap ∧ (∀ i, i < zs.length → W.cell? (x.add i) = some (.int .i64 (zs.getD i 0))) ∧ ∀ n ∈ zs, (Lit.int .i64 n).wf = true := by
    rcases open_ints Try.underlying22 Try.underlying3 (by kernel_rfl) hf with ⟨hcs, _⟩ | ⟨x, l, c, zs, hcs, _, hl, hm, hz, _, hcell, hwz⟩
    · simp [Value.cells] at hcs; obtain ⟨rfl, rfl, rfl⟩ := hcs
      exact ⟨[], .inl ⟨rfl, rfl, rfl, rfl⟩⟩
    · simp [Value.cells] at hcs; obtain ⟨rfl, rfl, rfl⟩ := hcs
      exact ⟨zs, .inr ⟨_, rfl, hl, hm, by simpa using hz, hcell, hwz⟩⟩
  obtain ⟨zs, hz⟩ := key
  obtain ⟨l, rfl, hr, hm, hw, hc⟩ := ReadsInt.ofRowC hz
  exact ⟨a, cap, l, rfl, Kd.C_of_reads (d := (0 : Int)) (h1 := fun _ => rfl) hr, hc, hw⟩
theorem V_of_C {l : List Int} {a : Option Addr} {c : Nat} (h : (Kd.int .i64).C W a l.length l) (hc : l.length ≤ c) : Kd.V (Kd.int .i64) 3 W W.heap.size (fun k => k < W.heap.size) (.slice a l.length c) l := Kd.V_mk hc (Kd.C_F (Kd.heap_int .i64) h)
end
end Go.Proofs.Ytjjlhbgpdncpcaa.P
end
section
namespace Go.Proofs.Ytjjlhbgpdncpcaa.permGroup
open Go.ChangeShapes Go.WideShapes Go.ChangeAt Go.RowKit Go.Proofs.YtjjlhbgpdncpcaaW.PrintWords Go.Proofs.YtjjlhbgpdncpcaaW.PrintLast Go.Proofs.YtjjlhbgpdncpcaaW.PrintMore
open Go.ChangeMaps (open_string shut_string)
set_option linter.unusedVariables false
theorem own : ownKnob Try.prog.godebug = none := by kernel_rfl
theorem laidOut : laidOutB Try.prog = true := by kernel_rfl
set_option maxRecDepth 100000 in
theorem lifted (os : Os) (started : os.Started) (H : Type) (enc : TypeId × Value → H) :
    ReturnsInHanded {} Try.checked os 4 .any (Rows.permGroupSpec.pre6 enc Try.prog Try.f4 Rows.permGroupRow.domain false) (Rows.permGroupSpec.post enc Try.prog Try.f4 false true false false) := by
  refine returnsInHanded_of_change_sized (C := Try.checked) own started (by kernel_rfl) Try.func4
    (ChangeSpec.witness6 (enc := enc) (C := Try.checked) false ⟨#[], #[.slice none 0 0, .slice none 0 0, .slice none 0 0], []⟩ 8 (by kernel_rfl) (by kernel_rfl) (by kernel_rfl) (by kernel_rfl)) ?_
  intro W base args ds gs before hval0 hW hcnd hsz0 _
  have hval : ∀ (j : Nat) t v, Try.f4.params[j]? = some t → args[j]? = some v → Value.okWide Try.prog W .any base t v := hval0
  have hW' := hW
  obtain ⟨p, q, hA0, hV, rfl, hfz, hnd⟩ := hW
  have hA : DataW.TrodAll enc Try.prog W 0 (fun _ => true) true Try.f4.params.toList args.toList ds p := hA0
  rw [Try.params4] at hA hval
  obtain ⟨v0, vs0, d0, ds0, p0, q0, hargs, rfl, rfl, h0, r0⟩ := trodAll_cons hA
  obtain ⟨v1, vs1, d1, ds1, p1, q1, rfl, rfl, rfl, h1, r1⟩ := trodAll_cons r0
  obtain ⟨v2, vs2, d2, ds2, p2, q2, rfl, rfl, rfl, h2, r2⟩ := trodAll_cons r1
  obtain ⟨rfl, rfl, rfl⟩ := trodAll_nil r2
  obtain rfl : args = #[v0, v1, v2] := by cases args; simp_all
  obtain ⟨rfl, rfl⟩ := trodVars_none hV
  have k0 := h0
  have lt0 : ∀ x ∈ p0, x.block < W.heap.size := by obtain ⟨m, hm⟩ := k0; exact DataW.trod_lt m _ _ _ hm
  obtain ⟨a0, c0, l0, rfl, hr0, hm0, hw0⟩ := P.open_list (hval 0 22 v0 rfl rfl) h0
  have k1 := h1
  have lt1 : ∀ x ∈ p1, x.block < W.heap.size := by obtain ⟨m, hm⟩ := k1; exact DataW.trod_lt m _ _ _ hm
  obtain ⟨a1, c1, l1, rfl, hr1, hm1, hw1⟩ := P.open_list (hval 1 22 v1 rfl rfl) h1
  have k2 := h2
  have lt2 : ∀ x ∈ p2, x.block < W.heap.size := by obtain ⟨m, hm⟩ := k2; exact DataW.trod_lt m _ _ _ hm
  obtain ⟨a2, c2, l2, rfl, hr2, hm2, hw2⟩ := P.open_list (hval 2 22 v2 rfl rfl) h2
  clear hA0 hval0 hsz0
  obtain ⟨k, hk⟩ := P.M.group_true l0 l1 l2
  refine (P.l30_PermGroup.calls k _ _ _ l0 _ _ _ l1 _ _ _ l2 true W (P.V_of_C hr0 hm0) (P.V_of_C hr1 hm1) (P.V_of_C hr2 hm2) hk rfl).mono fun e W' ⟨he, bel⟩ => ?_
  subst he
  exact ⟨_, rfl, _, _, _, [], _, [], hW', trodAll_mk1 (shut_bool Try.underlying4 _), (trodAll_cons_mk (Below.trod laidOut (by kernel_rfl) (of_decide_eq_true (by kernel_rfl)) k0 bel lt0) (trodAll_cons_mk (Below.trod laidOut (by kernel_rfl) (of_decide_eq_true (by kernel_rfl)) k1 bel lt1) (trodAll_cons_mk (Below.trod laidOut (by kernel_rfl) (of_decide_eq_true (by kernel_rfl)) k2 bel lt2) trodAll_mk0))), rfl, bel.frame _, fun h => by cases h⟩
theorem over : Rows.permGroupRow.holds Try.pinned (OpenSpec.ofChange Rows.permGroupSpec) :=
  OpenClaim.holds_of_wide 4 Try.f4 rfl rfl rfl rfl rfl rfl rfl ⟨rfl, rfl, rfl, rfl, rfl⟩ rfl rfl rfl rfl rfl (by kernel_rfl) Try.func4 (by kernel_rfl)
    (of_decide_eq_true (by kernel_rfl)) (by unfold Func.isWrapper; first | (rw [if_pos (by decide +kernel)]; kernel_rfl) | (rw [if_neg (by decide +kernel)]; exact ⟨rfl, rfl⟩))
    (fun os started H enc _ => lifted os started H enc)
end Go.Proofs.Ytjjlhbgpdncpcaa.permGroup
namespace Go.Proofs.Ytjjlhbgpdncpcaa
theorem permGroup_holds : Rows.PermGroupSaid := permGroup.over
end Go.Proofs.Ytjjlhbgpdncpcaa
end
