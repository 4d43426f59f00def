/- What the claim's theorem is built on, part 2: words, walks of the code, and what they tell. -/
import Derived.WalkSpells
import Derived.Deep.RegionLaw
import Derived.Test.YtjjlhbgpdncpcaaMb1
namespace Go.Proofs.Ytjjlhbgpdncpcaa.P
open Go.RowKit Go.Proofs.YtjjlhbgpdncpcaaW.PrintWords Go.Proofs.YtjjlhbgpdncpcaaW.PrintLast Go.Proofs.YtjjlhbgpdncpcaaW.PrintMore
set_option linter.unusedVariables false
set_option linter.unusedSimpArgs false
set_option maxHeartbeats 8000000
set_option maxRecDepth 100000
section
attribute [local go_sem] max2_int min2_int max_two min_two max_three min_three max_four min_four
mutual
def r30_Group.l0 : Nat → List (List Int) → List Bool → List (List Int) → Int → Option ((List (List Int)))
  | 0, _, _, _, _ => none
  | k + 1, x1, x5, x6, x7 => if x7 < (x6.length : Int) then (r30_Group.l1 k x1 x5 x6 x7 0) else (r30_Group.l2 k x6 1)
def r30_Group.l1 : Nat → List (List Int) → List Bool → List (List Int) → Int → Int → Option ((List (List Int)))
  | 0, _, _, _, _, _ => none
  | k + 1, x1, x5, x6, x7, x8 => if x8 < (x1.length : Int) then (if 0 ≤ x7 then (if x7 < (x6.length : Int) then (if 0 ≤ x8 then ((r30_Then.f k (rd_L1 x6 x7) (rd_L1 x1 x8)).bind fun t552 => ((r30_code.f k t552).bind fun t555 => (if 0 ≤ t555 then (if t555 < (x5.length : Int) then (if rdOf false x5 t555 = true then (r30_Group.l1 k x1 x5 x6 x7 (wrap64 (x8 + 1))) else ((r30_code.f k t552).bind fun t557 => (if 0 ≤ t557 then (if t557 < (x5.length : Int) then (if x6.length < 5864062014805 then (r30_Group.l1 k x1 (x5.set (t557 : Int).toNat true) (x6 ++ [t552]) x7 (wrap64 (x8 + 1))) else (none)) else (none)) else (none)))) else (none)) else (none)))) else (none)) else (none)) else (none)) else (r30_Group.l0 k x1 x5 x6 (wrap64 (x7 + 1)))
def r30_Group.l2 : Nat → List (List Int) → Int → Option ((List (List Int)))
  | 0, _, _ => none
  | k + 1, x6, x10 => if x10 < (x6.length : Int) then (r30_Group.l3 k x6 x10 x10) else (some x6)
def r30_Group.l3 : Nat → List (List Int) → Int → Int → Option ((List (List Int)))
  | 0, _, _, _ => none
  | k + 1, x6, x10, x11 => if x11 > 0 then (if 0 ≤ x11 then (if x11 < (x6.length : Int) then (if 0 ≤ (wrap64 (x11 - 1)) then (if (wrap64 (x11 - 1)) < (x6.length : Int) then ((r30_Less.f k (rd_L1 x6 x11) (rd_L1 x6 (wrap64 (x11 - 1)))).bind fun t564 => (if t564 = true then (r30_Group.l3 k ((x6.set (x11 : Int).toNat (rd_L1 x6 (wrap64 (x11 - 1)))).set ((wrap64 (x11 - 1)) : Int).toNat (rd_L1 x6 x11)) x10 (wrap64 (x11 - 1))) else (r30_Group.l2 k x6 (wrap64 (x10 + 1))))) else (none)) else (none)) else (none)) else (none)) else (r30_Group.l2 k x6 (wrap64 (x10 + 1)))
end
def r30_Group.f (k : Nat) (a0 : Int) (l1 : List (List Int)) : Option ((List (List Int))) := if 46656 ≤ 281474976710656 then ((some (List.replicate 46656 false : List Bool)).bind fun y538 => ((r30_Unit.f k a0).bind fun t541 => ((some (([t541] : List (List Int)) : List (List Int))).bind fun y544 => (if 0 < (y544.length : Int) then ((r30_code.f k (rd_L1 y544 0)).bind fun t548 => (if 0 ≤ t548 then (if t548 < (y538.length : Int) then (r30_Group.l0 k l1 (y538.set (t548 : Int).toNat true) y544 0) else (none)) else (none))) else (none))))) else (none)
def r30_Group.T20 : Bool × List (List Nat × List Nat) := (true, [([], []), ([], []), ([], []), ([], []), ([3], [3]), ([], []), ([], []), ([6], [6]), ([5, 7], [5, 7]), ([8], [8]), ([], []), ([], []), ([10, 11], [10, 11]), ([12], [12]), ([0, 1, 0, 1, 5, 6, 7, 8, 9, 13], [0, 1]), ([14, 9, 0, 1, 5, 6, 7, 8, 9, 13], [9, 14]), ([2, 4, 0, 1, 2, 3, 4, 5, 6, 7, 8, 9, 10, 11, 12, 13, 14, 15], [2, 4]), ([16, 13, 15, 0, 1, 2, 3, 4, 5, 6, 7, 8, 9, 10, 11, 12, 13, 14, 15], [13, 16])])
def r30_Group.B20 : List Nat := [0, 0, 0, 0, 8, 0, 0, 64, 224, 480, 0, 0, 3072, 7168, 16355, 32739, 65535, 131071]
theorem r30_Group.tab20 : rtab .any (opsOf Try.f64 20) = r30_Group.T20 := by kernel_rfl
theorem r30_Group.bits20 : waitsOk r30_Group.T20.2 r30_Group.B20 = true := by kernel_rfl
def r30_Group.T10 : Bool × List (List Nat × List Nat) := (true, [([], []), ([], []), ([0, 1], [0, 1]), ([2], [2]), ([], []), ([], []), ([4, 5], [4, 5]), ([6], [6]), ([3, 7], [3, 7]), ([8, 8, 0, 1, 2, 3, 4, 5, 6, 7, 8], [8])])
def r30_Group.B10 : List Nat := [0, 0, 3, 7, 0, 0, 48, 112, 255, 511]
theorem r30_Group.tab10 : rtab .any (opsOf Try.f64 10) = r30_Group.T10 := by kernel_rfl
theorem r30_Group.bits10 : waitsOk r30_Group.T10.2 r30_Group.B10 = true := by kernel_rfl
def r30_Group.T18 : Bool × List (List Nat × List Nat) := (true, [([], []), ([0], [0]), ([1], [1]), ([2], [2]), ([2], [2]), ([3, 4, 2], [2, 3, 4]), ([5, 2], [2, 5]), ([2], [2]), ([2], [2]), ([8, 2], [2, 8]), ([7, 9, 2], [2, 7, 9]), ([10, 2], [2, 10]), ([6, 11, 2, 2], [2, 6, 11]), ([2, 12], [2, 12])])
def r30_Group.B18 : List Nat := [0, 1, 3, 7, 7, 31, 63, 7, 7, 263, 903, 1927, 4095, 8191]
theorem r30_Group.tab18 : rtab .any (opsOf Try.f64 18) = r30_Group.T18 := by kernel_rfl
theorem r30_Group.bits18 : waitsOk r30_Group.T18.2 r30_Group.B18 = true := by kernel_rfl
theorem r30_Group.calls (k : Nat) (a0 : Int) (A1 : Option Addr) (c1 : Nat) (l1 : List (List Int)) (r : List (List Int)) (w : World) (hr1 : Kd.C (Kd.slice 3 (Kd.int .i64)) w A1 l1.length l1) (hc1 : l1.length ≤ c1) (h : r30_Group.f k a0 l1 = some r) :
    Calls Try.prog 64 #[.int .i64 a0, .slice A1 l1.length c1] w fun e w' => ∃ v0_ : Value, e = .returned (v0_) ∧ Kd.N (Kd.slice 3 (Kd.int .i64)) 22 w' w.heap.size (fun k_ => (w.heap.size ≤ k_)) v0_ r ∧ Below w.heap.size w w' := by
  have HR1 := aM hr1
  have HC1 := aM hc1
  clear hr1 hc1
  have HB := aM (Below.refl w.heap.size w)
  have H : (if 46656 ≤ 281474976710656 then ((some (List.replicate 46656 false : List Bool)).bind fun y538 => ((r30_Unit.f k a0).bind fun t541 => ((some (([t541] : List (List Int)) : List (List Int))).bind fun y544 => (if 0 < (y544.length : Int) then ((r30_code.f k (rd_L1 y544 0)).bind fun t548 => (if 0 ≤ t548 then (if t548 < (y538.length : Int) then (r30_Group.l0 k l1 (y538.set (t548 : Int).toNat true) y544 0) else (none)) else (none))) else (none))))) else (none)) = some r := h
  clear h
  by_cases c3 : 46656 ≤ 281474976710656
  · rw [if_pos c3] at H
    have c3b0 := eq_true c3; have c3b1 := decide_eq_true c3; clear c3; obtain ⟨y538, hy538⟩ : ∃ y_ : List Bool, y_ = (List.replicate 46656 false) := ⟨_, rfl⟩; replace H : ((r30_Unit.f k a0).bind fun t541 => ((some (([t541] : List (List Int)) : List (List Int))).bind fun y544 => (if 0 < (y544.length : Int) then ((r30_code.f k (rd_L1 y544 0)).bind fun t548 => (if 0 ≤ t548 then (if t548 < (y538.length : Int) then (r30_Group.l0 k l1 (y538.set (t548 : Int).toNat true) y544 0) else (none)) else (none))) else (none)))) = some r := by first | (rw [hy538]; with_reducible exact H) | (have H2_ := (Option.bind_some _ _).symm.trans H; rw [hy538]; with_reducible exact H2_) | (have H2_ := (Option.bind_some _ _).symm.trans H; with_reducible exact H2_) | with_reducible exact H | (rw [hy538]; exact H) | exact H
    have Ny538 := aM hy538; clear hy538; replace H := Option.bind_eq_some_iff.mp H; obtain ⟨t541, A40, H⟩ := H; replace H : ((some (([t541] : List (List Int)) : List (List Int))).bind fun y544 => (if 0 < (y544.length : Int) then ((r30_code.f k (rd_L1 y544 0)).bind fun t548 => (if 0 ≤ t548 then (if t548 < (y538.length : Int) then (r30_Group.l0 k l1 (y538.set (t548 : Int).toNat true) y544 0) else (none)) else (none))) else (none))) = some r := H; have A4 := aM A40; clear A40; obtain ⟨y544, hy544⟩ : ∃ y_ : List (List Int), y_ = (([t541] : List (List Int))) := ⟨_, rfl⟩; replace H : (if 0 < (y544.length : Int) then ((r30_code.f k (rd_L1 y544 0)).bind fun t548 => (if 0 ≤ t548 then (if t548 < (y538.length : Int) then (r30_Group.l0 k l1 (y538.set (t548 : Int).toNat true) y544 0) else (none)) else (none))) else (none)) = some r := by first | (rw [hy544]; with_reducible exact H) | (have H2_ := (Option.bind_some _ _).symm.trans H; rw [hy544]; with_reducible exact H2_) | (have H2_ := (Option.bind_some _ _).symm.trans H; with_reducible exact H2_) | with_reducible exact H | (rw [hy544]; exact H) | exact H
    have Ny544 := aM hy544; clear hy544
    by_cases c5 : 0 < (y544.length : Int)
    · rw [if_pos c5] at H; have c5b0 := decide_eq_true c5; have c5b1 : decide (0 < y544.length) = true := decide_eq_true (by omega); clear c5; replace H := Option.bind_eq_some_iff.mp H; obtain ⟨t548, A60, H⟩ := H; replace H : (if 0 ≤ t548 then (if t548 < (y538.length : Int) then (r30_Group.l0 k l1 (y538.set (t548 : Int).toNat true) y544 0) else (none)) else (none)) = some r := H; have A6 := aM A60; clear A60
      by_cases c7 : 0 ≤ t548
      · rw [if_pos c7] at H; have c7b0 := decide_eq_true c7; clear c7
        by_cases c8 : t548 < (y538.length : Int)
        · rw [if_pos c8] at H; have c8b0 := decide_eq_true c8; clear c8; obtain ⟨y549, hy549⟩ : ∃ y_ : List Bool, y_ = (y538.set (t548 : Int).toNat true) := ⟨_, rfl⟩; replace H : (r30_Group.l0 k l1 y549 y544 0) = some r := by first | (rw [hy549]; with_reducible exact H) | (have H2_ := (Option.bind_some _ _).symm.trans H; rw [hy549]; with_reducible exact H2_) | (have H2_ := (Option.bind_some _ _).symm.trans H; with_reducible exact H2_) | with_reducible exact H | (rw [hy549]; exact H) | exact H
          have Ny549 := aM hy549; clear hy549; have H' := aM H; clear H
          go_enter Try.func64, Try.ntmps64
          go_wp2_with (first | ((with_reducible refine gate_dst (N := 12) rfl ?_); refine Kd.R_make Kd.bool _ 4 rfl (N := 12) rfl 83 _ _ rfl 46656 rfl rfl Try.underlying83 (.bool false) 1 info4 rfl (by decide) (by omega) false (ok := fun _ => True) (okp := fun _ => True) rfl (fun _ hk => hk) trivial (by omega) (by omega) (Below.refl _ _) (Nat.le_refl _) ?_; intro v539 w10 ho11 hb hg_ hnew_; clear hg_ hnew_; (first | rw [← Ny538.out] at ho11 | (simp only [Int.reduceToNat] at ho11; rw [← Ny538.out] at ho11)); have HO540 := aM (Kd.R_lower (Kd.R_newM (M := fun k_ => (w.heap.size ≤ k_)) ho11 (below_size zz88) (fun k_ h_ => h_)) (below_size zz88)); replace HB := aM (below_step zz88 hb); clear hb ho11) | ((with_reducible refine gate_callee (f := 26) rfl ?_); refine goesL_ (some 14) rfl rfl Try.func26 (by kernel_rfl) rfl #[.int .i64 a0] rfl zz87 ?_; (with_reducible refine (r30_Unit.calls k a0 t541 _ A4.out).mono ?_); rintro e w12 ⟨v542, rfl, ho0, hb⟩; refine ⟨_, rfl, ?_⟩; replace HO540 := aM (Kd.R_below (zR HO540) hb); have HO543 := aM (Kd.R_lower (Kd.R_newM (M := fun k_ => (w.heap.size ≤ k_)) ho0 (below_size zz88) (fun k_ h_ => h_)) (below_size zz88)); replace HB := aM (below_step zz88 hb); (try clear hb); (try clear hb2); (try clear hk); (try clear hi); (try clear ho0); obtain ⟨Ao13, co13, eo13⟩ := Kd.R_slice HO543.out; subst eo13) | ((with_reducible refine gate_dst (N := 15) rfl ?_); refine Kd.N_lit (Kd.slice 3 (Kd.int .i64)) _ 22 ?hg (N' := 15) ?hd (xs := ([t541] : List (List Int))) (inner := [.slice Ao13 t541.length co13]) (ok := (fun k_ => (w.heap.size ≤ k_) ∧ some k_ ≠ (v539 : Value).ownBlock)) (okp := (fun k_ => (w.heap.size ≤ k_) ∧ some k_ ≠ (v539 : Value).ownBlock)) ?hr ?hp (fun _ hk => hk) ((show ∀ k_, w12.heap.size ≤ k_ → (fun k_ => (w.heap.size ≤ k_) ∧ some k_ ≠ (v539 : Value).ownBlock) k_ from fun k_ hk => ⟨(Nat.le_trans (below_size zz88) hk), Kd.fresh' (Kd.R_lt (zR HO540)) k_ hk⟩) _ (Nat.le_refl _)) (Below.refl _ _) (Nat.le_refl _) (by simp) ?_; (case hd => rfl); (case hg => rfl); (case hr => first | (go_simp; done) | (go_simp; rfl)); (case hp => exact (Reps.one (show Kd.FK (Kd.slice 3 (Kd.int .i64)) _ _ t541 [.slice Ao13 t541.length co13] from (Kd.FK_slice_mk (Kd.R_reads' (Kd.R_mono (ok' := (fun k_ => (w.heap.size ≤ k_) ∧ some k_ ≠ (v539 : Value).ownBlock)) (Kd.R_apart' (HO543.out) (Kd.R_typed HO540.out) (by decide)) (fun k_ hk => by first | exact ⟨hk.1.1, hk.2⟩ | ((repeat' apply And.intro) <;> (first | exact hk | exact hk.1 | exact hk.2 | exact hk.1.1 | exact hk.1.2 | exact hk.2.1 | exact hk.2.2 | exact hk.1.1.1 | exact hk.1.1.2 | exact hk.1.2.1 | exact hk.1.2.2 | exact hk.2.1.1 | exact hk.2.1.2 | exact hk.2.2.1 | exact hk.2.2.2 | exact hk.1.1.1.1 | exact hk.1.1.1.2 | exact hk.2.2.2.1 | exact hk.2.2.2.2))))).2.1 (Kd.R_F (Kd.R_mono (ok' := (fun k_ => (w.heap.size ≤ k_) ∧ some k_ ≠ (v539 : Value).ownBlock)) (Kd.R_apart' (HO543.out) (Kd.R_typed HO540.out) (by decide)) (fun k_ hk => by first | exact ⟨hk.1.1, hk.2⟩ | ((repeat' apply And.intro) <;> (first | exact hk | exact hk.1 | exact hk.2 | exact hk.1.1 | exact hk.1.2 | exact hk.2.1 | exact hk.2.2 | exact hk.1.1.1 | exact hk.1.1.2 | exact hk.1.2.1 | exact hk.1.2.2 | exact hk.2.1.1 | exact hk.2.1.2 | exact hk.2.2.1 | exact hk.2.2.2 | exact hk.1.1.1.1 | exact hk.1.1.1.2 | exact hk.2.2.2.1 | exact hk.2.2.2.2))))))) (Reps.none _ _))); intro v545 w14 ho15 hb hg_ hnew_; clear hg_ hnew_; (first | rw [← Ny544.out] at ho15 | (simp only [Int.reduceToNat] at ho15; rw [← Ny544.out] at ho15)); replace HO540 := aM (Kd.R_below (zR HO540) hb); have HO546 := aM (Kd.N_lower ho15 (below_size zz88)); replace HB := aM (below_step zz88 hb); clear HO543; clear hb ho15; obtain ⟨Ao16, co16, eo16⟩ := Kd.N_slice HO546.out; subst eo16; have p547 : 0 ≤ (0 : Int) := (by omega); have q547 : 0 < (y544.length : Int) := of_decide_eq_true zz111; obtain ⟨ad547, A547_0, c547_0, e547, hx547_0, hl547_0, hi547_0⟩ := at_L1 (Kd.N_reads' HO546.out).2.2 0 p547 q547; cases e547; obtain ⟨ce547, hce547, hMe547, hcc547⟩ := Kd.N_get HO546.out [] 0 p547 (by first | exact q547 | exact of_decide_eq_true zz111 | (have e_ := (Kd.N_reads' HO546.out).1; omega)); obtain ⟨ua547_0, uc547_0, rfl, ul547_0, ge547_0⟩ := Kd.FK_slice_open hMe547; have hv547_0 := hcc547 0 _ rfl; rw [Nat.add_zero, show ((Kd.slice 3 (Kd.int .i64))).sz = 1 from rfl, Nat.mul_one] at hv547_0; replace hv547_0 := Option.some.inj (hv547_0.symm.trans hx547_0); injection hv547_0 with hva_ hvn_ hvc_; rw [hva_] at ge547_0; rw [hvc_] at ul547_0; have HL547_0 := aM (show Kd.V (Kd.int .i64) 3 _ w.heap.size _ _ (rd_L1 y544 0) from Kd.V_mk ul547_0 ge547_0); clear hva_ hvn_ hvc_ ge547_0 ul547_0; clear hcc547 hce547; have qi547 : (0 < y544.length) = True := eq_true (by omega); (try rw [show ((0 : Int)).toNat = 0 from rfl] at hx547_0); (try rw [Addr.add_zero'] at hx547_0); have HR547_0 := aM hi547_0; have HC547_0 := aM hl547_0; clear hi547_0 hl547_0; replace p547 := eq_true p547; replace q547 := eq_true q547) | ((with_reducible refine gate_callee (f := 88) rfl ?_); refine goesL_ (some 20) rfl rfl Try.func88 (by kernel_rfl) rfl #[.slice A547_0 (rd_L1 y544 0).length c547_0] rfl zz87 ?_; (with_reducible refine (r30_code.calls k _ _ (rd_L1 y544 0) t548 _ ?side1 ?side2 A6.out).mono ?_); (case side1 => repeat (first | exact zz56 | (with_reducible refine Kd.C_alloc ?_ _) | (with_reducible refine Kd.C_drewN ?_ _) | (with_reducible refine Kd.C_drew ?_))); (case side2 => exact HC547_0.out); rintro e w' ⟨rfl, ⟨nd, rfl⟩⟩; refine ⟨_, rfl, ?_⟩; (try (rw [drewN_self w14]; generalize hq_ : World.drewN w14 _ = w14; have n0_ : Aside0 (Kd.V (Kd.int .i64) 3 w14 w.heap.size (fun k_ => (w.heap.size ≤ k_) ∧ some k_ ≠ (v539 : Value).ownBlock ∧ some k_ ≠ (.slice (some ad547) y544.length co16 : Value).ownBlock) (.slice A547_0 (rd_L1 y544 0).length c547_0) (rd_L1 y544 0)) := ⟨(by rw [← hq_]; exact (by (with_reducible repeat (first | apply Kd.V_alloc | apply Kd.V_drewN | apply Kd.V_drew)); exact Kd.V_mono HL547_0.out (fun _ hk => by first | exact ⟨hk.1.1, ⟨hk.1.2, hk.2⟩⟩ | ((repeat' apply And.intro) <;> (first | exact hk | exact hk.1 | exact hk.2 | exact hk.1.1 | exact hk.1.2 | exact hk.2.1 | exact hk.2.2 | exact hk.1.1.1 | exact hk.1.1.2 | exact hk.1.2.1 | exact hk.1.2.2 | exact hk.2.1.1 | exact hk.2.1.2 | exact hk.2.2.1 | exact hk.2.2.2 | exact hk.1.1.1.1 | exact hk.1.1.1.2 | exact hk.2.2.2.1 | exact hk.2.2.2.2)))))⟩; have n1_ : Aside0 (Kd.R Kd.bool 4 w14 w.heap.size (fun k_ => (w.heap.size ≤ k_)) v539 y538) := ⟨(by rw [← hq_]; exact (by (with_reducible repeat (first | apply Kd.R_alloc | apply Kd.R_drewN | apply Kd.R_drew)); exact Kd.R_mono HO540.out (fun _ hk => by first | exact hk.1 | ((repeat' apply And.intro) <;> (first | exact hk | exact hk.1 | exact hk.2 | exact hk.1.1 | exact hk.1.2 | exact hk.2.1 | exact hk.2.2 | exact hk.1.1.1 | exact hk.1.1.2 | exact hk.1.2.1 | exact hk.1.2.2 | exact hk.2.1.1 | exact hk.2.1.2 | exact hk.2.2.1 | exact hk.2.2.2 | exact hk.1.1.1.1 | exact hk.1.1.1.2 | exact hk.2.2.2.1 | exact hk.2.2.2.2)))))⟩; have n2_ : Aside0 (Kd.N (Kd.slice 3 (Kd.int .i64)) 22 w14 w.heap.size (fun k_ => (w.heap.size ≤ k_) ∧ some k_ ≠ (v539 : Value).ownBlock) (.slice (some ad547) y544.length co16) y544) := ⟨(by rw [← hq_]; exact (zN HO546))⟩; have n3_ : Aside0 (Below w.heap.size w w14) := ⟨zz75⟩; have n4_ : Aside0 (Kd.C (Kd.int .i64) w14 A547_0 (rd_L1 y544 0).length (rd_L1 y544 0)) := ⟨(by rw [← hq_]; exact zz56)⟩; clear HL547_0 HO540 HO546 HB HR547_0 hq_; have HL547_0 := n0_; have HO540 := n1_; have HO546 := n2_; have HB := n3_; have HR547_0 := n4_; clear n0_ n1_ n2_ n3_ n4_)); have p9 : 0 ≤ (t548 : Int) := of_decide_eq_true zz111; have q9 : (t548 : Int) < ((y538.length : Int) : Int) := of_decide_eq_true zz111; obtain ⟨go9, co9, eo9, gb9, gl9, cl9, HG9⟩ := Kd.R_form HO540.out (by omega); (first | cases eo9 | (injection eo9 with ea_ en_ ec_; (first | subst ea_ | (injection ea_ with ea_; subst ea_)); subst ec_; clear en_)); have GB9 := aM gb9; have GG9 := aM HG9; clear gb9 gl9 HG9; obtain ⟨hx9_0, hf9_0⟩ := Kd.R_celln false HO540.out (t548 : Int) p9 q9; replace p9 := eq_true p9; replace q9 := eq_true q9; have n_ := aM (Kd.R_mono (ok' := (fun k_ => (w.heap.size ≤ k_))) HO540.out (fun k_ hk => by first | exact hk.1 | ((repeat' apply And.intro) <;> (first | exact hk | exact hk.1 | exact hk.2 | exact hk.1.1 | exact hk.1.2 | exact hk.2.1 | exact hk.2.2 | exact hk.1.1.1 | exact hk.1.1.2 | exact hk.1.2.1 | exact hk.1.2.2 | exact hk.2.1.1 | exact hk.2.1.2 | exact hk.2.2.1 | exact hk.2.2.2 | exact hk.1.1.1.1 | exact hk.1.1.1.2 | exact hk.2.2.2.1 | exact hk.2.2.2.2)))); clear HO540; have HO540 := n_; clear n_; obtain ⟨hy17_, hz17_⟩ := Kd.R_celln false HO540.out (t548 : Int) (of_decide_eq_true zz111) (of_decide_eq_true zz111); have HP17 := Kd.R_putg HO540.out (t548 : Int) true) | ((with_reducible refine gate_store (t := 4) (p := 21) rfl ?_); refine store_event (t := 4) (p := 21) (v := ?vo_w18) (w1 := (w14.setCell ⟨go9, (t548 : Int).toNat, none⟩ (.bool true))) ?hg ?ho ?hn ?hr ?_; (case ho => rfl); (case hg => rfl); (case hn => rfl); (case hr => first | (go_simp; done) | (go_simp; rfl)); intro w18 hw; have hg : w14.grownBy w18 (some go9) := (by rw [hw]; exact HP17.2); have hp_ : Kd.R Kd.bool 4 w18 w.heap.size (fun k_ => (w.heap.size ≤ k_)) (.slice (some ⟨go9, 0, none⟩) y538.length co9) y549 := (by rw [hw, Ny549.out]; exact HP17.1); clear HP17; replace HO540 := aM (hp_); replace HO546 := aM (Kd.N_afterv (v := (.slice (some ⟨go9, 0, none⟩) y538.length co9)) (v1 := (.slice (some ⟨go9, 0, none⟩) y538.length co9)) (ok := (fun k_ => (w.heap.size ≤ k_))) (zN HO546) hg (.inl rfl)); replace HL547_0 := aM (Kd.V_afterv (v := (.slice (some ⟨go9, 0, none⟩) y538.length co9)) (v1 := (.slice (some ⟨go9, 0, none⟩) y538.length co9)) (ok := (fun k_ => (w.heap.size ≤ k_) ∧ some k_ ≠ (.slice (some ad547) y544.length co16 : Value).ownBlock)) (by (with_reducible repeat (first | apply Kd.V_alloc | apply Kd.V_drewN | apply Kd.V_drew)); exact Kd.V_mono HL547_0.out (fun _ hk => by first | exact ⟨⟨hk.1.1, hk.2⟩, hk.1.2⟩ | ((repeat' apply And.intro) <;> (first | exact hk | exact hk.1 | exact hk.2 | exact hk.1.1 | exact hk.1.2 | exact hk.2.1 | exact hk.2.2 | exact hk.1.1.1 | exact hk.1.1.2 | exact hk.1.2.1 | exact hk.1.2.2 | exact hk.2.1.1 | exact hk.2.1.2 | exact hk.2.2.1 | exact hk.2.2.2 | exact hk.1.1.1.1 | exact hk.1.1.1.2 | exact hk.2.2.2.1 | exact hk.2.2.2.2)))) hg (.inl rfl)); replace HB := aM ((by rw [hw]; exact below_set (HB.out) GB9.out : Below w.heap.size w w18)); clear hg hw hp_))
          go_loopg [6, 7] k (fun kq v6 v7 w' => ∃ (x5_1 : List Bool) (x6_1 : List (List Int)) (x7_1 : Int), v7 = .int .i64 x7_1 ∧ Aside0 (r30_Group.l0 kq l1 x5_1 x6_1 x7_1 = some r) ∧ Aside0 (kq ≤ k) ∧ Aside0 (Kd.R Kd.bool 4 w' w.heap.size (fun k_ => (w.heap.size ≤ k_)) (.slice (some ⟨go9, 0, none⟩) y538.length co9) x5_1) ∧ Aside0 (Kd.N (Kd.slice 3 (Kd.int .i64)) 22 w' w.heap.size (fun k_ => (w.heap.size ≤ k_) ∧ some k_ ≠ ((.slice (some ⟨go9, 0, none⟩) y538.length co9) : Value).ownBlock) v6 x6_1) ∧ Aside0 (Below w.heap.size w w'))
          case atStart => exact ⟨(y549), (y544), (0), zz112, H', ⟨Nat.le_refl _⟩, ⟨(zR HO540)⟩, ⟨(zN HO546)⟩, ⟨zz88⟩⟩
          case round =>
            clear H'; (try clear c1); (try clear c2); (try clear p2); (try clear c3); (try clear c3b0); (try clear c3b1); (try clear c5); (try clear c5b0); (try clear c5b1); (try clear p5); (try clear q5); (try clear hx5); (try clear qi5); (try clear c6); (try clear c7); (try clear c7b0); (try clear c8); (try clear c8b0); (try clear p9); (try clear q9); (try clear hx9); (try clear hf9); (try clear hx547_0); (try clear hx9_0); (try clear p547); (try clear p9); (try clear q547); (try clear q9); obtain ⟨x5_1, x6_1, x7_1, rfl, HA, HK1, HO_5, HO_6, HB⟩ := hrel; have hl5_1 := (Kd.R_reads' HO_5.out).1; rw [hl5_1] at HO_5
            (try simp only [hl5_1])
            (try simp only [hl5_1] at HO_6)
            cases gk with
            | zero => exact absurd HA.out (by simp [r30_Group.l0])
            | succ k1 =>
              have H := HA.out; clear HA; simp only [r30_Group.l0] at H
              by_cases c19 : x7_1 < (x6_1.length : Int)
              · rw [if_pos c19] at H; have c19b0 := decide_eq_true c19; clear c19; have H' := aM H; clear H; obtain ⟨Ao20, co20, eo20⟩ := Kd.N_slice HO_6.out; subst eo20; go_wp2
                go_loopg [6, 8] k1 (fun kq v6 v8 w' => ∃ (x5_2 : List Bool) (x6_2 : List (List Int)) (x8_2 : Int), v8 = .int .i64 x8_2 ∧ Aside0 (r30_Group.l1 kq l1 x5_2 x6_2 x7_1 x8_2 = some r) ∧ Aside0 (kq ≤ k1) ∧ Aside0 (Kd.R Kd.bool 4 w' w.heap.size (fun k_ => (w.heap.size ≤ k_)) (.slice (some ⟨go9, 0, none⟩) x5_1.length co9) x5_2) ∧ Aside0 (Kd.N (Kd.slice 3 (Kd.int .i64)) 22 w' w.heap.size (fun k_ => (w.heap.size ≤ k_) ∧ some k_ ≠ ((.slice (some ⟨go9, 0, none⟩) x5_1.length co9) : Value).ownBlock) v6 x6_2) ∧ Aside0 (Below w.heap.size w w'))
                case atStart => exact ⟨(x5_1), (x6_1), (0), zz112, H', ⟨Nat.le_refl _⟩, ⟨(by (try simp only [hl5_1]); (with_reducible repeat (first | apply Kd.R_alloc | apply Kd.R_drewN | apply Kd.R_drew)); exact HO_5.out)⟩, ⟨(by (try simp only [hl5_1]); (with_reducible repeat (first | apply Kd.N_alloc | apply Kd.N_drewN | apply Kd.N_drew)); exact HO_6.out)⟩, ⟨zz88⟩⟩
                case round =>
                  clear H'; (try clear c1); (try clear c2); (try clear p2); (try clear c3); (try clear c3b0); (try clear c3b1); (try clear c5); (try clear c5b0); (try clear c5b1); (try clear p5); (try clear q5); (try clear hx5); (try clear qi5); (try clear c6); (try clear c7); (try clear c7b0); (try clear c8); (try clear c8b0); (try clear p9); (try clear q9); (try clear hx9); (try clear hf9); (try clear c19); (try clear c19b0); (try clear hx547_0); (try clear hx9_0); (try clear p2); (try clear p5); (try clear p547); (try clear p9); (try clear q5); (try clear q547); (try clear q9); obtain ⟨x5_2, x6_2, x8_2, rfl, HA, HK2, HO_5, HO_6, HB⟩ := hrel; have hl5_2 := (Kd.R_reads' HO_5.out).1; rw [hl5_2] at HO_5
                  (try simp only [hl5_2])
                  (try simp only [hl5_2] at HO_6)
                  cases gk with
                  | zero => exact absurd HA.out (by simp [r30_Group.l1])
                  | succ k2 =>
                    have H := HA.out; clear HA; simp only [r30_Group.l1] at H
                    by_cases c21 : x8_2 < (l1.length : Int)
                    · rw [if_pos c21] at H; have c21b0 := decide_eq_true c21; clear c21
                      by_cases c22 : 0 ≤ x7_1
                      · rw [if_pos c22] at H; have c22b0 := decide_eq_true c22; clear c22
                        by_cases c23 : x7_1 < (x6_2.length : Int)
                        · rw [if_pos c23] at H; have c23b0 := decide_eq_true c23; clear c23
                          by_cases c24 : 0 ≤ x8_2
                          · rw [if_pos c24] at H; have c24b0 := decide_eq_true c24; clear c24; replace H := Option.bind_eq_some_iff.mp H; obtain ⟨t552, A250, H⟩ := H; replace H : ((r30_code.f k2 t552).bind fun t555 => (if 0 ≤ t555 then (if t555 < (x5_2.length : Int) then (if rdOf false x5_2 t555 = true then (r30_Group.l1 k2 l1 x5_2 x6_2 x7_1 (wrap64 (x8_2 + 1))) else ((r30_code.f k2 t552).bind fun t557 => (if 0 ≤ t557 then (if t557 < (x5_2.length : Int) then (if x6_2.length < 5864062014805 then (r30_Group.l1 k2 l1 (x5_2.set (t557 : Int).toNat true) (x6_2 ++ [t552]) x7_1 (wrap64 (x8_2 + 1))) else (none)) else (none)) else (none)))) else (none)) else (none))) = some r := H; have A25 := aM A250; clear A250; replace H := Option.bind_eq_some_iff.mp H; obtain ⟨t555, A260, H⟩ := H; replace H : (if 0 ≤ t555 then (if t555 < (x5_2.length : Int) then (if rdOf false x5_2 t555 = true then (r30_Group.l1 k2 l1 x5_2 x6_2 x7_1 (wrap64 (x8_2 + 1))) else ((r30_code.f k2 t552).bind fun t557 => (if 0 ≤ t557 then (if t557 < (x5_2.length : Int) then (if x6_2.length < 5864062014805 then (r30_Group.l1 k2 l1 (x5_2.set (t557 : Int).toNat true) (x6_2 ++ [t552]) x7_1 (wrap64 (x8_2 + 1))) else (none)) else (none)) else (none)))) else (none)) else (none)) = some r := H; have A26 := aM A260; clear A260
                            by_cases c27 : 0 ≤ t555
                            · rw [if_pos c27] at H; have c27b0 := decide_eq_true c27; clear c27
                              by_cases c28 : t555 < (x5_2.length : Int)
                              · rw [if_pos c28] at H; have c28b0 := decide_eq_true c28; clear c28; obtain ⟨bq29, hbq29⟩ : ∃ b_ : Bool, b_ = (rdOf false x5_2 t555) := ⟨_, rfl⟩; replace H : (if bq29 = true then (r30_Group.l1 k2 l1 x5_2 x6_2 x7_1 (wrap64 (x8_2 + 1))) else ((r30_code.f k2 t552).bind fun t557 => (if 0 ≤ t557 then (if t557 < (x5_2.length : Int) then (if x6_2.length < 5864062014805 then (r30_Group.l1 k2 l1 (x5_2.set (t557 : Int).toNat true) (x6_2 ++ [t552]) x7_1 (wrap64 (x8_2 + 1))) else (none)) else (none)) else (none)))) = some r := by rw [← hbq29] at H; exact H
                                have Nbq29 := aM hbq29; clear hbq29
                                by_cases c30 : bq29 = true
                                · subst c30; have H1 : (r30_Group.l1 k2 l1 x5_2 x6_2 x7_1 (wrap64 (x8_2 + 1))) = some r := by rw [if_pos rfl] at H; exact H
                                  clear H; have H := H1; clear H1; have H' := aM H; clear H
                                  try go_wp2
                                  have n0_ := aM (Kd.R_drew HO_5.out); have n1_ := aM (Kd.N_drew HO_6.out); have n2_ := aM (below_drew1 HB.out); clear HO_5; clear HO_6; clear HB; have HO_5 := n0_; have HO_6 := n1_; have HB := n2_; clear n0_ n1_ n2_; obtain ⟨Ao32, co32, eo32⟩ := Kd.N_slice HO_6.out
                                  (first | subst eo32 | (injection eo32 with f1_ f2_ f3_; have f4_ := f1_.symm; have f5_ := f3_.symm; clear f1_ f2_ f3_; subst f4_; subst f5_))
                                  have p550 : 0 ≤ (x7_1 : Int) := of_decide_eq_true zz111; have q550 : x7_1 < (x6_2.length : Int) := of_decide_eq_true zz111; obtain ⟨ad550, A550_0, c550_0, e550, hx550_0, hl550_0, hi550_0⟩ := at_L1 (Kd.N_reads' HO_6.out).2.2 x7_1 p550 q550
                                  cases e550; obtain ⟨ce550, hce550, hMe550, hcc550⟩ := Kd.N_get HO_6.out [] x7_1 p550 zz82; obtain ⟨ua550_0, uc550_0, rfl, ul550_0, ge550_0⟩ := Kd.FK_slice_open hMe550; have hv550_0 := hcc550 0 _ rfl; rw [Nat.add_zero, show ((Kd.slice 3 (Kd.int .i64))).sz = 1 from rfl, Nat.mul_one] at hv550_0; replace hv550_0 := Option.some.inj (hv550_0.symm.trans hx550_0); injection hv550_0 with hva_ hvn_ hvc_
                                  rw [hva_] at ge550_0; rw [hvc_] at ul550_0; have HL550_0 := aM (show Kd.V (Kd.int .i64) 3 _ w.heap.size _ _ (rd_L1 x6_2 x7_1) from Kd.V_mk ul550_0 ge550_0); clear hva_ hvn_ hvc_ ge550_0 ul550_0; clear hcc550 hce550; have HR550_0 := aM hi550_0; have HC550_0 := aM hl550_0; clear hi550_0 hl550_0; replace p550 := eq_true p550; replace q550 := eq_true q550; have p551 : 0 ≤ (x8_2 : Int) := of_decide_eq_true zz111; have q551 : x8_2 < (l1.length : Int) := of_decide_eq_true zz111; obtain ⟨ad551, A551_0, c551_0, e551, hx551_0, hl551_0, hi551_0⟩ := at_L1 HR1.out x8_2 p551 q551; have hw551_0 := hx551_0
                                  cases e551; replace hx551_0 := (HB.out.cell (World.block_lt_of_cell? w _ hx551_0)).trans hx551_0; have HR551_0 := aM hi551_0; have HC551_0 := aM hl551_0; clear hi551_0 hl551_0; replace p551 := eq_true p551; replace q551 := eq_true q551
                                  refine start_ (n := 10) (S := fun w' => w'.cell? (ad550.add (x7_1).toNat) = some (.slice A550_0 (rd_L1 x6_2 x7_1).length c550_0) ∧ w'.cell? (ad551.add (x8_2).toNat) = some (.slice A551_0 (rd_L1 l1 x8_2).length c551_0)) (ds := []) #[false, false, false, false, false, false, false, false, false, false] (by kernel_rfl) rfl rfl ⟨hx550_0, ((HB.out.cell (World.block_lt_of_cell? w _ hw551_0)).trans hw551_0)⟩ (fun hHeld => ?_); refine with_tabW r30_Group.tab10 r30_Group.bits10 (fun HT_ HW_ => ?_); generalize wr.drew = w31 at HO_5 HO_6 HB HL550_0 HR550_0 HR551_0 hx550_0 hx551_0 hHeld ⊢
                                  refine pure_ (i := 0) (N := some 34) (v := ?_) (a' := ?_) #[true, false, false, false, false, false, false, false, false, false] rfl rfl (any_of HT_.out (by kernel_rfl)) (fun _ _ _ h => h) (Or.inl ⟨by rfl, ?_⟩) ?_ ?_; rotate_left
                                  · intro w'; go_simp; with_reducible rfl
                                  rotate_left
                                  · simp only [Act.put, List.setIfInBounds_toArray, List.set_cons_zero, List.set_cons_succ, i64_w, i32_w]; rfl
                                  refine pure_ (i := 1) (N := some 35) (v := ?_) (a' := ?_) #[true, true, false, false, false, false, false, false, false, false] rfl rfl (any_of HT_.out (by kernel_rfl)) (fun _ _ _ h => h) (Or.inl ⟨by rfl, ?_⟩) ?_ ?_; rotate_left
                                  · intro w'; go_simp; with_reducible rfl
                                  rotate_left
                                  · simp only [Act.put, List.setIfInBounds_toArray, List.set_cons_zero, List.set_cons_succ, i64_w, i32_w]; rfl
                                  refine pure_ (i := 2) (N := some 36) (v := ?_) (a' := ?_) #[true, true, true, false, false, false, false, false, false, false] rfl rfl (any_of HT_.out (by kernel_rfl)) (fun _ _ _ h => h) (Or.inl ⟨by rfl, ?_⟩) ?_ ?_; rotate_left
                                  · intro w'; go_simp; with_reducible rfl
                                  rotate_left
                                  · simp only [Act.put, List.setIfInBounds_toArray, List.set_cons_zero, List.set_cons_succ, i64_w, i32_w]; rfl
                                  refine pure_ (i := 4) (N := some 38) (v := ?_) (a' := ?_) #[true, true, true, false, true, false, false, false, false, false] rfl rfl (any_of HT_.out (by kernel_rfl)) (fun _ _ _ h => h) (Or.inl ⟨by rfl, ?_⟩) ?_ ?_; rotate_left
                                  · intro w'; go_simp; with_reducible rfl
                                  rotate_left
                                  · simp only [Act.put, List.setIfInBounds_toArray, List.set_cons_zero, List.set_cons_succ, i64_w, i32_w]; rfl
                                  refine pure_ (i := 5) (N := some 39) (v := ?_) (a' := ?_) #[true, true, true, false, true, true, false, false, false, false] rfl rfl (any_of HT_.out (by kernel_rfl)) (fun _ _ _ h => h) (Or.inl ⟨by rfl, ?_⟩) ?_ ?_; rotate_left
                                  · intro w'; go_simp; with_reducible rfl
                                  rotate_left
                                  · simp only [Act.put, List.setIfInBounds_toArray, List.set_cons_zero, List.set_cons_succ, i64_w, i32_w]; rfl
                                  refine pure_ (i := 6) (N := some 40) (v := ?_) (a' := ?_) #[true, true, true, false, true, true, true, false, false, false] rfl rfl (any_of HT_.out (by kernel_rfl)) (fun _ _ _ h => h) (Or.inl ⟨by rfl, ?_⟩) ?_ ?_; rotate_left
                                  · intro w'; go_simp; with_reducible rfl
                                  rotate_left
                                  · simp only [Act.put, List.setIfInBounds_toArray, List.set_cons_zero, List.set_cons_succ, i64_w, i32_w]; rfl
                                  refine take_ (i := 3) (N := some 37) (v := ?_) (a' := ?_) #[true, true, true, true, true, true, true, false, false, false] rfl rfl (take_ofW HT_.out HW_.out (by kernel_rfl)) (fun _ _ _ h => h) (Or.inl ⟨by rfl, ?_⟩) hHeld ?_ ?_; rotate_left
                                  · rintro w' ⟨s0, s1⟩; go_simp; with_reducible rfl
                                  rotate_left
                                  · simp only [Act.put, List.setIfInBounds_toArray, List.set_cons_zero, List.set_cons_succ, i64_w, i32_w]; rfl
                                  refine take_ (i := 7) (N := some 41) (v := ?_) (a' := ?_) #[true, true, true, true, true, true, true, true, false, false] rfl rfl (take_ofW HT_.out HW_.out (by kernel_rfl)) (fun _ _ _ h => h) (Or.inl ⟨by rfl, ?_⟩) hHeld ?_ ?_; rotate_left
                                  · rintro w' ⟨s0, s1⟩; go_simp; with_reducible rfl
                                  rotate_left
                                  · simp only [Act.put, List.setIfInBounds_toArray, List.set_cons_zero, List.set_cons_succ, i64_w, i32_w]; rfl
                                  refine one_ (i := 8) (N := some 42) #[true, true, true, true, true, true, true, true, true, false] rfl rfl (one_of HT_.out (by kernel_rfl)) (by decide) (fun K hK => ?_)
                                  refine goes_ Try.func43 (by kernel_rfl) rfl #[.slice A550_0 (rd_L1 x6_2 x7_1).length c550_0, .slice A551_0 (rd_L1 l1 x8_2).length c551_0] (by rfl) rfl rfl zz87 ?_; with_reducible refine (r30_Then.calls k2 _ _ (rd_L1 x6_2 x7_1) _ _ (rd_L1 l1 x8_2) t552 _ ?side1 ?side2 ?side3 ?side4 A25.out).mono ?_
                                  (case side1 => repeat (first | exact zz57 | (with_reducible refine Kd.C_alloc ?_ _) | (with_reducible refine Kd.C_drewN ?_ _) | (with_reducible refine Kd.C_drew ?_)))
                                  (case side2 => exact HC550_0.out)
                                  (case side3 => repeat (first | exact (Kd.C_below HR551_0.out HB.out) | (with_reducible refine Kd.C_alloc ?_ _) | (with_reducible refine Kd.C_drewN ?_ _) | (with_reducible refine Kd.C_drew ?_)))
                                  (case side4 => exact HC551_0.out)
                                  rintro e w33 ⟨v553, rfl, ho0, hb⟩; have HS0_ := (hb.cell (World.block_lt_of_cell? _ _ (hHeld.1))).trans (hHeld.1)
                                  refine ⟨_, rfl, ?_⟩; have n0_ := aM (Kd.R_below (zR HO_5) hb); have n1_ := aM (Kd.N_elder' (zN HO_6) (Kd.R_base ho0) hb); have n2_ := aM (Kd.V_elder' (zV HL550_0) (Kd.R_base ho0) hb); have n3_ := aM (Kd.R_lower (Kd.R_newM (M := fun k_ => (w.heap.size ≤ k_)) ho0 (below_size zz88) (fun k_ h_ => h_)) (below_size zz88)); have n4_ := aM (Kd.C_below zz57 hb); have n5_ := aM (below_step zz88 hb); clear HO_5; clear HO_6; clear HL550_0; clear HR550_0; clear HB; have HO_5 := n0_; have HO_6 := n1_; have HL550_0 := n2_; have HO554 := n3_; have HR550_0 := n4_; have HB := n5_; clear n0_ n1_ n2_ n3_ n4_ n5_; (try clear hb); (try clear hb2); (try clear hk); (try clear hi); (try clear ho0)
                                  refine hK.out _ _ ⟨HS0_, ((HB.out.cell (World.block_lt_of_cell? w _ hw551_0)).trans hw551_0)⟩ (fun hHeld => ?_); clear hK K
                                  refine norm_ (a' := ?_) ?_ ?_; rotate_left
                                  · show Act.put _ (some 42) _ = _
                                    simp only [Act.put, List.setIfInBounds_toArray, List.set_cons_zero, List.set_cons_succ, i64_w, i32_w]; rfl
                                  refine pure_ (i := 9) (N := some 9) (v := ?_) (a' := ?_) #[true, true, true, true, true, true, true, true, true, true] rfl rfl (any_of HT_.out (by kernel_rfl)) (fun _ _ _ h => h) (Or.inl ⟨by rfl, ?_⟩) ?_ ?_; rotate_left
                                  · intro w'; go_simp; with_reducible rfl
                                  rotate_left
                                  · simp only [Act.put, List.setIfInBounds_toArray, List.set_cons_zero, List.set_cons_succ, i64_w, i32_w]; rfl
                                  refine done_ (done_of HT_.out (by kernel_rfl)) ?_; obtain ⟨Ao34, co34, eo34⟩ := Kd.R_slice HO554.out; subst eo34
                                  try go_wp2_with (first | ((with_reducible refine gate_callee (f := 88) rfl ?_); refine goesL_ (some 45) rfl rfl Try.func88 (by kernel_rfl) rfl #[.slice Ao34 t552.length co34] rfl zz87 ?_; (with_reducible refine (r30_code.calls k2 _ _ t552 t555 _ ?side1 ?side2 A26.out).mono ?_); (case side1 => repeat (first | exact (Kd.R_reads' HO554.out).2.2 | (with_reducible refine Kd.C_alloc ?_ _) | (with_reducible refine Kd.C_drewN ?_ _) | (with_reducible refine Kd.C_drew ?_))); (case side2 => exact (Kd.R_reads' HO554.out).2.1); rintro e w' ⟨rfl, ⟨nd, rfl⟩⟩; refine ⟨_, rfl, ?_⟩; have p556 : 0 ≤ (t555 : Int) := of_decide_eq_true zz111; have q556 : t555 < (x5_2.length : Int) := of_decide_eq_true zz111; obtain ⟨ad556, e556, hx556_0⟩ := Kd.at_bool (Kd.R_reads' HO_5.out).2.2 t555 p556 q556; (try rw [← Nbq29.out] at hx556_0); obtain rfl : (⟨go9, 0, none⟩ : Addr) = ad556 := (by injection e556); (first | simp only [add_plain] at hx556_0 | simp only [add_at] at hx556_0 | simp only [Addr.add, Nat.zero_add] at hx556_0 | skip); replace p556 := eq_true p556; replace q556 := eq_true q556))
                                  (try simp only [← hl5_2])
                                  go_roundg k2
                                  case measure => have := HK1.out; have := HK2.out; omega
                                  case rel => exact ⟨(x5_2), (x6_2), (wrap64 (x8_2 + 1)), zz112, H', ⟨zz113⟩, ⟨zz77⟩, ⟨(by (try simp only [hl5_1]); (try simp only [hl5_2]); (with_reducible repeat (first | apply Kd.N_alloc | apply Kd.N_drewN | apply Kd.N_drew)); exact Kd.N_mono HO_6.out (fun _ hk => by first | exact ⟨hk.1.1, hk.1.2⟩ | ((repeat' apply And.intro) <;> (first | exact hk | exact hk.1 | exact hk.2 | exact hk.1.1 | exact hk.1.2 | exact hk.2.1 | exact hk.2.2 | exact hk.1.1.1 | exact hk.1.1.2 | exact hk.1.2.1 | exact hk.1.2.2 | exact hk.2.1.1 | exact hk.2.1.2 | exact hk.2.2.1 | exact hk.2.2.2 | exact hk.1.1.1.1 | exact hk.1.1.1.2 | exact hk.2.2.2.1 | exact hk.2.2.2.2))))⟩, ⟨zz88⟩⟩
                                replace c30 := Bool.eq_false_iff.mpr c30; subst c30; have H1 : ((r30_code.f k2 t552).bind fun t557 => (if 0 ≤ t557 then (if t557 < (x5_2.length : Int) then (if x6_2.length < 5864062014805 then (r30_Group.l1 k2 l1 (x5_2.set (t557 : Int).toNat true) (x6_2 ++ [t552]) x7_1 (wrap64 (x8_2 + 1))) else (none)) else (none)) else (none))) = some r := by rw [if_neg (show ¬ (false = true) by decide)] at H; exact H
                                clear H; have H := H1; clear H1; replace H := Option.bind_eq_some_iff.mp H; obtain ⟨t557, A350, H⟩ := H; replace H : (if 0 ≤ t557 then (if t557 < (x5_2.length : Int) then (if x6_2.length < 5864062014805 then (r30_Group.l1 k2 l1 (x5_2.set (t557 : Int).toNat true) (x6_2 ++ [t552]) x7_1 (wrap64 (x8_2 + 1))) else (none)) else (none)) else (none)) = some r := H; have A35 := aM A350; clear A350
                                by_cases c36 : 0 ≤ t557
                                · rw [if_pos c36] at H; have c36b0 := decide_eq_true c36; clear c36
                                  by_cases c37 : t557 < (x5_2.length : Int)
                                  · rw [if_pos c37] at H; have c37b0 := decide_eq_true c37; clear c37; obtain ⟨y558, hy558⟩ : ∃ y_ : List Bool, y_ = (x5_2.set (t557 : Int).toNat true) := ⟨_, rfl⟩; replace H : (if x6_2.length < 5864062014805 then (r30_Group.l1 k2 l1 y558 (x6_2 ++ [t552]) x7_1 (wrap64 (x8_2 + 1))) else (none)) = some r := by first | (rw [hy558]; with_reducible exact H) | (have H2_ := (Option.bind_some _ _).symm.trans H; rw [hy558]; with_reducible exact H2_) | (have H2_ := (Option.bind_some _ _).symm.trans H; with_reducible exact H2_) | with_reducible exact H | (rw [hy558]; exact H) | exact H
                                    have Ny558 := aM hy558; clear hy558
                                    by_cases c39 : x6_2.length < 5864062014805
                                    · rw [if_pos c39] at H; have LMc39 := aM c39; clear c39; obtain ⟨y559, hy559⟩ : ∃ y_ : List (List Int), y_ = (x6_2 ++ [t552]) := ⟨_, rfl⟩; replace H : (r30_Group.l1 k2 l1 y558 y559 x7_1 (wrap64 (x8_2 + 1))) = some r := by first | (rw [hy559]; with_reducible exact H) | (have H2_ := (Option.bind_some _ _).symm.trans H; rw [hy559]; with_reducible exact H2_) | (have H2_ := (Option.bind_some _ _).symm.trans H; with_reducible exact H2_) | with_reducible exact H | (rw [hy559]; exact H) | exact H
                                      have Ny559 := aM hy559; clear hy559; have H' := aM H; clear H
                                      try go_wp2
                                      have n0_ := aM (Kd.R_drew HO_5.out); have n1_ := aM (Kd.N_drew HO_6.out); have n2_ := aM (below_drew1 HB.out); clear HO_5; clear HO_6; clear HB; have HO_5 := n0_; have HO_6 := n1_; have HB := n2_; clear n0_ n1_ n2_; obtain ⟨Ao41, co41, eo41⟩ := Kd.N_slice HO_6.out
                                      (first | subst eo41 | (injection eo41 with f1_ f2_ f3_; have f4_ := f1_.symm; have f5_ := f3_.symm; clear f1_ f2_ f3_; subst f4_; subst f5_))
                                      have p550 : 0 ≤ (x7_1 : Int) := of_decide_eq_true zz111; have q550 : x7_1 < (x6_2.length : Int) := of_decide_eq_true zz111; obtain ⟨ad550, A550_0, c550_0, e550, hx550_0, hl550_0, hi550_0⟩ := at_L1 (Kd.N_reads' HO_6.out).2.2 x7_1 p550 q550
                                      cases e550; obtain ⟨ce550, hce550, hMe550, hcc550⟩ := Kd.N_get HO_6.out [] x7_1 p550 zz82; obtain ⟨ua550_0, uc550_0, rfl, ul550_0, ge550_0⟩ := Kd.FK_slice_open hMe550; have hv550_0 := hcc550 0 _ rfl; rw [Nat.add_zero, show ((Kd.slice 3 (Kd.int .i64))).sz = 1 from rfl, Nat.mul_one] at hv550_0; replace hv550_0 := Option.some.inj (hv550_0.symm.trans hx550_0); injection hv550_0 with hva_ hvn_ hvc_
                                      rw [hva_] at ge550_0; rw [hvc_] at ul550_0; have HL550_0 := aM (show Kd.V (Kd.int .i64) 3 _ w.heap.size _ _ (rd_L1 x6_2 x7_1) from Kd.V_mk ul550_0 ge550_0); clear hva_ hvn_ hvc_ ge550_0 ul550_0; clear hcc550 hce550; have HR550_0 := aM hi550_0; have HC550_0 := aM hl550_0; clear hi550_0 hl550_0; replace p550 := eq_true p550; replace q550 := eq_true q550; have p551 : 0 ≤ (x8_2 : Int) := of_decide_eq_true zz111; have q551 : x8_2 < (l1.length : Int) := of_decide_eq_true zz111; obtain ⟨ad551, A551_0, c551_0, e551, hx551_0, hl551_0, hi551_0⟩ := at_L1 HR1.out x8_2 p551 q551; have hw551_0 := hx551_0
                                      cases e551; replace hx551_0 := (HB.out.cell (World.block_lt_of_cell? w _ hx551_0)).trans hx551_0; have HR551_0 := aM hi551_0; have HC551_0 := aM hl551_0; clear hi551_0 hl551_0; replace p551 := eq_true p551; replace q551 := eq_true q551
                                      refine start_ (n := 10) (S := fun w' => w'.cell? (ad550.add (x7_1).toNat) = some (.slice A550_0 (rd_L1 x6_2 x7_1).length c550_0) ∧ w'.cell? (ad551.add (x8_2).toNat) = some (.slice A551_0 (rd_L1 l1 x8_2).length c551_0)) (ds := []) #[false, false, false, false, false, false, false, false, false, false] (by kernel_rfl) rfl rfl ⟨hx550_0, ((HB.out.cell (World.block_lt_of_cell? w _ hw551_0)).trans hw551_0)⟩ (fun hHeld => ?_); refine with_tabW r30_Group.tab10 r30_Group.bits10 (fun HT_ HW_ => ?_); generalize wr.drew = w40 at HO_5 HO_6 HB HL550_0 HR550_0 HR551_0 hx550_0 hx551_0 hHeld ⊢
                                      refine pure_ (i := 0) (N := some 34) (v := ?_) (a' := ?_) #[true, false, false, false, false, false, false, false, false, false] rfl rfl (any_of HT_.out (by kernel_rfl)) (fun _ _ _ h => h) (Or.inl ⟨by rfl, ?_⟩) ?_ ?_; rotate_left
                                      · intro w'; go_simp; with_reducible rfl
                                      rotate_left
                                      · simp only [Act.put, List.setIfInBounds_toArray, List.set_cons_zero, List.set_cons_succ, i64_w, i32_w]; rfl
                                      refine pure_ (i := 1) (N := some 35) (v := ?_) (a' := ?_) #[true, true, false, false, false, false, false, false, false, false] rfl rfl (any_of HT_.out (by kernel_rfl)) (fun _ _ _ h => h) (Or.inl ⟨by rfl, ?_⟩) ?_ ?_; rotate_left
                                      · intro w'; go_simp; with_reducible rfl
                                      rotate_left
                                      · simp only [Act.put, List.setIfInBounds_toArray, List.set_cons_zero, List.set_cons_succ, i64_w, i32_w]; rfl
                                      refine pure_ (i := 2) (N := some 36) (v := ?_) (a' := ?_) #[true, true, true, false, false, false, false, false, false, false] rfl rfl (any_of HT_.out (by kernel_rfl)) (fun _ _ _ h => h) (Or.inl ⟨by rfl, ?_⟩) ?_ ?_; rotate_left
                                      · intro w'; go_simp; with_reducible rfl
                                      rotate_left
                                      · simp only [Act.put, List.setIfInBounds_toArray, List.set_cons_zero, List.set_cons_succ, i64_w, i32_w]; rfl
                                      refine pure_ (i := 4) (N := some 38) (v := ?_) (a' := ?_) #[true, true, true, false, true, false, false, false, false, false] rfl rfl (any_of HT_.out (by kernel_rfl)) (fun _ _ _ h => h) (Or.inl ⟨by rfl, ?_⟩) ?_ ?_; rotate_left
                                      · intro w'; go_simp; with_reducible rfl
                                      rotate_left
                                      · simp only [Act.put, List.setIfInBounds_toArray, List.set_cons_zero, List.set_cons_succ, i64_w, i32_w]; rfl
                                      refine pure_ (i := 5) (N := some 39) (v := ?_) (a' := ?_) #[true, true, true, false, true, true, false, false, false, false] rfl rfl (any_of HT_.out (by kernel_rfl)) (fun _ _ _ h => h) (Or.inl ⟨by rfl, ?_⟩) ?_ ?_; rotate_left
                                      · intro w'; go_simp; with_reducible rfl
                                      rotate_left
                                      · simp only [Act.put, List.setIfInBounds_toArray, List.set_cons_zero, List.set_cons_succ, i64_w, i32_w]; rfl
                                      refine pure_ (i := 6) (N := some 40) (v := ?_) (a' := ?_) #[true, true, true, false, true, true, true, false, false, false] rfl rfl (any_of HT_.out (by kernel_rfl)) (fun _ _ _ h => h) (Or.inl ⟨by rfl, ?_⟩) ?_ ?_; rotate_left
                                      · intro w'; go_simp; with_reducible rfl
                                      rotate_left
                                      · simp only [Act.put, List.setIfInBounds_toArray, List.set_cons_zero, List.set_cons_succ, i64_w, i32_w]; rfl
                                      refine take_ (i := 3) (N := some 37) (v := ?_) (a' := ?_) #[true, true, true, true, true, true, true, false, false, false] rfl rfl (take_ofW HT_.out HW_.out (by kernel_rfl)) (fun _ _ _ h => h) (Or.inl ⟨by rfl, ?_⟩) hHeld ?_ ?_; rotate_left
                                      · rintro w' ⟨s0, s1⟩; go_simp; with_reducible rfl
                                      rotate_left
                                      · simp only [Act.put, List.setIfInBounds_toArray, List.set_cons_zero, List.set_cons_succ, i64_w, i32_w]; rfl
                                      refine take_ (i := 7) (N := some 41) (v := ?_) (a' := ?_) #[true, true, true, true, true, true, true, true, false, false] rfl rfl (take_ofW HT_.out HW_.out (by kernel_rfl)) (fun _ _ _ h => h) (Or.inl ⟨by rfl, ?_⟩) hHeld ?_ ?_; rotate_left
                                      · rintro w' ⟨s0, s1⟩; go_simp; with_reducible rfl
                                      rotate_left
                                      · simp only [Act.put, List.setIfInBounds_toArray, List.set_cons_zero, List.set_cons_succ, i64_w, i32_w]; rfl
                                      refine one_ (i := 8) (N := some 42) #[true, true, true, true, true, true, true, true, true, false] rfl rfl (one_of HT_.out (by kernel_rfl)) (by decide) (fun K hK => ?_)
                                      refine goes_ Try.func43 (by kernel_rfl) rfl #[.slice A550_0 (rd_L1 x6_2 x7_1).length c550_0, .slice A551_0 (rd_L1 l1 x8_2).length c551_0] (by rfl) rfl rfl zz87 ?_; with_reducible refine (r30_Then.calls k2 _ _ (rd_L1 x6_2 x7_1) _ _ (rd_L1 l1 x8_2) t552 _ ?side1 ?side2 ?side3 ?side4 A25.out).mono ?_
                                      (case side1 => repeat (first | exact zz57 | (with_reducible refine Kd.C_alloc ?_ _) | (with_reducible refine Kd.C_drewN ?_ _) | (with_reducible refine Kd.C_drew ?_)))
                                      (case side2 => exact HC550_0.out)
                                      (case side3 => repeat (first | exact (Kd.C_below HR551_0.out HB.out) | (with_reducible refine Kd.C_alloc ?_ _) | (with_reducible refine Kd.C_drewN ?_ _) | (with_reducible refine Kd.C_drew ?_)))
                                      (case side4 => exact HC551_0.out)
                                      rintro e w42 ⟨v553, rfl, ho0, hb⟩; have HS0_ := (hb.cell (World.block_lt_of_cell? _ _ (hHeld.1))).trans (hHeld.1)
                                      refine ⟨_, rfl, ?_⟩; have n0_ := aM (Kd.R_below (zR HO_5) hb); have n1_ := aM (Kd.N_elder' (zN HO_6) (Kd.R_base ho0) hb); have n2_ := aM (Kd.V_elder' (zV HL550_0) (Kd.R_base ho0) hb); have n3_ := aM (Kd.R_lower (Kd.R_newM (M := fun k_ => (w.heap.size ≤ k_)) ho0 (below_size zz88) (fun k_ h_ => h_)) (below_size zz88)); have n4_ := aM (Kd.C_below zz57 hb); have n5_ := aM (below_step zz88 hb); clear HO_5; clear HO_6; clear HL550_0; clear HR550_0; clear HB; have HO_5 := n0_; have HO_6 := n1_; have HL550_0 := n2_; have HO554 := n3_; have HR550_0 := n4_; have HB := n5_; clear n0_ n1_ n2_ n3_ n4_ n5_; (try clear hb); (try clear hb2); (try clear hk); (try clear hi); (try clear ho0)
                                      refine hK.out _ _ ⟨HS0_, ((HB.out.cell (World.block_lt_of_cell? w _ hw551_0)).trans hw551_0)⟩ (fun hHeld => ?_); clear hK K
                                      refine norm_ (a' := ?_) ?_ ?_; rotate_left
                                      · show Act.put _ (some 42) _ = _
                                        simp only [Act.put, List.setIfInBounds_toArray, List.set_cons_zero, List.set_cons_succ, i64_w, i32_w]; rfl
                                      refine pure_ (i := 9) (N := some 9) (v := ?_) (a' := ?_) #[true, true, true, true, true, true, true, true, true, true] rfl rfl (any_of HT_.out (by kernel_rfl)) (fun _ _ _ h => h) (Or.inl ⟨by rfl, ?_⟩) ?_ ?_; rotate_left
                                      · intro w'; go_simp; with_reducible rfl
                                      rotate_left
                                      · simp only [Act.put, List.setIfInBounds_toArray, List.set_cons_zero, List.set_cons_succ, i64_w, i32_w]; rfl
                                      refine done_ (done_of HT_.out (by kernel_rfl)) ?_; obtain ⟨Ao43, co43, eo43⟩ := Kd.R_slice HO554.out; subst eo43
                                      try go_wp2_with (first | ((with_reducible refine gate_callee (f := 88) rfl ?_); refine goesL_ (some 45) rfl rfl Try.func88 (by kernel_rfl) rfl #[.slice Ao43 t552.length co43] rfl zz87 ?_; (with_reducible refine (r30_code.calls k2 _ _ t552 t555 _ ?side1 ?side2 A26.out).mono ?_); (case side1 => repeat (first | exact (Kd.R_reads' HO554.out).2.2 | (with_reducible refine Kd.C_alloc ?_ _) | (with_reducible refine Kd.C_drewN ?_ _) | (with_reducible refine Kd.C_drew ?_))); (case side2 => exact (Kd.R_reads' HO554.out).2.1); rintro e w' ⟨rfl, ⟨nd, rfl⟩⟩; refine ⟨_, rfl, ?_⟩; (try (rw [drewN_self w42]; generalize hq_ : World.drewN w42 _ = w42; have n0_ : Aside0 (Kd.V (Kd.int .i64) 3 w42 w.heap.size (fun k_ => (w.heap.size ≤ k_) ∧ some k_ ≠ (.slice Ao43 t552.length co43 : Value).ownBlock ∧ some k_ ≠ (.slice (some ⟨go9, 0, none⟩) x5_2.length co9 : Value).ownBlock ∧ some k_ ≠ (.slice (some ad550) x6_2.length co41 : Value).ownBlock) (.slice A550_0 (rd_L1 x6_2 x7_1).length c550_0) (rd_L1 x6_2 x7_1)) := ⟨zz23⟩; have n1_ : Aside0 (Kd.R (Kd.int .i64) 3 w42 w.heap.size (fun k_ => (w.heap.size ≤ k_)) (.slice Ao43 t552.length co43) t552) := ⟨zz28⟩; have n2_ : Aside0 (Kd.R Kd.bool 4 w42 w.heap.size (fun k_ => (w.heap.size ≤ k_)) (.slice (some ⟨go9, 0, none⟩) x5_2.length co9) x5_2) := ⟨(by rw [← hq_]; exact (zR HO_5))⟩; have n3_ : Aside0 (Kd.N (Kd.slice 3 (Kd.int .i64)) 22 w42 w.heap.size (fun k_ => (w.heap.size ≤ k_) ∧ some k_ ≠ (.slice Ao43 t552.length co43 : Value).ownBlock ∧ some k_ ≠ (.slice (some ⟨go9, 0, none⟩) x5_2.length co9 : Value).ownBlock) (.slice (some ad550) x6_2.length co41) x6_2) := ⟨zz24⟩; have n4_ : Aside0 (Below w.heap.size w w42) := ⟨zz75⟩; have n5_ : Aside0 (Kd.C (Kd.int .i64) w42 A550_0 (rd_L1 x6_2 x7_1).length (rd_L1 x6_2 x7_1)) := ⟨zz46⟩; clear HL550_0 HO554 HO_5 HO_6 HB HR550_0 hq_; have HL550_0 := n0_; have HO554 := n1_; have HO_5 := n2_; have HO_6 := n3_; have HB := n4_; have HR550_0 := n5_; clear n0_ n1_ n2_ n3_ n4_ n5_)); have p556 : 0 ≤ (t555 : Int) := of_decide_eq_true zz111; have q556 : t555 < (x5_2.length : Int) := of_decide_eq_true zz111; obtain ⟨ad556, e556, hx556_0⟩ := Kd.at_bool (Kd.R_reads' HO_5.out).2.2 t555 p556 q556; (try rw [← Nbq29.out] at hx556_0); obtain rfl : (⟨go9, 0, none⟩ : Addr) = ad556 := (by injection e556); (first | simp only [add_plain] at hx556_0 | simp only [add_at] at hx556_0 | simp only [Addr.add, Nat.zero_add] at hx556_0 | skip); replace p556 := eq_true p556; replace q556 := eq_true q556) | ((with_reducible refine gate_callee (f := 88) rfl ?_); refine goesL_ (some 51) rfl rfl Try.func88 (by kernel_rfl) rfl #[.slice Ao43 t552.length co43] rfl zz87 ?_; (with_reducible refine (r30_code.calls k2 _ _ t552 t557 _ ?side1 ?side2 A35.out).mono ?_); (case side1 => repeat (first | exact (Kd.R_reads' HO554.out).2.2 | (with_reducible refine Kd.C_alloc ?_ _) | (with_reducible refine Kd.C_drewN ?_ _) | (with_reducible refine Kd.C_drew ?_))); (case side2 => exact (Kd.R_reads' HO554.out).2.1); rintro e w' ⟨rfl, ⟨nd, rfl⟩⟩; refine ⟨_, rfl, ?_⟩; (try (rw [drewN_self w42]; generalize hq_ : World.drewN w42 _ = w42; have n0_ : Aside0 (Kd.V (Kd.int .i64) 3 w42 w.heap.size (fun k_ => (w.heap.size ≤ k_) ∧ some k_ ≠ (.slice Ao43 t552.length co43 : Value).ownBlock ∧ some k_ ≠ (.slice (some ⟨go9, 0, none⟩) x5_2.length co9 : Value).ownBlock ∧ some k_ ≠ (.slice (some ad550) x6_2.length co41 : Value).ownBlock) (.slice A550_0 (rd_L1 x6_2 x7_1).length c550_0) (rd_L1 x6_2 x7_1)) := ⟨zz23⟩; have n1_ : Aside0 (Kd.R (Kd.int .i64) 3 w42 w.heap.size (fun k_ => (w.heap.size ≤ k_)) (.slice Ao43 t552.length co43) t552) := ⟨zz28⟩; have n2_ : Aside0 (Kd.R Kd.bool 4 w42 w.heap.size (fun k_ => (w.heap.size ≤ k_)) (.slice (some ⟨go9, 0, none⟩) x5_2.length co9) x5_2) := ⟨(by rw [← hq_]; exact (zR HO_5))⟩; have n3_ : Aside0 (Kd.N (Kd.slice 3 (Kd.int .i64)) 22 w42 w.heap.size (fun k_ => (w.heap.size ≤ k_) ∧ some k_ ≠ (.slice Ao43 t552.length co43 : Value).ownBlock ∧ some k_ ≠ (.slice (some ⟨go9, 0, none⟩) x5_2.length co9 : Value).ownBlock) (.slice (some ad550) x6_2.length co41) x6_2) := ⟨zz24⟩; have n4_ : Aside0 (Below w.heap.size w w42) := ⟨zz75⟩; have n5_ : Aside0 (Kd.C (Kd.int .i64) w42 A550_0 (rd_L1 x6_2 x7_1).length (rd_L1 x6_2 x7_1)) := ⟨zz46⟩; clear HL550_0 HO554 HO_5 HO_6 HB HR550_0 hq_; have HL550_0 := n0_; have HO554 := n1_; have HO_5 := n2_; have HO_6 := n3_; have HB := n4_; have HR550_0 := n5_; clear n0_ n1_ n2_ n3_ n4_ n5_)); have p38 : 0 ≤ (t557 : Int) := of_decide_eq_true zz111; have q38 : (t557 : Int) < ((x5_2.length : Int) : Int) := of_decide_eq_true zz111; obtain ⟨hx38_0, hf38_0⟩ := Kd.R_celln false HO_5.out (t557 : Int) p38 q38; replace p38 := eq_true p38; replace q38 := eq_true q38; obtain ⟨hy44_, hz44_⟩ := Kd.R_celln false HO_5.out (t557 : Int) (of_decide_eq_true zz111) (of_decide_eq_true zz111); have HP44 := Kd.R_putg HO_5.out (t557 : Int) true) | ((with_reducible refine gate_store (t := 4) (p := 52) rfl ?_); refine store_event (t := 4) (p := 52) (v := ?vo_w45) (w1 := (w42.setCell ⟨go9, (t557 : Int).toNat, none⟩ (.bool true))) ?hg ?ho ?hn ?hr ?_; (case ho => rfl); (case hg => rfl); (case hn => rfl); (case hr => first | (go_simp; done) | (go_simp; rfl)); intro w45 hw; have hg : w42.grownBy w45 (some go9) := (by rw [hw]; exact HP44.2); have hp_ : Kd.R Kd.bool 4 w45 w.heap.size (fun k_ => (w.heap.size ≤ k_)) (.slice (some ⟨go9, 0, none⟩) x5_2.length co9) y558 := (by rw [hw, Ny558.out]; exact HP44.1); clear HP44; replace HO_6 := aM (Kd.N_afterv (v := (.slice (some ⟨go9, 0, none⟩) x5_2.length co9)) (v1 := (.slice (some ⟨go9, 0, none⟩) x5_2.length co9)) (ok := (fun k_ => (w.heap.size ≤ k_) ∧ some k_ ≠ (.slice Ao43 t552.length co43 : Value).ownBlock)) (by (with_reducible repeat (first | apply Kd.N_alloc | apply Kd.N_drewN | apply Kd.N_drew)); exact Kd.N_mono HO_6.out (fun _ hk => by first | exact ⟨⟨hk.1.1, hk.2⟩, hk.1.2⟩ | ((repeat' apply And.intro) <;> (first | exact hk | exact hk.1 | exact hk.2 | exact hk.1.1 | exact hk.1.2 | exact hk.2.1 | exact hk.2.2 | exact hk.1.1.1 | exact hk.1.1.2 | exact hk.1.2.1 | exact hk.1.2.2 | exact hk.2.1.1 | exact hk.2.1.2 | exact hk.2.2.1 | exact hk.2.2.2 | exact hk.1.1.1.1 | exact hk.1.1.1.2 | exact hk.2.2.2.1 | exact hk.2.2.2.2)))) hg (.inl rfl)); replace HL550_0 := aM (Kd.V_afterv (v := (.slice (some ⟨go9, 0, none⟩) x5_2.length co9)) (v1 := (.slice (some ⟨go9, 0, none⟩) x5_2.length co9)) (ok := (fun k_ => (w.heap.size ≤ k_) ∧ some k_ ≠ (.slice (some ad550) x6_2.length co41 : Value).ownBlock ∧ some k_ ≠ (.slice Ao43 t552.length co43 : Value).ownBlock)) (by (with_reducible repeat (first | apply Kd.V_alloc | apply Kd.V_drewN | apply Kd.V_drew)); exact Kd.V_mono HL550_0.out (fun _ hk => by first | exact ⟨⟨hk.1.1.1, ⟨hk.1.2, hk.2⟩⟩, hk.1.1.2⟩ | ((repeat' apply And.intro) <;> (first | exact hk | exact hk.1 | exact hk.2 | exact hk.1.1 | exact hk.1.2 | exact hk.2.1 | exact hk.2.2 | exact hk.1.1.1 | exact hk.1.1.2 | exact hk.1.2.1 | exact hk.1.2.2 | exact hk.2.1.1 | exact hk.2.1.2 | exact hk.2.2.1 | exact hk.2.2.2 | exact hk.1.1.1.1 | exact hk.1.1.1.2 | exact hk.2.2.2.1 | exact hk.2.2.2.2)))) hg (.inl rfl)); replace HO554 := aM (Kd.R_over' (v := (.slice (some ⟨go9, 0, none⟩) x5_2.length co9)) (zR HO554) (Kd.R_typed HO_5.out) (by decide) hg); replace HO_5 := aM (hp_); replace HB := aM ((by rw [hw]; exact below_set (HB.out) GB9.out : Below w.heap.size w w45)); clear hg hw hp_) | ((with_reducible refine gate_builtin (b := .append) (xs := #[.tmp 53, .tmp 55]) rfl ?_); at_builtin; refine Kd.N_append (Kd.slice 3 (Kd.int .i64)) (w0 := w) w.heap.size rfl (.tmp 53) (.tmp 55) 28 22 (.slice none 0 0) 24 rfl Try.underlying28 info22 rfl (by decide) (by omega) (.slice (some ad550) x6_2.length co41) x6_2 t552 [.slice Ao43 t552.length co43] (fun k_ => (w.heap.size ≤ k_) ∧ some k_ ≠ (.slice (some ⟨go9, 0, none⟩) x5_2.length co9 : Value).ownBlock) (fun k_ => ((fun k_ => (w.heap.size ≤ k_) ∧ some k_ ≠ (.slice (some ⟨go9, 0, none⟩) x5_2.length co9 : Value).ownBlock)) k_ ∧ some k_ ≠ (.slice (some ad550) x6_2.length co41 : Value).ownBlock) rfl rfl ?aP (fun _ hk => hk) ?aF ?aO ?aB ?aS ?aL ?_; (case aP => exact (Kd.FK_slice_mk (Kd.R_reads' (Kd.R_mono (ok' := (fun k_ => ((fun k_ => (w.heap.size ≤ k_) ∧ some k_ ≠ (.slice (some ⟨go9, 0, none⟩) x5_2.length co9 : Value).ownBlock)) k_ ∧ some k_ ≠ (.slice (some ad550) x6_2.length co41 : Value).ownBlock)) (Kd.R_apart' (Kd.R_apart' (HO554.out) (Kd.R_typed HO_5.out) (by decide)) (Kd.N_typed HO_6.out) (by decide)) (fun k_ hk => by first | exact ⟨⟨hk.1.1.1, hk.1.2⟩, hk.2⟩ | ((repeat' apply And.intro) <;> (first | exact hk | exact hk.1 | exact hk.2 | exact hk.1.1 | exact hk.1.2 | exact hk.2.1 | exact hk.2.2 | exact hk.1.1.1 | exact hk.1.1.2 | exact hk.1.2.1 | exact hk.1.2.2 | exact hk.2.1.1 | exact hk.2.1.2 | exact hk.2.2.1 | exact hk.2.2.2 | exact hk.1.1.1.1 | exact hk.1.1.1.2 | exact hk.2.2.2.1 | exact hk.2.2.2.2))))).2.1 (Kd.R_F (Kd.R_mono (ok' := (fun k_ => ((fun k_ => (w.heap.size ≤ k_) ∧ some k_ ≠ (.slice (some ⟨go9, 0, none⟩) x5_2.length co9 : Value).ownBlock)) k_ ∧ some k_ ≠ (.slice (some ad550) x6_2.length co41 : Value).ownBlock)) (Kd.R_apart' (Kd.R_apart' (HO554.out) (Kd.R_typed HO_5.out) (by decide)) (Kd.N_typed HO_6.out) (by decide)) (fun k_ hk => by first | exact ⟨⟨hk.1.1.1, hk.1.2⟩, hk.2⟩ | ((repeat' apply And.intro) <;> (first | exact hk | exact hk.1 | exact hk.2 | exact hk.1.1 | exact hk.1.2 | exact hk.2.1 | exact hk.2.2 | exact hk.1.1.1 | exact hk.1.1.2 | exact hk.1.2.1 | exact hk.1.2.2 | exact hk.2.1.1 | exact hk.2.1.2 | exact hk.2.2.1 | exact hk.2.2.2 | exact hk.1.1.1.1 | exact hk.1.1.1.2 | exact hk.2.2.2.1 | exact hk.2.2.2.2))))))); (case aB => exact zz88); (case aF => exact (fun k_ hk => ⟨(Nat.le_trans (below_size zz88) hk), Kd.fresh' (Kd.R_lt (zR HO_5)) k_ hk⟩)); (case aO => exact (by (with_reducible repeat (first | apply Kd.N_alloc | apply Kd.N_drewN | apply Kd.N_drew)); exact Kd.N_mono HO_6.out (fun _ hk => by first | exact ⟨hk.1.1, hk.2⟩ | ((repeat' apply And.intro) <;> (first | exact hk | exact hk.1 | exact hk.2 | exact hk.1.1 | exact hk.1.2 | exact hk.2.1 | exact hk.2.2 | exact hk.1.1.1 | exact hk.1.1.2 | exact hk.1.2.1 | exact hk.1.2.2 | exact hk.2.1.1 | exact hk.2.1.2 | exact hk.2.2.1 | exact hk.2.2.2 | exact hk.1.1.1.1 | exact hk.1.1.1.2 | exact hk.2.2.2.1 | exact hk.2.2.2.2))))); (case aS => exact (below_size zz88)); (case aL => have := LMc39.out; omega); intro v560 w46 ho hb hg hat; rw [← Ny559.out] at ho; replace HO_5 := aM (Kd.R_over' (zR HO_5) (Kd.N_typed (zN HO_6)) (by decide) hg); replace HL550_0 := aM (Kd.V_afterv (ok := (fun k_ => (w.heap.size ≤ k_) ∧ some k_ ≠ (.slice (some ⟨go9, 0, none⟩) x5_2.length co9 : Value).ownBlock ∧ some k_ ≠ (.slice Ao43 t552.length co43 : Value).ownBlock)) (by (with_reducible repeat (first | apply Kd.V_alloc | apply Kd.V_drewN | apply Kd.V_drew)); exact Kd.V_mono HL550_0.out (fun _ hk => by first | exact ⟨⟨hk.1.1, ⟨hk.2, hk.1.2.2⟩⟩, hk.1.2.1⟩ | ((repeat' apply And.intro) <;> (first | exact hk | exact hk.1 | exact hk.2 | exact hk.1.1 | exact hk.1.2 | exact hk.2.1 | exact hk.2.2 | exact hk.1.1.1 | exact hk.1.1.2 | exact hk.1.2.1 | exact hk.1.2.2 | exact hk.2.1.1 | exact hk.2.1.2 | exact hk.2.2.1 | exact hk.2.2.2 | exact hk.1.1.1.1 | exact hk.1.1.1.2 | exact hk.2.2.2.1 | exact hk.2.2.2.2)))) hg hat); replace HB := aM (hb); have HO561 := aM (ho); clear HO_6 HO554; clear ho hb hg hat))
                                      (try simp only [← hl5_2])
                                      go_roundg k2
                                      case measure => have := HK1.out; have := HK2.out; omega
                                      case rel => exact ⟨(y558), (y559), (wrap64 (x8_2 + 1)), zz112, H', ⟨zz113⟩, ⟨zz77⟩, ⟨(by (try simp only [hl5_1]); (try simp only [hl5_2]); (with_reducible repeat (first | apply Kd.N_alloc | apply Kd.N_drewN | apply Kd.N_drew)); exact HO561.out)⟩, ⟨zz88⟩⟩
                                    rw [if_neg c39] at H
                                    exact absurd H (by simp)
                                  rw [if_neg c37] at H
                                  exact absurd H (by simp)
                                rw [if_neg c36] at H
                                exact absurd H (by simp)
                              rw [if_neg c28] at H
                              exact absurd H (by simp)
                            rw [if_neg c27] at H
                            exact absurd H (by simp)
                          rw [if_neg c24] at H
                          exact absurd H (by simp)
                        rw [if_neg c23] at H
                        exact absurd H (by simp)
                      rw [if_neg c22] at H
                      exact absurd H (by simp)
                    rw [if_neg c21] at H; have c21b0 := decide_eq_false c21; clear c21; have H' := aM H; clear H; go_wp2
                    (try simp only [← hl5_1, ← hl5_2])
                    go_roundg k2
                    case measure => have := HK1.out; have := HK2.out; omega
                    case rel => exact ⟨(x5_2), (x6_2), (wrap64 (x7_1 + 1)), zz112, H', ⟨zz113⟩, ⟨zz77⟩, ⟨(by (try simp only [hl5_1]); (try simp only [hl5_2]); (with_reducible repeat (first | apply Kd.N_alloc | apply Kd.N_drewN | apply Kd.N_drew)); exact HO_6.out)⟩, ⟨zz88⟩⟩
              rw [if_neg c19] at H; have c19b0 := decide_eq_false c19; clear c19; have H' := aM H; clear H; obtain ⟨Ao47, co47, eo47⟩ := Kd.N_slice HO_6.out; subst eo47; go_wp2
              go_loopg [10] k1 (fun kq v10 w' => ∃ (x6_2 : List (List Int)) (x10_2 : Int), v10 = .int .i64 x10_2 ∧ Aside0 (r30_Group.l2 kq x6_2 x10_2 = some r) ∧ Aside0 (kq ≤ k1) ∧ Aside0 (Kd.N (Kd.slice 3 (Kd.int .i64)) 22 w' w.heap.size (fun k_ => (w.heap.size ≤ k_)) (.slice Ao47 x6_1.length co47) x6_2) ∧ Aside0 (Below w.heap.size w w'))
              case atStart => exact ⟨(x6_1), (1), zz112, H', ⟨Nat.le_refl _⟩, ⟨(by (try simp only [hl5_1]); (with_reducible repeat (first | apply Kd.N_alloc | apply Kd.N_drewN | apply Kd.N_drew)); exact Kd.N_mono HO_6.out (fun _ hk => by first | exact hk.1 | ((repeat' apply And.intro) <;> (first | exact hk | exact hk.1 | exact hk.2 | exact hk.1.1 | exact hk.1.2 | exact hk.2.1 | exact hk.2.2 | exact hk.1.1.1 | exact hk.1.1.2 | exact hk.1.2.1 | exact hk.1.2.2 | exact hk.2.1.1 | exact hk.2.1.2 | exact hk.2.2.1 | exact hk.2.2.2 | exact hk.1.1.1.1 | exact hk.1.1.1.2 | exact hk.2.2.2.1 | exact hk.2.2.2.2))))⟩, ⟨zz88⟩⟩
              case round =>
                clear H'; (try clear c1); (try clear c2); (try clear p2); (try clear q2); (try clear c3); (try clear c3b0); (try clear c3b1); (try clear p3); (try clear q3); (try clear hx3); (try clear hf3); (try clear c4); (try clear c5); (try clear c5b0); (try clear c5b1); (try clear p5); (try clear q5); (try clear hx5); (try clear qi5); (try clear c6); (try clear p6); (try clear c7); (try clear c7b0); (try clear c8); (try clear c8b0); (try clear p9); (try clear q9); (try clear hx9); (try clear hf9); (try clear c19); (try clear c19b0); (try clear c21); (try clear c21b0); (try clear c22); (try clear c22b0); (try clear c23); (try clear c23b0); (try clear c24); (try clear c24b0); (try clear c26); (try clear c27); (try clear c27b0); (try clear c28); (try clear c28b0); (try clear q29); (try clear c30); (try clear c36); (try clear c36b0); (try clear c37); (try clear c37b0); (try clear p38); (try clear q38); (try clear hx38); (try clear hf38); (try clear c39); (try clear c43); (try clear hx38_0); (try clear hx547_0); (try clear hx550_0); (try clear hx551_0); (try clear hx556_0); (try clear hx9_0); (try clear p2); (try clear p38); (try clear p5); (try clear p547); (try clear p550); (try clear p551); (try clear p556); (try clear p9); (try clear q38); (try clear q5); (try clear q547); (try clear q550); (try clear q551); (try clear q556); (try clear q9); obtain ⟨x6_2, x10_2, rfl, HA, HK2, HO_6, HB⟩ := hrel; have hl6_2 := (Kd.N_reads' HO_6.out).1; rw [hl6_2] at HO_6
                (try simp only [hl6_2])
                cases gk with
                | zero => exact absurd HA.out (by simp [r30_Group.l2])
                | succ k2 =>
                  have H := HA.out; clear HA; simp only [r30_Group.l2] at H
                  by_cases c48 : x10_2 < (x6_2.length : Int)
                  · rw [if_pos c48] at H; have c48b0 := decide_eq_true c48; clear c48; have H' := aM H; clear H; go_wp2
                    go_loopg [11] k2 (fun kq v11 w' => ∃ (x6_3 : List (List Int)) (x11_3 : Int), v11 = .int .i64 x11_3 ∧ Aside0 (r30_Group.l3 kq x6_3 x10_2 x11_3 = some r) ∧ Aside0 (kq ≤ k2) ∧ Aside0 (Kd.N (Kd.slice 3 (Kd.int .i64)) 22 w' w.heap.size (fun k_ => (w.heap.size ≤ k_)) (.slice Ao47 x6_2.length co47) x6_3) ∧ Aside0 (Below w.heap.size w w'))
                    case atStart => exact ⟨(x6_2), (x10_2), zz112, H', ⟨Nat.le_refl _⟩, ⟨(by (try simp only [hl5_1]); (try simp only [hl6_2]); (with_reducible repeat (first | apply Kd.N_alloc | apply Kd.N_drewN | apply Kd.N_drew)); exact HO_6.out)⟩, ⟨zz88⟩⟩
                    case round =>
                      clear H'; (try clear c1); (try clear c2); (try clear p2); (try clear q2); (try clear c3); (try clear c3b0); (try clear c3b1); (try clear p3); (try clear q3); (try clear hx3); (try clear hf3); (try clear c4); (try clear c5); (try clear c5b0); (try clear c5b1); (try clear p5); (try clear q5); (try clear hx5); (try clear qi5); (try clear c6); (try clear p6); (try clear c7); (try clear c7b0); (try clear c8); (try clear c8b0); (try clear p9); (try clear q9); (try clear hx9); (try clear hf9); (try clear c19); (try clear c19b0); (try clear c21); (try clear c21b0); (try clear c22); (try clear c22b0); (try clear c23); (try clear c23b0); (try clear c24); (try clear c24b0); (try clear c26); (try clear c27); (try clear c27b0); (try clear c28); (try clear c28b0); (try clear q29); (try clear c30); (try clear c36); (try clear c36b0); (try clear c37); (try clear c37b0); (try clear p38); (try clear q38); (try clear hx38); (try clear hf38); (try clear c39); (try clear c43); (try clear c48); (try clear c48b0); (try clear hx38_0); (try clear hx547_0); (try clear hx550_0); (try clear hx551_0); (try clear hx556_0); (try clear hx9_0); (try clear p2); (try clear p3); (try clear p38); (try clear p5); (try clear p547); (try clear p550); (try clear p551); (try clear p556); (try clear p6); (try clear p9); (try clear q2); (try clear q29); (try clear q3); (try clear q38); (try clear q5); (try clear q547); (try clear q550); (try clear q551); (try clear q556); (try clear q9); obtain ⟨x6_3, x11_3, rfl, HA, HK3, HO_6, HB⟩ := hrel; have hl6_3 := (Kd.N_reads' HO_6.out).1; rw [hl6_3] at HO_6
                      (try simp only [hl6_3])
                      cases gk with
                      | zero => exact absurd HA.out (by simp [r30_Group.l3])
                      | succ k3 =>
                        have H := HA.out; clear HA; simp only [r30_Group.l3] at H
                        by_cases c49 : x11_3 > 0
                        · rw [if_pos c49] at H; have c49b0 := decide_eq_true c49; clear c49
                          by_cases c50 : 0 ≤ x11_3
                          · rw [if_pos c50] at H; have c50b0 := decide_eq_true c50; clear c50
                            by_cases c51 : x11_3 < (x6_3.length : Int)
                            · rw [if_pos c51] at H; have c51b0 := decide_eq_true c51; clear c51; obtain ⟨ji52, hji52⟩ : ∃ j_ : Int, (wrap64 (x11_3 - 1)) = j_ := ⟨_, rfl⟩; replace H : (if 0 ≤ (ji52) then (if (ji52) < (x6_3.length : Int) then ((r30_Less.f k3 (rd_L1 x6_3 x11_3) (rd_L1 x6_3 (ji52))).bind fun t564 => (if t564 = true then (r30_Group.l3 k3 ((x6_3.set (x11_3 : Int).toNat (rd_L1 x6_3 (ji52))).set ((ji52) : Int).toNat (rd_L1 x6_3 x11_3)) x10_2 ji52) else (r30_Group.l2 k3 x6_3 (wrap64 (x10_2 + 1))))) else (none)) else (none)) = some r := by first | (rw [hji52] at H; exact H) | (simp only [hji52] at H ⊢; exact H)
                              have hji52w : (IntKind.i64.wrap (x11_3 - 1)) = ji52 := (i64_w _).trans hji52
                              by_cases c53 : 0 ≤ (ji52)
                              · rw [if_pos c53] at H; have c53b0 := decide_eq_true c53; clear c53
                                by_cases c54 : (ji52) < (x6_3.length : Int)
                                · rw [if_pos c54] at H; have c54b0 := decide_eq_true c54; clear c54; replace H := Option.bind_eq_some_iff.mp H; obtain ⟨t564, A550, H⟩ := H; replace H : (if t564 = true then (r30_Group.l3 k3 ((x6_3.set (x11_3 : Int).toNat (rd_L1 x6_3 (ji52))).set ((ji52) : Int).toNat (rd_L1 x6_3 x11_3)) x10_2 ji52) else (r30_Group.l2 k3 x6_3 (wrap64 (x10_2 + 1)))) = some r := H; have A55 := aM A550; clear A550
                                  by_cases c56 : t564 = true
                                  · subst c56; have H1 : (r30_Group.l3 k3 ((x6_3.set (x11_3 : Int).toNat (rd_L1 x6_3 (ji52))).set ((ji52) : Int).toNat (rd_L1 x6_3 x11_3)) x10_2 ji52) = some r := by rw [if_pos rfl] at H; exact H
                                    clear H; have H := H1; clear H1; obtain ⟨y567, hy567⟩ : ∃ y_ : List (List Int), y_ = (x6_3.set (x11_3 : Int).toNat (rd_L1 x6_3 (ji52))) := ⟨_, rfl⟩; replace H : (r30_Group.l3 k3 (y567.set ((ji52) : Int).toNat (rd_L1 x6_3 x11_3)) x10_2 ji52) = some r := by first | (rw [hy567]; with_reducible exact H) | (have H2_ := (Option.bind_some _ _).symm.trans H; rw [hy567]; with_reducible exact H2_) | (have H2_ := (Option.bind_some _ _).symm.trans H; with_reducible exact H2_) | with_reducible exact H | (rw [hy567]; exact H) | exact H
                                    have Ny567 := aM hy567; clear hy567; obtain ⟨y568, hy568⟩ : ∃ y_ : List (List Int), y_ = (y567.set ((ji52) : Int).toNat (rd_L1 x6_3 x11_3)) := ⟨_, rfl⟩; replace H : (r30_Group.l3 k3 y568 x10_2 ji52) = some r := by first | (rw [hy568]; with_reducible exact H) | (have H2_ := (Option.bind_some _ _).symm.trans H; rw [hy568]; with_reducible exact H2_) | (have H2_ := (Option.bind_some _ _).symm.trans H; with_reducible exact H2_) | with_reducible exact H | (rw [hy568]; exact H) | exact H
                                    have Ny568 := aM hy568; clear hy568; have H' := aM H; clear H
                                    try go_wp2
                                    have n0_ := aM (Kd.N_drew HO_6.out); have n1_ := aM (below_drew1 HB.out); clear HO_6; clear HB; have HO_6 := n0_; have HB := n1_; clear n0_ n1_; have p562 : 0 ≤ (x11_3 : Int) := of_decide_eq_true zz111; have q562 : x11_3 < (x6_3.length : Int) := of_decide_eq_true zz111; obtain ⟨ad562, A562_0, c562_0, e562, hx562_0, hl562_0, hi562_0⟩ := at_L1 (Kd.N_reads' HO_6.out).2.2 x11_3 p562 q562
                                    cases e562; obtain ⟨ce562, hce562, hMe562, hcc562⟩ := Kd.N_get HO_6.out [] x11_3 p562 zz83; obtain ⟨ua562_0, uc562_0, rfl, ul562_0, ge562_0⟩ := Kd.FK_slice_open hMe562; have hv562_0 := hcc562 0 _ rfl; rw [Nat.add_zero, show ((Kd.slice 3 (Kd.int .i64))).sz = 1 from rfl, Nat.mul_one] at hv562_0; replace hv562_0 := Option.some.inj (hv562_0.symm.trans hx562_0); injection hv562_0 with hva_ hvn_ hvc_
                                    rw [hva_] at ge562_0; rw [hvc_] at ul562_0; have HL562_0 := aM (show Kd.V (Kd.int .i64) 3 _ w.heap.size _ _ (rd_L1 x6_3 x11_3) from Kd.V_mk ul562_0 ge562_0); clear hva_ hvn_ hvc_ ge562_0 ul562_0; clear hcc562 hce562; have HR562_0 := aM hi562_0; have HC562_0 := aM hl562_0; clear hi562_0 hl562_0; replace p562 := eq_true p562; replace q562 := eq_true q562; have p563 : 0 ≤ ((ji52) : Int) := of_decide_eq_true zz111; have q563 : (ji52) < (x6_3.length : Int) := of_decide_eq_true zz111; obtain ⟨ad563, A563_0, c563_0, e563, hx563_0, hl563_0, hi563_0⟩ := at_L1 (Kd.N_reads' HO_6.out).2.2 (ji52) p563 q563; obtain rfl : ad562 = ad563 := (by injection e563); obtain ⟨ce563, hce563, hMe563, hcc563⟩ := Kd.N_get HO_6.out [] (ji52) p563 zz84; obtain ⟨ua563_0, uc563_0, rfl, ul563_0, ge563_0⟩ := Kd.FK_slice_open hMe563; have hv563_0 := hcc563 0 _ rfl; rw [Nat.add_zero, show ((Kd.slice 3 (Kd.int .i64))).sz = 1 from rfl, Nat.mul_one] at hv563_0; replace hv563_0 := Option.some.inj (hv563_0.symm.trans hx563_0); injection hv563_0 with hva_ hvn_ hvc_
                                    rw [hva_] at ge563_0; rw [hvc_] at ul563_0; have HL563_0 := aM (show Kd.V (Kd.int .i64) 3 _ w.heap.size _ _ (rd_L1 x6_3 (ji52)) from Kd.V_mk ul563_0 ge563_0); clear hva_ hvn_ hvc_ ge563_0 ul563_0; clear hcc563 hce563; have HR563_0 := aM hi563_0; have HC563_0 := aM hl563_0; clear hi563_0 hl563_0; replace p563 := eq_true p563; replace q563 := eq_true q563
                                    refine start_ (n := 14) (S := fun w' => w'.cell? (ad562.add (x11_3).toNat) = some (.slice A562_0 (rd_L1 x6_3 x11_3).length c562_0) ∧ w'.cell? (ad562.add ((ji52)).toNat) = some (.slice A563_0 (rd_L1 x6_3 (ji52)).length c563_0)) (ds := []) #[false, false, false, false, false, false, false, false, false, false, false, false, false, false] (by kernel_rfl) rfl rfl ⟨hx562_0, hx563_0⟩ (fun hHeld => ?_); refine with_tabW r30_Group.tab18 r30_Group.bits18 (fun HT_ HW_ => ?_); generalize wr.drew = w59 at HO_6 HB HL562_0 HL563_0 HR562_0 HR563_0 hx562_0 hx563_0 hHeld ⊢
                                    refine pure_ (i := 0) (N := some 64) (v := ?_) (a' := ?_) #[true, false, false, false, false, false, false, false, false, false, false, false, false, false] rfl rfl (any_of HT_.out (by kernel_rfl)) (fun _ _ _ h => h) (Or.inl ⟨by rfl, ?_⟩) ?_ ?_; rotate_left
                                    · intro w'; go_simp; with_reducible rfl
                                    rotate_left
                                    · simp only [Act.put, List.setIfInBounds_toArray, List.set_cons_zero, List.set_cons_succ, i64_w, i32_w]; rfl
                                    refine pure_ (i := 1) (N := some 65) (v := ?_) (a' := ?_) #[true, true, false, false, false, false, false, false, false, false, false, false, false, false] rfl rfl (any_of HT_.out (by kernel_rfl)) (fun _ _ _ h => h) (Or.inl ⟨by rfl, ?_⟩) ?_ ?_; rotate_left
                                    · intro w'; go_simp; with_reducible rfl
                                    rotate_left
                                    · simp only [Act.put, List.setIfInBounds_toArray, List.set_cons_zero, List.set_cons_succ, i64_w, i32_w]; rfl
                                    refine pure_ (i := 2) (N := some 66) (v := ?_) (a' := ?_) #[true, true, true, false, false, false, false, false, false, false, false, false, false, false] rfl rfl (any_of HT_.out (by kernel_rfl)) (fun _ _ _ h => h) (Or.inl ⟨by rfl, ?_⟩) ?_ ?_; rotate_left
                                    · intro w'; go_simp; with_reducible rfl
                                    rotate_left
                                    · simp only [Act.put, List.setIfInBounds_toArray, List.set_cons_zero, List.set_cons_succ, i64_w, i32_w]; rfl
                                    refine pure_ (i := 3) (N := some 67) (v := ?_) (a' := ?_) #[true, true, true, true, false, false, false, false, false, false, false, false, false, false] rfl rfl (any_of HT_.out (by kernel_rfl)) (fun _ _ _ h => h) (Or.inl ⟨by rfl, ?_⟩) ?_ ?_; rotate_left
                                    · intro w'; go_simp; with_reducible rfl
                                    rotate_left
                                    · simp only [Act.put, List.setIfInBounds_toArray, List.set_cons_zero, List.set_cons_succ, i64_w, i32_w]; rfl
                                    refine pure_ (i := 4) (N := some 68) (v := ?_) (a' := ?_) #[true, true, true, true, true, false, false, false, false, false, false, false, false, false] rfl rfl (any_of HT_.out (by kernel_rfl)) (fun _ _ _ h => h) (Or.inl ⟨by rfl, ?_⟩) ?_ ?_; rotate_left
                                    · intro w'; go_simp; with_reducible rfl
                                    rotate_left
                                    · simp only [Act.put, List.setIfInBounds_toArray, List.set_cons_zero, List.set_cons_succ, i64_w, i32_w]; rfl
                                    refine pure_ (i := 5) (N := some 69) (v := ?_) (a' := ?_) #[true, true, true, true, true, true, false, false, false, false, false, false, false, false] rfl rfl (any_of HT_.out (by kernel_rfl)) (fun _ _ _ h => h) (Or.inl ⟨by rfl, ?_⟩) ?_ ?_; rotate_left
                                    · intro w'; go_simp; with_reducible rfl
                                    rotate_left
                                    · simp only [Act.put, List.setIfInBounds_toArray, List.set_cons_zero, List.set_cons_succ, i64_w, i32_w]; rfl
                                    refine pure_ (i := 7) (N := some 71) (v := ?_) (a' := ?_) #[true, true, true, true, true, true, false, true, false, false, false, false, false, false] rfl rfl (any_of HT_.out (by kernel_rfl)) (fun _ _ _ h => h) (Or.inl ⟨by rfl, ?_⟩) ?_ ?_; rotate_left
                                    · intro w'; go_simp; with_reducible rfl
                                    rotate_left
                                    · simp only [Act.put, List.setIfInBounds_toArray, List.set_cons_zero, List.set_cons_succ, i64_w, i32_w]; rfl
                                    refine pure_ (i := 8) (N := some 72) (v := ?_) (a' := ?_) #[true, true, true, true, true, true, false, true, true, false, false, false, false, false] rfl rfl (any_of HT_.out (by kernel_rfl)) (fun _ _ _ h => h) (Or.inl ⟨by rfl, ?_⟩) ?_ ?_; rotate_left
                                    · intro w'; go_simp; with_reducible rfl
                                    rotate_left
                                    · simp only [Act.put, List.setIfInBounds_toArray, List.set_cons_zero, List.set_cons_succ, i64_w, i32_w]; rfl
                                    refine pure_ (i := 9) (N := some 73) (v := ?_) (a' := ?_) #[true, true, true, true, true, true, false, true, true, true, false, false, false, false] rfl rfl (any_of HT_.out (by kernel_rfl)) (fun _ _ _ h => h) (Or.inl ⟨by rfl, ?_⟩) ?_ ?_; rotate_left
                                    · intro w'; go_simp; with_reducible rfl
                                    rotate_left
                                    · simp only [Act.put, List.setIfInBounds_toArray, List.set_cons_zero, List.set_cons_succ, i64_w, i32_w]; rfl
                                    refine pure_ (i := 10) (N := some 74) (v := ?_) (a' := ?_) #[true, true, true, true, true, true, false, true, true, true, true, false, false, false] rfl rfl (any_of HT_.out (by kernel_rfl)) (fun _ _ _ h => h) (Or.inl ⟨by rfl, ?_⟩) ?_ ?_; rotate_left
                                    · intro w'; go_simp; with_reducible rfl
                                    rotate_left
                                    · simp only [Act.put, List.setIfInBounds_toArray, List.set_cons_zero, List.set_cons_succ, i64_w, i32_w]; rfl
                                    refine take_ (i := 6) (N := some 70) (v := ?_) (a' := ?_) #[true, true, true, true, true, true, true, true, true, true, true, false, false, false] rfl rfl (take_ofW HT_.out HW_.out (by kernel_rfl)) (fun _ _ _ h => h) (Or.inl ⟨by rfl, ?_⟩) hHeld ?_ ?_; rotate_left
                                    · rintro w' ⟨s0, s1⟩; go_simp; with_reducible rfl
                                    rotate_left
                                    · simp only [Act.put, List.setIfInBounds_toArray, List.set_cons_zero, List.set_cons_succ, i64_w, i32_w]; rfl
                                    refine take_ (i := 11) (N := some 75) (v := ?_) (a' := ?_) #[true, true, true, true, true, true, true, true, true, true, true, true, false, false] rfl rfl (take_ofW HT_.out HW_.out (by kernel_rfl)) (fun _ _ _ h => h) (Or.inl ⟨by rfl, ?_⟩) hHeld ?_ ?_; rotate_left
                                    · rintro w' ⟨s0, s1⟩; go_simp; with_reducible rfl
                                    rotate_left
                                    · simp only [Act.put, List.setIfInBounds_toArray, List.set_cons_zero, List.set_cons_succ, i64_w, i32_w]; rfl
                                    refine one_ (i := 12) (N := some 76) #[true, true, true, true, true, true, true, true, true, true, true, true, true, false] rfl rfl (one_of HT_.out (by kernel_rfl)) (by decide) (fun K hK => ?_)
                                    refine goes_ Try.func89 (by kernel_rfl) rfl #[.slice A562_0 (rd_L1 x6_3 x11_3).length c562_0, .slice A563_0 (rd_L1 x6_3 (ji52)).length c563_0] (by rfl) rfl rfl zz64 ?_; with_reducible refine (r30_Less.calls k3 _ _ (rd_L1 x6_3 x11_3) _ _ (rd_L1 x6_3 (ji52)) true _ ?side1 ?side2 ?side3 ?side4 A55.out).mono ?_
                                    (case side1 => repeat (first | exact zz58 | (with_reducible refine Kd.C_alloc ?_ _) | (with_reducible refine Kd.C_drewN ?_ _) | (with_reducible refine Kd.C_drew ?_)))
                                    (case side2 => exact HC562_0.out)
                                    (case side3 => repeat (first | exact zz59 | (with_reducible refine Kd.C_alloc ?_ _) | (with_reducible refine Kd.C_drewN ?_ _) | (with_reducible refine Kd.C_drew ?_)))
                                    (case side4 => exact HC563_0.out)
                                    rintro e w' ⟨rfl, ⟨nd, rfl⟩⟩
                                    refine ⟨_, rfl, ?_⟩
                                    refine hK.out _ _ ⟨hHeld.1, hHeld.2⟩ (fun hHeld => ?_); clear hK K
                                    refine norm_ (a' := ?_) ?_ ?_; rotate_left
                                    · show Act.put _ (some 76) _ = _
                                      simp only [Act.put, List.setIfInBounds_toArray, List.set_cons_zero, List.set_cons_succ, i64_w, i32_w]; rfl
                                    refine pure_ (i := 13) (N := some 77) (v := ?_) (a' := ?_) #[true, true, true, true, true, true, true, true, true, true, true, true, true, true] rfl rfl (any_of HT_.out (by kernel_rfl)) (fun _ _ _ h => h) (Or.inl ⟨by rfl, ?_⟩) ?_ ?_; rotate_left
                                    · intro w'; go_simp; with_reducible rfl
                                    rotate_left
                                    · simp only [Act.put, List.setIfInBounds_toArray, List.set_cons_zero, List.set_cons_succ, i64_w, i32_w]; rfl
                                    refine done_ (done_of HT_.out (by kernel_rfl)) ?_; have p1_ : 0 ≤ (x11_3 : Int) := of_decide_eq_true zz111; have q1_ : x11_3 < (x6_3.length : Int) := of_decide_eq_true zz111; have p2_ : 0 ≤ (ji52 : Int) := of_decide_eq_true zz111; have q2_ : ji52 < (x6_3.length : Int) := of_decide_eq_true zz111; have hne_ : x11_3 ≠ ji52 := by intro e_; have := hji52; unfold wrap64 at this; omega
                                    try go_wp2
                                    have HOx := aM (Kd.N_drew (Kd.N_drewN HO_6.out nd)); have HBx := aM (below_drew1 (pw_below_drewN HB.out nd)); clear HO_6 HB HL562_0 HL563_0 HR562_0 HR563_0 hHeld HT_ HW_; obtain ⟨go57, co57, eo57, gb57, gl57, cl57, HG57⟩ := Kd.N_form HOx.out (by omega)
                                    (first | cases eo57 | (injection eo57 with ea_ en_ ec_; (first | subst ea_ | (injection ea_ with ea_; subst ea_)); subst ec_; clear en_))
                                    have GB57 := aM gb57; clear gb57 gl57 HG57; obtain ⟨A1_, c1_, A2_, c2_, e1_, e2_, f1_, e2b_, f2_, HN_⟩ := N_swap1 HOx.out x11_3 ji52 p1_ q1_ p2_ q2_ hne_; have HQ : Aside0 (Kd.N (Kd.slice 3 (Kd.int .i64)) 22 ((((w59.drewN nd).drew).setCell ⟨go57, x11_3.toNat, none⟩ (.slice A2_ (rd_L1 x6_3 ji52).length c2_)).setCell ⟨go57, ji52.toNat, none⟩ (.slice A1_ (rd_L1 x6_3 x11_3).length c1_)) w.heap.size (fun k_ => (w.heap.size ≤ k_)) (.slice (some ⟨go57, 0, none⟩) x6_3.length co47) y568) := ⟨(by rw [Ny568.out, Ny567.out]; exact HN_)⟩; clear HN_ HOx; replace p1_ := eq_true p1_; replace q1_ := eq_true q1_; replace p2_ := eq_true p2_; replace q2_ := eq_true q2_
                                    refine start_ (n := 18) (S := fun w' => w'.cell? ⟨go57, (ji52).toNat, none⟩ = some (.slice A2_ (rd_L1 x6_3 ji52).length c2_) ∧ w'.cell? ⟨go57, (x11_3).toNat, none⟩ = some (.slice A1_ (rd_L1 x6_3 x11_3).length c1_)) (ds := [15, 17]) #[false, false, false, false, false, false, false, false, false, false, false, false, false, false, false, false, false, false] (by kernel_rfl) rfl rfl ⟨e2_, e1_⟩ (fun hHeld => ?_); refine with_tabW r30_Group.tab20 r30_Group.bits20 (fun HT_ HW_ => ?_); generalize (w59.drewN nd).drew = w17 at HBx HQ e1_ e2_ f1_ e2b_ f2_ hHeld ⊢
                                    refine pure_ (i := 0) (N := some 80) (v := ?_) (a' := ?_) #[true, false, false, false, false, false, false, false, false, false, false, false, false, false, false, false, false, false] rfl rfl (any_of HT_.out (by kernel_rfl)) (fun _ _ _ h => h) (Or.inl ⟨by rfl, ?_⟩) ?_ ?_; rotate_left
                                    · intro w'; go_simp; with_reducible rfl
                                    rotate_left
                                    · simp only [Act.put, List.setIfInBounds_toArray, List.set_cons_zero, List.set_cons_succ, i64_w, i32_w]; rfl
                                    refine pure_ (i := 1) (N := some 81) (v := ?_) (a' := ?_) #[true, true, false, false, false, false, false, false, false, false, false, false, false, false, false, false, false, false] rfl rfl (any_of HT_.out (by kernel_rfl)) (fun _ _ _ h => h) (Or.inl ⟨by rfl, ?_⟩) ?_ ?_; rotate_left
                                    · intro w'; go_simp; with_reducible rfl
                                    rotate_left
                                    · simp only [Act.put, List.setIfInBounds_toArray, List.set_cons_zero, List.set_cons_succ, i64_w, i32_w]; rfl
                                    refine pure_ (i := 2) (N := some 82) (v := ?_) (a' := ?_) #[true, true, true, false, false, false, false, false, false, false, false, false, false, false, false, false, false, false] rfl rfl (any_of HT_.out (by kernel_rfl)) (fun _ _ _ h => h) (Or.inl ⟨by rfl, ?_⟩) ?_ ?_; rotate_left
                                    · intro w'; go_simp; with_reducible rfl
                                    rotate_left
                                    · simp only [Act.put, List.setIfInBounds_toArray, List.set_cons_zero, List.set_cons_succ, i64_w, i32_w]; rfl
                                    refine pure_ (i := 3) (N := some 83) (v := ?_) (a' := ?_) #[true, true, true, true, false, false, false, false, false, false, false, false, false, false, false, false, false, false] rfl rfl (any_of HT_.out (by kernel_rfl)) (fun _ _ _ h => h) (Or.inl ⟨by rfl, ?_⟩) ?_ ?_; rotate_left
                                    · intro w'; go_simp; with_reducible rfl
                                    rotate_left
                                    · simp only [Act.put, List.setIfInBounds_toArray, List.set_cons_zero, List.set_cons_succ, i64_w, i32_w]; rfl
                                    refine pure_ (i := 4) (N := some 84) (v := ?_) (a' := ?_) #[true, true, true, true, true, false, false, false, false, false, false, false, false, false, false, false, false, false] rfl rfl (any_of HT_.out (by kernel_rfl)) (fun _ _ _ h => h) (Or.inl ⟨by rfl, ?_⟩) ?_ ?_; rotate_left
                                    · intro w'; go_simp; with_reducible rfl
                                    rotate_left
                                    · simp only [Act.put, List.setIfInBounds_toArray, List.set_cons_zero, List.set_cons_succ, i64_w, i32_w]; rfl
                                    refine pure_ (i := 5) (N := some 85) (v := ?_) (a' := ?_) #[true, true, true, true, true, true, false, false, false, false, false, false, false, false, false, false, false, false] rfl rfl (any_of HT_.out (by kernel_rfl)) (fun _ _ _ h => h) (Or.inl ⟨by rfl, ?_⟩) ?_ ?_; rotate_left
                                    · intro w'; go_simp; with_reducible rfl
                                    rotate_left
                                    · simp only [Act.put, List.setIfInBounds_toArray, List.set_cons_zero, List.set_cons_succ, i64_w, i32_w]; rfl
                                    refine pure_ (i := 6) (N := some 86) (v := ?_) (a' := ?_) #[true, true, true, true, true, true, true, false, false, false, false, false, false, false, false, false, false, false] rfl rfl (any_of HT_.out (by kernel_rfl)) (fun _ _ _ h => h) (Or.inl ⟨by rfl, ?_⟩) ?_ ?_; rotate_left
                                    · intro w'; go_simp; with_reducible rfl
                                    rotate_left
                                    · simp only [Act.put, List.setIfInBounds_toArray, List.set_cons_zero, List.set_cons_succ, i64_w, i32_w]; rfl
                                    refine pure_ (i := 7) (N := some 87) (v := ?_) (a' := ?_) #[true, true, true, true, true, true, true, true, false, false, false, false, false, false, false, false, false, false] rfl rfl (any_of HT_.out (by kernel_rfl)) (fun _ _ _ h => h) (Or.inl ⟨by rfl, ?_⟩) ?_ ?_; rotate_left
                                    · intro w'; go_simp; with_reducible rfl
                                    rotate_left
                                    · simp only [Act.put, List.setIfInBounds_toArray, List.set_cons_zero, List.set_cons_succ, i64_w, i32_w]; rfl
                                    refine pure_ (i := 8) (N := some 88) (v := ?_) (a' := ?_) #[true, true, true, true, true, true, true, true, true, false, false, false, false, false, false, false, false, false] rfl rfl (any_of HT_.out (by kernel_rfl)) (fun _ _ _ h => h) (Or.inl ⟨by rfl, ?_⟩) ?_ ?_; rotate_left
                                    · intro w'; go_simp; with_reducible rfl
                                    rotate_left
                                    · simp only [Act.put, List.setIfInBounds_toArray, List.set_cons_zero, List.set_cons_succ, i64_w, i32_w]; rfl
                                    refine pure_ (i := 10) (N := some 90) (v := ?_) (a' := ?_) #[true, true, true, true, true, true, true, true, true, false, true, false, false, false, false, false, false, false] rfl rfl (any_of HT_.out (by kernel_rfl)) (fun _ _ _ h => h) (Or.inl ⟨by rfl, ?_⟩) ?_ ?_; rotate_left
                                    · intro w'; go_simp; with_reducible rfl
                                    rotate_left
                                    · simp only [Act.put, List.setIfInBounds_toArray, List.set_cons_zero, List.set_cons_succ, i64_w, i32_w]; rfl
                                    refine pure_ (i := 11) (N := some 91) (v := ?_) (a' := ?_) #[true, true, true, true, true, true, true, true, true, false, true, true, false, false, false, false, false, false] rfl rfl (any_of HT_.out (by kernel_rfl)) (fun _ _ _ h => h) (Or.inl ⟨by rfl, ?_⟩) ?_ ?_; rotate_left
                                    · intro w'; go_simp; with_reducible rfl
                                    rotate_left
                                    · simp only [Act.put, List.setIfInBounds_toArray, List.set_cons_zero, List.set_cons_succ, i64_w, i32_w]; rfl
                                    refine pure_ (i := 12) (N := some 92) (v := ?_) (a' := ?_) #[true, true, true, true, true, true, true, true, true, false, true, true, true, false, false, false, false, false] rfl rfl (any_of HT_.out (by kernel_rfl)) (fun _ _ _ h => h) (Or.inl ⟨by rfl, ?_⟩) ?_ ?_; rotate_left
                                    · intro w'; go_simp; with_reducible rfl
                                    rotate_left
                                    · simp only [Act.put, List.setIfInBounds_toArray, List.set_cons_zero, List.set_cons_succ, i64_w, i32_w]; rfl
                                    refine take_ (i := 9) (N := some 89) (v := ?_) (a' := ?_) #[true, true, true, true, true, true, true, true, true, true, true, true, true, false, false, false, false, false] rfl rfl (take_ofW HT_.out HW_.out (by kernel_rfl)) (fun _ _ _ h => h) (Or.inl ⟨by rfl, ?_⟩) hHeld ?_ ?_; rotate_left
                                    · rintro w' ⟨s0, s1⟩; go_simp; with_reducible rfl
                                    rotate_left
                                    · simp only [Act.put, List.setIfInBounds_toArray, List.set_cons_zero, List.set_cons_succ, i64_w, i32_w]; rfl
                                    refine take_ (i := 13) (N := some 93) (v := ?_) (a' := ?_) #[true, true, true, true, true, true, true, true, true, true, true, true, true, true, false, false, false, false] rfl rfl (take_ofW HT_.out HW_.out (by kernel_rfl)) (fun _ _ _ h => h) (Or.inl ⟨by rfl, ?_⟩) hHeld ?_ ?_; rotate_left
                                    · rintro w' ⟨s0, s1⟩; go_simp; with_reducible rfl
                                    rotate_left
                                    · simp only [Act.put, List.setIfInBounds_toArray, List.set_cons_zero, List.set_cons_succ, i64_w, i32_w]; rfl
                                    refine pure_ (i := 14) (N := some 94) (v := ?_) (a' := ?_) #[true, true, true, true, true, true, true, true, true, true, true, true, true, true, true, false, false, false] rfl rfl (any_of HT_.out (by kernel_rfl)) (fun _ _ _ h => h) (Or.inl ⟨by rfl, ?_⟩) ?_ ?_; rotate_left
                                    · intro w'; go_simp; with_reducible rfl
                                    rotate_left
                                    · simp only [Act.put, List.setIfInBounds_toArray, List.set_cons_zero, List.set_cons_succ, i64_w, i32_w]; rfl
                                    refine last_ (i := 15) (N := none) #[true, true, true, true, true, true, true, true, true, true, true, true, true, true, true, true, false, false] rfl rfl (one_of HT_.out (by kernel_rfl)) (by decide) (fun K hK => ?_)
                                    refine skip_ (w1 := ?_) (by rfl) rfl ?_ ?_; rotate_left
                                    · go_simp; rfl
                                    refine hK.out _ _ ?_; clear hK K
                                    refine pure_ (i := 16) (N := some 95) (v := ?_) (a' := ?_) #[true, true, true, true, true, true, true, true, true, true, true, true, true, true, true, true, true, false] rfl rfl (any_of HT_.out (by kernel_rfl)) (fun _ _ _ h => h) (Or.inl ⟨by rfl, ?_⟩) ?_ ?_; rotate_left
                                    · intro w'; go_simp; with_reducible rfl
                                    rotate_left
                                    · simp only [Act.put, List.setIfInBounds_toArray, List.set_cons_zero, List.set_cons_succ, i64_w, i32_w]; rfl
                                    refine last_ (i := 17) (N := none) #[true, true, true, true, true, true, true, true, true, true, true, true, true, true, true, true, true, true] rfl rfl (one_of HT_.out (by kernel_rfl)) (by decide) (fun K hK => ?_)
                                    refine skip_ (w1 := ?_) (by rfl) rfl ?_ ?_; rotate_left
                                    · go_simp; rfl
                                    refine hK.out _ _ ?_; clear hK K
                                    refine done_ (done_of HT_.out (by kernel_rfl)) ?_
                                    try go_wp2
                                    (try simp only [← hl6_3])
                                    go_roundg k3
                                    case measure => have := HK1.out; have := HK2.out; have := HK3.out; omega
                                    case rel => exact ⟨(y568), (ji52), (by first | rfl | (simp; done) | (simp only [← hji52] <;> (first | rfl | simp)) | (simp [*]; done)), H', ⟨zz110⟩, ⟨(by (try simp only [hl5_1]); (try simp only [hl6_2]); (try simp only [hl6_3]); exact HQ.out)⟩, ⟨below_set (below_set HBx.out GB57.out) GB57.out⟩⟩
                                  replace c56 := Bool.eq_false_iff.mpr c56; subst c56; have H1 : (r30_Group.l2 k3 x6_3 (wrap64 (x10_2 + 1))) = some r := by rw [if_neg (show ¬ (false = true) by decide)] at H; exact H
                                  clear H; have H := H1; clear H1; have H' := aM H; clear H
                                  try go_wp2
                                  have n0_ := aM (Kd.N_drew HO_6.out); have n1_ := aM (below_drew1 HB.out); clear HO_6; clear HB; have HO_6 := n0_; have HB := n1_; clear n0_ n1_; have p562 : 0 ≤ (x11_3 : Int) := of_decide_eq_true zz111; have q562 : x11_3 < (x6_3.length : Int) := of_decide_eq_true zz111; obtain ⟨ad562, A562_0, c562_0, e562, hx562_0, hl562_0, hi562_0⟩ := at_L1 (Kd.N_reads' HO_6.out).2.2 x11_3 p562 q562
                                  cases e562; obtain ⟨ce562, hce562, hMe562, hcc562⟩ := Kd.N_get HO_6.out [] x11_3 p562 zz83; obtain ⟨ua562_0, uc562_0, rfl, ul562_0, ge562_0⟩ := Kd.FK_slice_open hMe562; have hv562_0 := hcc562 0 _ rfl; rw [Nat.add_zero, show ((Kd.slice 3 (Kd.int .i64))).sz = 1 from rfl, Nat.mul_one] at hv562_0; replace hv562_0 := Option.some.inj (hv562_0.symm.trans hx562_0); injection hv562_0 with hva_ hvn_ hvc_
                                  rw [hva_] at ge562_0; rw [hvc_] at ul562_0; have HL562_0 := aM (show Kd.V (Kd.int .i64) 3 _ w.heap.size _ _ (rd_L1 x6_3 x11_3) from Kd.V_mk ul562_0 ge562_0); clear hva_ hvn_ hvc_ ge562_0 ul562_0; clear hcc562 hce562; have HR562_0 := aM hi562_0; have HC562_0 := aM hl562_0; clear hi562_0 hl562_0; replace p562 := eq_true p562; replace q562 := eq_true q562; have p563 : 0 ≤ ((ji52) : Int) := of_decide_eq_true zz111; have q563 : (ji52) < (x6_3.length : Int) := of_decide_eq_true zz111; obtain ⟨ad563, A563_0, c563_0, e563, hx563_0, hl563_0, hi563_0⟩ := at_L1 (Kd.N_reads' HO_6.out).2.2 (ji52) p563 q563; obtain rfl : ad562 = ad563 := (by injection e563); obtain ⟨ce563, hce563, hMe563, hcc563⟩ := Kd.N_get HO_6.out [] (ji52) p563 zz84; obtain ⟨ua563_0, uc563_0, rfl, ul563_0, ge563_0⟩ := Kd.FK_slice_open hMe563; have hv563_0 := hcc563 0 _ rfl; rw [Nat.add_zero, show ((Kd.slice 3 (Kd.int .i64))).sz = 1 from rfl, Nat.mul_one] at hv563_0; replace hv563_0 := Option.some.inj (hv563_0.symm.trans hx563_0); injection hv563_0 with hva_ hvn_ hvc_
                                  rw [hva_] at ge563_0; rw [hvc_] at ul563_0; have HL563_0 := aM (show Kd.V (Kd.int .i64) 3 _ w.heap.size _ _ (rd_L1 x6_3 (ji52)) from Kd.V_mk ul563_0 ge563_0); clear hva_ hvn_ hvc_ ge563_0 ul563_0; clear hcc563 hce563; have HR563_0 := aM hi563_0; have HC563_0 := aM hl563_0; clear hi563_0 hl563_0; replace p563 := eq_true p563; replace q563 := eq_true q563
                                  refine start_ (n := 14) (S := fun w' => w'.cell? (ad562.add (x11_3).toNat) = some (.slice A562_0 (rd_L1 x6_3 x11_3).length c562_0) ∧ w'.cell? (ad562.add ((ji52)).toNat) = some (.slice A563_0 (rd_L1 x6_3 (ji52)).length c563_0)) (ds := []) #[false, false, false, false, false, false, false, false, false, false, false, false, false, false] (by kernel_rfl) rfl rfl ⟨hx562_0, hx563_0⟩ (fun hHeld => ?_); refine with_tabW r30_Group.tab18 r30_Group.bits18 (fun HT_ HW_ => ?_); generalize wr.drew = w64 at HO_6 HB HL562_0 HL563_0 HR562_0 HR563_0 hx562_0 hx563_0 hHeld ⊢
                                  refine pure_ (i := 0) (N := some 64) (v := ?_) (a' := ?_) #[true, false, false, false, false, false, false, false, false, false, false, false, false, false] rfl rfl (any_of HT_.out (by kernel_rfl)) (fun _ _ _ h => h) (Or.inl ⟨by rfl, ?_⟩) ?_ ?_; rotate_left
                                  · intro w'; go_simp; with_reducible rfl
                                  rotate_left
                                  · simp only [Act.put, List.setIfInBounds_toArray, List.set_cons_zero, List.set_cons_succ, i64_w, i32_w]; rfl
                                  refine pure_ (i := 1) (N := some 65) (v := ?_) (a' := ?_) #[true, true, false, false, false, false, false, false, false, false, false, false, false, false] rfl rfl (any_of HT_.out (by kernel_rfl)) (fun _ _ _ h => h) (Or.inl ⟨by rfl, ?_⟩) ?_ ?_; rotate_left
                                  · intro w'; go_simp; with_reducible rfl
                                  rotate_left
                                  · simp only [Act.put, List.setIfInBounds_toArray, List.set_cons_zero, List.set_cons_succ, i64_w, i32_w]; rfl
                                  refine pure_ (i := 2) (N := some 66) (v := ?_) (a' := ?_) #[true, true, true, false, false, false, false, false, false, false, false, false, false, false] rfl rfl (any_of HT_.out (by kernel_rfl)) (fun _ _ _ h => h) (Or.inl ⟨by rfl, ?_⟩) ?_ ?_; rotate_left
                                  · intro w'; go_simp; with_reducible rfl
                                  rotate_left
                                  · simp only [Act.put, List.setIfInBounds_toArray, List.set_cons_zero, List.set_cons_succ, i64_w, i32_w]; rfl
                                  refine pure_ (i := 3) (N := some 67) (v := ?_) (a' := ?_) #[true, true, true, true, false, false, false, false, false, false, false, false, false, false] rfl rfl (any_of HT_.out (by kernel_rfl)) (fun _ _ _ h => h) (Or.inl ⟨by rfl, ?_⟩) ?_ ?_; rotate_left
                                  · intro w'; go_simp; with_reducible rfl
                                  rotate_left
                                  · simp only [Act.put, List.setIfInBounds_toArray, List.set_cons_zero, List.set_cons_succ, i64_w, i32_w]; rfl
                                  refine pure_ (i := 4) (N := some 68) (v := ?_) (a' := ?_) #[true, true, true, true, true, false, false, false, false, false, false, false, false, false] rfl rfl (any_of HT_.out (by kernel_rfl)) (fun _ _ _ h => h) (Or.inl ⟨by rfl, ?_⟩) ?_ ?_; rotate_left
                                  · intro w'; go_simp; with_reducible rfl
                                  rotate_left
                                  · simp only [Act.put, List.setIfInBounds_toArray, List.set_cons_zero, List.set_cons_succ, i64_w, i32_w]; rfl
                                  refine pure_ (i := 5) (N := some 69) (v := ?_) (a' := ?_) #[true, true, true, true, true, true, false, false, false, false, false, false, false, false] rfl rfl (any_of HT_.out (by kernel_rfl)) (fun _ _ _ h => h) (Or.inl ⟨by rfl, ?_⟩) ?_ ?_; rotate_left
                                  · intro w'; go_simp; with_reducible rfl
                                  rotate_left
                                  · simp only [Act.put, List.setIfInBounds_toArray, List.set_cons_zero, List.set_cons_succ, i64_w, i32_w]; rfl
                                  refine pure_ (i := 7) (N := some 71) (v := ?_) (a' := ?_) #[true, true, true, true, true, true, false, true, false, false, false, false, false, false] rfl rfl (any_of HT_.out (by kernel_rfl)) (fun _ _ _ h => h) (Or.inl ⟨by rfl, ?_⟩) ?_ ?_; rotate_left
                                  · intro w'; go_simp; with_reducible rfl
                                  rotate_left
                                  · simp only [Act.put, List.setIfInBounds_toArray, List.set_cons_zero, List.set_cons_succ, i64_w, i32_w]; rfl
                                  refine pure_ (i := 8) (N := some 72) (v := ?_) (a' := ?_) #[true, true, true, true, true, true, false, true, true, false, false, false, false, false] rfl rfl (any_of HT_.out (by kernel_rfl)) (fun _ _ _ h => h) (Or.inl ⟨by rfl, ?_⟩) ?_ ?_; rotate_left
                                  · intro w'; go_simp; with_reducible rfl
                                  rotate_left
                                  · simp only [Act.put, List.setIfInBounds_toArray, List.set_cons_zero, List.set_cons_succ, i64_w, i32_w]; rfl
                                  refine pure_ (i := 9) (N := some 73) (v := ?_) (a' := ?_) #[true, true, true, true, true, true, false, true, true, true, false, false, false, false] rfl rfl (any_of HT_.out (by kernel_rfl)) (fun _ _ _ h => h) (Or.inl ⟨by rfl, ?_⟩) ?_ ?_; rotate_left
                                  · intro w'; go_simp; with_reducible rfl
                                  rotate_left
                                  · simp only [Act.put, List.setIfInBounds_toArray, List.set_cons_zero, List.set_cons_succ, i64_w, i32_w]; rfl
                                  refine pure_ (i := 10) (N := some 74) (v := ?_) (a' := ?_) #[true, true, true, true, true, true, false, true, true, true, true, false, false, false] rfl rfl (any_of HT_.out (by kernel_rfl)) (fun _ _ _ h => h) (Or.inl ⟨by rfl, ?_⟩) ?_ ?_; rotate_left
                                  · intro w'; go_simp; with_reducible rfl
                                  rotate_left
                                  · simp only [Act.put, List.setIfInBounds_toArray, List.set_cons_zero, List.set_cons_succ, i64_w, i32_w]; rfl
                                  refine take_ (i := 6) (N := some 70) (v := ?_) (a' := ?_) #[true, true, true, true, true, true, true, true, true, true, true, false, false, false] rfl rfl (take_ofW HT_.out HW_.out (by kernel_rfl)) (fun _ _ _ h => h) (Or.inl ⟨by rfl, ?_⟩) hHeld ?_ ?_; rotate_left
                                  · rintro w' ⟨s0, s1⟩; go_simp; with_reducible rfl
                                  rotate_left
                                  · simp only [Act.put, List.setIfInBounds_toArray, List.set_cons_zero, List.set_cons_succ, i64_w, i32_w]; rfl
                                  refine take_ (i := 11) (N := some 75) (v := ?_) (a' := ?_) #[true, true, true, true, true, true, true, true, true, true, true, true, false, false] rfl rfl (take_ofW HT_.out HW_.out (by kernel_rfl)) (fun _ _ _ h => h) (Or.inl ⟨by rfl, ?_⟩) hHeld ?_ ?_; rotate_left
                                  · rintro w' ⟨s0, s1⟩; go_simp; with_reducible rfl
                                  rotate_left
                                  · simp only [Act.put, List.setIfInBounds_toArray, List.set_cons_zero, List.set_cons_succ, i64_w, i32_w]; rfl
                                  refine one_ (i := 12) (N := some 76) #[true, true, true, true, true, true, true, true, true, true, true, true, true, false] rfl rfl (one_of HT_.out (by kernel_rfl)) (by decide) (fun K hK => ?_)
                                  refine goes_ Try.func89 (by kernel_rfl) rfl #[.slice A562_0 (rd_L1 x6_3 x11_3).length c562_0, .slice A563_0 (rd_L1 x6_3 (ji52)).length c563_0] (by rfl) rfl rfl zz64 ?_; with_reducible refine (r30_Less.calls k3 _ _ (rd_L1 x6_3 x11_3) _ _ (rd_L1 x6_3 (ji52)) false _ ?side1 ?side2 ?side3 ?side4 A55.out).mono ?_
                                  (case side1 => repeat (first | exact zz58 | (with_reducible refine Kd.C_alloc ?_ _) | (with_reducible refine Kd.C_drewN ?_ _) | (with_reducible refine Kd.C_drew ?_)))
                                  (case side2 => exact HC562_0.out)
                                  (case side3 => repeat (first | exact zz59 | (with_reducible refine Kd.C_alloc ?_ _) | (with_reducible refine Kd.C_drewN ?_ _) | (with_reducible refine Kd.C_drew ?_)))
                                  (case side4 => exact HC563_0.out)
                                  rintro e w' ⟨rfl, ⟨nd, rfl⟩⟩
                                  refine ⟨_, rfl, ?_⟩
                                  refine hK.out _ _ ⟨hHeld.1, hHeld.2⟩ (fun hHeld => ?_); clear hK K
                                  refine norm_ (a' := ?_) ?_ ?_; rotate_left
                                  · show Act.put _ (some 76) _ = _
                                    simp only [Act.put, List.setIfInBounds_toArray, List.set_cons_zero, List.set_cons_succ, i64_w, i32_w]; rfl
                                  refine pure_ (i := 13) (N := some 77) (v := ?_) (a' := ?_) #[true, true, true, true, true, true, true, true, true, true, true, true, true, true] rfl rfl (any_of HT_.out (by kernel_rfl)) (fun _ _ _ h => h) (Or.inl ⟨by rfl, ?_⟩) ?_ ?_; rotate_left
                                  · intro w'; go_simp; with_reducible rfl
                                  rotate_left
                                  · simp only [Act.put, List.setIfInBounds_toArray, List.set_cons_zero, List.set_cons_succ, i64_w, i32_w]; rfl
                                  refine done_ (done_of HT_.out (by kernel_rfl)) ?_
                                  try go_wp2
                                  (try simp only [← hl6_2, ← hl6_3])
                                  go_roundg k3
                                  case measure => have := HK1.out; have := HK2.out; have := HK3.out; omega
                                  case rel => exact ⟨(x6_3), (wrap64 (x10_2 + 1)), zz112, H', ⟨zz110⟩, ⟨zz62⟩, ⟨zz88⟩⟩
                                rw [if_neg c54] at H
                                exact absurd H (by simp)
                              rw [if_neg c53] at H
                              exact absurd H (by simp)
                            rw [if_neg c51] at H
                            exact absurd H (by simp)
                          rw [if_neg c50] at H
                          exact absurd H (by simp)
                        rw [if_neg c49] at H; have c49b0 := decide_eq_false c49; clear c49; have H' := aM H; clear H
                        try go_wp2
                        have n0_ := aM (Kd.N_drew HO_6.out); have n1_ := aM (below_drew1 HB.out); clear HO_6; clear HB; have HO_6 := n0_; have HB := n1_; clear n0_ n1_
                        refine start_ (n := 14) (S := fun w' => True) (ds := []) #[false, false, false, false, false, false, false, false, false, false, false, false, false, false] (by kernel_rfl) rfl rfl trivial (fun hHeld => ?_); refine with_tabW r30_Group.tab18 r30_Group.bits18 (fun HT_ HW_ => ?_); generalize wr.drew = w65 at HO_6 HB hHeld ⊢
                        refine pure_ (i := 0) (N := some 64) (v := ?_) (a' := ?_) #[true, false, false, false, false, false, false, false, false, false, false, false, false, false] rfl rfl (any_of HT_.out (by kernel_rfl)) (fun _ _ _ h => h) (Or.inl ⟨by rfl, ?_⟩) ?_ ?_; rotate_left
                        · intro w'; go_simp; with_reducible rfl
                        rotate_left
                        · simp only [Act.put, List.setIfInBounds_toArray, List.set_cons_zero, List.set_cons_succ, i64_w, i32_w]; rfl
                        refine pure_ (i := 1) (N := some 65) (v := ?_) (a' := ?_) #[true, true, false, false, false, false, false, false, false, false, false, false, false, false] rfl rfl (any_of HT_.out (by kernel_rfl)) (fun _ _ _ h => h) (Or.inl ⟨by rfl, ?_⟩) ?_ ?_; rotate_left
                        · intro w'; go_simp; with_reducible rfl
                        rotate_left
                        · simp only [Act.put, List.setIfInBounds_toArray, List.set_cons_zero, List.set_cons_succ, i64_w, i32_w]; rfl
                        refine pure_ (i := 2) (N := some 66) (v := ?_) (a' := ?_) #[true, true, true, false, false, false, false, false, false, false, false, false, false, false] rfl rfl (any_of HT_.out (by kernel_rfl)) (fun _ _ _ h => h) (Or.inl ⟨by rfl, ?_⟩) ?_ ?_; rotate_left
                        · intro w'; go_simp; with_reducible rfl
                        rotate_left
                        · simp only [Act.put, List.setIfInBounds_toArray, List.set_cons_zero, List.set_cons_succ, i64_w, i32_w]; rfl
                        refine pure_ (i := 3) (N := some 67) (v := undef) (a' := ?_) #[true, true, true, true, false, false, false, false, false, false, false, false, false, false] rfl rfl (any_of HT_.out (by kernel_rfl)) (fun _ _ _ h => h) (Or.inr ⟨by rfl, rfl⟩) ?_ ?_; rotate_left
                        · simp only [Act.put, List.setIfInBounds_toArray, List.set_cons_zero, List.set_cons_succ, i64_w, i32_w]; rfl
                        refine pure_ (i := 4) (N := some 68) (v := undef) (a' := ?_) #[true, true, true, true, true, false, false, false, false, false, false, false, false, false] rfl rfl (any_of HT_.out (by kernel_rfl)) (fun _ _ _ h => h) (Or.inr ⟨by rfl, rfl⟩) ?_ ?_; rotate_left
                        · simp only [Act.put, List.setIfInBounds_toArray, List.set_cons_zero, List.set_cons_succ, i64_w, i32_w]; rfl
                        refine pure_ (i := 5) (N := some 69) (v := undef) (a' := ?_) #[true, true, true, true, true, true, false, false, false, false, false, false, false, false] rfl rfl (any_of HT_.out (by kernel_rfl)) (fun _ _ _ h => h) (Or.inr ⟨by rfl, rfl⟩) ?_ ?_; rotate_left
                        · simp only [Act.put, List.setIfInBounds_toArray, List.set_cons_zero, List.set_cons_succ, i64_w, i32_w]; rfl
                        refine pure_ (i := 6) (N := some 70) (v := undef) (a' := ?_) #[true, true, true, true, true, true, true, false, false, false, false, false, false, false] rfl rfl (any_of HT_.out (by kernel_rfl)) (fun _ _ _ h => h) (Or.inr ⟨by rfl, rfl⟩) ?_ ?_; rotate_left
                        · simp only [Act.put, List.setIfInBounds_toArray, List.set_cons_zero, List.set_cons_succ, i64_w, i32_w]; rfl
                        refine pure_ (i := 7) (N := some 71) (v := undef) (a' := ?_) #[true, true, true, true, true, true, true, true, false, false, false, false, false, false] rfl rfl (any_of HT_.out (by kernel_rfl)) (fun _ _ _ h => h) (Or.inr ⟨by rfl, rfl⟩) ?_ ?_; rotate_left
                        · simp only [Act.put, List.setIfInBounds_toArray, List.set_cons_zero, List.set_cons_succ, i64_w, i32_w]; rfl
                        refine pure_ (i := 8) (N := some 72) (v := undef) (a' := ?_) #[true, true, true, true, true, true, true, true, true, false, false, false, false, false] rfl rfl (any_of HT_.out (by kernel_rfl)) (fun _ _ _ h => h) (Or.inr ⟨by rfl, rfl⟩) ?_ ?_; rotate_left
                        · simp only [Act.put, List.setIfInBounds_toArray, List.set_cons_zero, List.set_cons_succ, i64_w, i32_w]; rfl
                        refine pure_ (i := 9) (N := some 73) (v := undef) (a' := ?_) #[true, true, true, true, true, true, true, true, true, true, false, false, false, false] rfl rfl (any_of HT_.out (by kernel_rfl)) (fun _ _ _ h => h) (Or.inr ⟨by rfl, rfl⟩) ?_ ?_; rotate_left
                        · simp only [Act.put, List.setIfInBounds_toArray, List.set_cons_zero, List.set_cons_succ, i64_w, i32_w]; rfl
                        refine pure_ (i := 10) (N := some 74) (v := undef) (a' := ?_) #[true, true, true, true, true, true, true, true, true, true, true, false, false, false] rfl rfl (any_of HT_.out (by kernel_rfl)) (fun _ _ _ h => h) (Or.inr ⟨by rfl, rfl⟩) ?_ ?_; rotate_left
                        · simp only [Act.put, List.setIfInBounds_toArray, List.set_cons_zero, List.set_cons_succ, i64_w, i32_w]; rfl
                        refine pure_ (i := 11) (N := some 75) (v := undef) (a' := ?_) #[true, true, true, true, true, true, true, true, true, true, true, true, false, false] rfl rfl (any_of HT_.out (by kernel_rfl)) (fun _ _ _ h => h) (Or.inr ⟨by rfl, rfl⟩) ?_ ?_; rotate_left
                        · simp only [Act.put, List.setIfInBounds_toArray, List.set_cons_zero, List.set_cons_succ, i64_w, i32_w]; rfl
                        refine pure_ (i := 12) (N := some 76) (v := undef) (a' := ?_) #[true, true, true, true, true, true, true, true, true, true, true, true, true, false] rfl rfl (any_of HT_.out (by kernel_rfl)) (fun _ _ _ h => h) (Or.inr ⟨by rfl, rfl⟩) ?_ ?_; rotate_left
                        · simp only [Act.put, List.setIfInBounds_toArray, List.set_cons_zero, List.set_cons_succ, i64_w, i32_w]; rfl
                        refine pure_ (i := 13) (N := some 77) (v := ?_) (a' := ?_) #[true, true, true, true, true, true, true, true, true, true, true, true, true, true] rfl rfl (any_of HT_.out (by kernel_rfl)) (fun _ _ _ h => h) (Or.inl ⟨by rfl, ?_⟩) ?_ ?_; rotate_left
                        · intro w'; go_simp; with_reducible rfl
                        rotate_left
                        · simp only [Act.put, List.setIfInBounds_toArray, List.set_cons_zero, List.set_cons_succ, i64_w, i32_w]; rfl
                        refine done_ (done_of HT_.out (by kernel_rfl)) ?_
                        try go_wp2
                        (try simp only [← hl6_2, ← hl6_3])
                        go_roundg k3
                        case measure => have := HK1.out; have := HK2.out; have := HK3.out; omega
                        case rel => exact ⟨(x6_3), (wrap64 (x10_2 + 1)), zz112, H', ⟨zz110⟩, ⟨zz62⟩, ⟨zz88⟩⟩
                  rw [if_neg c48] at H; have c48b0 := decide_eq_false c48; clear c48; obtain rfl := Option.some.inj H; go_wp2; go_ret
                  exact ⟨_, by first | rfl | (simp [errW_none, errW_some] <;> rfl) | (simp [*, errW_none, errW_some] <;> rfl), by (with_reducible repeat (first | apply Kd.N_alloc | apply Kd.N_drewN | apply Kd.N_drew)); exact HO_6.out, by repeat (first | (with_reducible first | exact HB.out | apply below_alloc | apply pw_below_drewN | apply below_drew1) | exact HB.out)⟩
        rw [if_neg c8] at H
        exact absurd H (by simp)
      rw [if_neg c7] at H
      exact absurd H (by simp)
    rw [if_neg c5] at H
    exact absurd H (by simp)
  rw [if_neg c3] at H
  exact absurd H (by simp)
end
section
attribute [local go_sem] max2_int min2_int max_two min_two max_three min_three max_four min_four
def r30_Build.f (k : Nat) (a0 : Int) (l1 : List (List Int)) : Option (Int × (List (S74)) × Int) := (r30_group.f k a0 l1).bind fun t539 => (if t539 = 0 then ((r30_Group.f k a0 l1).bind fun t540 => ((r30_Of.f k a0 t540).bind fun bt543 => (some (bt543.1, bt543.2, 0)))) else (some (0, ([] : List (S74)), t539)))
theorem r30_Build.calls (k : Nat) (a0 : Int) (A1 : Option Addr) (c1 : Nat) (l1 : List (List Int)) (r1 : Int) (r2 : List (S74)) (r3 : Int) (w : World) (hr1 : Kd.C (Kd.slice 3 (Kd.int .i64)) w A1 l1.length l1) (hc1 : l1.length ≤ c1) (h : r30_Build.f k a0 l1 = some (r1, r2, r3)) :
    Calls Try.prog 31 #[.int .i64 a0, .slice A1 l1.length c1] w fun e w' => ∃ v1_ : Value, e = .returned (.tuple #[.agg #[.int .i64 r1, v1_], .int .i64 r3]) ∧ Kd.N k74 74 w' w.heap.size (fun k_ => (w.heap.size ≤ k_)) v1_ r2 ∧ Below w.heap.size w w' := by
  have hu46 := Try.underlying46
  have HR1 := aM hr1
  have HC1 := aM hc1
  clear hr1 hc1
  have HB := aM (Below.refl w.heap.size w)
  have H : ((r30_group.f k a0 l1).bind fun t539 => (if t539 = 0 then ((r30_Group.f k a0 l1).bind fun t540 => ((r30_Of.f k a0 t540).bind fun bt543 => (some (bt543.1, bt543.2, 0)))) else (some (0, ([] : List (S74)), t539)))) = some (r1, r2, r3) := h
  clear h
  replace H := Option.bind_eq_some_iff.mp H
  obtain ⟨t539, A30, H⟩ := H
  replace H : (if t539 = 0 then ((r30_Group.f k a0 l1).bind fun t540 => ((r30_Of.f k a0 t540).bind fun bt543 => (some (bt543.1, bt543.2, 0)))) else (some (0, ([] : List (S74)), t539))) = some (r1, r2, r3) := H
  have A3 := aM A30
  clear A30
  by_cases c4 : t539 = 0
  · rw [if_pos c4] at H
    have c4b0 := beq_iff_eq.mpr c4; have c4b1 := bne_eq_false_iff_eq.mpr c4; clear c4; replace H := Option.bind_eq_some_iff.mp H; obtain ⟨t540, A50, H⟩ := H; replace H : ((r30_Of.f k a0 t540).bind fun bt543 => (some (bt543.1, bt543.2, 0))) = some (r1, r2, r3) := H; have A5 := aM A50; clear A50; replace H := Option.bind_eq_some_iff.mp H; obtain ⟨⟨t543, t544⟩, A60, H⟩ := H; replace H : (some (t543, t544, 0)) = some (r1, r2, r3) := H; have A6 := aM A60; clear A60; simp only [Option.some.injEq, Prod.mk.injEq] at H; obtain ⟨rfl, rfl, rfl⟩ := H
    go_enter Try.func31, Try.ntmps31
    go_wp2_with (first | ((with_reducible refine gate_dst (N := 4) rfl ?_); refine box_event ?hg (N := 4) ?hd (cs := #[.int .i64 0, .slice none 0 0]) (t := 46) ?hr ?_; (case hd => rfl); (case hg => rfl); (case hr => first | (go_simp; done) | (go_simp; rfl)); intro gb538 hg w7 hbox hb; have BK538 := aM (hbox); have GW538 := aM ((by rw [hg]; exact (below_size zz88) : w.heap.size ≤ gb538)); have GE538 := aM ((by rw [hg]; exact (below_size zz88) : w.heap.size ≤ gb538)); replace HB := aM (below_step zz88 hb); clear hb hbox hg) | ((with_reducible refine gate_callee (f := 59) rfl ?_); refine goesL_ (some 9) rfl rfl Try.func59 (by kernel_rfl) rfl #[.int .i64 a0, .slice A1 l1.length c1] rfl zz87 ?_; (with_reducible refine (r30_group.calls k a0 _ _ l1 t539 _ ?side1 ?side2 A3.out).mono ?_); (case side1 => repeat (first | exact (Kd.C_below HR1.out HB.out) | (with_reducible refine Kd.C_alloc ?_ _) | (with_reducible refine Kd.C_drewN ?_ _) | (with_reducible refine Kd.C_drew ?_))); (case side2 => exact HC1.out); rintro e w' ⟨rfl, ⟨nd, rfl⟩⟩; refine ⟨_, rfl, ?_⟩; (try (rw [drewN_self w7]; generalize hq_ : World.drewN w7 _ = w7; have n0_ : Aside0 (w7.heap[gb538]? = some (.cells #[.int .i64 0, .slice none 0 0] 46 (0, 0))) := ⟨(by rw [← hq_]; exact (zB BK538))⟩; have n1_ : Aside0 (Below w.heap.size w w7) := ⟨zz61⟩; clear BK538 HB hq_; have BK538 := n0_; have HB := n1_; clear n0_ n1_))) | ((with_reducible refine gate_callee (f := 64) rfl ?_); refine goesL_ (some 17) rfl rfl Try.func64 (by kernel_rfl) rfl #[.int .i64 a0, .slice A1 l1.length c1] rfl zz87 ?_; (with_reducible refine (r30_Group.calls k a0 _ _ l1 t540 _ ?side1 ?side2 A5.out).mono ?_); (case side1 => repeat (first | exact (Kd.C_below HR1.out HB.out) | (with_reducible refine Kd.C_alloc ?_ _) | (with_reducible refine Kd.C_drewN ?_ _) | (with_reducible refine Kd.C_drew ?_))); (case side2 => exact HC1.out); rintro e w8 ⟨v541, rfl, ho0, hb⟩; refine ⟨_, rfl, ?_⟩; have HO542 := aM (Kd.N_lower (Kd.N_mono (ok' := fun k_ => (w.heap.size ≤ k_) ∧ k_ ≠ gb538) ho0 (fun k_ hk_ => ⟨(Nat.le_trans (below_size zz67) hk_), (Kd.freshB (g := gb538) (o := .cells #[.int .i64 0, .slice none 0 0] 46 (0, 0)) (zB BK538) k_ hk_)⟩)) (below_size zz67)); replace BK538 := aM (blk_below (g := gb538) (o := .cells #[.int .i64 0, .slice none 0 0] 46 (0, 0)) (zB BK538) hb); replace HB := aM (below_step zz67 hb); (try clear hb); (try clear hb2); (try clear hk); (try clear hi); (try clear ho0); obtain ⟨Ao9, co9, eo9⟩ := Kd.N_slice HO542.out; subst eo9) | ((with_reducible refine gate_callee (f := 63) rfl ?_); refine goesL_ (some 18) rfl rfl Try.func63 (by kernel_rfl) rfl #[.int .i64 a0, .slice Ao9 t540.length co9] rfl zz87 ?_; (with_reducible refine (r30_Of.calls k a0 (fun k_ => ((w.heap.size ≤ k_) ∧ k_ ≠ gb538)) _ _ t540 t543 t544 _ ?side1 A6.out).mono ?_); (case side1 => exact Kd.N_V (HO542.out)); rintro e w10 ⟨v545, rfl, ho0, hb⟩; refine ⟨_, rfl, ?_⟩; replace HO542 := aM (Kd.N_elder' (zN HO542) (Kd.N_base ho0) hb); have HO546 := aM (Kd.N_lower (Kd.N_mono (ok' := fun k_ => (w.heap.size ≤ k_) ∧ k_ ≠ gb538) ho0 (fun k_ hk_ => ⟨Or.elim hk_ (fun hs_ => hs_.1) (fun hn_ => (Nat.le_trans (below_size zz67) hn_)), Or.elim hk_ (fun hs_ => hs_.2) (fun hn_ => (Kd.freshB (g := gb538) (o := .cells #[.int .i64 0, .slice none 0 0] 46 (0, 0)) (zB BK538) k_ hn_))⟩)) (below_size zz67)); replace BK538 := aM (blk_below (g := gb538) (o := .cells #[.int .i64 0, .slice none 0 0] 46 (0, 0)) (zB BK538) hb); replace HB := aM (below_step zz67 hb); (try clear hb); (try clear hb2); (try clear hk); (try clear hi); (try clear ho0); have hcz11_0 : w10.cell? ⟨gb538, 0, none⟩ = some (.int .i64 0) := (blk_cell BK538.out 0).trans rfl; have hcz11_1 : w10.cell? ⟨gb538, 1, none⟩ = some (.slice none 0 0) := (blk_cell BK538.out 1).trans rfl; have hfz11_0 := blk_frozen BK538.out 0; have hfz11_1 := blk_frozen BK538.out 1; obtain ⟨Ao12, co12, eo12⟩ := Kd.N_slice HO546.out; subst eo12))
    refine bodyPost_ret (results_ct rfl _ _ gb538 46 #[.int .i64 t543, .slice Ao12 t544.length co12] (0, 0) _ rfl (by (with_reducible repeat (first | refine blk_drewN ?_ _ | refine blk_drew ?_ | refine blk_alloc ?_ _)); refine blk_put (cs := #[.int .i64 t543, .slice none 0 0]) ?_ 1 _ rfl; (with_reducible repeat (first | refine blk_drewN ?_ _ | refine blk_drew ?_ | refine blk_alloc ?_ _)); refine blk_put (cs := #[.int .i64 0, .slice none 0 0]) ?_ 0 _ rfl; (with_reducible repeat (first | refine blk_drewN ?_ _ | refine blk_drew ?_ | refine blk_alloc ?_ _)); exact BK538.out) Try.underlying46 rfl (by kernel_rfl)) rfl ?_
    exact ⟨_, by first | rfl | (simp [errW_none, errW_some] <;> rfl) | (simp [*, errW_none, errW_some] <;> rfl), by (with_reducible repeat (first | apply Kd.N_alloc | apply Kd.N_drewN | apply Kd.N_drew)); exact Kd.N_mono (Kd.N_far (p := ⟨gb538, 1, none⟩) (Kd.N_far (p := ⟨gb538, 0, none⟩) (Kd.N_mono HO546.out (fun k_ hk => (⟨hk, hk.2⟩ : _ ∧ k_ ≠ gb538))) (fun _ hk => hk.2) (.int .i64 t543)) (fun _ hk => hk.2) (.slice Ao12 t544.length co12)) (fun _ hk => hk.1.1), by repeat (first | (with_reducible first | exact HB.out | apply below_alloc | apply pw_below_drewN | apply below_drew1 | refine below_set ?_ GE538.out) | exact HB.out)⟩
  rw [if_neg c4] at H
  have c4b0 := beq_eq_false_iff_ne.mpr c4
  have c4b1 := bne_iff_ne.mpr c4
  simp only [Option.some.injEq, Prod.mk.injEq] at H
  obtain ⟨rfl, rfl, rfl⟩ := H
  go_enter Try.func31, Try.ntmps31
  go_wp2_with (first | ((with_reducible refine gate_dst (N := 4) rfl ?_); refine box_event ?hg (N := 4) ?hd (cs := #[.int .i64 0, .slice none 0 0]) (t := 46) ?hr ?_; (case hd => rfl); (case hg => rfl); (case hr => first | (go_simp; done) | (go_simp; rfl)); intro gb538 hg w13 hbox hb; have BK538 := aM (hbox); have GW538 := aM ((by rw [hg]; exact (below_size zz88) : w.heap.size ≤ gb538)); have GE538 := aM ((by rw [hg]; exact (below_size zz88) : w.heap.size ≤ gb538)); replace HB := aM (below_step zz88 hb); clear hb hbox hg) | ((with_reducible refine gate_callee (f := 59) rfl ?_); refine goesL_ (some 9) rfl rfl Try.func59 (by kernel_rfl) rfl #[.int .i64 a0, .slice A1 l1.length c1] rfl zz87 ?_; (with_reducible refine (r30_group.calls k a0 _ _ l1 t539 _ ?side1 ?side2 A3.out).mono ?_); (case side1 => repeat (first | exact (Kd.C_below HR1.out HB.out) | (with_reducible refine Kd.C_alloc ?_ _) | (with_reducible refine Kd.C_drewN ?_ _) | (with_reducible refine Kd.C_drew ?_))); (case side2 => exact HC1.out); rintro e w' ⟨rfl, ⟨nd, rfl⟩⟩; refine ⟨_, rfl, ?_⟩; (try (rw [drewN_self w13]; generalize hq_ : World.drewN w13 _ = w13; have n0_ : Aside0 (w13.heap[gb538]? = some (.cells #[.int .i64 0, .slice none 0 0] 46 (0, 0))) := ⟨(by rw [← hq_]; exact (zB BK538))⟩; have n1_ : Aside0 (Below w.heap.size w w13) := ⟨zz61⟩; clear BK538 HB hq_; have BK538 := n0_; have HB := n1_; clear n0_ n1_)); have hcz14_0 : w13.cell? ⟨gb538, 0, none⟩ = some (.int .i64 0) := (blk_cell BK538.out 0).trans rfl; have hcz14_1 : w13.cell? ⟨gb538, 1, none⟩ = some (.slice none 0 0) := (blk_cell BK538.out 1).trans rfl; have hfz14_0 := blk_frozen BK538.out 0; have hfz14_1 := blk_frozen BK538.out 1))
  refine bodyPost_ret (results_ct rfl _ _ gb538 46 #[.int .i64 0, .slice none 0 0] (0, 0) _ rfl (by (with_reducible repeat (first | refine blk_drewN ?_ _ | refine blk_drew ?_ | refine blk_alloc ?_ _)); refine blk_put (cs := #[.int .i64 0, .slice none 0 0]) ?_ 1 _ rfl; (with_reducible repeat (first | refine blk_drewN ?_ _ | refine blk_drew ?_ | refine blk_alloc ?_ _)); refine blk_put (cs := #[.int .i64 0, .slice none 0 0]) ?_ 0 _ rfl; (with_reducible repeat (first | refine blk_drewN ?_ _ | refine blk_drew ?_ | refine blk_alloc ?_ _)); exact BK538.out) Try.underlying46 rfl (by kernel_rfl)) rfl ?_
  exact ⟨_, by first | rfl | (simp [errW_none, errW_some] <;> rfl) | (simp [*, errW_none, errW_some] <;> rfl), by first | exact Kd.R_nil _ _ _ _ _ | exact Kd.N_nil _ _ _ _ _ | exact Kd.V_nil _ _ _ _ _ | exact Kd.Q_nil _ _ _ _ _ | exact Kd.S_nil _ _ _ _ _, by repeat (first | (with_reducible first | exact HB.out | apply below_alloc | apply pw_below_drewN | apply below_drew1 | refine below_set ?_ GE538.out) | exact HB.out)⟩
end
section
attribute [local go_sem] max2_int min2_int max_two min_two max_three min_three max_four min_four
def perm_identity.l0 : Nat → List Int → Int → Int → Option (List Int)
  | 0, _, _, _ => none
  | k + 1, x3, x8, x9 => if x9 < x8 then (if 0 ≤ x9 then (if x9 < (x3.length : Int) then (perm_identity.l0 k (x3.set (x9 : Int).toNat x9) x8 (wrap64 (x9 + 1))) else (none)) else (none)) else (some x3)
def perm_identity.f (k : Nat) (a0 : Int) : Option (List Int) := if 0 ≤ a0 then (if (a0 : Int).toNat ≤ 35184372088832 then ((some (List.replicate (a0 : Int).toNat 0 : List Int)).bind fun y101 => (perm_identity.l0 k y101 (y101.length : Int) 0)) else (none)) else (none)
theorem perm_identity.mono_l : ∀ k, (∀ y0 y1 y2, LeO (perm_identity.l0 k y0 y1 y2) (perm_identity.l0 (k + 1) y0 y1 y2))
  | 0 => fun _ _ _ r h => by simp [perm_identity.l0] at h
  | k + 1 => by
    have ih0 := perm_identity.mono_l k
    · intro y0 y1 y2; unfold perm_identity.l0
      repeat' first
      | (with_reducible exact ih0 _ _ _)
      | (with_reducible exact LeO.refl _)
      | (with_reducible exact LeO.none _)
      | (with_reducible refine LeO.ite ?_ ?_)
      | (with_reducible refine LeO.bind ?_ (fun _ => ?_))
theorem perm_identity.mono : ∀ a0 k, LeO (perm_identity.f k a0) (perm_identity.f (k + 1) a0) := by
  intro a0 k
  have ih0 := perm_identity.mono_l k
  unfold perm_identity.f
  repeat' first
      | (with_reducible exact ih0 _ _ _)
      | (with_reducible exact LeO.refl _)
      | (with_reducible exact LeO.none _)
      | (with_reducible refine LeO.ite ?_ ?_)
      | (with_reducible refine LeO.bind ?_ (fun _ => ?_))
theorem perm_identity.calls (k : Nat) (a0 : Int) (r : List Int) (w : World) (h : perm_identity.f k a0 = some r) :
    Calls Try.prog 49 #[.int .i64 a0] w fun e w' => ∃ v0_ : Value, e = .returned (v0_) ∧ Kd.R (Kd.int .i64) 3 w' w.heap.size (fun _ => True) v0_ r ∧ Below w.heap.size w w' := by
  have HB := aM (Below.refl w.heap.size w)
  have H : (if 0 ≤ a0 then (if (a0 : Int).toNat ≤ 35184372088832 then ((some (List.replicate (a0 : Int).toNat 0 : List Int)).bind fun y101 => (perm_identity.l0 k y101 (y101.length : Int) 0)) else (none)) else (none)) = some r := h
  clear h
  by_cases c2 : 0 ≤ a0
  · rw [if_pos c2] at H
    have c2b0 := eq_true c2; have c2b1 := decide_eq_true c2; clear c2
    by_cases c3 : (a0 : Int).toNat ≤ 35184372088832
    · rw [if_pos c3] at H; have c3b0 := eq_true c3; have c3b1 := decide_eq_true c3; clear c3; obtain ⟨y101, hy101⟩ : ∃ y_ : List Int, y_ = (List.replicate (a0 : Int).toNat 0) := ⟨_, rfl⟩; replace H : (perm_identity.l0 k y101 (y101.length : Int) 0) = some r := by first | (rw [hy101]; with_reducible exact H) | (have H2_ := (Option.bind_some _ _).symm.trans H; rw [hy101]; with_reducible exact H2_) | (have H2_ := (Option.bind_some _ _).symm.trans H; with_reducible exact H2_) | with_reducible exact H | (rw [hy101]; exact H) | exact H
      have Ny101 := aM hy101; clear hy101; have H' := aM H; clear H
      go_enter Try.func49, Try.ntmps49
      go_wp2_with (first | ((with_reducible refine gate_dst (N := 6) rfl ?_); refine Kd.R_make (Kd.int .i64) _ 3 rfl (N := 6) rfl 22 _ _ rfl a0 rfl rfl Try.underlying22 (.int .i64 0) 8 info3 rfl (by decide) (by omega) 0 (ok := fun _ => True) (okp := fun _ => True) rfl (fun _ hk => hk) trivial (of_decide_eq_true zz111) (Nat.le_trans (Nat.mul_le_mul_right _ (of_decide_eq_true zz111 : a0.toNat ≤ 35184372088832)) (by omega)) (Below.refl _ _) (Nat.le_refl _) ?_; intro v102 w4 ho5 hb hg_ hnew_; clear hg_ hnew_; (first | rw [← Ny101.out] at ho5 | (simp only [Int.reduceToNat] at ho5; rw [← Ny101.out] at ho5)); have HO103 := aM (Kd.R_lower ho5 (below_size zz88)); replace HB := aM (below_step zz88 hb); clear hb ho5; obtain ⟨Ao6, co6, eo6⟩ := Kd.R_slice HO103.out; subst eo6))
      go_loopg [9] k (fun kq v9 w' => ∃ (x3_1 : List Int) (x9_1 : Int), v9 = .int .i64 x9_1 ∧ Aside0 (perm_identity.l0 kq x3_1 (y101.length : Int) x9_1 = some r) ∧ Aside0 (kq ≤ k) ∧ Aside0 (Kd.R (Kd.int .i64) 3 w' w.heap.size (fun _ => True) (.slice Ao6 y101.length co6) x3_1) ∧ Aside0 (Below w.heap.size w w'))
      case atStart => exact ⟨(y101), (0), zz112, H', ⟨Nat.le_refl _⟩, ⟨(zR HO103)⟩, ⟨zz88⟩⟩
      case round =>
        clear H'; (try clear c2); (try clear c2b0); (try clear c2b1); (try clear p2); (try clear c3); (try clear c3b0); (try clear c3b1); (try clear c4); obtain ⟨x3_1, x9_1, rfl, HA, HK1, HO_3, HB⟩ := hrel; have hl3_1 := (Kd.R_reads' HO_3.out).1; rw [hl3_1] at HO_3
        (try simp only [hl3_1])
        cases gk with
        | zero => exact absurd HA.out (by simp [perm_identity.l0])
        | succ k1 =>
          have H := HA.out; clear HA; simp only [perm_identity.l0] at H
          by_cases c7 : x9_1 < (y101.length : Int)
          · rw [if_pos c7] at H; have c7b0 := decide_eq_true c7; clear c7
            by_cases c8 : 0 ≤ x9_1
            · rw [if_pos c8] at H; have c8b0 := decide_eq_true c8; clear c8
              by_cases c9 : x9_1 < (x3_1.length : Int)
              · rw [if_pos c9] at H; have c9b0 := decide_eq_true c9; clear c9; obtain ⟨y104, hy104⟩ : ∃ y_ : List Int, y_ = (x3_1.set (x9_1 : Int).toNat x9_1) := ⟨_, rfl⟩; replace H : (perm_identity.l0 k1 y104 (y101.length : Int) (wrap64 (x9_1 + 1))) = some r := by first | (rw [hy104]; with_reducible exact H) | (have H2_ := (Option.bind_some _ _).symm.trans H; rw [hy104]; with_reducible exact H2_) | (have H2_ := (Option.bind_some _ _).symm.trans H; with_reducible exact H2_) | with_reducible exact H | (rw [hy104]; exact H) | exact H
                have Ny104 := aM hy104; clear hy104; have H' := aM H; clear H; have p10 : 0 ≤ (x9_1 : Int) := of_decide_eq_true zz111; have q10 : (x9_1 : Int) < ((x3_1.length : Int) : Int) := of_decide_eq_true zz111; obtain ⟨go10, co10, eo10, gb10, gl10, cl10, HG10⟩ := Kd.R_form HO_3.out (by omega)
                (first | cases eo10 | (injection eo10 with ea_ en_ ec_; (first | subst ea_ | (injection ea_ with ea_; subst ea_)); subst ec_; clear en_))
                have GB10 := aM gb10; have GG10 := aM HG10; clear gb10 gl10 HG10; obtain ⟨hx10_0, hf10_0⟩ := Kd.R_celln 0 HO_3.out (x9_1 : Int) p10 q10; replace p10 := eq_true p10; replace q10 := eq_true q10; have HP11 := Kd.R_putg HO_3.out (x9_1 : Int) x9_1
                go_wp2_with (first | ((with_reducible refine gate_store (t := 3) (p := 15) rfl ?_); refine store_event (t := 3) (p := 15) (v := ?vo_w12) (w1 := (wr.setCell ⟨go10, (x9_1 : Int).toNat, none⟩ (.int .i64 x9_1))) ?hg ?ho ?hn ?hr ?_; (case ho => rfl); (case hg => rfl); (case hn => rfl); (case hr => first | (go_simp; done) | (go_simp; rfl)); intro w12 hw; have hg : wr.grownBy w12 (some go10) := (by rw [hw]; exact HP11.2); have hp_ : Kd.R (Kd.int .i64) 3 w12 w.heap.size (fun _ => True) (.slice (some ⟨go10, 0, none⟩) x3_1.length co6) y104 := (by rw [hw, Ny104.out]; exact HP11.1); clear HP11; replace HO_3 := aM (hp_); replace HB := aM ((by rw [hw]; exact below_set (HB.out) GB10.out : Below w.heap.size w w12)); clear hg hw hp_))
                (try simp only [← hl3_1])
                go_roundg k1
                case measure => have := HK1.out; omega
                case rel => exact ⟨(y104), (wrap64 (x9_1 + 1)), zz112, H', ⟨zz120⟩, ⟨(by (try simp only [hl3_1]); (with_reducible repeat (first | apply Kd.R_alloc | apply Kd.R_drewN | apply Kd.R_drew)); exact HO_3.out)⟩, ⟨zz88⟩⟩
              rw [if_neg c9] at H
              exact absurd H (by simp)
            rw [if_neg c8] at H
            exact absurd H (by simp)
          rw [if_neg c7] at H; have c7b0 := decide_eq_false c7; have c7b1 : decide (x9_1 < (x3_1.length : Int)) = false := by rw [← hl3_1]; exact c7b0
          clear c7; obtain rfl := Option.some.inj H; go_wp2; go_ret
          exact ⟨_, by first | rfl | (simp [errW_none, errW_some] <;> rfl) | (simp [*, errW_none, errW_some] <;> rfl), by (with_reducible repeat (first | apply Kd.R_alloc | apply Kd.R_drewN | apply Kd.R_drew)); exact HO_3.out, by repeat (first | (with_reducible first | exact HB.out | apply below_alloc | apply pw_below_drewN | apply below_drew1) | exact HB.out)⟩
    rw [if_neg c3] at H
    exact absurd H (by simp)
  rw [if_neg c2] at H
  exact absurd H (by simp)
end
section
attribute [local go_sem] max2_int min2_int max_two min_two max_three min_three max_four min_four
def slEq.l0 : Nat → List Int → List Int → Int → Int → Option (Bool)
  | 0, _, _, _, _ => none
  | k + 1, x0, x1, x12, x13 => if x13 < x12 then (if 0 ≤ x13 then (if x13 < (x0.length : Int) then (if x13 < (x1.length : Int) then (if (rd x0 x13) = (rd x1 x13) then (slEq.l0 k x0 x1 x12 (wrap64 (x13 + 1))) else (some false)) else (none)) else (none)) else (none)) else (some true)
def slEq.f (k : Nat) (l0 : List Int) (l1 : List Int) : Option (Bool) := if (l0.length : Int) = (l1.length : Int) then (slEq.l0 k l0 l1 (l0.length : Int) 0) else (some false)
theorem slEq.calls (k : Nat) (A0 : Option Addr) (c0 : Nat) (l0 : List Int) (A1 : Option Addr) (c1 : Nat) (l1 : List Int) (r : Bool) (w : World) (hr0 : Kd.C (Kd.int .i64) w A0 l0.length l0) (hc0 : l0.length ≤ c0) (hr1 : Kd.C (Kd.int .i64) w A1 l1.length l1) (hc1 : l1.length ≤ c1) (h : slEq.f k l0 l1 = some r) :
    Calls Try.prog 65 #[.slice A0 l0.length c0, .slice A1 l1.length c1] w fun e w' => e = .returned (.bool r) ∧ Drawn0 w w' := by
  have HR0 := aM hr0
  have HC0 := aM hc0
  clear hr0 hc0
  have HR1 := aM hr1
  have HC1 := aM hc1
  clear hr1 hc1
  have H : (if (l0.length : Int) = (l1.length : Int) then (slEq.l0 k l0 l1 (l0.length : Int) 0) else (some false)) = some r := h
  clear h
  by_cases c3 : (l0.length : Int) = (l1.length : Int)
  · rw [if_pos c3] at H
    have c3b0 := beq_iff_eq.mpr c3; have c3b1 := bne_eq_false_iff_eq.mpr c3; have c3b2 : (l0.length == l1.length) = true := by first | simpa using c3 | (simp at c3 ⊢; omega)
    clear c3; have H' := aM H; clear H
    go_enter Try.func65, Try.ntmps65
    go_wp2
    repeat (go_quiet (fail); try go_wp2)
    go_loopg [13] k (fun kq v13 w' => ∃ (x13_1 : Int), v13 = .int .i64 x13_1 ∧ Aside0 (slEq.l0 kq l0 l1 (l0.length : Int) x13_1 = some r) ∧ Aside0 (kq ≤ k) ∧ Drawn0 w w')
    case atStart => exact ⟨(0), zz112, H', ⟨Nat.le_refl _⟩, by repeat (first | exact Drawn0.refl _ | apply Drawn0.step)⟩
    case round =>
      clear H'; (try clear c1); (try clear p2); (try clear c3); (try clear c3b0); (try clear c3b1); (try clear c3b2); obtain ⟨x13_1, rfl, HA, HK1, ⟨m1, rfl⟩⟩ := hrel
      cases gk with
      | zero => exact absurd HA.out (by simp [slEq.l0])
      | succ k1 =>
        have H := HA.out; clear HA; simp only [slEq.l0] at H
        by_cases c4 : x13_1 < (l0.length : Int)
        · rw [if_pos c4] at H; have c4b0 := decide_eq_true c4; clear c4
          by_cases c5 : 0 ≤ x13_1
          · rw [if_pos c5] at H; have c5b0 := decide_eq_true c5; clear c5
            by_cases c6 : x13_1 < (l0.length : Int)
            · rw [if_pos c6] at H; have c6b0 := decide_eq_true c6; clear c6
              by_cases c7 : x13_1 < (l1.length : Int)
              · rw [if_pos c7] at H; have c7b0 := decide_eq_true c7; clear c7
                by_cases c8 : (rd l0 x13_1) = (rd l1 x13_1)
                · rw [if_pos c8] at H; have c8b0 := beq_iff_eq.mpr c8; have c8b1 := bne_eq_false_iff_eq.mpr c8; clear c8; have H' := aM H; clear H; have p220 : 0 ≤ (x13_1 : Int) := of_decide_eq_true zz111; have q220 : x13_1 < (l0.length : Int) := of_decide_eq_true zz111; obtain ⟨ad220, e220, hx220_0⟩ := Kd.at_int HR0.out x13_1 p220 q220
                  cases e220; replace p220 := eq_true p220; replace q220 := eq_true q220; have p221 : 0 ≤ (x13_1 : Int) := of_decide_eq_true zz111; have q221 : x13_1 < (l1.length : Int) := of_decide_eq_true zz111; obtain ⟨ad221, e221, hx221_0⟩ := Kd.at_int HR1.out x13_1 p221 q221
                  cases e221; replace p221 := eq_true p221; replace q221 := eq_true q221; go_wp2
                  repeat (go_quiet (fail); try go_wp2)
                  go_roundg k1
                  case measure => have := HK1.out; omega
                  case rel => exact ⟨(wrap64 (x13_1 + 1)), zz112, H', ⟨zz120⟩, by repeat (first | exact Drawn0.refl _ | apply Drawn0.step)⟩
                rw [if_neg c8] at H; have c8b0 := beq_eq_false_iff_ne.mpr c8; have c8b1 := bne_iff_ne.mpr c8; obtain rfl := Option.some.inj H; have p220 : 0 ≤ (x13_1 : Int) := of_decide_eq_true zz111; have q220 : x13_1 < (l0.length : Int) := of_decide_eq_true zz111; obtain ⟨ad220, e220, hx220_0⟩ := Kd.at_int HR0.out x13_1 p220 q220
                cases e220; replace p220 := eq_true p220; replace q220 := eq_true q220; have p221 : 0 ≤ (x13_1 : Int) := of_decide_eq_true zz111; have q221 : x13_1 < (l1.length : Int) := of_decide_eq_true zz111; obtain ⟨ad221, e221, hx221_0⟩ := Kd.at_int HR1.out x13_1 p221 q221
                cases e221; replace p221 := eq_true p221; replace q221 := eq_true q221; go_wp2
                repeat (go_quiet (fail); try go_wp2)
                go_ret
                exact ⟨by first | rfl | (simp; done) | (simp [*]; done), by repeat (first | exact Drawn0.refl _ | apply Drawn0.step)⟩
              rw [if_neg c7] at H
              exact absurd H (by simp)
            rw [if_neg c6] at H
            exact absurd H (by simp)
          rw [if_neg c5] at H
          exact absurd H (by simp)
        rw [if_neg c4] at H; have c4b0 := decide_eq_false c4; clear c4; obtain rfl := Option.some.inj H; go_wp2
        repeat (go_quiet (fail); try go_wp2)
        go_ret
        exact ⟨by first | rfl | (simp; done) | (simp [*]; done), by repeat (first | exact Drawn0.refl _ | apply Drawn0.step)⟩
  rw [if_neg c3] at H
  have c3b0 := beq_eq_false_iff_ne.mpr c3
  have c3b1 := bne_iff_ne.mpr c3
  have c3b2 : (l0.length == l1.length) = false := by first | simpa using c3 | (simp at c3 ⊢; omega)
  obtain rfl := Option.some.inj H
  go_enter Try.func65, Try.ntmps65
  go_wp2
  repeat (go_quiet (fail); try go_wp2)
  go_ret
  exact ⟨by first | rfl | (simp; done) | (simp [*]; done), by repeat (first | exact Drawn0.refl _ | apply Drawn0.step)⟩
end
section
attribute [local go_sem] max2_int min2_int max_two min_two max_three min_three max_four min_four
def perm_then.l0 : Nat → List Int → List Int → List Int → Int → Int → Option (List Int)
  | 0, _, _, _, _, _ => none
  | k + 1, x1, x5, x11, x12, x13 => if x13 < x12 then (if 0 ≤ x13 then (if x13 < (x11.length : Int) then (if 0 ≤ (rd x11 x13) then (if (rd x11 x13) < (x1.length : Int) then (if x13 < (x5.length : Int) then (perm_then.l0 k x1 (x5.set (x13 : Int).toNat (rd x1 (rd x11 x13))) x11 x12 (wrap64 (x13 + 1))) else (none)) else (none)) else (none)) else (none)) else (none)) else (some x5)
def perm_then.f (k : Nat) (l0 : List Int) (l1 : List Int) : Option (List Int) := if 0 ≤ (l0.length : Int) then (if ((l0.length : Int) : Int).toNat ≤ 35184372088832 then (perm_then.l0 k l1 (List.replicate ((l0.length : Int) : Int).toNat 0) l0 (l0.length : Int) 0) else (none)) else (none)
theorem perm_then.mono_l : ∀ k, (∀ y0 y1 y2 y3 y4, LeO (perm_then.l0 k y0 y1 y2 y3 y4) (perm_then.l0 (k + 1) y0 y1 y2 y3 y4))
  | 0 => fun _ _ _ _ _ r h => by simp [perm_then.l0] at h
  | k + 1 => by
    have ih0 := perm_then.mono_l k
    · intro y0 y1 y2 y3 y4; unfold perm_then.l0
      repeat' first
      | (with_reducible exact ih0 _ _ _ _ _)
      | (with_reducible exact LeO.refl _)
      | (with_reducible exact LeO.none _)
      | (with_reducible refine LeO.ite ?_ ?_)
      | (with_reducible refine LeO.bind ?_ (fun _ => ?_))
theorem perm_then.mono : ∀ a0 a1 k, LeO (perm_then.f k a0 a1) (perm_then.f (k + 1) a0 a1) := by
  intro a0 a1 k
  have ih0 := perm_then.mono_l k
  unfold perm_then.f
  repeat' first
      | (with_reducible exact ih0 _ _ _ _ _)
      | (with_reducible exact LeO.refl _)
      | (with_reducible exact LeO.none _)
      | (with_reducible refine LeO.ite ?_ ?_)
      | (with_reducible refine LeO.bind ?_ (fun _ => ?_))
theorem perm_then.calls (k : Nat) (A0 : Option Addr) (c0 : Nat) (l0 : List Int) (A1 : Option Addr) (c1 : Nat) (l1 : List Int) (r : List Int) (w : World) (hr0 : Kd.C (Kd.int .i64) w A0 l0.length l0) (hc0 : l0.length ≤ c0) (hr1 : Kd.C (Kd.int .i64) w A1 l1.length l1) (hc1 : l1.length ≤ c1) (h : perm_then.f k l0 l1 = some r) :
    Calls Try.prog 50 #[.slice A0 l0.length c0, .slice A1 l1.length c1] w fun e w' => ∃ v0_ : Value, e = .returned (v0_) ∧ Kd.R (Kd.int .i64) 3 w' w.heap.size (fun _ => True) v0_ r ∧ Below w.heap.size w w' := by
  have HR0 := aM hr0
  have HC0 := aM hc0
  clear hr0 hc0
  have HR1 := aM hr1
  have HC1 := aM hc1
  clear hr1 hc1
  have HB := aM (Below.refl w.heap.size w)
  have H : (if 0 ≤ (l0.length : Int) then (if ((l0.length : Int) : Int).toNat ≤ 35184372088832 then (perm_then.l0 k l1 (List.replicate ((l0.length : Int) : Int).toNat 0) l0 (l0.length : Int) 0) else (none)) else (none)) = some r := h
  clear h
  by_cases c3 : 0 ≤ (l0.length : Int)
  · rw [if_pos c3] at H
    have c3b0 := eq_true c3; have c3b1 := decide_eq_true c3; clear c3
    by_cases c4 : ((l0.length : Int) : Int).toNat ≤ 35184372088832
    · rw [if_pos c4] at H; have c4b0 := eq_true c4; have c4b1 := decide_eq_true c4; clear c4; obtain ⟨y105, hy105⟩ : ∃ y_ : List Int, y_ = (List.replicate ((l0.length : Int) : Int).toNat 0) := ⟨_, rfl⟩; replace H : (perm_then.l0 k l1 y105 l0 (l0.length : Int) 0) = some r := by first | (rw [hy105]; with_reducible exact H) | (have H2_ := (Option.bind_some _ _).symm.trans H; rw [hy105]; with_reducible exact H2_) | (have H2_ := (Option.bind_some _ _).symm.trans H; with_reducible exact H2_) | with_reducible exact H | (rw [hy105]; exact H) | exact H
      have Ny105 := aM hy105; clear hy105; have H' := aM H; clear H
      go_enter Try.func50, Try.ntmps50
      go_wp2_with (first | ((with_reducible refine gate_dst (N := 10) rfl ?_); refine Kd.R_make (Kd.int .i64) _ 3 rfl (N := 10) rfl 22 _ _ rfl (l0.length : Int) rfl rfl Try.underlying22 (.int .i64 0) 8 info3 rfl (by decide) (by omega) 0 (ok := fun _ => True) (okp := fun _ => True) rfl (fun _ hk => hk) trivial (of_decide_eq_true zz111) (Nat.le_trans (Nat.mul_le_mul_right _ (of_decide_eq_true zz111 : (l0.length : Int).toNat ≤ 35184372088832)) (by omega)) (Below.refl _ _) (Nat.le_refl _) ?_; intro v106 w5 ho6 hb hg_ hnew_; clear hg_ hnew_; (first | rw [← Ny105.out] at ho6 | (simp only [Int.reduceToNat] at ho6; rw [← Ny105.out] at ho6)); have HO107 := aM (Kd.R_lower ho6 (below_size zz88)); replace HB := aM (below_step zz88 hb); clear hb ho6))
      go_loopg [13] k (fun kq v13 w' => ∃ (x5_1 : List Int) (x13_1 : Int), v13 = .int .i64 x13_1 ∧ Aside0 (perm_then.l0 kq l1 x5_1 l0 (l0.length : Int) x13_1 = some r) ∧ Aside0 (kq ≤ k) ∧ Aside0 (Kd.R (Kd.int .i64) 3 w' w.heap.size (fun _ => True) v106 x5_1) ∧ Aside0 (Below w.heap.size w w'))
      case atStart => exact ⟨(y105), (0), zz112, H', ⟨Nat.le_refl _⟩, ⟨(zR HO107)⟩, ⟨zz88⟩⟩
      case round =>
        clear H'; (try clear c1); (try clear p2); (try clear c3); (try clear c3b0); (try clear c3b1); (try clear c4); (try clear c4b0); (try clear c4b1); (try clear c5); obtain ⟨x5_1, x13_1, rfl, HA, HK1, HO_5, HB⟩ := hrel
        cases gk with
        | zero => exact absurd HA.out (by simp [perm_then.l0])
        | succ k1 =>
          have H := HA.out; clear HA; simp only [perm_then.l0] at H
          by_cases c7 : x13_1 < (l0.length : Int)
          · rw [if_pos c7] at H; have c7b0 := decide_eq_true c7; clear c7
            by_cases c8 : 0 ≤ x13_1
            · rw [if_pos c8] at H; have c8b0 := decide_eq_true c8; clear c8
              by_cases c9 : x13_1 < (l0.length : Int)
              · rw [if_pos c9] at H; have c9b0 := decide_eq_true c9; clear c9
                by_cases c10 : 0 ≤ (rd l0 x13_1)
                · rw [if_pos c10] at H; have c10b0 := decide_eq_true c10; clear c10
                  by_cases c11 : (rd l0 x13_1) < (l1.length : Int)
                  · rw [if_pos c11] at H; have c11b0 := decide_eq_true c11; clear c11
                    by_cases c12 : x13_1 < (x5_1.length : Int)
                    · rw [if_pos c12] at H; have c12b0 := decide_eq_true c12; clear c12; obtain ⟨y110, hy110⟩ : ∃ y_ : List Int, y_ = (x5_1.set (x13_1 : Int).toNat (rd l1 (rd l0 x13_1))) := ⟨_, rfl⟩; replace H : (perm_then.l0 k1 l1 y110 l0 (l0.length : Int) (wrap64 (x13_1 + 1))) = some r := by first | (rw [hy110]; with_reducible exact H) | (have H2_ := (Option.bind_some _ _).symm.trans H; rw [hy110]; with_reducible exact H2_) | (have H2_ := (Option.bind_some _ _).symm.trans H; with_reducible exact H2_) | with_reducible exact H | (rw [hy110]; exact H) | exact H
                      have Ny110 := aM hy110; clear hy110; have H' := aM H; clear H; have p108 : 0 ≤ (x13_1 : Int) := of_decide_eq_true zz111; have q108 : x13_1 < (l0.length : Int) := of_decide_eq_true zz111; obtain ⟨ad108, e108, hx108_0⟩ := Kd.at_int HR0.out x13_1 p108 q108
                      cases e108; replace hx108_0 := (HB.out.cell (World.block_lt_of_cell? w _ hx108_0)).trans hx108_0; replace p108 := eq_true p108; replace q108 := eq_true q108; have p109 : 0 ≤ ((rd l0 x13_1) : Int) := of_decide_eq_true zz111; have q109 : (rd l0 x13_1) < (l1.length : Int) := of_decide_eq_true zz111; obtain ⟨ad109, e109, hx109_0⟩ := Kd.at_int HR1.out (rd l0 x13_1) p109 q109
                      cases e109; replace hx109_0 := (HB.out.cell (World.block_lt_of_cell? w _ hx109_0)).trans hx109_0; replace p109 := eq_true p109; replace q109 := eq_true q109; have p13 : 0 ≤ (x13_1 : Int) := of_decide_eq_true zz111; have q13 : (x13_1 : Int) < ((x5_1.length : Int) : Int) := of_decide_eq_true zz111; obtain ⟨go13, co13, eo13, gb13, gl13, cl13, HG13⟩ := Kd.R_form HO_5.out (by omega)
                      (first | cases eo13 | (injection eo13 with ea_ en_ ec_; (first | subst ea_ | (injection ea_ with ea_; subst ea_)); subst ec_; clear en_))
                      have GB13 := aM gb13; have GG13 := aM HG13; clear gb13 gl13 HG13; obtain ⟨hx13_0, hf13_0⟩ := Kd.R_celln 0 HO_5.out (x13_1 : Int) p13 q13; replace p13 := eq_true p13; replace q13 := eq_true q13; have HP14 := Kd.R_putg HO_5.out (x13_1 : Int) (rd l1 (rd l0 x13_1))
                      go_wp2_with (first | ((with_reducible refine gate_store (t := 3) (p := 24) rfl ?_); refine store_event (t := 3) (p := 24) (v := ?vo_w15) (w1 := (wr.setCell ⟨go13, (x13_1 : Int).toNat, none⟩ (.int .i64 (rd l1 (rd l0 x13_1))))) ?hg ?ho ?hn ?hr ?_; (case ho => rfl); (case hg => rfl); (case hn => rfl); (case hr => first | (go_simp; done) | (go_simp; rfl)); intro w15 hw; have hg : wr.grownBy w15 (some go13) := (by rw [hw]; exact HP14.2); have hp_ : Kd.R (Kd.int .i64) 3 w15 w.heap.size (fun _ => True) (.slice (some ⟨go13, 0, none⟩) x5_1.length co13) y110 := (by rw [hw, Ny110.out]; exact HP14.1); clear HP14; replace HO_5 := aM (hp_); replace HB := aM ((by rw [hw]; exact below_set (HB.out) GB13.out : Below w.heap.size w w15)); clear hg hw hp_))
                      go_roundg k1
                      case measure => have := HK1.out; omega
                      case rel => exact ⟨(y110), (wrap64 (x13_1 + 1)), zz112, H', ⟨zz120⟩, ⟨(zR HO_5)⟩, ⟨zz88⟩⟩
                    rw [if_neg c12] at H
                    exact absurd H (by simp)
                  rw [if_neg c11] at H
                  exact absurd H (by simp)
                rw [if_neg c10] at H
                exact absurd H (by simp)
              rw [if_neg c9] at H
              exact absurd H (by simp)
            rw [if_neg c8] at H
            exact absurd H (by simp)
          rw [if_neg c7] at H; have c7b0 := decide_eq_false c7; clear c7; obtain rfl := Option.some.inj H; go_wp2; go_ret
          exact ⟨_, by first | rfl | (simp [errW_none, errW_some] <;> rfl) | (simp [*, errW_none, errW_some] <;> rfl), by (with_reducible repeat (first | apply Kd.R_alloc | apply Kd.R_drewN | apply Kd.R_drew)); exact HO_5.out, by repeat (first | (with_reducible first | exact HB.out | apply below_alloc | apply pw_below_drewN | apply below_drew1) | exact HB.out)⟩
    rw [if_neg c4] at H
    exact absurd H (by simp)
  rw [if_neg c3] at H
  exact absurd H (by simp)
end
section
attribute [local go_sem] max2_int min2_int max_two min_two max_three min_three max_four min_four
def perm_inverse.l0 : Nat → List Int → List Int → Int → Int → Option (List Int)
  | 0, _, _, _, _ => none
  | k + 1, x3, x9, x10, x11 => if x11 < x10 then (if 0 ≤ x11 then (if x11 < (x9.length : Int) then (if 0 ≤ (rd x9 x11) then (if (rd x9 x11) < (x3.length : Int) then (perm_inverse.l0 k (x3.set ((rd x9 x11) : Int).toNat x11) x9 x10 (wrap64 (x11 + 1))) else (none)) else (none)) else (none)) else (none)) else (some x3)
def perm_inverse.f (k : Nat) (l0 : List Int) : Option (List Int) := if 0 ≤ (l0.length : Int) then (if ((l0.length : Int) : Int).toNat ≤ 35184372088832 then (perm_inverse.l0 k (List.replicate ((l0.length : Int) : Int).toNat 0) l0 (l0.length : Int) 0) else (none)) else (none)
theorem perm_inverse.mono_l : ∀ k, (∀ y0 y1 y2 y3, LeO (perm_inverse.l0 k y0 y1 y2 y3) (perm_inverse.l0 (k + 1) y0 y1 y2 y3))
  | 0 => fun _ _ _ _ r h => by simp [perm_inverse.l0] at h
  | k + 1 => by
    have ih0 := perm_inverse.mono_l k
    · intro y0 y1 y2 y3; unfold perm_inverse.l0
      repeat' first
      | (with_reducible exact ih0 _ _ _ _)
      | (with_reducible exact LeO.refl _)
      | (with_reducible exact LeO.none _)
      | (with_reducible refine LeO.ite ?_ ?_)
      | (with_reducible refine LeO.bind ?_ (fun _ => ?_))
theorem perm_inverse.mono : ∀ a0 k, LeO (perm_inverse.f k a0) (perm_inverse.f (k + 1) a0) := by
  intro a0 k
  have ih0 := perm_inverse.mono_l k
  unfold perm_inverse.f
  repeat' first
      | (with_reducible exact ih0 _ _ _ _)
      | (with_reducible exact LeO.refl _)
      | (with_reducible exact LeO.none _)
      | (with_reducible refine LeO.ite ?_ ?_)
      | (with_reducible refine LeO.bind ?_ (fun _ => ?_))
theorem perm_inverse.calls (k : Nat) (A0 : Option Addr) (c0 : Nat) (l0 : List Int) (r : List Int) (w : World) (hr0 : Kd.C (Kd.int .i64) w A0 l0.length l0) (hc0 : l0.length ≤ c0) (h : perm_inverse.f k l0 = some r) :
    Calls Try.prog 55 #[.slice A0 l0.length c0] w fun e w' => ∃ v0_ : Value, e = .returned (v0_) ∧ Kd.R (Kd.int .i64) 3 w' w.heap.size (fun _ => True) v0_ r ∧ Below w.heap.size w w' := by
  have HR0 := aM hr0
  have HC0 := aM hc0
  clear hr0 hc0
  have HB := aM (Below.refl w.heap.size w)
  have H : (if 0 ≤ (l0.length : Int) then (if ((l0.length : Int) : Int).toNat ≤ 35184372088832 then (perm_inverse.l0 k (List.replicate ((l0.length : Int) : Int).toNat 0) l0 (l0.length : Int) 0) else (none)) else (none)) = some r := h
  clear h
  by_cases c2 : 0 ≤ (l0.length : Int)
  · rw [if_pos c2] at H
    have c2b0 := eq_true c2; have c2b1 := decide_eq_true c2; clear c2
    by_cases c3 : ((l0.length : Int) : Int).toNat ≤ 35184372088832
    · rw [if_pos c3] at H; have c3b0 := eq_true c3; have c3b1 := decide_eq_true c3; clear c3; obtain ⟨y123, hy123⟩ : ∃ y_ : List Int, y_ = (List.replicate ((l0.length : Int) : Int).toNat 0) := ⟨_, rfl⟩; replace H : (perm_inverse.l0 k y123 l0 (l0.length : Int) 0) = some r := by first | (rw [hy123]; with_reducible exact H) | (have H2_ := (Option.bind_some _ _).symm.trans H; rw [hy123]; with_reducible exact H2_) | (have H2_ := (Option.bind_some _ _).symm.trans H; with_reducible exact H2_) | with_reducible exact H | (rw [hy123]; exact H) | exact H
      have Ny123 := aM hy123; clear hy123; have H' := aM H; clear H
      go_enter Try.func55, Try.ntmps55
      go_wp2_with (first | ((with_reducible refine gate_dst (N := 8) rfl ?_); refine Kd.R_make (Kd.int .i64) _ 3 rfl (N := 8) rfl 22 _ _ rfl (l0.length : Int) rfl rfl Try.underlying22 (.int .i64 0) 8 info3 rfl (by decide) (by omega) 0 (ok := fun _ => True) (okp := fun _ => True) rfl (fun _ hk => hk) trivial (of_decide_eq_true zz111) (Nat.le_trans (Nat.mul_le_mul_right _ (of_decide_eq_true zz111 : (l0.length : Int).toNat ≤ 35184372088832)) (by omega)) (Below.refl _ _) (Nat.le_refl _) ?_; intro v124 w4 ho5 hb hg_ hnew_; clear hg_ hnew_; (first | rw [← Ny123.out] at ho5 | (simp only [Int.reduceToNat] at ho5; rw [← Ny123.out] at ho5)); have HO125 := aM (Kd.R_lower ho5 (below_size zz88)); replace HB := aM (below_step zz88 hb); clear hb ho5))
      go_loopg [11] k (fun kq v11 w' => ∃ (x3_1 : List Int) (x11_1 : Int), v11 = .int .i64 x11_1 ∧ Aside0 (perm_inverse.l0 kq x3_1 l0 (l0.length : Int) x11_1 = some r) ∧ Aside0 (kq ≤ k) ∧ Aside0 (Kd.R (Kd.int .i64) 3 w' w.heap.size (fun _ => True) v124 x3_1) ∧ Aside0 (Below w.heap.size w w'))
      case atStart => exact ⟨(y123), (0), zz112, H', ⟨Nat.le_refl _⟩, ⟨(zR HO125)⟩, ⟨zz88⟩⟩
      case round =>
        clear H'; (try clear c2); (try clear c2b0); (try clear c2b1); (try clear p2); (try clear c3); (try clear c3b0); (try clear c3b1); (try clear c5); obtain ⟨x3_1, x11_1, rfl, HA, HK1, HO_3, HB⟩ := hrel
        cases gk with
        | zero => exact absurd HA.out (by simp [perm_inverse.l0])
        | succ k1 =>
          have H := HA.out; clear HA; simp only [perm_inverse.l0] at H
          by_cases c6 : x11_1 < (l0.length : Int)
          · rw [if_pos c6] at H; have c6b0 := decide_eq_true c6; clear c6
            by_cases c7 : 0 ≤ x11_1
            · rw [if_pos c7] at H; have c7b0 := decide_eq_true c7; clear c7
              by_cases c8 : x11_1 < (l0.length : Int)
              · rw [if_pos c8] at H; have c8b0 := decide_eq_true c8; clear c8
                by_cases c9 : 0 ≤ (rd l0 x11_1)
                · rw [if_pos c9] at H; have c9b0 := decide_eq_true c9; clear c9
                  by_cases c10 : (rd l0 x11_1) < (x3_1.length : Int)
                  · rw [if_pos c10] at H; have c10b0 := decide_eq_true c10; clear c10; obtain ⟨y127, hy127⟩ : ∃ y_ : List Int, y_ = (x3_1.set ((rd l0 x11_1) : Int).toNat x11_1) := ⟨_, rfl⟩; replace H : (perm_inverse.l0 k1 y127 l0 (l0.length : Int) (wrap64 (x11_1 + 1))) = some r := by first | (rw [hy127]; with_reducible exact H) | (have H2_ := (Option.bind_some _ _).symm.trans H; rw [hy127]; with_reducible exact H2_) | (have H2_ := (Option.bind_some _ _).symm.trans H; with_reducible exact H2_) | with_reducible exact H | (rw [hy127]; exact H) | exact H
                    have Ny127 := aM hy127; clear hy127; have H' := aM H; clear H; have p126 : 0 ≤ (x11_1 : Int) := of_decide_eq_true zz111; have q126 : x11_1 < (l0.length : Int) := of_decide_eq_true zz111; obtain ⟨ad126, e126, hx126_0⟩ := Kd.at_int HR0.out x11_1 p126 q126
                    cases e126; replace hx126_0 := (HB.out.cell (World.block_lt_of_cell? w _ hx126_0)).trans hx126_0; replace p126 := eq_true p126; replace q126 := eq_true q126; have p11 : 0 ≤ ((rd l0 x11_1) : Int) := of_decide_eq_true zz111; have q11 : ((rd l0 x11_1) : Int) < ((x3_1.length : Int) : Int) := of_decide_eq_true zz111; obtain ⟨go11, co11, eo11, gb11, gl11, cl11, HG11⟩ := Kd.R_form HO_3.out (by omega)
                    (first | cases eo11 | (injection eo11 with ea_ en_ ec_; (first | subst ea_ | (injection ea_ with ea_; subst ea_)); subst ec_; clear en_))
                    have GB11 := aM gb11; have GG11 := aM HG11; clear gb11 gl11 HG11; obtain ⟨hx11_0, hf11_0⟩ := Kd.R_celln 0 HO_3.out ((rd l0 x11_1) : Int) p11 q11; replace p11 := eq_true p11; replace q11 := eq_true q11; have HP12 := Kd.R_putg HO_3.out ((rd l0 x11_1) : Int) x11_1
                    go_wp2_with (first | ((with_reducible refine gate_store (t := 3) (p := 19) rfl ?_); refine store_event (t := 3) (p := 19) (v := ?vo_w13) (w1 := (wr.setCell ⟨go11, ((rd l0 x11_1) : Int).toNat, none⟩ (.int .i64 x11_1))) ?hg ?ho ?hn ?hr ?_; (case ho => rfl); (case hg => rfl); (case hn => rfl); (case hr => first | (go_simp; done) | (go_simp; rfl)); intro w13 hw; have hg : wr.grownBy w13 (some go11) := (by rw [hw]; exact HP12.2); have hp_ : Kd.R (Kd.int .i64) 3 w13 w.heap.size (fun _ => True) (.slice (some ⟨go11, 0, none⟩) x3_1.length co11) y127 := (by rw [hw, Ny127.out]; exact HP12.1); clear HP12; replace HO_3 := aM (hp_); replace HB := aM ((by rw [hw]; exact below_set (HB.out) GB11.out : Below w.heap.size w w13)); clear hg hw hp_))
                    go_roundg k1
                    case measure => have := HK1.out; omega
                    case rel => exact ⟨(y127), (wrap64 (x11_1 + 1)), zz112, H', ⟨zz120⟩, ⟨(zR HO_3)⟩, ⟨zz88⟩⟩
                  rw [if_neg c10] at H
                  exact absurd H (by simp)
                rw [if_neg c9] at H
                exact absurd H (by simp)
              rw [if_neg c8] at H
              exact absurd H (by simp)
            rw [if_neg c7] at H
            exact absurd H (by simp)
          rw [if_neg c6] at H; have c6b0 := decide_eq_false c6; clear c6; obtain rfl := Option.some.inj H; go_wp2; go_ret
          exact ⟨_, by first | rfl | (simp [errW_none, errW_some] <;> rfl) | (simp [*, errW_none, errW_some] <;> rfl), by (with_reducible repeat (first | apply Kd.R_alloc | apply Kd.R_drewN | apply Kd.R_drew)); exact HO_3.out, by repeat (first | (with_reducible first | exact HB.out | apply below_alloc | apply pw_below_drewN | apply below_drew1) | exact HB.out)⟩
    rw [if_neg c3] at H
    exact absurd H (by simp)
  rw [if_neg c2] at H
  exact absurd H (by simp)
end
section
attribute [local go_sem] max2_int min2_int max_two min_two max_three min_three max_four min_four
def slIx.l0 : Nat → List Int → Int → Int → Int → Option (Int)
  | 0, _, _, _, _ => none
  | k + 1, x0, x1, x7, x8 => if x8 < x7 then (if 0 ≤ x8 then (if x8 < (x0.length : Int) then (if x1 = (rd x0 x8) then (some x8) else (slIx.l0 k x0 x1 x7 (wrap64 (x8 + 1)))) else (none)) else (none)) else (some (-1))
def slIx.f (k : Nat) (l0 : List Int) (a1 : Int) : Option (Int) := slIx.l0 k l0 a1 (l0.length : Int) 0
theorem slIx.calls (k : Nat) (A0 : Option Addr) (c0 : Nat) (l0 : List Int) (a1 : Int) (r : Int) (w : World) (hr0 : Kd.C (Kd.int .i64) w A0 l0.length l0) (hc0 : l0.length ≤ c0) (h : slIx.f k l0 a1 = some r) :
    Calls Try.prog 70 #[.slice A0 l0.length c0, .int .i64 a1] w fun e w' => e = .returned (.int .i64 r) ∧ Drawn0 w w' := by
  have HR0 := aM hr0
  have HC0 := aM hc0
  clear hr0 hc0
  have H : (slIx.l0 k l0 a1 (l0.length : Int) 0) = some r := h
  clear h
  have H' := aM H
  clear H
  go_enter Try.func70, Try.ntmps70
  go_wp2
  go_loopg [8] k (fun kq v8 w' => ∃ (x8_1 : Int), v8 = .int .i64 x8_1 ∧ Aside0 (slIx.l0 kq l0 a1 (l0.length : Int) x8_1 = some r) ∧ Aside0 (kq ≤ k) ∧ Drawn0 w w')
  case atStart => exact ⟨(0), zz112, H', ⟨Nat.le_refl _⟩, by repeat (first | exact Drawn0.refl _ | apply Drawn0.step)⟩
  case round =>
    clear H'; (try clear p2); obtain ⟨x8_1, rfl, HA, HK1, ⟨m1, rfl⟩⟩ := hrel
    cases gk with
    | zero => exact absurd HA.out (by simp [slIx.l0])
    | succ k1 =>
      have H := HA.out; clear HA; simp only [slIx.l0] at H
      by_cases c3 : x8_1 < (l0.length : Int)
      · rw [if_pos c3] at H; have c3b0 := decide_eq_true c3; clear c3
        by_cases c4 : 0 ≤ x8_1
        · rw [if_pos c4] at H; have c4b0 := decide_eq_true c4; clear c4
          by_cases c5 : x8_1 < (l0.length : Int)
          · rw [if_pos c5] at H; have c5b0 := decide_eq_true c5; clear c5
            by_cases c6 : a1 = (rd l0 x8_1)
            · rw [if_pos c6] at H; have c6b0 := beq_iff_eq.mpr c6; have c6b1 := bne_eq_false_iff_eq.mpr c6; clear c6; obtain rfl := Option.some.inj H; have p268 : 0 ≤ (x8_1 : Int) := of_decide_eq_true zz111; have q268 : x8_1 < (l0.length : Int) := of_decide_eq_true zz111; obtain ⟨ad268, e268, hx268_0⟩ := Kd.at_int HR0.out x8_1 p268 q268
              cases e268; replace p268 := eq_true p268; replace q268 := eq_true q268; go_wp2; go_ret
              exact ⟨by first | rfl | (simp; done) | (simp [*]; done), by repeat (first | exact Drawn0.refl _ | apply Drawn0.step)⟩
            rw [if_neg c6] at H; have c6b0 := beq_eq_false_iff_ne.mpr c6; have c6b1 := bne_iff_ne.mpr c6; have H' := aM H; clear H; have p268 : 0 ≤ (x8_1 : Int) := of_decide_eq_true zz111; have q268 : x8_1 < (l0.length : Int) := of_decide_eq_true zz111; obtain ⟨ad268, e268, hx268_0⟩ := Kd.at_int HR0.out x8_1 p268 q268
            cases e268; replace p268 := eq_true p268; replace q268 := eq_true q268; go_wp2
            go_roundg k1
            case measure => have := HK1.out; omega
            case rel => exact ⟨(wrap64 (x8_1 + 1)), zz112, H', ⟨zz120⟩, by repeat (first | exact Drawn0.refl _ | apply Drawn0.step)⟩
          rw [if_neg c5] at H
          exact absurd H (by simp)
        rw [if_neg c4] at H
        exact absurd H (by simp)
      rw [if_neg c3] at H; have c3b0 := decide_eq_false c3; clear c3; obtain rfl := Option.some.inj H; go_wp2; go_ret
      exact ⟨by first | rfl | (simp; done) | (simp [*]; done), by repeat (first | exact Drawn0.refl _ | apply Drawn0.step)⟩
end
section
attribute [local go_sem] max2_int min2_int max_two min_two max_three min_three max_four min_four
def perm_degree.f (a0 : Int) : Option (Int) := if a0 < 1 then (some 4) else (if a0 > 64 then (some 4) else (some 0))
theorem perm_degree.calls (a0 : Int) (r : Int) (w : World) (h : perm_degree.f a0 = some r) :
    Calls Try.prog 52 #[.int .i64 a0] w fun e w' => e = .returned (.int .i64 r) ∧ Drawn0 w w' := by
  have H : (if a0 < 1 then (some 4) else (if a0 > 64 then (some 4) else (some 0))) = some r := h
  clear h
  by_cases c2 : a0 < 1
  · rw [if_pos c2] at H
    have c2b0 := decide_eq_true c2; clear c2; obtain rfl := Option.some.inj H
    go_enter Try.func52, Try.ntmps52
    go_wp2; go_ret
    exact ⟨by first | rfl | (simp; done) | (simp [*]; done), by repeat (first | exact Drawn0.refl _ | apply Drawn0.step)⟩
  rw [if_neg c2] at H
  have c2b0 := decide_eq_false c2
  clear c2
  by_cases c3 : a0 > 64
  · rw [if_pos c3] at H
    have c3b0 := decide_eq_true c3; clear c3; obtain rfl := Option.some.inj H
    go_enter Try.func52, Try.ntmps52
    go_wp2; go_ret
    exact ⟨by first | rfl | (simp; done) | (simp [*]; done), by repeat (first | exact Drawn0.refl _ | apply Drawn0.step)⟩
  rw [if_neg c3] at H
  have c3b0 := decide_eq_false c3
  clear c3
  obtain rfl := Option.some.inj H
  go_enter Try.func52, Try.ntmps52
  go_wp2
  go_ret
  exact ⟨by first | rfl | (simp; done) | (simp [*]; done), by repeat (first | exact Drawn0.refl _ | apply Drawn0.step)⟩
end
section
def permOk (n : Nat) (l : List Int) : Prop := l.length = n ∧ (∀ x ∈ l, 0 ≤ x ∧ x < n) ∧ l.Nodup
instance (n : Nat) (l : List Int) : Decidable (permOk n l) := by unfold permOk; infer_instance
def checkL (l : List Int) : Int := if l.length < 1 ∨ 64 < l.length then 4 else if ∃ x ∈ l, x < 0 ∨ (l.length : Int) ≤ x then 6 else if l.Nodup then 0 else 18
def perm_Check.f (l0 : List Int) : Option Int := some (checkL l0)
def outB (n : Nat) (x : Int) : Bool := decide (x < 0) || decide ((n : Int) ≤ x)
theorem check1_lo (x : Int) (g n c : Nat) (A : Option Addr) (w : World) (hcell : w.cell? ⟨g, 0, none⟩ = some (.slice A n c)) (hx : x < 0) :
    Calls Try.prog 54 #[.int .i64 x, .pointer (some ⟨g, 0, none⟩)] w fun e w' => e = .returned (.bool true) ∧ w = w' := by
  have h1 : decide (x < 0) = true := decide_eq_true hx
  go_enter Try.func54, Try.ntmps54
  go_wp2
  go_ret
  exact ⟨rfl, rfl⟩
theorem check1_hi (x : Int) (g n c : Nat) (A : Option Addr) (w : World) (hcell : w.cell? ⟨g, 0, none⟩ = some (.slice A n c)) (hx : 0 ≤ x) (b : Bool) (hb : decide ((n : Int) ≤ x) = b) :
    Calls Try.prog 54 #[.int .i64 x, .pointer (some ⟨g, 0, none⟩)] w fun e w' => e = .returned (.bool b) ∧ w = w' := by
  have h1 : decide (x < 0) = false := decide_eq_false (by omega)
  have Hb := aM hb
  clear hb
  go_enter Try.func54, Try.ntmps54
  go_wp2
  go_ret
  exact ⟨by rw [← Hb.out]; rfl, rfl⟩
theorem check1 (x : Int) (g n c : Nat) (A : Option Addr) (w : World) (hcell : w.cell? ⟨g, 0, none⟩ = some (.slice A n c)) :
    Calls Try.prog 54 #[.int .i64 x, .pointer (some ⟨g, 0, none⟩)] w fun e w' => e = .returned (.bool (outB n x)) ∧ w = w' := by
  unfold outB
  by_cases hx : x < 0
  · rw [decide_eq_true hx]; exact check1_lo x g n c A w hcell hx
  rw [decide_eq_false hx, Bool.false_or]; exact check1_hi x g n c A w hcell (by omega) _ rfl
theorem rd_mem {l : List Int} {i : Int} (h0 : 0 ≤ i) (h1 : i < (l.length : Int)) : rd l i ∈ l := by
  unfold rd
  rw [List.getD_eq_getElem?_getD, List.getElem?_eq_getElem (by omega)]
  exact List.getElem_mem _
theorem take_rd {l : List Int} {i : Int} (h0 : 0 ≤ i) (h1 : i < (l.length : Int)) : l.take (i + 1).toNat = l.take i.toNat ++ [rd l i] := by
  have e : (i + 1).toNat = i.toNat + 1 := by omega
  rw [e, List.take_succ_eq_append_getElem (by omega)]
  congr 2
  unfold rd
  rw [List.getD_eq_getElem?_getD, List.getElem?_eq_getElem (by omega)]
  rfl
def IdxPost (p : Int → Bool) (l : List Int) (w : World) (e : Ending) (w' : World) : Prop := ∃ r : Int, e = .returned (.int .i64 r) ∧ decide (0 ≤ r) = l.any p ∧ Drawn0 w w'
theorem idx75_calls (A0 : Option Addr) (c0 : Nat) (l0 : List Int) (g n c : Nat) (A : Option Addr) (w : World) (hr0 : Kd.C (Kd.int .i64) w A0 l0.length l0) (hcell : w.cell? ⟨g, 0, none⟩ = some (.slice A n c)) :
    Calls Try.prog 75 #[.slice A0 l0.length c0, .func (Fn.func 54) #[] #[.pointer (some ⟨g, 0, none⟩)]] w (IdxPost (outB n) l0 w) := by
  have HR := aM hr0
  have HC := aM hcell
  clear hr0 hcell
  go_enter Try.func75, Try.ntmps75
  go_wp2
  go_loopg [8] l0.length (fun kq v8 w' => ∃ i : Int, v8 = .int .i64 i ∧ Aside0 (0 ≤ i) ∧ Aside0 (i.toNat + kq = l0.length) ∧ Aside0 ((l0.take i.toNat).any (outB n) = false) ∧ Aside0 (Drawn0 w w'))
  case atStart => exact ⟨0, rfl, ⟨by omega⟩, ⟨by simp⟩, ⟨by simp⟩, ⟨Drawn0.refl _⟩⟩
  case round =>
    obtain ⟨i, rfl, HI0, HI1, HA, HD⟩ := hrel; have i0 := HI0.out
    by_cases d1 : i < (l0.length : Int)
    · have d1b : decide (i < (l0.length : Int)) = true := decide_eq_true d1; have q0 := eq_true i0; have q1 := eq_true d1; have hmax : l0.length ≤ 9223372036854775807 := HR.out.2.1; obtain ⟨ad, ea, hx1⟩ := Kd.at_int HR.out i i0 d1
      cases ea; replace hx1 := (HD.out.below.cell (World.block_lt_of_cell? w _ hx1)).trans hx1; have hc1 := (HD.out.below.cell (World.block_lt_of_cell? w _ HC.out)).trans HC.out; have HC1 := aM hc1; clear hc1
      cases hb : outB n (rd l0 i) with
      | true =>
        have HBo := aM hb; clear hb
        go_wp2_with (first
          | (go_at_call 54; (with_reducible refine (check1 (rd l0 i) g n c A _ HC1.out).mono ?_); rintro e w5 ⟨rfl, rfl⟩; rw [HBo.out]))
        go_ret
        exact ⟨i, rfl, by rw [decide_eq_true HI0.out]; exact (List.any_eq_true.2 ⟨_, rd_mem HI0.out d1, HBo.out⟩).symm, HD.out⟩
      | false =>
        have HBo := aM hb; clear hb
        go_wp2_with (first
          | (go_at_call 54; (with_reducible refine (check1 (rd l0 i) g n c A _ HC1.out).mono ?_); rintro e w5 ⟨rfl, rfl⟩; rw [HBo.out]))
        obtain ⟨k1, rfl⟩ : ∃ m, gk = m + 1 := ⟨gk - 1, by have := HI1.out; omega⟩
        go_roundg k1
        case measure => omega
        case rel => exact ⟨i + 1, rfl, ⟨by have := HI0.out; omega⟩, ⟨by have := HI1.out; have := HI0.out; omega⟩, ⟨by rw [take_rd HI0.out d1, List.any_append, HA.out]; simp [HBo.out]⟩, HD⟩
    have d1b : decide (i < (l0.length : Int)) = false := decide_eq_false d1; have ha := HA.out; rw [List.take_of_length_le (by omega)] at ha; have HA2 := aM ha; clear ha; go_wp2; go_ret
    exact ⟨-1, rfl, by rw [HA2.out]; rfl, HD.out⟩
def ContPost (p : Int → Bool) (l : List Int) (w : World) (e : Ending) (w' : World) : Prop := e = .returned (.bool (l.any p)) ∧ Drawn0 w w'
theorem cont53_calls (A0 : Option Addr) (c0 : Nat) (l0 : List Int) (g n c : Nat) (A : Option Addr) (w : World) (hr0 : Kd.C (Kd.int .i64) w A0 l0.length l0) (hcell : w.cell? ⟨g, 0, none⟩ = some (.slice A n c)) :
    Calls Try.prog 53 #[.slice A0 l0.length c0, .func (Fn.func 54) #[] #[.pointer (some ⟨g, 0, none⟩)]] w (ContPost (outB n) l0 w) := by
  have HR := aM hr0
  have HC := aM hcell
  clear hr0 hcell
  go_enter Try.func53, Try.ntmps53
  go_wp2_with (first
    | (go_at_call 75; (with_reducible refine (idx75_calls _ _ l0 g n c A _ HR.out HC.out).mono ?_); rintro e w5 ⟨r, rfl, hr, hd⟩; have HDr := aM (And.intro hr hd); clear hr hd))
  go_ret
  exact ⟨by rw [← HDr.out.1]; rfl, HDr.out.2⟩
theorem any_out (l : List Int) : l.any (outB l.length) = true ↔ ∃ x ∈ l, x < 0 ∨ (l.length : Int) ≤ x := by
  simp [List.any_eq_true, outB]
def SeenOk (l : List Int) (i : Int) (sx : List Bool) : Prop := sx.length = l.length ∧ (l.take i.toNat).Nodup ∧ ∀ y : Int, 0 ≤ y → y < l.length → (rdOf false sx y = true ↔ y ∈ l.take i.toNat)
theorem seen_start (l : List Int) : SeenOk l 0 (List.replicate l.length false) := by
  refine ⟨by simp, by simp, fun y h0 h1 => ?_⟩
  simp [rdOf, List.getD_eq_getElem?_getD, show y.toNat < l.length by omega]
theorem seen_next {l : List Int} {i : Int} {sx : List Bool} (h : SeenOk l i sx) (h0 : 0 ≤ i) (h1 : i < l.length) (hx0 : 0 ≤ rd l i) (hx1 : rd l i < l.length) (hs : rdOf false sx (rd l i) = false) : SeenOk l (i + 1) (sx.set (rd l i).toNat true) := by
  obtain ⟨hl, hn, hy⟩ := h
  have hnot : rd l i ∉ l.take i.toNat := fun hm => by
    have := (hy (rd l i) hx0 hx1).2 hm; rw [hs] at this
    cases this
  refine ⟨by simpa using hl, ?_, fun y y0 y1 => ?_⟩
  · rw [take_rd h0 h1, List.nodup_append]
    exact ⟨hn, by simp, fun a ha b hb => by rw [List.mem_singleton.1 hb]; exact fun e => hnot (e ▸ ha)⟩
  · rw [take_rd h0 h1, List.mem_append, List.mem_singleton]
    by_cases e : y = rd l i
    · subst e; simp [rdOf, List.getD_eq_getElem?_getD, show (rd l i).toNat < sx.length by omega]
    have e' : (rd l i).toNat ≠ y.toNat := by omega
    have := hy y y0 y1; simp only [rdOf, List.getD_eq_getElem?_getD] at this ⊢; rw [List.getElem?_set_ne e']; rw [this]; simp [e]
theorem seen_dup {l : List Int} {i : Int} {sx : List Bool} (h : SeenOk l i sx) (h0 : 0 ≤ i) (h1 : i < l.length) (hx0 : 0 ≤ rd l i) (hx1 : rd l i < l.length) (hs : rdOf false sx (rd l i) = true) : ¬ l.Nodup := by
  obtain ⟨hl, hn, hy⟩ := h
  have hm := (hy (rd l i) hx0 hx1).1 hs
  intro hd
  have h2 : (l.take (i + 1).toNat).Nodup := hd.sublist (List.take_sublist _ _)
  rw [take_rd h0 h1, List.nodup_append] at h2
  exact h2.2.2 _ hm _ (List.mem_singleton.2 rfl) rfl
theorem degree_ok (n : Int) (h1 : 1 ≤ n) (h2 : n ≤ 64) : perm_degree.f n = some 0 := by
  unfold perm_degree.f
  rw [if_neg (by omega), if_neg (by omega)]
theorem degree_bad (n : Int) (h : n < 1 ∨ 64 < n) : perm_degree.f n = some 4 := by
  unfold perm_degree.f
  by_cases h1 : n < 1
  · rw [if_pos h1]
  rw [if_neg h1, if_pos (by omega)]
theorem check_bad (A0 : Option Addr) (c0 : Nat) (l0 : List Int) (w : World) (hr0 : Kd.C (Kd.int .i64) w A0 l0.length l0) (hb : l0.length < 1 ∨ 64 < l0.length) :
    Calls Try.prog 16 #[.slice A0 l0.length c0] w fun e w' => e = .returned (.int .i64 4) ∧ Below w.heap.size w w' := by
  have hd := degree_bad l0.length (by omega)
  have HD := aM hd
  clear hd hb hr0
  go_enter Try.func16, Try.ntmps16
  go_wp2_with (first
   | ((with_reducible refine gate_dst (N := 1) rfl ?_); refine box_event ?hg (N := 1) ?hd (cs := #[.slice A0 l0.length c0]) (t := 22) ?hr ?_; (case hd => rfl); (case hg => rfl); (case hr => first | (go_simp; done) | (go_simp; rfl)); intro g hgr w3 hbox3 hb3; have hz : w3.cell? ⟨g, 0, none⟩ = some (.slice A0 l0.length c0) := (blk_cell hbox3 0).trans rfl; have HB3 := aM hb3; clear hgr hb3 hbox3)
   | (go_at_call 52; (with_reducible refine (perm_degree.calls l0.length 4 _ HD.out).mono ?_); rintro e w5 ⟨rfl, ⟨nd, rfl⟩⟩))
  go_ret
  exact ⟨rfl, pw_below_drewN HB3.out _⟩
theorem check_range (A0 : Option Addr) (c0 : Nat) (l0 : List Int) (w : World) (hr0 : Kd.C (Kd.int .i64) w A0 l0.length l0) (h1 : 1 ≤ l0.length) (h2 : l0.length ≤ 64) (ho : l0.any (outB l0.length) = true) :
    Calls Try.prog 16 #[.slice A0 l0.length c0] w fun e w' => e = .returned (.int .i64 6) ∧ Below w.heap.size w w' := by
  have HD := aM (degree_ok l0.length (by omega) (by omega))
  have HO := aM ho
  have HR := aM hr0
  clear ho hr0
  go_enter Try.func16, Try.ntmps16
  go_wp2_with (first
   | ((with_reducible refine gate_dst (N := 1) rfl ?_); refine box_event ?hg (N := 1) ?hd (cs := #[.slice A0 l0.length c0]) (t := 22) ?hr ?_; (case hd => rfl); (case hg => rfl); (case hr => first | (go_simp; done) | (go_simp; rfl)); intro g hgr w3 hbox3 hb3; have hz : w3.cell? ⟨g, 0, none⟩ = some (.slice A0 l0.length c0) := (blk_cell hbox3 0).trans rfl; have HZ := aM hz; have HB3 := aM hb3; clear hgr hb3 hbox3)
   | (go_at_call 52; (with_reducible refine (perm_degree.calls l0.length 0 _ HD.out).mono ?_); rintro e w5 ⟨rfl, ⟨nd, rfl⟩⟩)
   | (go_at_call 53; (with_reducible refine (cont53_calls _ _ l0 g l0.length c0 A0 _ ?s1 ?s2).mono ?_); (case s1 => exact Kd.C_drewN (Kd.C_below HR.out HB3.out) _); (case s2 => exact HZ.out); rintro e w6 ⟨rfl, hd6⟩; rw [HO.out]; have HB6 := aM (below_step (pw_below_drewN HB3.out nd) hd6.below); clear hd6))
  go_ret
  exact ⟨rfl, HB6.out⟩
theorem perm_Check.calls (A0 : Option Addr) (c0 : Nat) (l0 : List Int) (r : Int) (w : World) (hr0 : Kd.C (Kd.int .i64) w A0 l0.length l0) (hc0 : l0.length ≤ c0) (h : perm_Check.f l0 = some r) :
    Calls Try.prog 16 #[.slice A0 l0.length c0] w fun e w' => e = .returned (.int .i64 r) ∧ Below w.heap.size w w' := by
  unfold perm_Check.f at h
  obtain rfl := Option.some.inj h
  clear h
  unfold checkL
  by_cases hb : l0.length < 1 ∨ 64 < l0.length
  · rw [if_pos hb]
    exact check_bad A0 c0 l0 w hr0 hb
  rw [if_neg hb]
  have h1 : 1 ≤ l0.length := by omega
  have h2 : l0.length ≤ 64 := by omega
  clear hb
  cases ho : l0.any (outB l0.length) with
  | true =>
    rw [if_pos ((any_out l0).1 ho)]
    exact check_range A0 c0 l0 w hr0 h1 h2 ho
  | false =>
  have hno : ¬ ∃ x ∈ l0, x < 0 ∨ (l0.length : Int) ≤ x := fun h => by rw [(any_out l0).2 h] at ho; cases ho
  rw [if_neg hno]
  have HIN := aM (show ∀ i : Int, 0 ≤ i → i < l0.length → 0 ≤ rd l0 i ∧ rd l0 i < l0.length from fun i a b => by
    have hm := rd_mem a b
    refine ⟨?_, ?_⟩
    · apply Classical.byContradiction; intro hc; exact hno ⟨_, hm, .inl (by omega)⟩
    · apply Classical.byContradiction; intro hc; exact hno ⟨_, hm, .inr (by omega)⟩)
  have HD := aM (degree_ok l0.length (by omega) (by omega))
  have HO := aM ho
  have HR := aM hr0
  have HC := aM hc0
  have HST := aM (seen_start l0)
  clear ho hr0 hno hc0
  generalize hres : (if l0.Nodup then (0 : Int) else 18) = res
  have HRES := aM hres
  clear hres
  go_enter Try.func16, Try.ntmps16
  go_wp2_with (first
   | ((with_reducible refine gate_dst (N := 1) rfl ?_); refine box_event ?hg (N := 1) ?hd (cs := #[.slice A0 l0.length c0]) (t := 22) ?hr ?_; (case hd => rfl); (case hg => rfl); (case hr => first | (go_simp; done) | (go_simp; rfl)); intro g hgr w3 hbox3 hb3; have hz : w3.cell? ⟨g, 0, none⟩ = some (.slice A0 l0.length c0) := (blk_cell hbox3 0).trans rfl; have HZ := aM hz; have HB3 := aM hb3; clear hgr hb3 hbox3)
   | (go_at_call 52; (with_reducible refine (perm_degree.calls l0.length 0 _ HD.out).mono ?_); rintro e w5 ⟨rfl, ⟨nd, rfl⟩⟩)
   | (go_at_call 53; (with_reducible refine (cont53_calls _ _ l0 g l0.length c0 A0 _ ?s1 ?s2).mono ?_); (case s1 => exact Kd.C_drewN (Kd.C_below HR.out HB3.out) _); (case s2 => exact HZ.out); rintro e w6 ⟨rfl, ⟨nd6, rfl⟩⟩; rw [HO.out])
   | ((with_reducible refine gate_dst (N := 18) rfl ?_); refine Kd.R_make Kd.bool _ 4 rfl (N := 18) rfl 83 _ _ rfl (l0.length : Int) rfl rfl Try.underlying83 (.bool false) 1 info4 rfl (by decide) (by omega) false (ok := fun _ => True) (okp := fun _ => True) rfl (fun _ hk => hk) trivial (by omega) (by omega) (Below.refl _ _) (Nat.le_refl _) ?_; intro v7 w7 ho7 hb7 hg_ hnew_; clear hg_ hnew_; rw [Int.toNat_natCast] at ho7; have HO7 := aM (Kd.R_lower ho7 (show w.heap.size ≤ w3.heap.size from HB3.out.size)); have HB7 := aM (below_step (pw_below_drewN HB3.out _) hb7); have hz7 := (hb7.cell (World.block_lt_of_cell? _ _ HZ.out)).trans HZ.out; clear ho7 hb7))
  go_loopg [21] l0.length (fun kq v21 w' => ∃ (i : Int) (sx : List Bool), v21 = .int .i64 i ∧ Aside0 (0 ≤ i) ∧ Aside0 (i.toNat + kq = l0.length) ∧ Aside0 (SeenOk l0 i sx) ∧ Aside0 (Kd.R Kd.bool 4 w' w.heap.size (fun _ => True) v7 sx) ∧ Aside0 (Below w.heap.size w w'))
  case atStart => exact ⟨0, _, rfl, ⟨by omega⟩, ⟨by simp⟩, HST, HO7, HB7⟩
  case round =>
    clear HO7 HB7 hz7 hz; obtain ⟨i, sx, rfl, HI0, HI1, HS, HO7, HB7⟩ := hrel; have i0 := HI0.out
    by_cases d1 : i < (l0.length : Int)
    · have d1b : decide (i < (l0.length : Int)) = true := decide_eq_true d1; have q0 := eq_true i0; have q1 := eq_true d1; obtain ⟨ad, ea, hx1⟩ := Kd.at_int HR.out i i0 d1
      cases ea; replace hx1 := (HB7.out.cell (World.block_lt_of_cell? w _ hx1)).trans hx1; obtain ⟨x0, x1⟩ := HIN.out i i0 d1; have hsl := HS.out.1; have x2 : rd l0 i < (sx.length : Int) := by omega
      obtain ⟨go, co, eo, gb, gl, cl, HG⟩ := Kd.R_form HO7.out (by omega); subst eo; obtain ⟨hx2, hf2⟩ := Kd.R_celln false HO7.out (rd l0 i) x0 x2; have GB := aM gb; have HSL := aM hsl; have p0 := eq_true x0; have p2 := eq_true x2; clear gb gl HG hsl
      cases hb : rdOf false sx (rd l0 i) with
      | true =>
        rw [hb] at hx2; have HBo := aM hb; clear hb; go_wp2; go_ret
        exact ⟨by rw [← HRES.out, if_neg (seen_dup HS.out i0 d1 x0 x1 HBo.out)]; rfl, HB7.out⟩
      | false =>
        rw [hb] at hx2; have HBo := aM hb; clear hb; have HP14 := aM (Kd.R_putg HO7.out (rd l0 i) true); have HSn := aM (seen_next HS.out i0 d1 x0 x1 HBo.out); go_wp2; obtain ⟨k1, rfl⟩ : ∃ m, gk = m + 1 := ⟨gk - 1, by have := HI1.out; omega⟩
        go_roundg k1
        case measure => omega
        case rel => exact ⟨i + 1, _, rfl, ⟨by have := HI0.out; omega⟩, ⟨by have := HI1.out; have := HI0.out; omega⟩, HSn, ⟨HP14.out.1⟩, ⟨below_set HB7.out GB.out⟩⟩
    have d1b : decide (i < (l0.length : Int)) = false := decide_eq_false d1; have hn := HS.out.2.1; rw [List.take_of_length_le (by omega)] at hn; have HN := aM hn; clear hn; go_wp2; go_ret
    exact ⟨by rw [← HRES.out, if_pos HN.out]; rfl, HB7.out⟩
end
section
structure Tw where
  n : Nat
  reps : List (List (List Int))
  gens : List (List (List Int))
def Tw.row (T : Tw) (b : Int) : List (List Int) := T.reps.getD b.toNat []
def Tw.rep (T : Tw) (b x : Int) : List Int := (T.row b).getD x.toNat []
def Tw.gen (T : Tw) (b : Int) : List (List Int) := T.gens.getD b.toNat []
def Lok (base : Nat) (w : World) (k : Nat) : Prop := k < base ∨ ∃ cs fr, w.heap[k]? = some (.cells cs 3 fr)
def Leaf (base : Nat) (w : World) (v : Value) (l : List Int) : Prop :=
  ∃ A c, v = .slice A l.length c ∧ l.length ≤ c ∧ Kd.F (Kd.int .i64) w (Lok base w) A l.length l ∧ (l = [] → v = .slice none 0 0)
structure Keep (base : Nat) (w w1 : World) : Prop where
  below : Below base w w1
  ints : ∀ (k : Nat) (cs : Array Value) (fr : Nat × Nat), w.heap[k]? = some (Obj.cells cs 3 fr) → w1.heap[k]? = w.heap[k]?
theorem Keep.refl (base : Nat) (w : World) : Keep base w w := ⟨Below.refl _ _, fun _ _ _ _ => rfl⟩
theorem Keep.trans {base : Nat} {w w1 w2 : World} (h : Keep base w w1) (k : Keep base w1 w2) : Keep base w w2 :=
  ⟨h.below.trans k.below, fun i cs fr hi => by
    have h1 := h.ints i cs fr hi; rw [k.ints i cs fr (h1.trans hi), h1]⟩
theorem lt_of_some {w : World} {k : Nat} {o : Obj} (h : w.heap[k]? = some o) : k < w.heap.size := (Array.getElem?_eq_some_iff.1 h).1
theorem Keep.of_below {base : Nat} {w w1 : World} (hb : base ≤ w.heap.size) (h : Below w.heap.size w w1) : Keep base w w1 :=
  ⟨⟨h.os, h.tape, h.output, h.size, fun i hi => h.block i (Nat.lt_of_lt_of_le hi hb)⟩, fun k _ _ hk => h.block k (lt_of_some hk)⟩
theorem Keep.lok {base : Nat} {w w1 : World} (h : Keep base w w1) {k : Nat} (hk : Lok base w k) : Lok base w1 k := by
  rcases hk with hk | ⟨cs, fr, hk⟩
  · exact .inl hk
  · exact .inr ⟨cs, fr, (h.ints k cs fr hk).trans hk⟩
theorem Leaf.keep {base : Nat} {w w1 : World} {v : Value} {l : List Int} (h : Leaf base w v l) (hk : Keep base w w1) : Leaf base w1 v l := by
  obtain ⟨A, c, rfl, hl, hf, hn⟩ := h
  refine ⟨A, c, rfl, hl, ?_, hn⟩
  refine Kd.F_mono (Kd.F_step hf (fun k hk' hlt => ?_)) (fun k hk' => hk.lok hk')
  rcases hk' with hk' | ⟨cs, fr, hk'⟩
  · exact hk.below.block k hk'
  · exact hk.ints k cs fr hk'
theorem Leaf.reads {base : Nat} {w : World} {v : Value} {l : List Int} (h : Leaf base w v l) : ∃ A c, v = .slice A l.length c ∧ l.length ≤ c ∧ (Kd.int .i64).C w A l.length l := by
  obtain ⟨A, c, rfl, hl, hf, _⟩ := h
  exact ⟨A, c, rfl, hl, Kd.F_now hf⟩
theorem Leaf.of_R {base b : Nat} {w : World} {ok : Nat → Prop} {v : Value} {l : List Int} (h : (Kd.int .i64).R 3 w b ok v l) (hl : l ≠ []) : Leaf base w v l := by
  obtain ⟨A, c, rfl, hc, hr⟩ := Kd.R_reads h
  refine ⟨A, c, rfl, hc, Kd.F_mono (Kd.R_F (Kd.R_bound h)) (fun k hk => ?_), fun h0 => absurd h0 hl⟩
  obtain ⟨_, _, _, q, hq, cells, hcell⟩ := hk
  have : q = 3 := by
    rcases List.mem_cons.1 hq with h1 | h1
    · exact h1
    · exact absurd h1 zz119
  subst this
  exact .inr ⟨cells, _, hcell⟩
def LeafN (base : Nat) (w : World) (v : Value) (l : List Int) : Prop :=
  ∃ A c, v = .slice A l.length c ∧ l.length ≤ c ∧ Kd.F (Kd.int .i64) w (fun k => base ≤ k ∧ ∃ cs fr, w.heap[k]? = some (Obj.cells cs 3 fr)) A l.length l ∧ (l = [] → v = .slice none 0 0)
theorem LeafN.leaf {base : Nat} {w : World} {v : Value} {l : List Int} (h : LeafN base w v l) : Leaf base w v l := by
  obtain ⟨A, c, rfl, hl, hf, hn⟩ := h
  exact ⟨A, c, rfl, hl, Kd.F_mono hf (fun k hk => .inr hk.2), hn⟩
theorem LeafN.keep {base : Nat} {w w1 : World} {v : Value} {l : List Int} (h : LeafN base w v l) (hk : Keep base w w1) : LeafN base w1 v l := by
  obtain ⟨A, c, rfl, hl, hf, hn⟩ := h
  refine ⟨A, c, rfl, hl, ?_, hn⟩
  refine Kd.F_mono (Kd.F_step hf (fun k hk' hlt => ?_)) (fun k hk' => ⟨hk'.1, ?_⟩)
  · obtain ⟨_, cs, fr, hk'⟩ := hk'
    exact hk.ints k cs fr hk'
  · obtain ⟨_, cs, fr, hk'⟩ := hk'
    exact ⟨cs, fr, (hk.ints k cs fr hk').trans hk'⟩
theorem LeafN.of_R {base b : Nat} {w : World} {ok : Nat → Prop} {v : Value} {l : List Int} (h : (Kd.int .i64).R 3 w b ok v l) (hb : base ≤ b) (hl : l ≠ []) : LeafN base w v l := by
  obtain ⟨A, c, rfl, hc, hr⟩ := Kd.R_reads h
  refine ⟨A, c, rfl, hc, Kd.F_mono (Kd.R_F (Kd.R_bound h)) (fun k hk => ?_), fun h0 => absurd h0 hl⟩
  obtain ⟨_, h2, _, q, hq, cells, hcell⟩ := hk
  have : q = 3 := by
    rcases List.mem_cons.1 hq with h1 | h1
    · exact h1
    · exact absurd h1 zz119
  subst this
  exact ⟨Nat.le_trans hb h2, cells, _, hcell⟩
theorem LeafN.none_ (base : Nat) (w : World) : LeafN base w (.slice none 0 0) [] := ⟨none, 0, rfl, Nat.le_refl _, Kd.F_nil _ _ _, fun _ => rfl⟩
theorem Leaf.C {base : Nat} {w : World} {A : Option Addr} {c : Nat} {l : List Int} (h : Leaf base w (.slice A l.length c) l) : (Kd.int .i64).C w A l.length l ∧ l.length ≤ c := by
  obtain ⟨A', c', e, hl, hr⟩ := h.reads
  injection e with ea eb ec
  subst ea ec
  exact ⟨hr, hl⟩
structure TwAt (base : Nat) (w : World) (bt bR bG : Nat) (rb : Nat → Nat) (vr : Nat → Nat → Value) (vg : Nat → Value) (T : Tw) : Prop where
  n1 : 1 ≤ T.n
  n64 : T.n ≤ 64
  lr : T.reps.length = T.n
  lrr : ∀ i, i < T.n → (T.reps.getD i []).length = T.n
  lg : T.gens.length = T.n
  gt : base ≤ bt
  gR : base ≤ bR
  gG : base ≤ bG
  grb : ∀ i, i < T.n → base ≤ rb i
  ht : w.heap[bt]? = some (.cells #[.int .i64 T.n, .slice (some ⟨bR, 0, none⟩) T.n T.n, .slice (some ⟨bG, 0, none⟩) T.n T.n] 108 (0, 0))
  hR : w.heap[bR]? = some (.cells ((List.range T.n).map (fun i => Value.slice (some ⟨rb i, 0, none⟩) T.n T.n)).toArray 28 (0, 0))
  hr : ∀ i, i < T.n → w.heap[rb i]? = some (.cells ((List.range T.n).map (vr i)).toArray 22 (0, 0))
  hG : w.heap[bG]? = some (.cells ((List.range T.n).map vg).toArray 28 (0, 0))
  hg : ∀ i, i < T.n → ∃ inner, w.ownsRow base 22 1 (vg i) (T.gens.getD i []).length inner ∧ ∀ (j : Nat) (l : List Int), (T.gens.getD i [])[j]? = some l → ∃ v, inner[j]? = some v ∧ Leaf base w v l
  leaf : ∀ i x, i < T.n → x < T.n → LeafN base w (vr i x) ((T.reps.getD i []).getD x [])
  dRG : bR ≠ bG
  drb : ∀ i j, i < T.n → j < T.n → rb i = rb j → i = j
  drg : ∀ i j, i < T.n → j < T.n → (vg j).ownBlock ≠ some (rb i)
  dgg : ∀ i j, i < T.n → j < T.n → i ≠ j → (vg i).ownBlock = none ∨ (vg i).ownBlock ≠ (vg j).ownBlock
section
variable {base : Nat} {w w1 : World} {bt bR bG : Nat} {rb : Nat → Nat} {vr : Nat → Nat → Value} {vg : Nat → Value} {T : Tw}
theorem range_map_get {n i : Nat} (f : Nat → Value) (h : i < n) : ((List.range n).map f).toArray[i]? = some (f i) := by simp [h]
theorem TwAt.cell0 (h : TwAt base w bt bR bG rb vr vg T) : w.cell? ⟨bt, 0, none⟩ = some (.int .i64 T.n) := (blk_cell h.ht 0).trans rfl
theorem TwAt.cell1 (h : TwAt base w bt bR bG rb vr vg T) : w.cell? ⟨bt, 1, none⟩ = some (.slice (some ⟨bR, 0, none⟩) T.n T.n) := (blk_cell h.ht 1).trans rfl
theorem TwAt.cell2 (h : TwAt base w bt bR bG rb vr vg T) : w.cell? ⟨bt, 2, none⟩ = some (.slice (some ⟨bG, 0, none⟩) T.n T.n) := (blk_cell h.ht 2).trans rfl
theorem TwAt.cellR (h : TwAt base w bt bR bG rb vr vg T) {b : Int} (h0 : 0 ≤ b) (h1 : b < T.n) : w.cell? ⟨bR, b.toNat, none⟩ = some (.slice (some ⟨rb b.toNat, 0, none⟩) T.n T.n) :=
  (blk_cell h.hR b.toNat).trans (range_map_get _ (by omega))
theorem TwAt.cellG (h : TwAt base w bt bR bG rb vr vg T) {b : Int} (h0 : 0 ≤ b) (h1 : b < T.n) : w.cell? ⟨bG, b.toNat, none⟩ = some (vg b.toNat) :=
  (blk_cell h.hG b.toNat).trans (range_map_get _ (by omega))
theorem TwAt.cellr (h : TwAt base w bt bR bG rb vr vg T) {b x : Int} (h0 : 0 ≤ b) (h1 : b < T.n) (h2 : 0 ≤ x) (h3 : x < T.n) : w.cell? ⟨rb b.toNat, x.toNat, none⟩ = some (vr b.toNat x.toNat) :=
  (blk_cell (h.hr b.toNat (by omega)) x.toNat).trans (range_map_get _ (by omega))
theorem TwAt.leafr (h : TwAt base w bt bR bG rb vr vg T) {b x : Int} (h0 : 0 ≤ b) (h1 : b < T.n) (h2 : 0 ≤ x) (h3 : x < T.n) : Leaf base w (vr b.toNat x.toNat) (T.rep b x) :=
  (h.leaf b.toNat x.toNat (by omega) (by omega)).leaf
theorem TwAt.base_le (h : TwAt base w bt bR bG rb vr vg T) : base ≤ w.heap.size := Nat.le_trans h.gt (Nat.le_of_lt (lt_of_some h.ht))
theorem TwAt.below (h : TwAt base w bt bR bG rb vr vg T) (hb : Below w.heap.size w w1) : TwAt base w1 bt bR bG rb vr vg T := by
  have hk := Keep.of_below h.base_le hb
  exact { h with
    ht := (hb.block _ (lt_of_some h.ht)).trans h.ht
    hR := (hb.block _ (lt_of_some h.hR)).trans h.hR
    hr := fun i hi => (hb.block _ (lt_of_some (h.hr i hi))).trans (h.hr i hi)
    hG := (hb.block _ (lt_of_some h.hG)).trans h.hG
    hg := fun i hi => by
      obtain ⟨inner, ho, hl⟩ := h.hg i hi
      exact ⟨inner, pw_own_below ho hb, fun j l hj => by obtain ⟨v, hv, hf⟩ := hl j l hj; exact ⟨v, hv, hf.keep hk⟩⟩
    leaf := fun i x hi hx => (h.leaf i x hi hx).keep hk }
end
end
section
def stripL : Nat → Tw → List Int → Int → Option Int
  | 0, _, _, _ => none
  | k + 1, T, p, b =>
    if b < T.n then (if 0 ≤ b then (if b < (p.length : Int) then (if 0 ≤ rd p b then (if rd p b < T.n then (
      if T.rep b (rd p b) = [] then some b else (perm_inverse.f k (T.rep b (rd p b))).bind fun i => (perm_then.f k p i).bind fun q => stripL k T q (b + 1))
      else none) else none) else none) else none) else some T.n
theorem run_eql_nil (w : World) (a : Option Addr) (n c : Nat) : (binOp .eql 22 (.slice a n c) (.slice none 0 0)).run Try.prog w = .ok (.bool a.isNone) w := Lib.run_eql_slice_nil w 22 3 a n c 0 0 Try.underlying22
theorem run_neq_nil (w : World) (a : Option Addr) (n c : Nat) : (binOp .neq 22 (.slice a n c) (.slice none 0 0)).run Try.prog w = .ok (.bool (!a.isNone)) w := run_neq_slice_nil_any w 22 3 a n c 0 0 Try.underlying22
theorem C_some {w : World} {A : Option Addr} {l : List Int} (h : Kd.C (Kd.int .i64) w A l.length l) (hl : l ≠ []) : ∃ ad, A = some ad := by
  have h0 : 0 < l.length := List.length_pos_iff.2 hl
  obtain ⟨ad, e, _⟩ := Kd.at_int h 0 (by omega) (by omega)
  exact ⟨ad, e⟩
theorem strip_calls {base : Nat} {bt bR bG : Nat} {rb : Nat → Nat} {vr : Nat → Nat → Value} {vg : Nat → Value} {T : Tw} (k : Nat) (A0 : Option Addr) (c0 : Nat) (p : List Int) (b : Int) (r : Int) (w : World)
    (hT : TwAt base w bt bR bG rb vr vg T) (hr0 : Kd.C (Kd.int .i64) w A0 p.length p) (hc0 : p.length ≤ c0) (h : stripL k T p b = some r) :
    Calls Try.prog 83 #[.pointer (some ⟨bt, 0, none⟩), .slice A0 p.length c0, .int .i64 b] w fun e w' => ∃ v0_ : Value, e = .returned (.tuple #[v0_, .int .i64 r]) ∧ Below w.heap.size w w' := by
  have HT := aM hT
  have HR0 := aM hr0
  have HC0 := aM hc0
  have HB := aM (Below.refl w.heap.size w)
  have H' := aM h
  clear hT hr0 hc0 h
  go_enter Try.func83, Try.ntmps83
  go_wp2
  go_loopg [1, 2] k (fun kq v1 v2 w' => ∃ (q : List Int) (A1 : Option Addr) (c1 : Nat) (b1 : Int), v1 = .slice A1 q.length c1 ∧ v2 = .int .i64 b1 ∧ Aside0 (stripL kq T q b1 = some r) ∧ Aside0 (kq ≤ k) ∧ Aside0 (Kd.C (Kd.int .i64) w' A1 q.length q) ∧ Aside0 (q.length ≤ c1) ∧ Aside0 (Below w.heap.size w w'))
  case atStart => exact ⟨p, A0, c0, b, rfl, rfl, H', ⟨Nat.le_refl _⟩, HR0, HC0, HB⟩
  case round =>
    clear H' HB HR0 HC0; obtain ⟨q, A1, c1, b1, rfl, rfl, HA, HK1, HR, HC, HB⟩ := hrel
    cases gk with
    | zero => exact absurd HA.out (by simp [stripL])
    | succ k1 =>
      have H := HA.out; clear HA; simp only [stripL] at H; have hn64 := HT.out.n64; have HTr := aM (HT.out.below HB.out); have hx0 := HTr.out.cell0
      by_cases c7 : b1 < (T.n : Int)
      · rw [if_pos c7] at H; have c7b : decide (b1 < (T.n : Int)) = true := decide_eq_true c7; have hx1 := HTr.out.cell1
        by_cases c8 : 0 ≤ b1
        · rw [if_pos c8] at H
          by_cases c9 : b1 < (q.length : Int)
          · rw [if_pos c9] at H
            by_cases c10 : 0 ≤ rd q b1
            · rw [if_pos c10] at H
              by_cases c11 : rd q b1 < (T.n : Int)
              · rw [if_pos c11] at H; have hx2 := HTr.out.cellR c8 c7; have hx3 := HTr.out.cellr c8 c7 c10 c11; obtain ⟨ad, e1, hx4⟩ := Kd.at_int HR.out b1 c8 c9
                cases e1; have hL := HTr.out.leafr c8 c7 c10 c11; have p8 := eq_true c8; have p9 := eq_true c9; have p7 := eq_true c7; have p10 := eq_true c10; have p11 := eq_true c11
                by_cases c12 : T.rep b1 (rd q b1) = []
                · rw [if_pos c12] at H; obtain rfl := Option.some.inj H; obtain ⟨A2, c2, hv, hl2, hf2, hnil⟩ := hL; have hv0 := hnil c12; rw [hv0] at hx3; have hq := fun W => run_eql_nil W none 0 0
                  clear hv hv0 hnil hf2 hl2 c12 H; go_wp2
                  go_quiet (fail)
                  go_wp2
                  go_ret2
                  exact ⟨_, rfl, pw_below_drewN HB.out _⟩
                · rw [if_neg c12] at H; replace H := Option.bind_eq_some_iff.mp H; obtain ⟨i, hi, H⟩ := H; replace H := Option.bind_eq_some_iff.mp H; obtain ⟨q2, hq2, H⟩ := H; obtain ⟨A2, c2, hv, hl2, hC2⟩ := hL.reads; obtain ⟨ad2, rfl⟩ := C_some hC2 c12; rw [hv] at hx3; have hq := fun W => run_eql_nil W (some ad2) (T.rep b1 (rd q b1)).length c2
                  have Hi := aM hi; have Hq2 := aM hq2; have H' := aM H; have HC2 := aM hC2; have HL2 := aM hl2; clear hv c12 H hi hq2 hC2 hl2 hL; go_wp2
                  go_quiet (fail)
                  have HCr := aM (Kd.C_below HC2.out (Below.refl _ _))
                  go_wp2_with (first
                    | (go_at_call 55; (with_reducible refine (perm_inverse.calls k1 _ _ (T.rep b1 (rd q b1)) i _ ?s1 ?s2 Hi.out).mono ?_); (case s1 => exact Kd.C_drewN HC2.out _); (case s2 => exact HL2.out); rintro e w3 ⟨v3, rfl, ho3, hb3⟩; obtain ⟨A3, c3, rfl, hl3, hr3⟩ := Kd.R_reads ho3; have HR3 := aM hr3; have HL3 := aM hl3; have HB3 := aM (below_step (pw_below_drewN HB.out nq) hb3); have HQ3 := aM (Kd.C_below (Kd.C_drewN HR.out nq) hb3); clear ho3 hb3 hr3 hl3)
                    | (go_at_call 50; (with_reducible refine (perm_then.calls k1 _ _ q _ _ i q2 _ ?s1 ?s2 ?s3 ?s4 Hq2.out).mono ?_); (case s1 => exact HQ3.out); (case s2 => exact HC.out); (case s3 => exact HR3.out); (case s4 => exact HL3.out); rintro e w4 ⟨v4, rfl, ho4, hb4⟩; obtain ⟨A4, c4, rfl, hl4, hr4⟩ := Kd.R_reads ho4; have HR4 := aM hr4; have HL4 := aM hl4; have HB4 := aM (below_step HB3.out hb4); clear ho4 hb4 hr4 hl4))
                  go_roundg k1
                  case measure => have := HK1.out; omega
                  case rel => exact ⟨q2, A4, c4, b1 + 1, rfl, rfl, H', ⟨by have := HK1.out; omega⟩, HR4, HL4, HB4⟩
              · rw [if_neg c11] at H
                cases H
            · rw [if_neg c10] at H
              cases H
          · rw [if_neg c9] at H
            cases H
        · rw [if_neg c8] at H
          cases H
      · rw [if_neg c7] at H; obtain rfl := Option.some.inj H; have c7b : decide (b1 < (T.n : Int)) = false := decide_eq_false c7; go_wp2
        go_quiet (fail)
        go_wp2
        go_ret2
        exact ⟨_, rfl, pw_below_drewN HB.out _⟩
end
section
theorem run_eql_nil28 (w : World) (a : Option Addr) (n c : Nat) : (binOp .eql 28 (.slice a n c) (.slice none 0 0)).run Try.prog w = .ok (.bool a.isNone) w := Lib.run_eql_slice_nil w 28 22 a n c 0 0 Try.underlying28
theorem raw_reads {w : World} {g n : Nat} {vals : List Value} (hl : vals.length = n) (hn : n ≤ 64) (hone : ∀ v ∈ vals, v.oneCell' = true) (hc : ∀ (j : Nat) (u : Value), vals[j]? = some u → w.cell? ⟨g, j, none⟩ = some u) :
    ReadsRow (fun x cs => cs = x ∧ cs.length = 1 ∧ ∀ u ∈ cs, u.oneCell' = true) 1 w (some ⟨g, 0, none⟩) n (vals.map (fun v => [v])) := by
  refine ⟨by simpa using hl, by omega, fun h0 => ⟨_, rfl, fun j p hj => ?_⟩⟩
  rw [List.getElem?_map] at hj
  obtain ⟨v, hv, rfl⟩ := Option.map_eq_some_iff.1 hj
  refine ⟨[v], rfl, ⟨rfl, rfl, fun u hu => ?_⟩, fun i u hu => ?_⟩
  · rw [List.mem_singleton.1 hu]; exact hone v (List.mem_of_getElem? hv)
  · match i, hu with
    | 0, hu =>
      obtain rfl := Option.some.inj hu; rw [add_plain, Nat.mul_one, Nat.add_zero]
      exact hc j v hv
theorem raw_cells {w : World} {b e : Nat} {ok : Nat → Prop} {v : Value} {vals : List Value} (h : (Kd.raw 1).R e w b ok v (vals.map (fun v => [v]))) (h0 : 0 < vals.length) :
    ∃ g c, v = .slice (some ⟨g, 0, none⟩) vals.length c ∧ b ≤ g ∧ g < w.heap.size ∧ ∀ (j : Nat) (u : Value), vals[j]? = some u → w.cell? ⟨g, j, none⟩ = some u := by
  obtain ⟨_, inner, ho, hr⟩ := h
  rw [List.length_map] at ho
  obtain ⟨g, cap, he, hbg, hlg⟩ := ho.form h0
  subst he
  refine ⟨g, cap, rfl, hbg, hlg, fun j u hu => ?_⟩
  have h1 := hr.2 j [u] (by rw [List.getElem?_map, hu]; rfl)
  have h2 : ((inner.drop (j * 1)).take 1) = [u] := h1.1
  have h3 : inner[j]? = some u := by
    have := congrArg List.head? h2; rw [Nat.mul_one] at this
    simpa [List.head?_take, List.head?_drop] using this
  have h4 := ho.cells (g := g) rfl j u h3
  rwa [add_plain] at h4
theorem clone84_calls (g n : Nat) (vals : List Value) (w : World) (hl : vals.length = n) (h1 : 1 ≤ n) (hn : n ≤ 64) (hone : ∀ v ∈ vals, v.oneCell' = true) (hc : ∀ (j : Nat) (u : Value), vals[j]? = some u → w.cell? ⟨g, j, none⟩ = some u) :
    Calls Try.prog 84 #[.slice (some ⟨g, 0, none⟩) n n] w fun e w' => ∃ g' c, e = .returned (.slice (some ⟨g', 0, none⟩) n c) ∧ w.heap.size ≤ g' ∧ g' < w'.heap.size ∧ (∀ (j : Nat) (u : Value), vals[j]? = some u → w'.cell? ⟨g', j, none⟩ = some u) ∧ Below w.heap.size w w' := by
  have HRR := aM (raw_reads hl hn hone hc)
  have HL := aM hl
  have HB := aM (Below.refl w.heap.size w)
  have hq := fun W => run_eql_nil28 W (some ⟨g, 0, none⟩) n n
  clear hl hone hc
  go_enter Try.func84, Try.ntmps84
  go_wp2_with (first
    | ((with_reducible refine gate_dst (N := 5) rfl ?_); refine Kd.R_lit (Kd.raw 1) _ 22 ?hg (N := 5) ?hd (xs := ([] : List (List Value))) (inner := []) (ok := fun _ => True) (okp := fun _ => True) ?hr ?hp (fun _ hk => hk) trivial (Below.refl _ _) (Nat.le_refl _) (by simp) ?_; (case hd => rfl); (case hg => rfl); (case hr => first | (go_simp; done) | (go_simp; rfl)); (case hp => exact (Reps.none _ _)); intro v1 w1 ho1 hb1 hg_ hnew_; clear hg_ hnew_; have HO1 := aM ho1; have HB1 := aM hb1; clear ho1 hb1)
    | ((with_reducible refine gate_builtin (b := .append) (xs := #[.tmp 5, .tmp 6]) rfl ?_); at_builtin; refine Kd.R_append_rows (Kd.raw 1) (w0 := w) w.heap.size rfl (.tmp 5) (.tmp 6) 28 22 (.slice none 0 0) 24 rfl Try.underlying28 info22 rfl (by decide) (by omega) v1 [] (vals.map (fun v => [v])) _ _ _ (fun _ => True) (fun _ => False) rfl rfl ?aO ?aR (fun _ _ h => h) (fun _ h => h.elim) ?aF ?aB ?aS ?aL ?_; (case aR => exact HRR.out.imp_ (HB1.out) (fun _ _ h => h)); (case aB => exact HB1.out); (case aF => exact (fun _ _ => trivial)); (case aO => exact HO1.out); (case aS => exact HB1.out.size); (case aL => simp only [List.length_nil]; omega); intro v2 w2 ho2 hb2 hg2 hat2; have HO2 := aM ho2; have HB2 := aM hb2; clear ho2 hb2 hg2 hat2))
  go_ret
  have ho2 := HO2.out
  rw [List.nil_append] at ho2
  obtain ⟨g', c, hv, hbg, hlg, hcc⟩ := raw_cells ho2 (by rw [HL.out]; omega)
  rw [HL.out] at hv
  exact ⟨g', c, by rw [← hv]; rfl, hbg, hlg, hcc, HB2.out⟩
end
section
def Tw.setRep (T : Tw) (b x : Int) (p : List Int) : Tw := { T with reps := T.reps.set b.toNat ((T.row b).set x.toNat p) }
def Tw.addGen (T : Tw) (b : Int) (p : List Int) : Tw := { T with gens := T.gens.set b.toNat (T.gen b ++ [p]) }
theorem range_set {n x : Nat} (f : Nat → Value) (v : Value) : ((List.range n).map f).toArray.setIfInBounds x v = ((List.range n).map (fun y => if y = x then v else f y)).toArray := by
  apply Array.ext
  · simp
  · intro i h1 h2
    simp only [List.setIfInBounds_toArray, List.getElem_toArray, List.getElem_set, List.getElem_map, List.getElem_range]
    by_cases h : x = i
    · simp [h]
    rw [if_neg h, if_neg (fun e => h e.symm)]
theorem getD_set_same {α : Type} {l : List α} {i : Nat} {a d : α} (h : i < l.length) : (l.set i a).getD i d = a := by simp [List.getD_eq_getElem?_getD, h]
theorem getD_set_ne {α : Type} {l : List α} {i j : Nat} {a d : α} (h : i ≠ j) : (l.set i a).getD j d = l.getD j d := by simp [List.getD_eq_getElem?_getD, List.getElem?_set_ne h]
theorem ne_of_types {w : World} {g g' t t' : Nat} {cs cs' : Array Value} {fr fr' : Nat × Nat} (h : w.heap[g]? = some (Obj.cells cs t fr)) (h' : w.heap[g']? = some (Obj.cells cs' t' fr')) (ht : t ≠ t') : g ≠ g' := by
  rintro rfl
  rw [h] at h'
  injection h' with h'
  injection h' with _ h2
  exact ht h2
theorem Keep.set_ {base : Nat} {w : World} {g x t : Nat} {cs : Array Value} {fr : Nat × Nat} (hg : base ≤ g) (hb : w.heap[g]? = some (Obj.cells cs t fr)) (ht : t ≠ 3) (v : Value) : Keep base w (w.setCell ⟨g, x, none⟩ v) :=
  ⟨(Below.refl base w).setCell hg v, fun k cs' fr' hk => Below.heap_setCell w ⟨g, x, none⟩ v k (fun e => ne_of_types hk hb (Ne.symm ht) e)⟩
def Own (n : Nat) (rb : Nat → Nat) (bG : Nat) (vg : Nat → Value) (k : Nat) : Prop := (∃ i, i < n ∧ k = rb i) ∨ k = bG ∨ ∃ i, i < n ∧ (vg i).ownBlock = some k
structure TwFr (n : Nat) (rb : Nat → Nat) (bG : Nat) (vg : Nat → Value) (w : World) (vg' : Nat → Value) (w' : World) : Prop where
  size : w.heap.size ≤ w'.heap.size
  same : ∀ k, k < w.heap.size → ¬ Own n rb bG vg k → w'.heap[k]? = w.heap[k]?
  own : ∀ k, k < w.heap.size → Own n rb bG vg' k → Own n rb bG vg k
theorem TwFr.of_below {n : Nat} {rb : Nat → Nat} {bG : Nat} {vg : Nat → Value} {w w' : World} (h : Below w.heap.size w w') : TwFr n rb bG vg w vg w' := ⟨h.size, fun k hk _ => h.block k hk, fun _ _ h => h⟩
theorem TwFr.refl {n : Nat} {rb : Nat → Nat} {bG : Nat} {vg : Nat → Value} {w : World} : TwFr n rb bG vg w vg w := ⟨Nat.le_refl _, fun _ _ _ => rfl, fun _ _ h => h⟩
theorem TwFr.trans {n : Nat} {rb : Nat → Nat} {bG : Nat} {vg vg1 vg2 : Nat → Value} {w w1 w2 : World} (h : TwFr n rb bG vg w vg1 w1) (k : TwFr n rb bG vg1 w1 vg2 w2) : TwFr n rb bG vg w vg2 w2 :=
  ⟨Nat.le_trans h.size k.size, fun i hi hn => (k.same i (Nat.lt_of_lt_of_le hi h.size) (fun ho => hn (h.own i hi ho))).trans (h.same i hi hn), fun i hi ho => h.own i hi (k.own i (Nat.lt_of_lt_of_le hi h.size) ho)⟩
section
variable {base : Nat} {w w1 : World} {bt bR bG : Nat} {rb : Nat → Nat} {vr : Nat → Nat → Value} {vg : Nat → Value} {T : Tw}
theorem TwAt.set_rep (h : TwAt base w bt bR bG rb vr vg T) {b x : Int} (h0 : 0 ≤ b) (h1 : b < T.n) (h2 : 0 ≤ x) (h3 : x < T.n) {v : Value} {p : List Int} (hv : LeafN base w v p) :
    TwAt base (w.setCell ⟨rb b.toNat, x.toNat, none⟩ v) bt bR bG rb (fun i y => if i = b.toNat ∧ y = x.toNat then v else vr i y) vg (T.setRep b x p) ∧ Keep base w (w.setCell ⟨rb b.toNat, x.toNat, none⟩ v) ∧ TwFr T.n rb bG vg w vg (w.setCell ⟨rb b.toNat, x.toNat, none⟩ v) := by
  have hbn : b.toNat < T.n := by omega
  have hk : Keep base w (w.setCell ⟨rb b.toNat, x.toNat, none⟩ v) := Keep.set_ (h.grb _ hbn) (h.hr _ hbn) (by decide) v
  have hrow : T.row b = T.reps.getD b.toNat [] := rfl
  refine ⟨{ h with lr := ?_, lrr := ?_, ht := ?_, hR := ?_, hr := ?_, hG := ?_, hg := ?_, leaf := ?_ }, hk, ⟨by simp [World.setCell], fun k hk2 hn => Below.heap_setCell w ⟨rb b.toNat, x.toNat, none⟩ v k (fun e => hn (.inl ⟨b.toNat, hbn, e⟩)), fun _ _ h => h⟩⟩
  · simp [Tw.setRep, h.lr]
  · intro i hi
    by_cases e : b.toNat = i
    · subst e; simp only [Tw.setRep]; rw [getD_set_same (by rw [h.lr]; exact hbn), List.length_set, hrow]
      exact h.lrr _ hbn
    simp only [Tw.setRep]; rw [getD_set_ne e]
    exact h.lrr i hi
  · exact (Below.heap_setCell w _ v bt (ne_of_types h.ht (h.hr _ hbn) (by decide))).trans h.ht
  · exact (Below.heap_setCell w _ v bR (ne_of_types h.hR (h.hr _ hbn) (by decide))).trans h.hR
  · intro i hi
    by_cases e : b.toNat = i
    · subst e; have := blk_set (h.hr _ hbn) x.toNat v; rw [range_set] at this
      simpa [Tw.setRep] using this
    have := (Below.heap_setCell w ⟨rb b.toNat, x.toNat, none⟩ v (rb i) (fun e2 => e (h.drb _ _ hbn hi e2.symm))).trans (h.hr i hi); rw [this]; have e' : ¬ i = b.toNat := fun z => e z.symm
    simp [e', Tw.setRep]
  · exact (Below.heap_setCell w _ v bG (ne_of_types h.hG (h.hr _ hbn) (by decide))).trans h.hG
  · intro i hi
    obtain ⟨inner, ho, hl⟩ := h.hg i hi
    refine ⟨inner, own_move ho (fun k hk' => Below.heap_setCell w ⟨rb b.toNat, x.toNat, none⟩ v k (fun e => ?_)), fun j l hj => ?_⟩
    · subst e
      exact h.drg b.toNat i hbn hi hk'
    · obtain ⟨u, hu, hf⟩ := hl j l hj
      exact ⟨u, hu, hf.keep hk⟩
  · intro i y hi hy
    by_cases e : b.toNat = i
    · subst e
      have hl : (T.setRep b x p).reps.getD b.toNat [] = (T.row b).set x.toNat p := by
        simp only [Tw.setRep]; rw [getD_set_same (by rw [h.lr]; exact hbn)]
      rw [hl]
      by_cases e2 : x.toNat = y
      · subst e2; rw [getD_set_same (by rw [hrow, h.lrr _ hbn]; omega), if_pos ⟨rfl, rfl⟩]
        exact hv.keep hk
      rw [getD_set_ne e2, if_neg (fun z => e2 z.2.symm)]
      exact (h.leaf _ y hi hy).keep hk
    have hl : (T.setRep b x p).reps.getD i [] = T.reps.getD i [] := by
      simp only [Tw.setRep]; rw [getD_set_ne e]
    rw [hl, if_neg (fun z => e z.1.symm)]
    exact (h.leaf i y hi hy).keep hk
theorem TwAt.add_gen (h : TwAt base w bt bR bG rb vr vg T) {b : Int} (h0 : 0 ≤ b) (h1 : b < T.n) {v v1 : Value} {p : List Int} {inner : List Value} (hv : Leaf base w v p)
    (hin : ∀ (j : Nat) (l : List Int), (T.gen b)[j]? = some l → ∃ u, inner[j]? = some u ∧ Leaf base w u l) (hl : inner.length = (T.gen b).length)
    (hown : w1.ownsRow base 22 1 v1 ((T.gen b).length + 1) (inner ++ [v])) (hg : w.grownBy w1 (vg b.toNat).ownBlock) (hat : v1.ownBlock = (vg b.toNat).ownBlock ∨ ∃ g, v1.ownBlock = some g ∧ w.heap.size ≤ g) :
    TwAt base (w1.setCell ⟨bG, b.toNat, none⟩ v1) bt bR bG rb vr (fun i => if i = b.toNat then v1 else vg i) (T.addGen b p) ∧ Keep base w (w1.setCell ⟨bG, b.toNat, none⟩ v1) ∧ TwFr T.n rb bG vg w (fun i => if i = b.toNat then v1 else vg i) (w1.setCell ⟨bG, b.toNat, none⟩ v1) := by
  have hbn : b.toNat < T.n := by omega
  obtain ⟨inner0, ho0, hl0⟩ := h.hg _ hbn
  -- the blocks that the append may have written are of type 22, from base on
  have hob : ∀ k, (vg b.toNat).ownBlock = some k → base ≤ k ∧ ∃ cs, w.heap[k]? = some (Obj.cells cs 22 (0, 0)) := fun k hk => ⟨own_base ho0 k hk, own_typed ho0 k hk⟩
  have hsame : ∀ (k t : Nat) (cs : Array Value) (fr : Nat × Nat), w.heap[k]? = some (Obj.cells cs t fr) → t ≠ 22 → w1.heap[k]? = w.heap[k]? := fun k t cs fr hk ht =>
    hg.block k (lt_of_some hk) (fun e => by
      obtain ⟨_, cs', hc⟩ := hob k e.symm
      exact ne_of_types hk hc ht rfl)
  have hk1 : Keep base w w1 := ⟨(Below.refl base w).grown hg h.base_le (fun k hk => (hob k hk).1), fun k cs fr hk => hsame k 3 cs fr hk (by decide)⟩
  have hG1 : w1.heap[bG]? = some (.cells ((List.range T.n).map vg).toArray 28 (0, 0)) := (hsame bG 28 _ _ h.hG (by decide)).trans h.hG
  have hk2 : Keep base w1 (w1.setCell ⟨bG, b.toNat, none⟩ v1) := Keep.set_ h.gG hG1 (by decide) v1
  have hk := hk1.trans hk2
  have far : ∀ (k t : Nat) (cs : Array Value) (fr : Nat × Nat), w.heap[k]? = some (Obj.cells cs t fr) → t ≠ 22 → t ≠ 28 → (w1.setCell ⟨bG, b.toNat, none⟩ v1).heap[k]? = w.heap[k]? := fun k t cs fr hk ht ht2 =>
    (Below.heap_setCell w1 ⟨bG, b.toNat, none⟩ v1 k (ne_of_types ((hsame k t cs fr hk ht).trans hk) hG1 ht2)).trans (hsame k t cs fr hk ht)
  have hrb : ∀ i, i < T.n → (w1.setCell ⟨bG, b.toNat, none⟩ v1).heap[rb i]? = w.heap[rb i]? := fun i hi => by
    have e1 : w1.heap[rb i]? = w.heap[rb i]? := hg.block _ (lt_of_some (h.hr i hi)) (fun e => h.drg i b.toNat hi hbn e.symm)
    exact (Below.heap_setCell w1 ⟨bG, b.toNat, none⟩ v1 (rb i) (ne_of_types (e1.trans (h.hr i hi)) hG1 (by decide))).trans e1
  have hgen : T.gen b = T.gens.getD b.toNat [] := rfl
  have hsz : ∀ i, i < T.n → rb i < w.heap.size := fun i hi => lt_of_some (h.hr i hi)
  refine ⟨{ h with lg := ?_, ht := ?_, hR := ?_, hr := ?_, hG := ?_, hg := ?_, leaf := ?_, drg := ?_, dgg := ?_ }, hk, ⟨?_, ?_, ?_⟩⟩
  · simp [Tw.addGen, h.lg]
  · exact (far bt 108 _ _ h.ht (by decide) (by decide)).trans h.ht
  · have e1 := hsame bR 28 _ _ h.hR (by decide)
    exact (Below.heap_setCell w1 ⟨bG, b.toNat, none⟩ v1 bR h.dRG).trans (e1.trans h.hR)
  · exact fun i hi => (hrb i hi).trans (h.hr i hi)
  · have := blk_set hG1 b.toNat v1
    rw [range_set] at this
    exact this
  · intro i hi
    by_cases e : b.toNat = i
    · subst e
      have hl2 : (T.addGen b p).gens.getD b.toNat [] = T.gen b ++ [p] := by
        simp only [Tw.addGen]; rw [getD_set_same (by rw [h.lg]; exact hbn)]
      rw [hl2, if_pos rfl]
      refine ⟨inner ++ [v], ?_, fun j l hj => ?_⟩
      · rw [List.length_append, List.length_singleton]
        refine own_move hown (fun k hk' => Below.heap_setCell w1 ⟨bG, b.toNat, none⟩ v1 k ?_); obtain ⟨cs, hc⟩ := own_typed hown k hk'
        exact ne_of_types hc hG1 (by decide)
      · rcases Nat.lt_or_ge j (T.gen b).length with hj2 | hj2
        · rw [List.getElem?_append_left hj2] at hj; obtain ⟨u, hu, hf⟩ := hin j l hj
          exact ⟨u, by rw [List.getElem?_append_left (by omega)]; exact hu, hf.keep hk⟩
        · rw [List.getElem?_append_right hj2] at hj
          have hj3 : j = (T.gen b).length := by
            have := (List.getElem?_eq_some_iff.1 hj).1; simp at this; omega
          subst hj3; simp at hj; subst hj
          exact ⟨v, by rw [← hl]; simp, hv.keep hk⟩
    · have hl2 : (T.addGen b p).gens.getD i [] = T.gens.getD i [] := by
        simp only [Tw.addGen]; rw [getD_set_ne e]
      rw [hl2, if_neg (fun z => e z.symm)]; obtain ⟨inn, ho, hl3⟩ := h.hg i hi
      refine ⟨inn, own_move ho (fun k hk' => ?_), fun j l hj => ?_⟩
      · have hlt := own_lt ho k hk'
        have e1 : w1.heap[k]? = w.heap[k]? := hg.block k hlt (fun e2 => by
          rcases h.dgg i b.toNat hi hbn (fun z => e z.symm) with h5 | h5
          · rw [hk'] at h5; cases h5
          · exact h5 (hk'.trans e2))
        obtain ⟨cs, hc⟩ := own_typed ho k hk'
        exact (Below.heap_setCell w1 ⟨bG, b.toNat, none⟩ v1 k (ne_of_types (e1.trans hc) hG1 (by decide))).trans e1
      · obtain ⟨u, hu, hf⟩ := hl3 j l hj
        exact ⟨u, hu, hf.keep hk⟩
  · exact fun i x hi hx => (h.leaf i x hi hx).keep hk
  · intro i j hi hj
    by_cases e : j = b.toNat
    · rw [if_pos e]
      rcases hat with hat | ⟨g, hg2, hle⟩
      · rw [hat]; exact h.drg i b.toNat hi hbn
      · rw [hg2]; intro e2; injection e2 with e2
        have := hsz i hi; omega
    · rw [if_neg e]
      exact h.drg i j hi hj
  · intro i j hi hj hne
    have hlt : ∀ i, i < T.n → ∀ k, (vg i).ownBlock = some k → k < w.heap.size := fun i hi k hk => by
      obtain ⟨inn, ho, _⟩ := h.hg i hi
      exact own_lt ho k hk
    by_cases e : i = b.toNat
    · have e' : ¬ j = b.toNat := fun z => hne (e.trans z.symm)
      rw [if_pos e, if_neg e']
      rcases hat with hat | ⟨g, hg2, hle⟩
      · rw [hat, ← e]; exact h.dgg i j hi hj hne
      · refine .inr (fun e2 => ?_); rw [hg2] at e2; have := hlt j hj g e2.symm; omega
    · rw [if_neg e]
      by_cases e' : j = b.toNat
      · rw [if_pos e']
        rcases hat with hat | ⟨g, hg2, hle⟩
        · rw [hat, ← e']; exact h.dgg i j hi hj hne
        · refine .inr (fun e2 => ?_); rw [hg2] at e2; have := hlt i hi g e2; omega
      · rw [if_neg e']
        exact h.dgg i j hi hj hne
  · have := hg.size
    simpa [World.setCell] using this
  · intro k hk2 hn
    have e1 : w1.heap[k]? = w.heap[k]? := hg.block k hk2 (fun e => hn (.inr (.inr ⟨b.toNat, hbn, e.symm⟩)))
    exact (Below.heap_setCell w1 ⟨bG, b.toNat, none⟩ v1 k (fun e => hn (.inr (.inl e)))).trans e1
  · intro k hk2 ho
    rcases ho with ho | ho | ⟨i, hi, ho⟩
    · exact .inl ho
    · exact .inr (.inl ho)
    · dsimp only at ho
      by_cases e : i = b.toNat
      · rw [if_pos e] at ho
        rcases hat with hat | ⟨g, hg2, hle⟩
        · exact .inr (.inr ⟨b.toNat, hbn, hat ▸ ho⟩)
        · rw [hg2] at ho; injection ho with ho
          omega
      · rw [if_neg e] at ho
        exact .inr (.inr ⟨i, hi, ho⟩)
end
end
section
mutual
def visitL : Nat → Tw → List Int → Int → Option Tw
  | 0, _, _, _ => none
  | k + 1, T, p, b => if 0 ≤ b then (if b < (p.length : Int) then (if 0 ≤ rd p b then (if rd p b < T.n then (if b < T.n then (
      if T.rep b (rd p b) = [] then visitLoop k (T.setRep b (rd p b) p) p b 0
      else (perm_inverse.f k (T.rep b (rd p b))).bind fun i => (perm_then.f k p i).bind fun q => insertL k T q (b + 1))
      else none) else none) else none) else none) else none
def visitLoop : Nat → Tw → List Int → Int → Int → Option Tw
  | 0, _, _, _, _ => none
  | k + 1, T, p, b, j => if b < T.n then (if j < ((T.gen b).length : Int) then (perm_then.f k p (rd_L1 (T.gen b) j)).bind fun q => (visitL k T q b).bind fun T' => visitLoop k T' p b (j + 1) else some T) else none
def insertL : Nat → Tw → List Int → Int → Option Tw
  | 0, _, _, _ => none
  | k + 1, T, p, b => (stripL k T p b).bind fun e => if e = T.n then some T else (if 0 ≤ b then (if b < T.n then (if (T.gen b).length < 1000000 then insertLoop k (T.addGen b p) (T.row b) p b 0 else none) else none) else none)
def insertLoop : Nat → Tw → List (List Int) → List Int → Int → Int → Option Tw
  | 0, _, _, _, _, _ => none
  | k + 1, T, rs, p, b, i => if i < (rs.length : Int) then (if rd_L1 rs i = [] then insertLoop k T rs p b (i + 1) else (perm_then.f k (rd_L1 rs i) p).bind fun q => (visitL k T q b).bind fun T' => insertLoop k T' rs p b (i + 1)) else some T
end
theorem own_max {w : World} {base : Nat} {e : TypeId} {n : Nat} {v : Value} {xs : List Value} (h : w.ownsRow base e 1 v n xs) : n ≤ 9223372036854775807 := by
  rcases h.2 with ⟨_, h1⟩ | ⟨g', cap', cur, he, _, _, h1, h2, _⟩
  · have := h.1
    rw [h1] at this; simp at this; omega
  · simp only [maxLen] at h2
    omega
theorem then_len0 : ∀ (k : Nat) (l1 x5 l0 : List Int) (n j : Int) (r : List Int), perm_then.l0 k l1 x5 l0 n j = some r → r.length = x5.length := by
  intro k
  induction k with
  | zero => intro l1 x5 l0 n j r h; simp [perm_then.l0] at h
  | succ k ih =>
    intro l1 x5 l0 n j r h; simp only [perm_then.l0] at h
    repeat' split at h
    all_goals first
      | (cases h; done)
      | (have := ih _ _ _ _ _ _ h; simpa using this)
      | (obtain rfl := Option.some.inj h; rfl)
theorem then_len {k : Nat} {p q r : List Int} (h : perm_then.f k p q = some r) : r.length = p.length := by
  unfold perm_then.f at h
  repeat' split at h
  all_goals first
    | (cases h; done)
    | (have := then_len0 _ _ _ _ _ _ _ h; simpa using this)
def TwPost (base : Nat) (w : World) (bt bR bG : Nat) (rb : Nat → Nat) (n : Nat) (vg : Nat → Value) (T' : Tw) (e : Ending) (w' : World) : Prop := e = .returned (.tuple #[]) ∧ ∃ vr' vg', TwAt base w' bt bR bG rb vr' vg' T' ∧ Keep base w w' ∧ TwFr n rb bG vg w vg' w' ∧ T'.n = n
abbrev VisitOk (k : Nat) : Prop := ∀ {base bt bR bG : Nat} {rb : Nat → Nat} {vr : Nat → Nat → Value} {vg : Nat → Value} {T : Tw} (A0 : Option Addr) (c0 : Nat) (p : List Int) (b : Int) (T' : Tw) (w : World),
    TwAt base w bt bR bG rb vr vg T → LeafN base w (.slice A0 p.length c0) p → visitL k T p b = some T' →
    Calls Try.prog 85 #[.pointer (some ⟨bt, 0, none⟩), .slice A0 p.length c0, .int .i64 b] w (TwPost base w bt bR bG rb T.n vg T')
abbrev InsertOk (k : Nat) : Prop := ∀ {base bt bR bG : Nat} {rb : Nat → Nat} {vr : Nat → Nat → Value} {vg : Nat → Value} {T : Tw} (A0 : Option Addr) (c0 : Nat) (p : List Int) (b : Int) (T' : Tw) (w : World),
    TwAt base w bt bR bG rb vr vg T → Leaf base w (.slice A0 p.length c0) p → insertL k T p b = some T' →
    Calls Try.prog 61 #[.pointer (some ⟨bt, 0, none⟩), .slice A0 p.length c0, .int .i64 b] w (TwPost base w bt bR bG rb T.n vg T')
theorem visit_step (k : Nat) (ihv : ∀ m, m ≤ k → VisitOk m) (ihi : ∀ m, m ≤ k → InsertOk m) : VisitOk (k + 1) := by
  intro base bt bR bG rb vr vg T A0 c0 p b T' w hT hp h
  have HT := aM hT
  have HP := aM hp
  have IHV := aM ihv
  have IHI := aM ihi
  clear hT ihv ihi
  obtain ⟨A0', c0', he0, hl0, hr0⟩ := hp.leaf.reads
  injection he0 with ea eb ec
  subst ea ec
  have HR := aM hr0
  have HC := aM hl0
  clear hr0 hl0 hp eb
  simp only [visitL] at h
  by_cases c1 : 0 ≤ b
  · rw [if_pos c1] at h
    by_cases c2 : b < (p.length : Int)
    · rw [if_pos c2] at h
      by_cases c3 : 0 ≤ rd p b
      · rw [if_pos c3] at h
        by_cases c4 : rd p b < (T.n : Int)
        · rw [if_pos c4] at h
          by_cases c5 : b < (T.n : Int)
          · rw [if_pos c5] at h; obtain ⟨ad, e1, hx4⟩ := Kd.at_int HR.out b c1 c2
            cases e1; have hx1 := HT.out.cell1; have hx2 := HT.out.cellR c1 c5; have hx3 := HT.out.cellr c1 c5 c3 c4; have hL := HT.out.leafr c1 c5 c3 c4; have hn64 := HT.out.n64; have p1 := eq_true c1; have p2 := eq_true c2; have p3 := eq_true c3; have p4 := eq_true c4; have p5 := eq_true c5
            by_cases c6 : T.rep b (rd p b) = []
            · rw [if_pos c6] at h; obtain ⟨A2, c2', hv, hl2, hf2, hnil⟩ := hL; have hv0 := hnil c6; rw [hv0] at hx3; have hq := fun W => run_neq_nil W none 0 0
              clear hv hv0 hnil hf2 hl2 c6; have H' := aM h; clear h; have hfz : w.frozen? ⟨rb b.toNat, (rd p b).toNat, none⟩ = false := blk_frozen (HT.out.hr b.toNat (by omega)) _
              go_enter Try.func85, Try.ntmps85
              go_wp2_with (fail)
              have hS := HT.out.set_rep c1 c5 c3 c4 HP.out; generalize hwq : w.setCell ⟨rb b.toNat, (rd p b).toNat, none⟩ (Value.slice (some ad) p.length c0) = wq at hS ⊢; clear hwq; have HTq := aM hS.1; have HKq := aM hS.2.1; have HFq := aM hS.2.2; clear hS hx1 hx2 hx3 hfz hq
              go_loopg [7] k (fun kq v7 w' => ∃ (T1 : Tw) (j : Int) (vr1 : Nat → Nat → Value) (vg1 : Nat → Value), v7 = .int .i64 j ∧ Aside0 (0 ≤ j) ∧ Aside0 (visitLoop kq T1 p b j = some T') ∧ Aside0 (kq ≤ k) ∧ Aside0 (TwAt base w' bt bR bG rb vr1 vg1 T1) ∧ Aside0 (Keep base w w') ∧ Aside0 (TwFr T.n rb bG vg w vg1 w') ∧ Aside0 (T1.n = T.n))
              case atStart => exact ⟨_, 0, _, _, rfl, ⟨by omega⟩, H', ⟨Nat.le_refl _⟩, HTq, HKq, HFq, ⟨rfl⟩⟩
              case round =>
                clear H' HTq HKq HFq; obtain ⟨T1, j, vr1, vg1, rfl, HJ0, HA, HK1, HT1, HKe, HFe, HN1⟩ := hrel
                cases gk with
                | zero => exact absurd HA.out (by simp [visitLoop])
                | succ k1 =>
                  have H := HA.out; clear HA; simp only [visitLoop] at H; have j0 := HJ0.out; have hy1 := HT1.out.cell2
                  by_cases d1 : b < (T1.n : Int)
                  · rw [if_pos d1] at H; have hy2 := HT1.out.cellG c1 d1; have q1 := eq_true d1; obtain ⟨inner, ho, hin⟩ := HT1.out.hg b.toNat (by omega); have hgen : T1.gens.getD b.toNat [] = T1.gen b := rfl; rw [hgen] at ho hin; clear hgen
                    by_cases d2 : j < ((T1.gen b).length : Int)
                    · rw [if_pos d2] at H; have q0 := eq_true j0; have q2 := eq_true d2; have q2b : decide (j < ((T1.gen b).length : Int)) = true := decide_eq_true d2; obtain ⟨g, cap, hvg, hgb, hgl⟩ := ho.form (show 0 < (T1.gen b).length by omega); have hmax : (T1.gen b).length ≤ 9223372036854775807 := own_max ho; obtain ⟨u, hu, hfu⟩ := hin j.toNat (rd_L1 (T1.gen b) j) (by simp [rd_L1, List.getD_eq_getElem?_getD, List.getElem?_eq_getElem (show j.toNat < (T1.gen b).length by omega)]); have hy3 := ho.cells (g := g) (by rw [hvg]; rfl) j.toNat u hu; rw [add_plain] at hy3; obtain ⟨Au, cu, rfl, hlu, hru⟩ := hfu.reads; have hvg' : vg1 b.toNat = .slice (some ⟨g, 0, none⟩) (T1.gen b).length cap := hvg; rw [hvg'] at hy2; have HRu := aM hru; have HLu := aM hlu; clear hvg hvg' hru hlu hfu hu hin ho hgb hgl; replace H := Option.bind_eq_some_iff.mp H; obtain ⟨q, hq1, H⟩ := H; replace H := Option.bind_eq_some_iff.mp H; obtain ⟨T2, hq2, H⟩ := H; have H' := aM H; have Hq1 := aM hq1; have Hq2 := aM hq2; clear H hq1 hq2
                      go_wp2_with (first
                        | (go_at_call 50; (with_reducible refine (perm_then.calls k1 _ _ p _ _ (rd_L1 (T1.gen b) j) q _ ?s1 ?s2 ?s3 ?s4 Hq1.out).mono ?_); (case s1 => exact (HP.out.keep HKe.out).leaf.C.1); (case s2 => exact HC.out); (case s3 => exact HRu.out); (case s4 => exact HLu.out); rintro e w4 ⟨v4, rfl, ho4, hb4⟩; have HLf := aM (LeafN.of_R (base := base) ho4 HT1.out.base_le (by rw [← List.length_pos_iff, then_len Hq1.out]; omega)); obtain ⟨A4, c4, rfl, hl4, hr4⟩ := Kd.R_reads ho4; have HT4 := aM (HT1.out.below hb4); have HK4 := aM (HKe.out.trans (Keep.of_below HT1.out.base_le hb4)); have HF4 := aM (HFe.out.trans (TwFr.of_below hb4)); clear ho4 hb4 hr4 hl4)
                        | (go_at_call 85; (with_reducible refine (IHV.out k1 zz120 A4 c4 q b T2 _ HT4.out HLf.out Hq2.out).mono ?_); rintro e w5 ⟨rfl, vr5, vg5, hT5, hK5, hF5, hn5⟩; have HT5 := aM hT5; have HK5 := aM (HK4.out.trans hK5); have HF5 := aM (HF4.out.trans (HN1.out ▸ hF5)); have HN5 := aM (hn5.trans HN1.out); clear hT5 hK5 hF5 hn5))
                      go_roundg k1
                      case measure => have := HK1.out; omega
                      case rel => exact ⟨T2, j + 1, vr5, vg5, rfl, ⟨by have := HJ0.out; omega⟩, H', ⟨by have := HK1.out; omega⟩, HT5, HK5, HF5, HN5⟩
                    rw [if_neg d2] at H; obtain rfl := Option.some.inj H; have q2b : decide (j < ((T1.gen b).length : Int)) = false := decide_eq_false d2; obtain ⟨Ag, cg, hvg⟩ := own_slice ho; rw [hvg] at hy2; have q0 := eq_true j0; clear hvg; go_wp2
                    go_end0
                    exact ⟨rfl, vr1, vg1, HT1.out, HKe.out, HFe.out, HN1.out⟩
                  rw [if_neg d1] at H; cases H
            rw [if_neg c6] at h; replace h := Option.bind_eq_some_iff.mp h; obtain ⟨i1, hi1, h⟩ := h; replace h := Option.bind_eq_some_iff.mp h; obtain ⟨q, hq1, h⟩ := h; obtain ⟨A2, c2', hv, hl2, hC2⟩ := hL.reads; obtain ⟨ad2, rfl⟩ := C_some hC2 c6; rw [hv] at hx3; have hq := fun W => run_neq_nil W (some ad2) (T.rep b (rd p b)).length c2'
            have Hi := aM hi1; have Hq1 := aM hq1; have H' := aM h; have HC2 := aM hC2; have HL2 := aM hl2; clear hv c6 h hi1 hq1 hC2 hl2 hL
            go_enter Try.func85, Try.ntmps85
            go_wp2_with (first
              | (go_at_call 55; (with_reducible refine (perm_inverse.calls k _ _ (T.rep b (rd p b)) i1 _ ?s1 ?s2 Hi.out).mono ?_); (case s1 => exact HC2.out); (case s2 => exact HL2.out); rintro e w3 ⟨v3, rfl, ho3, hb3⟩; obtain ⟨A3, c3', rfl, hl3, hr3⟩ := Kd.R_reads ho3; have HR3 := aM hr3; have HL3 := aM hl3; have HB3 := aM hb3; have HQ3 := aM (Kd.C_below HR.out hb3); clear ho3 hb3 hr3 hl3)
              | (go_at_call 50; (with_reducible refine (perm_then.calls k _ _ p _ _ i1 q _ ?s1 ?s2 ?s3 ?s4 Hq1.out).mono ?_); (case s1 => exact HQ3.out); (case s2 => exact HC.out); (case s3 => exact HR3.out); (case s4 => exact HL3.out); rintro e w4 ⟨v4, rfl, ho4, hb4⟩; have HLf := aM (Leaf.of_R (base := base) ho4 (by rw [← List.length_pos_iff, then_len Hq1.out]; omega)); obtain ⟨A4, c4', rfl, hl4, hr4⟩ := Kd.R_reads ho4; have HB4 := aM (below_step HB3.out hb4); have HT4 := aM (HT.out.below HB4.out); have HK4 := aM (Keep.of_below HT.out.base_le HB4.out); have HF4 := aM (TwFr.of_below (n := T.n) (rb := rb) (bG := bG) (vg := vg) HB4.out); clear ho4 hb4 hr4 hl4)
              | (go_at_call 61; (with_reducible refine (IHI.out k (Nat.le_refl _) A4 c4' q (b + 1) T' _ HT4.out HLf.out H'.out).mono ?_); rintro e w5 ⟨rfl, vr5, vg5, hT5, hK5, hF5, hn5⟩; have HT5 := aM hT5; have HK5 := aM (HK4.out.trans hK5); have HF5 := aM (HF4.out.trans hF5); have HN5 := aM hn5; clear hT5 hK5 hF5 hn5))
            go_end0
            exact ⟨rfl, vr5, vg5, HT5.out, HK5.out, HF5.out, HN5.out⟩
          rw [if_neg c5] at h; cases h
        rw [if_neg c4] at h; cases h
      rw [if_neg c3] at h; cases h
    rw [if_neg c2] at h; cases h
  rw [if_neg c1] at h; cases h
end
section
def bestL : Nat → Tw → Int → List Int → Int → Int → Option Int
  | 0, _, _, _, _, _ => none
  | k + 1, T, c, p, x, best => if x < T.n then (if T.rep c x = [] then bestL k T c p (x + 1) best else (if x < (p.length : Int) then (if 0 ≤ best then (if best < (p.length : Int) then (if rd p x < rd p best then bestL k T c p (x + 1) x else bestL k T c p (x + 1) best) else none) else none) else none)) else some best
def canonL : Nat → Tw → List Int → Int → Option (List Int)
  | 0, _, _, _ => none
  | k + 1, T, p, c => if c < T.n then (if 0 ≤ c then ((bestL k T c p 0 c).bind fun best => if 0 ≤ best then (if best < T.n then ((perm_then.f k (T.rep c best) p).bind fun q => canonL k T q (c + 1)) else none) else none) else none) else some p
def LeafOk (ok : Nat → Prop) (w : World) (v : Value) (l : List Int) : Prop := ∃ A c, v = .slice A l.length c ∧ l.length ≤ c ∧ Kd.F (Kd.int .i64) w ok A l.length l
theorem LeafOk.below {ok : Nat → Prop} {w w1 : World} {v : Value} {l : List Int} (h : LeafOk ok w v l) (hb : Below w.heap.size w w1) : LeafOk ok w1 v l := by
  obtain ⟨A, c, rfl, hl, hf⟩ := h
  exact ⟨A, c, rfl, hl, Kd.F_below hf hb⟩
theorem LeafOk.mono {ok ok' : Nat → Prop} {w : World} {v : Value} {l : List Int} (h : LeafOk ok w v l) (hk : ∀ k, ok k → ok' k) : LeafOk ok' w v l := by
  obtain ⟨A, c, rfl, hl, hf⟩ := h
  exact ⟨A, c, rfl, hl, Kd.F_mono hf hk⟩
theorem LeafOk.C {ok : Nat → Prop} {w : World} {A : Option Addr} {c : Nat} {l : List Int} (h : LeafOk ok w (.slice A l.length c) l) : (Kd.int .i64).C w A l.length l ∧ l.length ≤ c := by
  obtain ⟨A', c', e, hl, hr⟩ := h
  injection e with ea eb ec
  subst ea ec
  exact ⟨Kd.F_now hr, hl⟩
theorem LeafOk.of_R {b : Nat} {w : World} {ok : Nat → Prop} {v : Value} {l : List Int} (h : (Kd.int .i64).R 3 w b ok v l) : LeafOk (fun k => b ≤ k) w v l := by
  obtain ⟨A, c, rfl, hc, hr⟩ := Kd.R_reads h
  exact ⟨A, c, rfl, hc, Kd.F_mono (Kd.R_F (Kd.R_bound h)) (fun k hk => hk.2.1)⟩
theorem LeafN.ok {base : Nat} {w : World} {v : Value} {l : List Int} (h : LeafN base w v l) : LeafOk (fun k => base ≤ k ∧ k < w.heap.size) w v l := by
  obtain ⟨A, c, rfl, hl, hf, _⟩ := h
  exact ⟨A, c, rfl, hl, Kd.F_mono (Kd.F_bound hf) (fun k hk => ⟨hk.1.1, hk.2⟩)⟩
def CanonPost (okp : Nat → Prop) (w : World) (r : List Int) (e : Ending) (w' : World) : Prop := ∃ v, e = .returned v ∧ LeafOk (fun k => okp k ∨ w.heap.size ≤ k) w' v r ∧ Below w.heap.size w w'
theorem canon_calls {base : Nat} {bt bR bG : Nat} {rb : Nat → Nat} {vr : Nat → Nat → Value} {vg : Nat → Value} {T : Tw} (k : Nat) (A0 : Option Addr) (c0 : Nat) (p : List Int) (b : Int) (r : List Int) (w : World)
    (okp : Nat → Prop) (hT : TwAt base w bt bR bG rb vr vg T) (hp : LeafOk okp w (.slice A0 p.length c0) p) (hb0 : 0 ≤ b) (hb1 : b < T.n) (h : canonL k T p (b + 1) = some r) :
    Calls Try.prog 86 #[.pointer (some ⟨bt, 0, none⟩), .slice A0 p.length c0, .int .i64 b] w (CanonPost okp w r) := by
  have HT := aM hT
  have HP := aM (hp.mono (ok' := fun k => okp k ∨ w.heap.size ≤ k) (fun k hk => .inl hk))
  have H' := aM h
  have HB := aM (Below.refl w.heap.size w)
  have hn64 := hT.n64
  clear hT hp h
  go_enter Try.func86, Try.ntmps86
  go_wp2
  go_loopg [1, 7] k (fun kq v1 v7 w' => ∃ (q : List Int) (A1 : Option Addr) (c1 : Nat) (c : Int), v1 = .slice A1 q.length c1 ∧ v7 = .int .i64 c ∧ Aside0 (0 ≤ c) ∧ Aside0 (canonL kq T q c = some r) ∧ Aside0 (kq ≤ k) ∧ Aside0 (LeafOk (fun k => okp k ∨ w.heap.size ≤ k) w' (.slice A1 q.length c1) q) ∧ Aside0 (Below w.heap.size w w'))
  case atStart => exact ⟨p, A0, c0, b + 1, rfl, rfl, ⟨by omega⟩, H', ⟨Nat.le_refl _⟩, HP, HB⟩
  case round =>
    clear H' HB HP hb0 hb1; obtain ⟨q, A1, c1, c, rfl, rfl, HC0, HA, HK1, HP, HB⟩ := hrel; obtain ⟨wo, rfl⟩ : ∃ wo : World, wo = wr := ⟨_, rfl⟩
    cases gk with
    | zero => exact absurd HA.out (by simp [canonL])
    | succ k1 =>
      have H := HA.out; clear HA; simp only [canonL] at H; have HTr := aM (HT.out.below HB.out); have hx0 := HTr.out.cell0; have c0' := HC0.out; have HR := aM HP.out.C.1; have HC := aM HP.out.C.2
      by_cases d1 : c < (T.n : Int)
      · rw [if_pos d1, if_pos c0'] at H; have d1b : decide (c < (T.n : Int)) = true := decide_eq_true d1; have p0 := eq_true c0'; have p1 := eq_true d1; replace H := Option.bind_eq_some_iff.mp H; obtain ⟨best, hbest, H⟩ := H; have HH := aM H; have HBE := aM hbest; have hx1 := HTr.out.cell1; have hx2 := HTr.out.cellR c0' d1; have hn1 := HTr.out.n1; clear H hbest; go_wp2
        go_loopg [8, 30] k1 (fun kq v8 v30 w' => ∃ (x be : Int), v8 = .int .i64 be ∧ v30 = .int .i64 x ∧ Aside0 (0 ≤ x) ∧ Aside0 (bestL kq T c q x be = some best) ∧ Aside0 (kq ≤ k1) ∧ Aside0 (Drawn0 wo w'))
        case atStart => exact ⟨0, c, rfl, rfl, ⟨by omega⟩, HBE, ⟨Nat.le_refl _⟩, ⟨Drawn0.refl _⟩⟩
        case round =>
          clear HBE hx0 hx1 hx2; obtain ⟨x, be, rfl, rfl, HX0, HA, HK2, HD⟩ := hrel
          cases gk with
          | zero => exact absurd HA.out (by simp [bestL])
          | succ k2 =>
            have H := HA.out; clear HA; simp only [bestL] at H; have x0 := HX0.out; have HTw := aM (HTr.out.below HD.out.below); have HRw := aM (Kd.C_below HR.out HD.out.below)
            by_cases e1 : x < (T.n : Int)
            · rw [if_pos e1] at H; have e1b : decide (x < (T.n : Int)) = true := decide_eq_true e1; have q0 := eq_true x0; have q1 := eq_true e1; have hy3 := HTw.out.cellr c0' d1 x0 e1; have hL := HTw.out.leafr c0' d1 x0 e1
              by_cases e2 : T.rep c x = []
              · rw [if_pos e2] at H; obtain ⟨A2, c2', hv, hl2, hf2, hnil⟩ := hL; have hv0 := hnil e2; rw [hv0] at hy3; have hq := fun W => run_neq_nil W none 0 0
                have H' := aM H; clear hv hv0 hnil hf2 hl2 e2 H; go_wp2
                go_quiet (fail)
                go_wp2
                go_roundg k2
                case measure => omega
                case rel => exact ⟨x + 1, be, rfl, rfl, ⟨by have := HX0.out; omega⟩, H', ⟨by have := HK2.out; omega⟩, ⟨HD.out.step _⟩⟩
              · rw [if_neg e2] at H; obtain ⟨A2, c2', hv, hl2, hC2⟩ := hL.reads; obtain ⟨ad2, rfl⟩ := C_some hC2 e2; rw [hv] at hy3; have hq := fun W => run_neq_nil W (some ad2) (T.rep c x).length c2'
                clear hv hl2 hC2 e2 hL
                by_cases e3 : x < (q.length : Int)
                · rw [if_pos e3] at H
                  by_cases e4 : 0 ≤ be
                  · rw [if_pos e4] at H
                    by_cases e5 : be < (q.length : Int)
                    · rw [if_pos e5] at H; obtain ⟨ad, ea, hz1⟩ := Kd.at_int HRw.out x x0 e3
                      cases ea; obtain ⟨ad', ea, hz2⟩ := Kd.at_int HRw.out be e4 e5; injection ea with ea
                      subst ea; have q3 := eq_true e3; have q4 := eq_true e4; have q5 := eq_true e5
                      by_cases e6 : rd q x < rd q be
                      · rw [if_pos e6] at H; have e6b : decide (rd q x < rd q be) = true := decide_eq_true e6; have H' := aM H; clear H e6; go_wp2
                        go_quiet (fail)
                        go_wp2
                        go_roundg k2
                        case measure => omega
                        case rel => exact ⟨x + 1, x, rfl, rfl, ⟨by have := HX0.out; omega⟩, H', ⟨by have := HK2.out; omega⟩, ⟨HD.out.step _⟩⟩
                      · rw [if_neg e6] at H; have e6b : decide (rd q x < rd q be) = false := decide_eq_false e6; have H' := aM H; clear H e6; go_wp2
                        go_quiet (fail)
                        go_wp2
                        go_roundg k2
                        case measure => omega
                        case rel => exact ⟨x + 1, be, rfl, rfl, ⟨by have := HX0.out; omega⟩, H', ⟨by have := HK2.out; omega⟩, ⟨HD.out.step _⟩⟩
                    · rw [if_neg e5] at H; cases H
                  · rw [if_neg e4] at H; cases H
                · rw [if_neg e3] at H; cases H
            · rw [if_neg e1] at H; obtain rfl := Option.some.inj H; have e1b : decide (x < (T.n : Int)) = false := decide_eq_false e1; have H := HH.out
              by_cases f1 : 0 ≤ be
              · rw [if_pos f1] at H
                by_cases f2 : be < (T.n : Int)
                · rw [if_pos f2] at H; replace H := Option.bind_eq_some_iff.mp H; obtain ⟨q2, hq2, H⟩ := H
                  ·
                    have H' := aM H; have Hq2 := aM hq2; have hx1 := HTw.out.cell1; have hx2 := HTw.out.cellR c0' d1; have hx3 := HTw.out.cellr c0' d1 f1 f2; obtain ⟨A2, c2', hv, hl2, hC2⟩ := (HTw.out.leafr c0' d1 f1 f2).reads; rw [hv] at hx3; have HC2 := aM hC2; have HL2 := aM hl2; have q1 := eq_true f1; have q2' := eq_true f2; clear H hq2 hv hC2 hl2
                    go_wp2_with (first
                      | (go_at_call 50; (with_reducible refine (perm_then.calls k1 _ _ (T.rep c be) _ _ q q2 _ ?s1 ?s2 ?s3 ?s4 Hq2.out).mono ?_); (case s1 => exact HC2.out); (case s2 => exact HL2.out); (case s3 => exact HRw.out); (case s4 => exact HC.out); rintro e w7 ⟨v7, rfl, ho7, hb7⟩; have HLf := aM ((LeafOk.of_R ho7).mono (ok' := fun k => okp k ∨ w.heap.size ≤ k) (fun k hk => .inr (Nat.le_trans (Nat.le_trans HB.out.size HD.out.below.size) hk))); obtain ⟨A7, c7, rfl, hl7, hr7⟩ := Kd.R_reads ho7; have HB7 := aM (below_step (below_then HB.out HB.out.size HD.out.below) hb7); clear ho7 hb7 hr7 hl7))
                    go_roundg k1
                    case measure => omega
                    case rel => exact ⟨q2, A7, c7, c + 1, rfl, rfl, ⟨by have := HC0.out; omega⟩, H', ⟨by have := HK1.out; omega⟩, HLf, HB7⟩
                · rw [if_neg f2] at H; cases H
              · rw [if_neg f1] at H; cases H
      · rw [if_neg d1] at H; obtain rfl := Option.some.inj H; have d1b : decide (c < (T.n : Int)) = false := decide_eq_false d1; go_wp2; go_ret
        exact ⟨_, rfl, HP.out, HB.out⟩
end
section
def levelL : Nat → Tw → Int → Int → List Int → List (List Int) → Option (List Int × List (List Int))
  | 0, _, _, _, _, _ => none
  | k + 1, T, b, x, orb, reps => if x < T.n then (if T.rep b x = [] then levelL k T b (x + 1) orb reps else (canonL k T (T.rep b x) (b + 1)).bind fun q => levelL k T b (x + 1) (orb ++ [x]) (reps ++ [q])) else some (orb, reps)
def chainL : Nat → Tw → Int → List S74 → Option (List S74)
  | 0, _, _, _ => none
  | k + 1, T, b, lv => if b < T.n then (levelL k T b 0 [] []).bind fun z => chainL k T (b + 1) (if 1 < z.1.length then lv ++ [⟨b, z.1, z.2⟩] else lv) else some lv
def ChainPost (base : Nat) (w : World) (n : Nat) (r : List S74) (e : Ending) (w' : World) : Prop := ∃ v, e = .returned (.agg #[.int .i64 n, v]) ∧ Kd.N k74 74 w' w.heap.size (fun k => base ≤ k) v r ∧ Below w.heap.size w w'
structure ChO (base : Nat) (w W : World) (gres gout n : Nat) (vL : Value) (lv : List S74) : Prop where
  lt1 : w.heap.size ≤ gres
  lt2 : gres < gout
  bres : W.heap[gres]? = some (Obj.cells #[.int .i64 0, .slice none 0 0] 46 (0, 0))
  bout : W.heap[gout]? = some (Obj.cells #[.int .i64 n, vL] 46 (0, 0))
  hN : Kd.N k74 74 W w.heap.size (fun k => base ≤ k ∧ k ≠ gres ∧ k ≠ gout) vL lv
  hb : Below w.heap.size w W
structure ChI (base ws : Nat) (W0 W : World) (gl : Nat) (b : Int) (vO vR : Value) (orb : List Int) (reps : List (List Int)) : Prop where
  lt : W0.heap.size ≤ gl
  lw : ws ≤ gl
  bl : W.heap[gl]? = some (Obj.cells #[.int .i64 b, vO, vR] 74 (0, 0))
  hO : Kd.R (Kd.int .i64) 3 W (gl + 1) (fun _ => True) vO orb
  hR : Kd.N (Kd.slice 3 (Kd.int .i64)) 22 W (gl + 1) (fun k => (base ≤ k ∧ (k < ws ∨ gl < k)) ∧ some k ≠ vO.ownBlock) vR reps
  hb : Below W0.heap.size W0 W
theorem ChI.start {base ws : Nat} {W0 W1 : World} {gl : Nat} {b : Int} (hg : gl = W0.heap.size) (hbox : W1.heap[gl]? = some (Obj.cells #[.int .i64 0, .slice none 0 0, .slice none 0 0] 74 (0, 0))) (hb : Below W0.heap.size W0 W1) (hw : ws ≤ W0.heap.size) :
    ChI base ws W0 (((W1.setCell ⟨gl, 0, none⟩ (.int .i64 b)).setCell ⟨gl, 1, none⟩ (.slice none 0 0)).setCell ⟨gl, 2, none⟩ (.slice none 0 0)) gl b (.slice none 0 0) (.slice none 0 0) [] [] :=
  have hge : W0.heap.size ≤ gl := by omega
  ⟨hge, by omega, blk_put (blk_put (blk_put hbox 0 _ rfl) 1 _ rfl) 2 _ rfl, Kd.R_nil _ _ _ _ _, Kd.N_nil _ _ _ _ _, ((hb.setCell hge _).setCell hge _).setCell hge _⟩
theorem R_other {w w1 : World} {b t : Nat} {ok : Nat → Prop} {v : Value} {xs : List Int} {row : Option Nat} (h : Kd.R (Kd.int .i64) 3 w b ok v xs) (ht : ∀ k, row = some k → ∃ cells, w.heap[k]? = some (Obj.cells cells t (0, 0))) (hne : t ≠ 3) (hg : w.grownBy w1 row) : Kd.R (Kd.int .i64) 3 w1 b ok v xs := by
  refine Kd.R_mono (Kd.R_step (Kd.R_bound h) (fun k hk hlt => hg.block k hlt (fun e => ?_))) (fun k hk => hk.1)
  obtain ⟨_, _, _, q, hq, cells, hc⟩ := hk
  obtain ⟨cells', hc'⟩ := ht k e.symm
  have : q = 3 := by
    rcases List.mem_cons.1 hq with h1 | h1
    · exact h1
    · exact absurd h1 zz119
  subst this
  exact ne_of_types hc hc' (Ne.symm hne) rfl
theorem R_set_other {w : World} {b t g j : Nat} {ok : Nat → Prop} {v u : Value} {xs : List Int} {cells : Array Value} (h : Kd.R (Kd.int .i64) 3 w b ok v xs) (hb : w.heap[g]? = some (Obj.cells cells t (0, 0))) (hne : t ≠ 3) : Kd.R (Kd.int .i64) 3 (w.setCell ⟨g, j, none⟩ u) b ok v xs :=
  Kd.R_set h hb (fun q hq => by
    rcases List.mem_cons.1 hq with h1 | h1
    · exact fun e => hne (e.symm.trans h1)
    · exact absurd h1 zz119) j u
theorem ChI.pushO {base ws : Nat} {W0 W w1 : World} {gl : Nat} {b x : Int} {vO vR v1 : Value} {orb : List Int} {reps : List (List Int)} (h : ChI base ws W0 W gl b vO vR orb reps)
    (ho : Kd.R (Kd.int .i64) 3 w1 (gl + 1) (fun _ => True) v1 (orb ++ [x])) (hg : W.grownBy w1 vO.ownBlock) (hat : v1.ownBlock = vO.ownBlock ∨ ∃ g, v1.ownBlock = some g ∧ W.heap.size ≤ g) :
    ChI base ws W0 (w1.setCell ⟨gl, 1, none⟩ v1) gl b v1 vR (orb ++ [x]) reps := by
  have hty : ∀ k, vO.ownBlock = some k → ∃ cells, W.heap[k]? = some (Obj.cells cells 3 (0, 0)) := fun k hk => Kd.R_typed h.hO k hk
  have hbl1 : w1.heap[gl]? = some (Obj.cells #[.int .i64 b, vO, vR] 74 (0, 0)) := (hg.block gl (lt_of_some h.bl) (fun e => by
    obtain ⟨cs, hc⟩ := hty gl e.symm
    exact ne_of_types h.bl hc (by decide) rfl)).trans h.bl
  refine ⟨h.lt, h.lw, blk_put hbl1 1 _ rfl, R_set_other ho hbl1 (by decide), ?_, ?_⟩
  · exact Kd.N_far (Kd.N_after h.hR hg hat) (p := ⟨gl, 1, none⟩) (fun k hk => by
      show k ≠ gl
      have := h.lw; have h2 := hk.1.2; omega) _
  · refine Below.setCell ?_ h.lt _
    exact h.hb.trans ⟨hg.os, hg.tape, hg.output, hg.size, fun k hk => hg.block k (Nat.lt_of_lt_of_le hk h.hb.size) (fun e => by
      have := Kd.R_base h.hO k e.symm; have := h.lt; omega)⟩
theorem ChI.below {base ws : Nat} {W0 W W1 : World} {gl : Nat} {b : Int} {vO vR : Value} {orb : List Int} {reps : List (List Int)} (h : ChI base ws W0 W gl b vO vR orb reps) (hb : Below W.heap.size W W1) : ChI base ws W0 W1 gl b vO vR orb reps :=
  ⟨h.lt, h.lw, blk_below h.bl hb, Kd.R_below h.hO hb, Kd.N_below h.hR hb, below_then h.hb h.hb.size hb⟩
theorem N_slice_form {α : Type} {d : Kd α} {e base : Nat} {w : World} {ok : Nat → Prop} {v : Value} {xs : List α} (h : Kd.N d e w base ok v xs) : ∃ A c, v = .slice A xs.length c := by
  obtain ⟨_, rows, hl, hR, _⟩ := h
  obtain ⟨A, c, e, _⟩ := Kd.R_reads hR
  exact ⟨A, c, by rw [e, hl]⟩
theorem ChI.okp_ok {base ws : Nat} {W0 W : World} {gl : Nat} {b : Int} {vO vR : Value} {orb : List Int} {reps : List (List Int)} (h : ChI base ws W0 W gl b vO vR orb reps) (hb : base ≤ ws) (k : Nat)
    (hk : (base ≤ k ∧ k < ws) ∨ W.heap.size ≤ k) : ((base ≤ k ∧ (k < ws ∨ gl < k)) ∧ some k ≠ vO.ownBlock) ∧ some k ≠ vR.ownBlock := by
  have h1 := h.lw
  have h2 := lt_of_some h.bl
  have e1 : ∀ j, vO.ownBlock = some j → gl + 1 ≤ j ∧ j < W.heap.size := fun j hj => ⟨Kd.R_base h.hO j hj, Kd.R_lt h.hO j hj⟩
  have e2 : ∀ j, vR.ownBlock = some j → gl + 1 ≤ j ∧ j < W.heap.size := fun j hj => ⟨Kd.N_base h.hR j hj, Kd.N_lt h.hR j hj⟩
  refine ⟨⟨⟨by omega, by omega⟩, fun e => ?_⟩, fun e => ?_⟩
  · have := e1 k e.symm; omega
  · have := e2 k e.symm; omega
theorem ChI.pushR {base ws : Nat} {W0 W w1 : World} {gl : Nat} {b : Int} {vO vR v1 : Value} {orb : List Int} {reps : List (List Int)} {q : List Int} (h : ChI base ws W0 W gl b vO vR orb reps)
    (ho : Kd.N (Kd.slice 3 (Kd.int .i64)) 22 w1 (gl + 1) (fun k => (base ≤ k ∧ (k < ws ∨ gl < k)) ∧ some k ≠ vO.ownBlock) v1 (reps ++ [q])) (hg : W.grownBy w1 vR.ownBlock) :
    ChI base ws W0 (w1.setCell ⟨gl, 2, none⟩ v1) gl b vO v1 orb (reps ++ [q]) := by
  have hty : ∀ k, vR.ownBlock = some k → ∃ cells, W.heap[k]? = some (Obj.cells cells 22 (0, 0)) := fun k hk => Kd.N_typed h.hR k hk
  have hbl1 : w1.heap[gl]? = some (Obj.cells #[.int .i64 b, vO, vR] 74 (0, 0)) := (hg.block gl (lt_of_some h.bl) (fun e => by
    obtain ⟨cs, hc⟩ := hty gl e.symm
    exact ne_of_types h.bl hc (by decide) rfl)).trans h.bl
  refine ⟨h.lt, h.lw, blk_put hbl1 2 _ rfl, R_set_other (R_other h.hO hty (by decide) hg) hbl1 (by decide), ?_, ?_⟩
  · exact Kd.N_far ho (p := ⟨gl, 2, none⟩) (fun k hk => by
      show k ≠ gl
      have := h.lw; have h2 := hk.1.2; omega) _
  · refine Below.setCell ?_ h.lt _
    exact h.hb.trans ⟨hg.os, hg.tape, hg.output, hg.size, fun k hk => hg.block k (Nat.lt_of_lt_of_le hk h.hb.size) (fun e => by
      have := Kd.N_base h.hR k e.symm; have := h.lt; omega)⟩
theorem ChI.level {base ws : Nat} {W0 W : World} {gl : Nat} {b : Int} {vO vR : Value} {orb : List Int} {reps : List (List Int)} (hb : base ≤ ws) (h : ChI base ws W0 W gl b vO vR orb reps) :
    Kd.FK k74 W (fun k => base ≤ k ∧ (k < ws ∨ gl < k)) ⟨b, orb, reps⟩ [.int .i64 b, vO, vR] := by
  obtain ⟨A1, c1, rfl, l1, _⟩ := Kd.R_reads h.hO
  obtain ⟨A2, c2, rfl⟩ : ∃ A c, vR = .slice A reps.length c := by
    obtain ⟨_, rows, hl, hR, _⟩ := h.hR; obtain ⟨A, c, e, _⟩ := Kd.R_reads hR
    exact ⟨A, c, by rw [e, hl]⟩
  have l2 := (Kd.N_reads' h.hR).2.1
  have f1 : Kd.F (Kd.int .i64) W (fun k => base ≤ k ∧ (k < ws ∨ gl < k)) A1 orb.length orb := Kd.F_mono (Kd.R_F (Kd.R_bound h.hO)) (fun k hk => by have := hk.2.1; have := h.lw; exact ⟨by omega, by omega⟩)
  have f2 : Kd.F (Kd.slice 3 (Kd.int .i64)) W (fun k => base ≤ k ∧ (k < ws ∨ gl < k)) A2 reps.length reps := Kd.F_mono (Kd.N_F h.hR) (fun k hk => hk.1)
  exact k74_mkF W _ ⟨b, orb, reps⟩ l1 f1 l2 f2
theorem ChO.keep {base : Nat} {w W W1 : World} {gres gout n : Nat} {vL : Value} {lv : List S74} (h : ChO base w W gres gout n vL lv) (hb : Below W.heap.size W W1) : ChO base w W1 gres gout n vL lv :=
  ⟨h.lt1, h.lt2, blk_below h.bres hb, blk_below h.bout hb, Kd.N_below h.hN hb, below_then h.hb h.hb.size hb⟩
theorem ChO.push {base : Nat} {w W w1 : World} {gres gout n : Nat} {vL v1 : Value} {lv : List S74} {x : S74} (h : ChO base w W gres gout n vL lv)
    (ho : Kd.N k74 74 w1 w.heap.size (fun k => base ≤ k ∧ k ≠ gres ∧ k ≠ gout) v1 (lv ++ [x])) (hg : W.grownBy w1 vL.ownBlock) :
    ChO base w (w1.setCell ⟨gout, 1, none⟩ v1) gres gout n v1 (lv ++ [x]) := by
  have hne : ∀ k, k = gres ∨ k = gout → some k ≠ vL.ownBlock := fun k hk e => by
    have := h.hN.1 k e.symm
    rcases hk with rfl | rfl
    · exact this.2.1 rfl
    · exact this.2.2 rfl
  have e1 := (hg.block gres (lt_of_some h.bres) (hne _ (.inl rfl))).trans h.bres
  have e2 := (hg.block gout (lt_of_some h.bout) (hne _ (.inr rfl))).trans h.bout
  refine ⟨h.lt1, h.lt2, blk_far e1 (p := ⟨gout, 1, none⟩) (by have := h.lt2; show gres ≠ gout; omega) _, blk_put e2 1 _ rfl, Kd.N_far ho (p := ⟨gout, 1, none⟩) (fun k hk => hk.2.2) _, ?_⟩
  refine Below.setCell ?_ (by have := h.lt1; have := h.lt2; show w.heap.size ≤ gout; omega) _
  exact h.hb.trans ⟨hg.os, hg.tape, hg.output, hg.size, fun k hk => hg.block k (Nat.lt_of_lt_of_le hk h.hb.size) (fun e => by have := Kd.N_base h.hN k e.symm; omega)⟩
theorem chain_calls {base : Nat} {bt bR bG : Nat} {rb : Nat → Nat} {vr : Nat → Nat → Value} {vg : Nat → Value} {T : Tw} (k : Nat) (r : List S74) (w : World)
    (hT : TwAt base w bt bR bG rb vr vg T) (h : chainL k T 0 [] = some r) :
    Calls Try.prog 62 #[.pointer (some ⟨bt, 0, none⟩)] w (ChainPost base w T.n r) := by
  have HT := aM hT
  have H' := aM h
  have hn64 := hT.n64
  have hx0 := hT.cell0
  clear hT h
  go_enter Try.func62, Try.ntmps62
  go_wp2_with (first
    | ((with_reducible refine gate_dst (N := 2) rfl ?_); refine box_event ?hg (N := 2) ?hd (cs := #[.int .i64 0, .slice none 0 0]) (t := 46) ?hr ?_; (case hd => rfl); (case hg => rfl); (case hr => first | (go_simp; done) | (go_simp; rfl)); intro gres hgr w3 hbox3 hb3; have hx03 := (HT.out.below hb3).cell0; have HGR := aM hgr; have HB3 := aM hb3; have HBX3 := aM hbox3; clear hgr hb3 hbox3)
    | ((with_reducible refine gate_dst (N := 3) rfl ?_); refine box_event ?hg (N := 3) ?hd (cs := #[.int .i64 0, .slice none 0 0]) (t := 46) ?hr ?_; (case hd => rfl); (case hg => rfl); (case hr => first | (go_simp; done) | (go_simp; rfl)); intro gout hgo w4 hbox4 hb4; have hz0 : w4.cell? ⟨gout, 0, none⟩ = some (.int .i64 0) := (blk_cell hbox4 0).trans rfl; have hz1 : w4.cell? ⟨gout, 1, none⟩ = some (.slice none 0 0) := (blk_cell hbox4 1).trans rfl; have hf0 := blk_frozen hbox4 0; have hf1 := blk_frozen hbox4 1; have HT4 := aM (HT.out.below (below_step HB3.out hb4)); have hx04 := HT4.out.cell0; have hyx : ∀ (u v : Value), ((w4.setCell ⟨gout, 0, none⟩ u).setCell ⟨gout, 1, none⟩ v).cell? ⟨bt, 0, none⟩ = some (.int .i64 T.n) := (fun u v => (World.cell?_of_block (a := ⟨bt, 0, none⟩) ((Below.heap_setCell _ ⟨gout, 1, none⟩ v bt zz96).trans (Below.heap_setCell w4 ⟨gout, 0, none⟩ u bt zz96))).trans hx04); have HGO := aM hgo; have HB4 := aM hb4; have HBX4 := aM hbox4; clear hgo hb4 hbox4))
  have hO0 : ChO base w ((w4.setCell ⟨gout, 0, none⟩ (.int .i64 T.n)).setCell ⟨gout, 1, none⟩ (.slice none 0 0)) gres gout T.n (.slice none 0 0) [] := by
    have h1_ := HGR.out; have h2_ := HGO.out; have h3_ := HB3.out.size; have h4_ := lt_of_some HBX3.out
    refine ⟨by omega, by omega, ?_, blk_put (blk_put HBX4.out 0 _ rfl) 1 _ rfl, Kd.N_nil _ _ _ _ _, ?_⟩
    · exact blk_far (blk_far (blk_below HBX3.out HB4.out) (p := ⟨gout, 0, none⟩) (by show gres ≠ gout; omega) _) (p := ⟨gout, 1, none⟩) (by show gres ≠ gout; omega) _
    · exact ((below_step HB3.out HB4.out).setCell (by show w.heap.size ≤ gout; omega) _).setCell (by show w.heap.size ≤ gout; omega) _
  have HO0 := aM hO0
  clear hO0 hz0 hz1 hf0 hf1 hx04 hyx hx0 hx03 HT4 HB4 HBX4 HBX3 HB3 HGO HGR
  go_loopg [17] k (fun kq v17 w' => ∃ (b : Int) (lv : List S74) (vL : Value), v17 = .int .i64 b ∧ Aside0 (0 ≤ b) ∧ Aside0 (chainL kq T b lv = some r) ∧ Aside0 (kq ≤ k) ∧ Aside0 (ChO base w w' gres gout T.n vL lv) ∧ Aside0 ((lv.length : Int) ≤ b))
  case atStart => exact ⟨0, [], _, rfl, ⟨by omega⟩, H', ⟨Nat.le_refl _⟩, HO0, ⟨by simp⟩⟩
  case round =>
    clear H' HO0; obtain ⟨b, lv, vL, rfl, HB0, HA, HK1, HCO, HLV⟩ := hrel; obtain ⟨wo, rfl⟩ : ∃ wo : World, wo = wr := ⟨_, rfl⟩
    cases gk with
    | zero => exact absurd HA.out (by simp [chainL])
    | succ k1 =>
      have H := HA.out; clear HA; simp only [chainL] at H; have b0 := HB0.out
      by_cases d1 : b < (T.n : Int)
      · rw [if_pos d1] at H; have d1b : decide (b < (T.n : Int)) = true := decide_eq_true d1; have p0 := eq_true b0; have p1 := eq_true d1; replace H := Option.bind_eq_some_iff.mp H; obtain ⟨z, hz, H⟩ := H; have HH := aM H; have HZ := aM hz; clear H hz; have HTo := aM (HT.out.below HCO.out.hb); have hn1 := HTo.out.n1
        go_wp2_with (first
          | ((with_reducible refine gate_dst (N := 5) rfl ?_); refine box_event ?hg (N := 5) ?hd (cs := #[.int .i64 0, .slice none 0 0, .slice none 0 0]) (t := 74) ?hr ?_; (case hd => rfl); (case hg => rfl); (case hr => first | (go_simp; done) | (go_simp; rfl)); intro gl hgl w5 hbox5 hb5; have HI := aM (ChI.start (base := base) (ws := w.heap.size) (b := b) hgl hbox5 hb5 HCO.out.hb.size); have hz0 : w5.cell? ⟨gl, 0, none⟩ = some (.int .i64 0) := (blk_cell hbox5 0).trans rfl; have hz1 : w5.cell? ⟨gl, 1, none⟩ = some (.slice none 0 0) := (blk_cell hbox5 1).trans rfl; have hz2 : w5.cell? ⟨gl, 2, none⟩ = some (.slice none 0 0) := (blk_cell hbox5 2).trans rfl; have hf0 := blk_frozen hbox5 0; have hf1 := blk_frozen hbox5 1; have hf2 := blk_frozen hbox5 2; have HT5 := aM (HTo.out.below HI.out.hb); have hy1 := HT5.out.cell1; have hy2 := HT5.out.cellR b0 d1; clear hgl hbox5 hb5))
        clear hz0 hz1 hz2 hf0 hf1 hf2 hy1 hy2 HT5; generalize ((w5.setCell ⟨gl, 0, none⟩ (.int .i64 b)).setCell ⟨gl, 1, none⟩ (.slice none 0 0)).setCell ⟨gl, 2, none⟩ (.slice none 0 0) = w6 at HI ⊢
        go_loopg [30] k1 (fun kq v30 w' => ∃ (x : Int) (orb : List Int) (reps : List (List Int)) (vO vR : Value), v30 = .int .i64 x ∧ Aside0 (0 ≤ x) ∧ Aside0 (levelL kq T b x orb reps = some z) ∧ Aside0 (kq ≤ k1) ∧ Aside0 (ChI base w.heap.size wo w' gl b vO vR orb reps) ∧ Aside0 ((orb.length : Int) ≤ x ∧ (reps.length : Int) ≤ x))
        case atStart => exact ⟨0, [], [], _, _, rfl, ⟨by omega⟩, HZ, ⟨Nat.le_refl _⟩, HI, ⟨by simp⟩⟩
        case round =>
          clear HZ HI; obtain ⟨x, orb, reps, vO, vR, rfl, HX0, HA, HK2, HI, HLN⟩ := hrel
          cases gk with
          | zero => exact absurd HA.out (by simp [levelL])
          | succ k2 =>
            have H := HA.out; clear HA; simp only [levelL] at H; have x0 := HX0.out; have HTw := aM (HTo.out.below HI.out.hb)
            by_cases e1 : x < (T.n : Int)
            · rw [if_pos e1] at H; have e1b : decide (x < (T.n : Int)) = true := decide_eq_true e1; have q0 := eq_true x0; have q1 := eq_true e1; have hy3 := HTw.out.cellr b0 d1 x0 e1
              by_cases e2 : T.rep b x = []
              · rw [if_pos e2] at H; obtain ⟨A2, c2', hv, hl2, hf2, hnil⟩ := HTw.out.leaf b.toNat x.toNat (by omega) (by omega); have hv0 := hnil e2; rw [hv0] at hy3; have hq := fun W => run_neq_nil W none 0 0
                have H' := aM H; clear hv hv0 hnil hf2 hl2 e2 H; go_wp2
                go_roundg k2
                case measure => omega
                case rel => exact ⟨x + 1, orb, reps, vO, vR, rfl, ⟨by have := HX0.out; omega⟩, H', ⟨by have := HK2.out; omega⟩, HI, ⟨by have := HLN.out; omega⟩⟩
              · rw [if_neg e2] at H; have hLN : LeafOk (fun k => base ≤ k ∧ k < w.heap.size) w (vr b.toNat x.toNat) (T.rep b x) := (HT.out.leaf b.toNat x.toNat (by omega) (by omega)).ok; have hLw := hLN.below (below_then HCO.out.hb HCO.out.hb.size HI.out.hb); replace H := Option.bind_eq_some_iff.mp H; obtain ⟨q, hq1, H⟩ := H; have hLw2 := hLw; obtain ⟨A2, c2', hv, hl2, hF2⟩ := hLw2; obtain ⟨ad2, rfl⟩ := C_some (Kd.F_now hF2) e2; rw [hv] at hy3 hLN; have HLN0 := aM hLN; have hqn := fun W => run_neq_nil W (some ad2) (T.rep b x).length c2'
                have H' := aM H; have Hq1 := aM hq1; clear hv hl2 hF2 e2 H hq1 hLN hLw; have hz1 : wr.cell? ⟨gl, 1, none⟩ = some vO := (blk_cell HI.out.bl 1).trans rfl; have hzl := lt_of_some HI.out.bl
                go_wp2_with (first
                  | ((with_reducible refine gate_builtin (b := .append) (xs := #[.tmp 38, .tmp 40]) rfl ?_); at_builtin; refine Kd.R_append (Kd.int .i64) (w0 := wr) (gl + 1) rfl (.tmp 38) (.tmp 40) 22 3 (.int .i64 0) 8 rfl Try.underlying22 info3 rfl (by decide) (by omega) vO orb x [.int .i64 x] (fun _ => True) (fun _ => False) rfl rfl ?hp (fun _ h => h.elim) (fun _ _ => trivial) HI.out.hO (Below.refl _ _) hzl ?hl ?_; (case hp => exact rfl); (case hl => have h_ := HLN.out; omega); intro v1 w7 ho7 hb7 hg7 hat7; obtain ⟨A7, c7, rfl⟩ := Kd.R_slice ho7; rw [show (orb ++ [x]).length = orb.length + 1 by simp] at ho7 hat7; have HI7 := aM (HI.out.pushO ho7 hg7 hat7); have hw1 := (hb7.cell (p := ⟨gl, 1, none⟩) (Nat.lt_succ_self gl)).trans hz1; have hwf := (hb7.frozen (p := ⟨gl, 1, none⟩) (Nat.lt_succ_self gl)).trans (blk_frozen HI.out.bl 1); clear ho7 hb7 hg7 hat7))
                generalize w7.setCell ⟨gl, 1, none⟩ (.slice A7 (orb.length + 1) c7) = w8 at HI7 ⊢; clear hw1 hwf hz1 hzl hqn hy3; have HT8 := aM (HT.out.below (below_drew (below_then HCO.out.hb HCO.out.hb.size HI7.out.hb))); have HL8 := aM (HLN0.out.below (below_drew (below_then HCO.out.hb HCO.out.hb.size HI7.out.hb))); have hz2 : w8.cell? ⟨gl, 2, none⟩ = some vR := (blk_cell HI7.out.bl 2).trans rfl; have hlt := lt_of_some HI7.out.bl
                have hne : vR.ownBlock ≠ some gl := fun e => by
                  have := Kd.N_base HI7.out.hR gl e; omega
                have HNE := aM hne; clear hne; have hzf := blk_frozen HI7.out.bl 2
                go_region_law (first
                  | (refine goes_ (f := 86) Try.func86 ?zhn_ rfl #[.pointer (some ⟨bt, 0, none⟩), .slice (some ad2) (T.rep b x).length c2', .int .i64 b] ?zhw_ rfl rfl ?zha_ ?_; (case zhn_ => rfl); (case zhw_ => simp [Region.wanted]); (case zha_ => (try simp only [List.map_toArray, List.map_cons, List.map_nil]); first | done | rfl); refine (canon_calls k2 _ _ (T.rep b x) b q _ (fun k => base ≤ k ∧ k < w.heap.size) HT8.out HL8.out b0 d1 Hq1.out).mono ?_; rintro e w9 ⟨v9, rfl, hl9, hb9⟩; obtain ⟨A9, c9, rfl, hl9', hF9⟩ := hl9; have HF9 := aM (And.intro hl9' (And.intro hF9 hb9)); have hk2 := (hb9.cell (p := ⟨gl, 2, none⟩) hlt).trans hz2; have hkf := (hb9.frozen (p := ⟨gl, 2, none⟩) hlt).trans hzf; have hkz : ∀ o : Obj, (w9.alloc o).cell? ⟨gl, 2, none⟩ = some vR := (fun o => (((Below.refl w9.heap.size w9).alloc (Nat.le_refl _) o).cell (p := ⟨gl, 2, none⟩) (Nat.lt_of_lt_of_le hlt hb9.size)).trans hk2); have hkzf : ∀ o : Obj, (w9.alloc o).frozen? ⟨gl, 2, none⟩ = false := (fun o => (((Below.refl w9.heap.size w9).alloc (Nat.le_refl _) o).frozen (p := ⟨gl, 2, none⟩) (Nat.lt_of_lt_of_le hlt hb9.size)).trans hkf); clear hl9' hF9 hb9; refine ⟨_, rfl, ?_⟩)
                  | (refine Kd.N_append_step (Kd.slice 3 (Kd.int .i64)) (w0 := w9) (gl + 1) ?hw_ (.tmp 44) (.tmp 49) 28 22 (.slice none 0 0) 24 rfl Try.underlying28 info22 rfl ?hs_ ?hby_ vR reps q [.slice A9 q.length c9] (fun k => (base ≤ k ∧ (k < w.heap.size ∨ gl < k)) ∧ some k ≠ (Value.slice A7 (orb.length + 1) c7).ownBlock) (fun k => (base ≤ k ∧ k < w.heap.size) ∨ w8.drew.heap.size ≤ k) rfl rfl ?hp_ ?hokp_ ?hfr_ ?hO_ (Below.refl _ _) ?hba_ ?hl_ ?_; (case hw_ => simp [Region.wanted]); (case hs_ => decide); (case hby_ => omega); (case hp_ => exact Kd.FK_slice_mk HF9.out.1 HF9.out.2.1); (case hokp_ => exact fun k hk => HI7.out.okp_ok HT.out.base_le k hk); (case hfr_ => exact fun k hk => (HI7.out.okp_ok HT.out.base_le k (.inr (Nat.le_trans HF9.out.2.2.size hk))).1); (case hO_ => exact Kd.N_below (Kd.N_drew HI7.out.hR) HF9.out.2.2); (case hba_ => exact Nat.le_trans hlt HF9.out.2.2.size); (case hl_ => have h_ := HLN.out; omega); intro v10 w10 ho10 hb10 hg10 hat10; obtain ⟨A10, c10, rfl⟩ := N_slice_form ho10; rw [show (reps ++ [q]).length = reps.length + 1 by simp] at ho10 hat10; have HIZ := aM ((HI7.out.below (below_step (below_drew (Below.refl _ _)) HF9.out.2.2)).pushR ho10 hg10); have hm1 := (hg10.cell_far ⟨gl, 2, none⟩ (Nat.lt_of_lt_of_le hlt HF9.out.2.2.size) (Ne.symm HNE.out)).trans hk2; have hmf := (hg10.frozen_far ⟨gl, 2, none⟩ (Nat.lt_of_lt_of_le hlt HF9.out.2.2.size) (Ne.symm HNE.out)).trans hkf; clear ho10 hb10 hg10 hat10))
                all_goals
                  clear hk2 hkf hkz hkzf hm1 hmf hz2 hzf hlt HNE HF9 HT8 HL8; go_wp2
                  go_roundg k2
                  case measure => omega
                  case rel => exact ⟨x + 1, orb ++ [x], reps ++ [q], _, _, rfl, ⟨by have := HX0.out; omega⟩, H', ⟨by have := HK2.out; omega⟩, HIZ, ⟨by have h_ := HLN.out; rw [List.length_append, List.length_append, List.length_singleton, List.length_singleton]; omega⟩⟩
            · rw [if_neg e1] at H; obtain rfl := Option.some.inj H; have e1b : decide (x < (T.n : Int)) = false := decide_eq_false e1; have HH1 := HH.out
              by_cases f1 : 1 < orb.length
              · rw [if_pos f1] at HH1; have H' := aM HH1; clear HH1; have f1b : decide (1 < orb.length) = true := decide_eq_true f1; obtain ⟨A7, c7, hvO⟩ := Kd.R_slice HI.out.hO; subst hvO; have HCw := aM (HCO.out.keep HI.out.hb); have hz1 : wr.cell? ⟨gl, 1, none⟩ = some (.slice A7 orb.length c7) := (blk_cell HI.out.bl 1).trans rfl; have hz0 : wr.cell? ⟨gl, 0, none⟩ = some (.int .i64 b) := (blk_cell HI.out.bl 0).trans rfl; have hz2 : wr.cell? ⟨gl, 2, none⟩ = some vR := (blk_cell HI.out.bl 2).trans rfl; have hu1 : wr.cell? ⟨gout, 1, none⟩ = some vL := (blk_cell HCw.out.bout 1).trans rfl; have huf := blk_frozen HCw.out.bout 1; have hlo := lt_of_some HCw.out.bout; have hne : vL.ownBlock ≠ some gout := fun e => (HCw.out.hN.1 gout e).2.2 rfl
                have HNE := aM hne; clear hne
                have HLV2 := aM (show ∀ k, (base ≤ k ∧ (k < w.heap.size ∨ gl < k)) → (base ≤ k ∧ k ≠ gres ∧ k ≠ gout) ∧ some k ≠ vL.ownBlock from fun k hk => by
                  have h1 := HCO.out.lt1; have h2 := HCO.out.lt2; have h3 := lt_of_some HCO.out.bout; have h4 := HI.out.lt
                  refine ⟨⟨hk.1, by omega, by omega⟩, fun e => ?_⟩; have h5 := Kd.N_base HCO.out.hN k e.symm; have h6 := Kd.N_lt HCO.out.hN k e.symm; omega)
                go_wp2_with (first
                  | ((with_reducible refine gate_builtin (b := .append) (xs := #[.tmp 58, .tmp 60]) rfl ?_); at_builtin; refine Kd.N_append k74 (w0 := wr) w.heap.size rfl (.tmp 58) (.tmp 60) 44 74 (.agg #[(.int .i64 0), (.slice none 0 0), (.slice none 0 0)]) 56 rfl Try.underlying44 info74 rfl (by decide) (by omega) vL lv (⟨b, orb, reps⟩ : S74) [.int .i64 b, .slice A7 orb.length c7, vR] (fun k => base ≤ k ∧ k ≠ gres ∧ k ≠ gout) (fun k => base ≤ k ∧ (k < w.heap.size ∨ gl < k)) rfl rfl (HI.out.level HT.out.base_le) HLV2.out ?yF HCw.out.hN (Below.refl _ _ |>.trans ⟨rfl, rfl, rfl, Nat.le_refl _, fun _ _ => rfl⟩) HCw.out.hb.size ?yL ?_; (case yF => exact fun k hk => ⟨by have h1_ := HT.out.base_le; have h2_ := HCw.out.hb.size; omega, by have h1_ := HCw.out.lt2; omega, by omega⟩); (case yL => have h_ := HLV.out; omega); intro v10 w10 ho10 hb10 hg10 hat10; obtain ⟨A10, c10, rfl⟩ := N_slice_form ho10; rw [show (lv ++ [(⟨b, orb, reps⟩ : S74)]).length = lv.length + 1 by simp] at ho10; have HCZ := aM (HCw.out.push ho10 hg10); have hm1 := (hg10.cell_far ⟨gout, 1, none⟩ hlo (Ne.symm HNE.out)).trans hu1; have hmf := (hg10.frozen_far ⟨gout, 1, none⟩ hlo (Ne.symm HNE.out)).trans huf; clear ho10 hb10 hg10 hat10))
                clear hz1 hz0 hz2 hu1 huf hlo hm1 hmf
                go_roundg k1
                case measure => omega
                case rel => exact ⟨b + 1, _, _, rfl, ⟨by have := HB0.out; omega⟩, H', ⟨by have := HK1.out; omega⟩, HCZ, ⟨by have h_ := HLV.out; rw [List.length_append, List.length_singleton]; omega⟩⟩
              · rw [if_neg f1] at HH1; have H' := aM HH1; clear HH1; have f1b : decide (1 < orb.length) = false := decide_eq_false f1; obtain ⟨A7, c7, hvO⟩ := Kd.R_slice HI.out.hO; subst hvO; have HCw := aM (HCO.out.keep HI.out.hb); have hz1 : wr.cell? ⟨gl, 1, none⟩ = some (.slice A7 orb.length c7) := (blk_cell HI.out.bl 1).trans rfl; go_wp2
                go_roundg k1
                case measure => omega
                case rel => exact ⟨b + 1, _, _, rfl, ⟨by have := HB0.out; omega⟩, H', ⟨by have := HK1.out; omega⟩, HCw, ⟨by have h_ := HLV.out; omega⟩⟩
      · rw [if_neg d1] at H; obtain rfl := Option.some.inj H; have d1b : decide (b < (T.n : Int)) = false := decide_eq_false d1; obtain ⟨A7, c7, hvL⟩ := N_slice_form HCO.out.hN; subst hvL; have hz0 : wo.cell? ⟨gout, 0, none⟩ = some (.int .i64 T.n) := (blk_cell HCO.out.bout 0).trans rfl; have hz1 : wo.cell? ⟨gout, 1, none⟩ = some (.slice A7 lv.length c7) := (blk_cell HCO.out.bout 1).trans rfl; have hr0 : wo.cell? ⟨gres, 0, none⟩ = some (.int .i64 0) := (blk_cell HCO.out.bres 0).trans rfl; have hr1 : wo.cell? ⟨gres, 1, none⟩ = some (.slice none 0 0) := (blk_cell HCO.out.bres 1).trans rfl; have hrf0 := blk_frozen HCO.out.bres 0; have hrf1 := blk_frozen HCO.out.bres 1; go_wp2; clear hz0 hz1 hr0 hr1 hrf0 hrf1
        refine bodyPost_ret (results_cell_row rfl _ _ gres 46 #[.int .i64 T.n, .slice A7 lv.length c7] (0, 0) _ rfl (blk_put (blk_put HCO.out.bres 0 _ rfl) 1 _ rfl) Try.underlying46 rfl (by kernel_rfl)) rfl ?_
        refine ⟨_, rfl, ?_, (HCO.out.hb.setCell HCO.out.lt1 _).setCell HCO.out.lt1 _⟩
        exact Kd.N_mono (Kd.N_far (Kd.N_far HCO.out.hN (p := ⟨gres, 0, none⟩) (fun k hk => hk.2.1) _) (p := ⟨gres, 1, none⟩) (fun k hk => hk.2.1) _) (fun k hk => hk.1)
end
end Go.Proofs.Ytjjlhbgpdncpcaa.P
