/- What the claim's theorem is built on, part 4: words, walks of the code, and what they tell. -/
import Derived.KernelRfl
import Derived.Test.YtjjlhbgpdncpcaaMo1
import Derived.Test.YtjjlhbgpdncpcaaMo3
import Derived.Test.YtjjlhbgpdncpcaaMo2
namespace Go.Proofs.Ytjjlhbgpdncpcaa.P
open Go.RowKit Go.Proofs.YtjjlhbgpdncpcaaW.PrintWords Go.Proofs.YtjjlhbgpdncpcaaW.PrintLast Go.Proofs.YtjjlhbgpdncpcaaW.PrintMore
set_option linter.unusedVariables false
set_option linter.unusedSimpArgs false
set_option maxHeartbeats 8000000
set_option maxRecDepth 100000
section
attribute [local go_sem] max2_int min2_int max_two min_two max_three min_three max_four min_four
mutual
def l30_awakeW.j0 : Nat → List Int → List Int → List Int → List (List Int) → List (List Int) → Bool → Int → List (S74) → Option (Bool)
  | 0, _, _, _, _, _, _, _, _ => none
  | k + 1, x1, x3, x5, x7, x11, x83, x340000, x340001 => if x83 = true then (some false) else ((r09_SameInts.f k x3 (([2, 1, 0, 3] : List Int))).bind fun t343 => (if t343 = true then ((r09_SameInts.f k x5 (([2, 0, 1, 3] : List Int))).bind fun t347 => (if t347 = true then ((r09_SameRows.f k x7 (([(([0, 1, 2] : List Int))] : List (List Int)))).bind fun t354 => (if t354 = true then ((r09_SameRows.f k x11 (([(([0, 1, 2] : List Int)), (([3] : List Int))] : List (List Int)))).bind fun t364 => (l30_awakeW.j1 k x1 (!t364) x340000 x340001)) else (l30_awakeW.j1 k x1 true x340000 x340001))) else (l30_awakeW.j1 k x1 true x340000 x340001))) else (l30_awakeW.j1 k x1 true x340000 x340001)))
def l30_awakeW.j1 : Nat → List Int → Bool → Int → List (S74) → Option (Bool)
  | 0, _, _, _, _ => none
  | k + 1, x1, x108, x340000, x340001 => if x108 = true then (some false) else ((perm_Size.f k x340000 x340001).bind fun bt396 => ((perm_Sift.f k x340000 x340001 (([0, 1, 3, 2] : List Int))).bind fun bt403 => ((perm_Has.f k x340000 x340001 x1).bind fun bt408 => ((r30_Same.f k x340000 x340001 4 (([(⟨0, (([0, 1, 2] : List Int)), (([(([0, 1, 2, 3] : List Int)), (([1, 0, 2, 3] : List Int)), (([2, 0, 1, 3] : List Int))] : List (List Int)))⟩ : S74), (⟨1, (([1, 2] : List Int)), (([(([0, 1, 2, 3] : List Int)), (([0, 2, 1, 3] : List Int))] : List (List Int)))⟩ : S74)] : List (S74)))).bind fun t410 => (if t410 = true then (if bt396.2 = 0 then (if bt403.2.2 = 0 then (if bt408.2 = 0 then ((r01_Cmp.f k bt396.1 (([6] : List Int))).bind fun t414 => (if t414 = 0 then ((r09_SameInts.f k bt403.1 (([0, 1, 3, 2] : List Int))).bind fun t418 => (if t418 = true then (if bt403.2.1 = 2 then (if bt408.1 = true then ((perm_CheckChain.f k x340000 x340001).bind fun t419 => (if t419 = 0 then ((perm_Check.f (([0, 0] : List Int))).bind fun t423 => (some (t423 == 18))) else (some false))) else (some false)) else (some false)) else (some false))) else (some false))) else (some false)) else (some false)) else (some false)) else (some false))))))
end
def l30_awakeW.f (k : Nat)  : Option (Bool) := (some (([1, 2, 0, 3] : List Int) : List Int)).bind fun y301 => ((some (([0, 2, 1, 3] : List Int) : List Int)).bind fun y304 => ((perm_Compose.f k (([y301, y304] : List (List Int)))).bind fun bt310 => ((perm_Inverse.f k y301).bind fun bt314 => ((perm_Cycles.f k y301).bind fun bt318 => ((perm_Order.f k y301).bind fun bt322 => ((perm_Orbits.f k 4 (([y301, y304] : List (List Int)))).bind fun bt327 => ((perm_Build.f k 4 (([y301, y304] : List (List Int)))).bind fun bt334 => (if bt310.2 = 0 then (if bt314.2 = 0 then (if bt318.2 = 0 then (if bt322.2 = 0 then (if bt327.2 = 0 then (if bt334.2.2 = 0 then (l30_awakeW.j0 k y301 bt310.1 bt314.1 bt318.1 bt327.1 (bt322.1 != 3) bt334.1 bt334.2.1) else (l30_awakeW.j0 k y301 bt310.1 bt314.1 bt318.1 bt327.1 true bt334.1 bt334.2.1)) else (l30_awakeW.j0 k y301 bt310.1 bt314.1 bt318.1 bt327.1 true bt334.1 bt334.2.1)) else (l30_awakeW.j0 k y301 bt310.1 bt314.1 bt318.1 bt327.1 true bt334.1 bt334.2.1)) else (l30_awakeW.j0 k y301 bt310.1 bt314.1 bt318.1 bt327.1 true bt334.1 bt334.2.1)) else (l30_awakeW.j0 k y301 bt310.1 bt314.1 bt318.1 bt327.1 true bt334.1 bt334.2.1)) else (l30_awakeW.j0 k y301 bt310.1 bt314.1 bt318.1 bt327.1 true bt334.1 bt334.2.1)))))))))
theorem l30_awakeW.calls (k : Nat)  (r : Bool) (w : World) (h : l30_awakeW.f k  = some r) (hr_ : r = true) :
    Calls Try.prog 12 #[] w fun e w' => e = .returned (.bool r) ∧ Below w.heap.size w w' := by
  have HR_ := aM hr_
  clear hr_
  have hu46 := Try.underlying46
  have hu74 := Try.underlying74
  have HB := aM (Below.refl w.heap.size w)
  have H : ((some (([1, 2, 0, 3] : List Int) : List Int)).bind fun y301 => ((some (([0, 2, 1, 3] : List Int) : List Int)).bind fun y304 => ((perm_Compose.f k (([y301, y304] : List (List Int)))).bind fun bt310 => ((perm_Inverse.f k y301).bind fun bt314 => ((perm_Cycles.f k y301).bind fun bt318 => ((perm_Order.f k y301).bind fun bt322 => ((perm_Orbits.f k 4 (([y301, y304] : List (List Int)))).bind fun bt327 => ((perm_Build.f k 4 (([y301, y304] : List (List Int)))).bind fun bt334 => (if bt310.2 = 0 then (if bt314.2 = 0 then (if bt318.2 = 0 then (if bt322.2 = 0 then (if bt327.2 = 0 then (if bt334.2.2 = 0 then (l30_awakeW.j0 k y301 bt310.1 bt314.1 bt318.1 bt327.1 (bt322.1 != 3) bt334.1 bt334.2.1) else (l30_awakeW.j0 k y301 bt310.1 bt314.1 bt318.1 bt327.1 true bt334.1 bt334.2.1)) else (l30_awakeW.j0 k y301 bt310.1 bt314.1 bt318.1 bt327.1 true bt334.1 bt334.2.1)) else (l30_awakeW.j0 k y301 bt310.1 bt314.1 bt318.1 bt327.1 true bt334.1 bt334.2.1)) else (l30_awakeW.j0 k y301 bt310.1 bt314.1 bt318.1 bt327.1 true bt334.1 bt334.2.1)) else (l30_awakeW.j0 k y301 bt310.1 bt314.1 bt318.1 bt327.1 true bt334.1 bt334.2.1)) else (l30_awakeW.j0 k y301 bt310.1 bt314.1 bt318.1 bt327.1 true bt334.1 bt334.2.1)))))))))) = some r := h
  clear h
  obtain ⟨y301, hy301⟩ : ∃ y_ : List Int, y_ = (([1, 2, 0, 3] : List Int)) := ⟨_, rfl⟩
  replace H : ((some (([0, 2, 1, 3] : List Int) : List Int)).bind fun y304 => ((perm_Compose.f k (([y301, y304] : List (List Int)))).bind fun bt310 => ((perm_Inverse.f k y301).bind fun bt314 => ((perm_Cycles.f k y301).bind fun bt318 => ((perm_Order.f k y301).bind fun bt322 => ((perm_Orbits.f k 4 (([y301, y304] : List (List Int)))).bind fun bt327 => ((perm_Build.f k 4 (([y301, y304] : List (List Int)))).bind fun bt334 => (if bt310.2 = 0 then (if bt314.2 = 0 then (if bt318.2 = 0 then (if bt322.2 = 0 then (if bt327.2 = 0 then (if bt334.2.2 = 0 then (l30_awakeW.j0 k y301 bt310.1 bt314.1 bt318.1 bt327.1 (bt322.1 != 3) bt334.1 bt334.2.1) else (l30_awakeW.j0 k y301 bt310.1 bt314.1 bt318.1 bt327.1 true bt334.1 bt334.2.1)) else (l30_awakeW.j0 k y301 bt310.1 bt314.1 bt318.1 bt327.1 true bt334.1 bt334.2.1)) else (l30_awakeW.j0 k y301 bt310.1 bt314.1 bt318.1 bt327.1 true bt334.1 bt334.2.1)) else (l30_awakeW.j0 k y301 bt310.1 bt314.1 bt318.1 bt327.1 true bt334.1 bt334.2.1)) else (l30_awakeW.j0 k y301 bt310.1 bt314.1 bt318.1 bt327.1 true bt334.1 bt334.2.1)) else (l30_awakeW.j0 k y301 bt310.1 bt314.1 bt318.1 bt327.1 true bt334.1 bt334.2.1))))))))) = some r := by first | (rw [hy301]; with_reducible exact H) | (have H2_ := (Option.bind_some _ _).symm.trans H; rw [hy301]; with_reducible exact H2_) | (have H2_ := (Option.bind_some _ _).symm.trans H; with_reducible exact H2_) | with_reducible exact H | (rw [hy301]; exact H) | exact H
  have Ny301 := aM hy301
  clear hy301
  obtain ⟨y304, hy304⟩ : ∃ y_ : List Int, y_ = (([0, 2, 1, 3] : List Int)) := ⟨_, rfl⟩
  replace H : ((perm_Compose.f k (([y301, y304] : List (List Int)))).bind fun bt310 => ((perm_Inverse.f k y301).bind fun bt314 => ((perm_Cycles.f k y301).bind fun bt318 => ((perm_Order.f k y301).bind fun bt322 => ((perm_Orbits.f k 4 (([y301, y304] : List (List Int)))).bind fun bt327 => ((perm_Build.f k 4 (([y301, y304] : List (List Int)))).bind fun bt334 => (if bt310.2 = 0 then (if bt314.2 = 0 then (if bt318.2 = 0 then (if bt322.2 = 0 then (if bt327.2 = 0 then (if bt334.2.2 = 0 then (l30_awakeW.j0 k y301 bt310.1 bt314.1 bt318.1 bt327.1 (bt322.1 != 3) bt334.1 bt334.2.1) else (l30_awakeW.j0 k y301 bt310.1 bt314.1 bt318.1 bt327.1 true bt334.1 bt334.2.1)) else (l30_awakeW.j0 k y301 bt310.1 bt314.1 bt318.1 bt327.1 true bt334.1 bt334.2.1)) else (l30_awakeW.j0 k y301 bt310.1 bt314.1 bt318.1 bt327.1 true bt334.1 bt334.2.1)) else (l30_awakeW.j0 k y301 bt310.1 bt314.1 bt318.1 bt327.1 true bt334.1 bt334.2.1)) else (l30_awakeW.j0 k y301 bt310.1 bt314.1 bt318.1 bt327.1 true bt334.1 bt334.2.1)) else (l30_awakeW.j0 k y301 bt310.1 bt314.1 bt318.1 bt327.1 true bt334.1 bt334.2.1)))))))) = some r := by first | (rw [hy304]; with_reducible exact H) | (have H2_ := (Option.bind_some _ _).symm.trans H; rw [hy304]; with_reducible exact H2_) | (have H2_ := (Option.bind_some _ _).symm.trans H; with_reducible exact H2_) | with_reducible exact H | (rw [hy304]; exact H) | exact H
  have Ny304 := aM hy304
  clear hy304
  obtain ⟨y307, hy307⟩ : ∃ y_ : List (List Int), y_ = (([y301, y304] : List (List Int))) := ⟨_, rfl⟩
  replace H : ((perm_Compose.f k y307).bind fun bt310 => ((perm_Inverse.f k y301).bind fun bt314 => ((perm_Cycles.f k y301).bind fun bt318 => ((perm_Order.f k y301).bind fun bt322 => ((perm_Orbits.f k 4 (([y301, y304] : List (List Int)))).bind fun bt327 => ((perm_Build.f k 4 (([y301, y304] : List (List Int)))).bind fun bt334 => (if bt310.2 = 0 then (if bt314.2 = 0 then (if bt318.2 = 0 then (if bt322.2 = 0 then (if bt327.2 = 0 then (if bt334.2.2 = 0 then (l30_awakeW.j0 k y301 bt310.1 bt314.1 bt318.1 bt327.1 (bt322.1 != 3) bt334.1 bt334.2.1) else (l30_awakeW.j0 k y301 bt310.1 bt314.1 bt318.1 bt327.1 true bt334.1 bt334.2.1)) else (l30_awakeW.j0 k y301 bt310.1 bt314.1 bt318.1 bt327.1 true bt334.1 bt334.2.1)) else (l30_awakeW.j0 k y301 bt310.1 bt314.1 bt318.1 bt327.1 true bt334.1 bt334.2.1)) else (l30_awakeW.j0 k y301 bt310.1 bt314.1 bt318.1 bt327.1 true bt334.1 bt334.2.1)) else (l30_awakeW.j0 k y301 bt310.1 bt314.1 bt318.1 bt327.1 true bt334.1 bt334.2.1)) else (l30_awakeW.j0 k y301 bt310.1 bt314.1 bt318.1 bt327.1 true bt334.1 bt334.2.1)))))))) = some r := by first | (rw [hy307]; with_reducible exact H) | (have H2_ := (Option.bind_some _ _).symm.trans H; rw [hy307]; with_reducible exact H2_) | (have H2_ := (Option.bind_some _ _).symm.trans H; with_reducible exact H2_) | with_reducible exact H | (rw [hy307]; exact H) | exact H
  have Ny307 := aM hy307
  clear hy307
  replace H := Option.bind_eq_some_iff.mp H
  obtain ⟨⟨t310, t311⟩, A10, H⟩ := H
  replace H : ((perm_Inverse.f k y301).bind fun bt314 => ((perm_Cycles.f k y301).bind fun bt318 => ((perm_Order.f k y301).bind fun bt322 => ((perm_Orbits.f k 4 (([y301, y304] : List (List Int)))).bind fun bt327 => ((perm_Build.f k 4 (([y301, y304] : List (List Int)))).bind fun bt334 => (if t311 = 0 then (if bt314.2 = 0 then (if bt318.2 = 0 then (if bt322.2 = 0 then (if bt327.2 = 0 then (if bt334.2.2 = 0 then (l30_awakeW.j0 k y301 t310 bt314.1 bt318.1 bt327.1 (bt322.1 != 3) bt334.1 bt334.2.1) else (l30_awakeW.j0 k y301 t310 bt314.1 bt318.1 bt327.1 true bt334.1 bt334.2.1)) else (l30_awakeW.j0 k y301 t310 bt314.1 bt318.1 bt327.1 true bt334.1 bt334.2.1)) else (l30_awakeW.j0 k y301 t310 bt314.1 bt318.1 bt327.1 true bt334.1 bt334.2.1)) else (l30_awakeW.j0 k y301 t310 bt314.1 bt318.1 bt327.1 true bt334.1 bt334.2.1)) else (l30_awakeW.j0 k y301 t310 bt314.1 bt318.1 bt327.1 true bt334.1 bt334.2.1)) else (l30_awakeW.j0 k y301 t310 bt314.1 bt318.1 bt327.1 true bt334.1 bt334.2.1))))))) = some r := H
  have A1 := aM A10
  clear A10
  replace H := Option.bind_eq_some_iff.mp H
  obtain ⟨⟨t314, t315⟩, A20, H⟩ := H
  replace H : ((perm_Cycles.f k y301).bind fun bt318 => ((perm_Order.f k y301).bind fun bt322 => ((perm_Orbits.f k 4 (([y301, y304] : List (List Int)))).bind fun bt327 => ((perm_Build.f k 4 (([y301, y304] : List (List Int)))).bind fun bt334 => (if t311 = 0 then (if t315 = 0 then (if bt318.2 = 0 then (if bt322.2 = 0 then (if bt327.2 = 0 then (if bt334.2.2 = 0 then (l30_awakeW.j0 k y301 t310 t314 bt318.1 bt327.1 (bt322.1 != 3) bt334.1 bt334.2.1) else (l30_awakeW.j0 k y301 t310 t314 bt318.1 bt327.1 true bt334.1 bt334.2.1)) else (l30_awakeW.j0 k y301 t310 t314 bt318.1 bt327.1 true bt334.1 bt334.2.1)) else (l30_awakeW.j0 k y301 t310 t314 bt318.1 bt327.1 true bt334.1 bt334.2.1)) else (l30_awakeW.j0 k y301 t310 t314 bt318.1 bt327.1 true bt334.1 bt334.2.1)) else (l30_awakeW.j0 k y301 t310 t314 bt318.1 bt327.1 true bt334.1 bt334.2.1)) else (l30_awakeW.j0 k y301 t310 t314 bt318.1 bt327.1 true bt334.1 bt334.2.1)))))) = some r := H
  have A2 := aM A20
  clear A20
  replace H := Option.bind_eq_some_iff.mp H
  obtain ⟨⟨t318, t319⟩, A30, H⟩ := H
  replace H : ((perm_Order.f k y301).bind fun bt322 => ((perm_Orbits.f k 4 (([y301, y304] : List (List Int)))).bind fun bt327 => ((perm_Build.f k 4 (([y301, y304] : List (List Int)))).bind fun bt334 => (if t311 = 0 then (if t315 = 0 then (if t319 = 0 then (if bt322.2 = 0 then (if bt327.2 = 0 then (if bt334.2.2 = 0 then (l30_awakeW.j0 k y301 t310 t314 t318 bt327.1 (bt322.1 != 3) bt334.1 bt334.2.1) else (l30_awakeW.j0 k y301 t310 t314 t318 bt327.1 true bt334.1 bt334.2.1)) else (l30_awakeW.j0 k y301 t310 t314 t318 bt327.1 true bt334.1 bt334.2.1)) else (l30_awakeW.j0 k y301 t310 t314 t318 bt327.1 true bt334.1 bt334.2.1)) else (l30_awakeW.j0 k y301 t310 t314 t318 bt327.1 true bt334.1 bt334.2.1)) else (l30_awakeW.j0 k y301 t310 t314 t318 bt327.1 true bt334.1 bt334.2.1)) else (l30_awakeW.j0 k y301 t310 t314 t318 bt327.1 true bt334.1 bt334.2.1))))) = some r := H
  have A3 := aM A30
  clear A30
  replace H := Option.bind_eq_some_iff.mp H
  obtain ⟨⟨t322, t323⟩, A40, H⟩ := H
  replace H : ((perm_Orbits.f k 4 (([y301, y304] : List (List Int)))).bind fun bt327 => ((perm_Build.f k 4 (([y301, y304] : List (List Int)))).bind fun bt334 => (if t311 = 0 then (if t315 = 0 then (if t319 = 0 then (if t323 = 0 then (if bt327.2 = 0 then (if bt334.2.2 = 0 then (l30_awakeW.j0 k y301 t310 t314 t318 bt327.1 (t322 != 3) bt334.1 bt334.2.1) else (l30_awakeW.j0 k y301 t310 t314 t318 bt327.1 true bt334.1 bt334.2.1)) else (l30_awakeW.j0 k y301 t310 t314 t318 bt327.1 true bt334.1 bt334.2.1)) else (l30_awakeW.j0 k y301 t310 t314 t318 bt327.1 true bt334.1 bt334.2.1)) else (l30_awakeW.j0 k y301 t310 t314 t318 bt327.1 true bt334.1 bt334.2.1)) else (l30_awakeW.j0 k y301 t310 t314 t318 bt327.1 true bt334.1 bt334.2.1)) else (l30_awakeW.j0 k y301 t310 t314 t318 bt327.1 true bt334.1 bt334.2.1)))) = some r := H
  have A4 := aM A40
  clear A40
  obtain ⟨y324, hy324⟩ : ∃ y_ : List (List Int), y_ = (([y301, y304] : List (List Int))) := ⟨_, rfl⟩
  replace H : ((perm_Orbits.f k 4 y324).bind fun bt327 => ((perm_Build.f k 4 (([y301, y304] : List (List Int)))).bind fun bt334 => (if t311 = 0 then (if t315 = 0 then (if t319 = 0 then (if t323 = 0 then (if bt327.2 = 0 then (if bt334.2.2 = 0 then (l30_awakeW.j0 k y301 t310 t314 t318 bt327.1 (t322 != 3) bt334.1 bt334.2.1) else (l30_awakeW.j0 k y301 t310 t314 t318 bt327.1 true bt334.1 bt334.2.1)) else (l30_awakeW.j0 k y301 t310 t314 t318 bt327.1 true bt334.1 bt334.2.1)) else (l30_awakeW.j0 k y301 t310 t314 t318 bt327.1 true bt334.1 bt334.2.1)) else (l30_awakeW.j0 k y301 t310 t314 t318 bt327.1 true bt334.1 bt334.2.1)) else (l30_awakeW.j0 k y301 t310 t314 t318 bt327.1 true bt334.1 bt334.2.1)) else (l30_awakeW.j0 k y301 t310 t314 t318 bt327.1 true bt334.1 bt334.2.1)))) = some r := by first | (rw [hy324]; with_reducible exact H) | (have H2_ := (Option.bind_some _ _).symm.trans H; rw [hy324]; with_reducible exact H2_) | (have H2_ := (Option.bind_some _ _).symm.trans H; with_reducible exact H2_) | with_reducible exact H | (rw [hy324]; exact H) | exact H
  have Ny324 := aM hy324
  clear hy324
  replace H := Option.bind_eq_some_iff.mp H
  obtain ⟨⟨t327, t328⟩, A50, H⟩ := H
  replace H : ((perm_Build.f k 4 (([y301, y304] : List (List Int)))).bind fun bt334 => (if t311 = 0 then (if t315 = 0 then (if t319 = 0 then (if t323 = 0 then (if t328 = 0 then (if bt334.2.2 = 0 then (l30_awakeW.j0 k y301 t310 t314 t318 t327 (t322 != 3) bt334.1 bt334.2.1) else (l30_awakeW.j0 k y301 t310 t314 t318 t327 true bt334.1 bt334.2.1)) else (l30_awakeW.j0 k y301 t310 t314 t318 t327 true bt334.1 bt334.2.1)) else (l30_awakeW.j0 k y301 t310 t314 t318 t327 true bt334.1 bt334.2.1)) else (l30_awakeW.j0 k y301 t310 t314 t318 t327 true bt334.1 bt334.2.1)) else (l30_awakeW.j0 k y301 t310 t314 t318 t327 true bt334.1 bt334.2.1)) else (l30_awakeW.j0 k y301 t310 t314 t318 t327 true bt334.1 bt334.2.1))) = some r := H
  have A5 := aM A50
  clear A50
  obtain ⟨y331, hy331⟩ : ∃ y_ : List (List Int), y_ = (([y301, y304] : List (List Int))) := ⟨_, rfl⟩
  replace H : ((perm_Build.f k 4 y331).bind fun bt334 => (if t311 = 0 then (if t315 = 0 then (if t319 = 0 then (if t323 = 0 then (if t328 = 0 then (if bt334.2.2 = 0 then (l30_awakeW.j0 k y301 t310 t314 t318 t327 (t322 != 3) bt334.1 bt334.2.1) else (l30_awakeW.j0 k y301 t310 t314 t318 t327 true bt334.1 bt334.2.1)) else (l30_awakeW.j0 k y301 t310 t314 t318 t327 true bt334.1 bt334.2.1)) else (l30_awakeW.j0 k y301 t310 t314 t318 t327 true bt334.1 bt334.2.1)) else (l30_awakeW.j0 k y301 t310 t314 t318 t327 true bt334.1 bt334.2.1)) else (l30_awakeW.j0 k y301 t310 t314 t318 t327 true bt334.1 bt334.2.1)) else (l30_awakeW.j0 k y301 t310 t314 t318 t327 true bt334.1 bt334.2.1))) = some r := by first | (rw [hy331]; with_reducible exact H) | (have H2_ := (Option.bind_some _ _).symm.trans H; rw [hy331]; with_reducible exact H2_) | (have H2_ := (Option.bind_some _ _).symm.trans H; with_reducible exact H2_) | with_reducible exact H | (rw [hy331]; exact H) | exact H
  have Ny331 := aM hy331
  clear hy331
  replace H := Option.bind_eq_some_iff.mp H
  obtain ⟨⟨t334, t335, t338⟩, A60, H⟩ := H
  replace H : (if t311 = 0 then (if t315 = 0 then (if t319 = 0 then (if t323 = 0 then (if t328 = 0 then (if t338 = 0 then (l30_awakeW.j0 k y301 t310 t314 t318 t327 (t322 != 3) t334 t335) else (l30_awakeW.j0 k y301 t310 t314 t318 t327 true t334 t335)) else (l30_awakeW.j0 k y301 t310 t314 t318 t327 true t334 t335)) else (l30_awakeW.j0 k y301 t310 t314 t318 t327 true t334 t335)) else (l30_awakeW.j0 k y301 t310 t314 t318 t327 true t334 t335)) else (l30_awakeW.j0 k y301 t310 t314 t318 t327 true t334 t335)) else (l30_awakeW.j0 k y301 t310 t314 t318 t327 true t334 t335)) = some r := H
  have A6 := aM A60
  clear A60
  have HC7 := aM H
  clear H
  go_enter Try.func12, Try.ntmps12
  go_upto_region 8 with (first | ((with_reducible refine gate_dst (N := 20) rfl ?_); (try (refine gate_guard (by rfl) ?_; dsimp only)); refine Kd.R_lit (Kd.int .i64) _ 3 ?hg (N := 20) ?hd (xs := ([1, 2, 0, 3] : List Int)) (inner := [.int .i64 1, .int .i64 2, .int .i64 0, .int .i64 3]) (ok := fun _ => True) (okp := fun _ => True) ?hr ?hp (fun _ hk => hk) trivial (Below.refl _ _) (Nat.le_refl _) (by simp) ?_; (case hd => rfl); (case hg => rfl); (case hr => first | (go_simp; done) | (go_simp; rfl)); (case hp => exact (Reps.one (show Kd.M (Kd.int .i64) _ _ _ 1 [.int .i64 1] from rfl) (Reps.one (show Kd.M (Kd.int .i64) _ _ _ 2 [.int .i64 2] from rfl) (Reps.one (show Kd.M (Kd.int .i64) _ _ _ 0 [.int .i64 0] from rfl) (Reps.one (show Kd.M (Kd.int .i64) _ _ _ 3 [.int .i64 3] from rfl) (Reps.none _ _)))))); intro v302 w8 ho9 hb hg_ hnew_; clear hg_ hnew_; (first | rw [← Ny301.out] at ho9 | (simp only [Int.reduceToNat] at ho9; rw [← Ny301.out] at ho9)); have HO303 := aM (Kd.V_lower (Kd.V_mono (ok' := fun k_ => True) (Kd.R_V (Kd.R_bound ho9)) (fun k_ hk_ => trivial)) (below_size zz53)); replace HB := aM (below_step zz53 hb); clear hb ho9) | ((with_reducible refine gate_dst (N := 21) rfl ?_); (try (refine gate_guard (by rfl) ?_; dsimp only)); refine Kd.R_lit (Kd.int .i64) _ 3 ?hg (N := 21) ?hd (xs := ([0, 2, 1, 3] : List Int)) (inner := [.int .i64 0, .int .i64 2, .int .i64 1, .int .i64 3]) (ok := fun _ => True) (okp := fun _ => True) ?hr ?hp (fun _ hk => hk) trivial (Below.refl _ _) (Nat.le_refl _) (by simp) ?_; (case hd => rfl); (case hg => rfl); (case hr => first | (go_simp; done) | (go_simp; rfl)); (case hp => exact (Reps.one (show Kd.M (Kd.int .i64) _ _ _ 0 [.int .i64 0] from rfl) (Reps.one (show Kd.M (Kd.int .i64) _ _ _ 2 [.int .i64 2] from rfl) (Reps.one (show Kd.M (Kd.int .i64) _ _ _ 1 [.int .i64 1] from rfl) (Reps.one (show Kd.M (Kd.int .i64) _ _ _ 3 [.int .i64 3] from rfl) (Reps.none _ _)))))); intro v305 w10 ho11 hb hg_ hnew_; clear hg_ hnew_; (first | rw [← Ny304.out] at ho11 | (simp only [Int.reduceToNat] at ho11; rw [← Ny304.out] at ho11)); replace HO303 := aM (Kd.V_below (zV HO303) hb); have HO306 := aM (Kd.V_lower (Kd.V_mono (ok' := fun k_ => True) (Kd.R_V (Kd.R_bound ho11)) (fun k_ hk_ => trivial)) (below_size zz53)); replace HB := aM (below_step zz53 hb); clear hb ho11; obtain ⟨Ao12, co12, eo12⟩ := Kd.V_slice HO303.out; subst eo12; obtain ⟨Ao13, co13, eo13⟩ := Kd.V_slice HO306.out; subst eo13) | ((with_reducible refine gate_dst (N := 25) rfl ?_); (try (refine gate_guard (by rfl) ?_; dsimp only)); refine Kd.N_lit (Kd.slice 3 (Kd.int .i64)) _ 22 ?hg (N' := 25) ?hd (xs := ([y301, y304] : List (List Int))) (inner := [.slice Ao12 y301.length co12, .slice Ao13 y304.length co13]) (ok := (fun _ => True)) (okp := (fun _ => True)) ?hr ?hp (fun _ hk => hk) ((show ∀ k_, w10.heap.size ≤ k_ → (fun _ => True) k_ from fun k_ hk => trivial) _ (Nat.le_refl _)) (Below.refl _ _) (Nat.le_refl _) (by simp) ?_; (case hd => rfl); (case hg => rfl); (case hr => first | (go_simp; done) | (go_simp; rfl)); (case hp => exact (Reps.one (show Kd.FK (Kd.slice 3 (Kd.int .i64)) _ _ y301 [.slice Ao12 y301.length co12] from (Kd.FK_slice_mk (Kd.V_reads' (Kd.V_mono (ok' := (fun _ => True)) (HO303.out) (fun k_ hk => trivial))).2.1 (Kd.V_F (Kd.V_mono (ok' := (fun _ => True)) (HO303.out) (fun k_ hk => trivial))))) (Reps.one (show Kd.FK (Kd.slice 3 (Kd.int .i64)) _ _ y304 [.slice Ao13 y304.length co13] from (Kd.FK_slice_mk (Kd.V_reads' (Kd.V_mono (ok' := (fun _ => True)) (HO306.out) (fun k_ hk => trivial))).2.1 (Kd.V_F (Kd.V_mono (ok' := (fun _ => True)) (HO306.out) (fun k_ hk => trivial))))) (Reps.none _ _)))); intro v308 w14 ho15 hb hg_ hnew_; clear hg_ hnew_; (first | rw [← Ny307.out] at ho15 | (simp only [Int.reduceToNat] at ho15; rw [← Ny307.out] at ho15)); replace HO303 := aM (Kd.V_elder' (zV HO303) (Kd.N_base ho15) hb); replace HO306 := aM (Kd.V_elder' (zV HO306) (Kd.N_base ho15) hb); have HO309 := aM (Kd.N_lower ho15 (below_size zz53)); replace HB := aM (below_step zz53 hb); clear hb ho15; obtain ⟨Ao16, co16, eo16⟩ := Kd.N_slice HO309.out; subst eo16) | ((with_reducible refine gate_callee (f := 13) rfl ?_); refine goesL_ (some 26) rfl rfl Try.func13 (by kernel_rfl) rfl #[.slice Ao16 y307.length co16] rfl zz51 ?_; (with_reducible refine (perm_Compose.calls k _ _ y307 t310 t311 _ ?side1 ?side2 A1.out).mono ?_); (case side1 => repeat (first | exact (Kd.N_reads' HO309.out).2.2 | (with_reducible refine Kd.C_alloc ?_ _) | (with_reducible refine Kd.C_drewN ?_ _) | (with_reducible refine Kd.C_drew ?_))); (case side2 => exact (Kd.N_reads' HO309.out).2.1); rintro e w17 ⟨v312, rfl, ho0, hb⟩; refine ⟨_, rfl, ?_⟩; replace HO303 := aM (Kd.V_elder' (zV HO303) (Kd.R_base ho0) hb); replace HO306 := aM (Kd.V_elder' (zV HO306) (Kd.R_base ho0) hb); replace HO309 := aM (Kd.N_elder' (zN HO309) (Kd.R_base ho0) hb); have HO313 := aM (Kd.R_lower ho0 (below_size zz53)); replace HB := aM (below_step zz53 hb); (try clear hb); (try clear hb2); (try clear hk); (try clear hi); (try clear ho0)) | ((with_reducible refine gate_callee (f := 18) rfl ?_); refine goesL_ (some 31) rfl rfl Try.func18 (by kernel_rfl) rfl #[.slice Ao12 y301.length co12] rfl zz51 ?_; (with_reducible refine (perm_Inverse.calls k _ _ y301 t314 t315 _ ?side1 ?side2 A2.out).mono ?_); (case side1 => repeat (first | exact (Kd.V_reads' HO303.out).2.2 | (with_reducible refine Kd.C_alloc ?_ _) | (with_reducible refine Kd.C_drewN ?_ _) | (with_reducible refine Kd.C_drew ?_))); (case side2 => exact (Kd.V_reads' HO303.out).2.1); rintro e w18 ⟨v316, rfl, ho0, hb⟩; refine ⟨_, rfl, ?_⟩; replace HO303 := aM (Kd.V_elder' (zV HO303) (Kd.R_base ho0) hb); replace HO306 := aM (Kd.V_elder' (zV HO306) (Kd.R_base ho0) hb); replace HO309 := aM (Kd.N_elder' (zN HO309) (Kd.R_base ho0) hb); have HO317 := aM (Kd.R_lower (Kd.R_new' ho0 (Kd.R_lt (zR HO313))) (below_size zz53)); replace HO313 := aM (Kd.R_elder' (zR HO313) (Kd.R_base ho0) hb); replace HB := aM (below_step zz53 hb); (try clear hb); (try clear hb2); (try clear hk); (try clear hi); (try clear ho0)) | ((with_reducible refine gate_callee (f := 20) rfl ?_); refine goesL_ (some 36) rfl rfl Try.func20 (by kernel_rfl) rfl #[.slice Ao12 y301.length co12] rfl zz51 ?_; (with_reducible refine (perm_Cycles.calls k _ _ y301 t318 t319 _ ?side1 ?side2 A3.out).mono ?_); (case side1 => repeat (first | exact (Kd.V_reads' HO303.out).2.2 | (with_reducible refine Kd.C_alloc ?_ _) | (with_reducible refine Kd.C_drewN ?_ _) | (with_reducible refine Kd.C_drew ?_))); (case side2 => exact (Kd.V_reads' HO303.out).2.1); rintro e w19 ⟨v320, rfl, ho0, hb⟩; refine ⟨_, rfl, ?_⟩; replace HO303 := aM (Kd.V_elder' (zV HO303) zz62 hb); replace HO306 := aM (Kd.V_elder' (zV HO306) zz62 hb); have HO321 := aM (Kd.N_lower (Kd.N_mono (ok' := fun k_ => some k_ ≠ (.slice Ao16 y307.length co16 : Value).ownBlock ∧ some k_ ≠ (v312 : Value).ownBlock ∧ some k_ ≠ (v316 : Value).ownBlock) (Kd.S_N (Kd.S_bound ho0)) (fun k_ hk_ => ⟨(Kd.fresh' (Kd.N_lt (zN HO309)) k_ hk_.2.1), (Kd.fresh' (Kd.R_lt (zR HO313)) k_ hk_.2.1), (Kd.fresh' (Kd.R_lt (zR HO317)) k_ hk_.2.1)⟩)) (below_size zz53)); replace HO309 := aM (Kd.N_elder' (zN HO309) zz62 hb); replace HO313 := aM (Kd.R_below (zR HO313) hb); replace HO317 := aM (Kd.R_below (zR HO317) hb); replace HB := aM (below_step zz53 hb); (try clear hb); (try clear hb2); (try clear hk); (try clear hi); (try clear ho0)) | ((with_reducible refine gate_callee (f := 22) rfl ?_); refine goesL_ (some 41) rfl rfl Try.func22 (by kernel_rfl) rfl #[.slice Ao12 y301.length co12] rfl zz51 ?_; (with_reducible refine (perm_Order.calls k _ _ y301 t322 t323 _ ?side1 ?side2 A4.out).mono ?_); (case side1 => repeat (first | exact (Kd.V_reads' HO303.out).2.2 | (with_reducible refine Kd.C_alloc ?_ _) | (with_reducible refine Kd.C_drewN ?_ _) | (with_reducible refine Kd.C_drew ?_))); (case side2 => exact (Kd.V_reads' HO303.out).2.1); rintro e w20 ⟨rfl, hb⟩; refine ⟨_, rfl, ?_⟩; replace HO303 := aM (Kd.V_below (zV HO303) hb); replace HO306 := aM (Kd.V_below (zV HO306) hb); replace HO309 := aM (Kd.N_below (zN HO309) hb); replace HO313 := aM (Kd.R_below (zR HO313) hb); replace HO317 := aM (Kd.R_below (zR HO317) hb); replace HO321 := aM (Kd.N_below (zN HO321) hb); replace HB := aM (below_step zz53 hb); (try clear hb); (try clear hb2); (try clear hk); (try clear hi)) | ((with_reducible refine gate_dst (N := 47) rfl ?_); (try (refine gate_guard (by rfl) ?_; dsimp only)); refine Kd.N_lit (Kd.slice 3 (Kd.int .i64)) _ 22 ?hg (N' := 47) ?hd (xs := ([y301, y304] : List (List Int))) (inner := [.slice Ao12 y301.length co12, .slice Ao13 y304.length co13]) (ok := (fun k_ => some k_ ≠ (.slice Ao16 y307.length co16 : Value).ownBlock ∧ some k_ ≠ (v312 : Value).ownBlock ∧ some k_ ≠ (v316 : Value).ownBlock ∧ some k_ ≠ (v320 : Value).ownBlock)) (okp := (fun k_ => some k_ ≠ (.slice Ao16 y307.length co16 : Value).ownBlock ∧ some k_ ≠ (v312 : Value).ownBlock ∧ some k_ ≠ (v316 : Value).ownBlock ∧ some k_ ≠ (v320 : Value).ownBlock)) ?hr ?hp (fun _ hk => hk) ((show ∀ k_, w20.heap.size ≤ k_ → (fun k_ => some k_ ≠ (.slice Ao16 y307.length co16 : Value).ownBlock ∧ some k_ ≠ (v312 : Value).ownBlock ∧ some k_ ≠ (v316 : Value).ownBlock ∧ some k_ ≠ (v320 : Value).ownBlock) k_ from fun k_ hk => ⟨Kd.fresh' (Kd.N_lt (zN HO309)) k_ hk, Kd.fresh' (Kd.R_lt (zR HO313)) k_ hk, Kd.fresh' (Kd.R_lt (zR HO317)) k_ hk, Kd.fresh' (Kd.N_lt (zN HO321)) k_ hk⟩) _ (Nat.le_refl _)) (Below.refl _ _) (Nat.le_refl _) (by simp) ?_; (case hd => rfl); (case hg => rfl); (case hr => first | (go_simp; done) | (go_simp; rfl)); (case hp => exact (Reps.one (show Kd.FK (Kd.slice 3 (Kd.int .i64)) _ _ y301 [.slice Ao12 y301.length co12] from (Kd.FK_slice_mk (Kd.V_reads' (Kd.V_mono (ok' := (fun k_ => some k_ ≠ (.slice Ao16 y307.length co16 : Value).ownBlock ∧ some k_ ≠ (v312 : Value).ownBlock ∧ some k_ ≠ (v316 : Value).ownBlock ∧ some k_ ≠ (v320 : Value).ownBlock)) (HO303.out) (fun k_ hk => by first | exact ⟨hk.1.1.1.2, ⟨hk.1.1.2, ⟨hk.1.2, hk.2⟩⟩⟩ | ((repeat' apply And.intro) <;> (first | exact hk | exact hk.1 | exact hk.2 | exact hk.1.1 | exact hk.1.2 | exact hk.2.1 | exact hk.2.2 | exact hk.1.1.1 | exact hk.1.1.2 | exact hk.1.2.1 | exact hk.1.2.2 | exact hk.2.1.1 | exact hk.2.1.2 | exact hk.2.2.1 | exact hk.2.2.2 | exact hk.1.1.1.1 | exact hk.1.1.1.2 | exact hk.2.2.2.1 | exact hk.2.2.2.2))))).2.1 (Kd.V_F (Kd.V_mono (ok' := (fun k_ => some k_ ≠ (.slice Ao16 y307.length co16 : Value).ownBlock ∧ some k_ ≠ (v312 : Value).ownBlock ∧ some k_ ≠ (v316 : Value).ownBlock ∧ some k_ ≠ (v320 : Value).ownBlock)) (HO303.out) (fun k_ hk => by first | exact ⟨hk.1.1.1.2, ⟨hk.1.1.2, ⟨hk.1.2, hk.2⟩⟩⟩ | ((repeat' apply And.intro) <;> (first | exact hk | exact hk.1 | exact hk.2 | exact hk.1.1 | exact hk.1.2 | exact hk.2.1 | exact hk.2.2 | exact hk.1.1.1 | exact hk.1.1.2 | exact hk.1.2.1 | exact hk.1.2.2 | exact hk.2.1.1 | exact hk.2.1.2 | exact hk.2.2.1 | exact hk.2.2.2 | exact hk.1.1.1.1 | exact hk.1.1.1.2 | exact hk.2.2.2.1 | exact hk.2.2.2.2))))))) (Reps.one (show Kd.FK (Kd.slice 3 (Kd.int .i64)) _ _ y304 [.slice Ao13 y304.length co13] from (Kd.FK_slice_mk (Kd.V_reads' (Kd.V_mono (ok' := (fun k_ => some k_ ≠ (.slice Ao16 y307.length co16 : Value).ownBlock ∧ some k_ ≠ (v312 : Value).ownBlock ∧ some k_ ≠ (v316 : Value).ownBlock ∧ some k_ ≠ (v320 : Value).ownBlock)) (HO306.out) (fun k_ hk => by first | exact ⟨hk.1.1.1.2, ⟨hk.1.1.2, ⟨hk.1.2, hk.2⟩⟩⟩ | ((repeat' apply And.intro) <;> (first | exact hk | exact hk.1 | exact hk.2 | exact hk.1.1 | exact hk.1.2 | exact hk.2.1 | exact hk.2.2 | exact hk.1.1.1 | exact hk.1.1.2 | exact hk.1.2.1 | exact hk.1.2.2 | exact hk.2.1.1 | exact hk.2.1.2 | exact hk.2.2.1 | exact hk.2.2.2 | exact hk.1.1.1.1 | exact hk.1.1.1.2 | exact hk.2.2.2.1 | exact hk.2.2.2.2))))).2.1 (Kd.V_F (Kd.V_mono (ok' := (fun k_ => some k_ ≠ (.slice Ao16 y307.length co16 : Value).ownBlock ∧ some k_ ≠ (v312 : Value).ownBlock ∧ some k_ ≠ (v316 : Value).ownBlock ∧ some k_ ≠ (v320 : Value).ownBlock)) (HO306.out) (fun k_ hk => by first | exact ⟨hk.1.1.1.2, ⟨hk.1.1.2, ⟨hk.1.2, hk.2⟩⟩⟩ | ((repeat' apply And.intro) <;> (first | exact hk | exact hk.1 | exact hk.2 | exact hk.1.1 | exact hk.1.2 | exact hk.2.1 | exact hk.2.2 | exact hk.1.1.1 | exact hk.1.1.2 | exact hk.1.2.1 | exact hk.1.2.2 | exact hk.2.1.1 | exact hk.2.1.2 | exact hk.2.2.1 | exact hk.2.2.2 | exact hk.1.1.1.1 | exact hk.1.1.1.2 | exact hk.2.2.2.1 | exact hk.2.2.2.2))))))) (Reps.none _ _)))); intro v325 w21 ho22 hb hg_ hnew_; clear hg_ hnew_; (first | rw [← Ny324.out] at ho22 | (simp only [Int.reduceToNat] at ho22; rw [← Ny324.out] at ho22)); replace HO303 := aM (Kd.V_elder' (zV HO303) (Kd.N_base ho22) hb); replace HO306 := aM (Kd.V_elder' (zV HO306) (Kd.N_base ho22) hb); replace HO309 := aM (Kd.N_elder' (zN HO309) (Kd.N_base ho22) hb); replace HO313 := aM (Kd.R_below (zR HO313) hb); replace HO317 := aM (Kd.R_below (zR HO317) hb); replace HO321 := aM (Kd.N_elder' (zN HO321) (Kd.N_base ho22) hb); have HO326 := aM (Kd.N_lower ho22 (below_size zz53)); replace HB := aM (below_step zz53 hb); clear hb ho22; obtain ⟨Ao23, co23, eo23⟩ := Kd.N_slice HO326.out; subst eo23) | ((with_reducible refine gate_callee (f := 28) rfl ?_); refine goesL_ (some 48) rfl rfl Try.func28 (by kernel_rfl) rfl #[.int .i64 4, .slice Ao23 y324.length co23] rfl zz51 ?_; (with_reducible refine (perm_Orbits.calls k 4 _ _ y324 t327 t328 _ ?side1 ?side2 A5.out).mono ?_); (case side1 => repeat (first | exact (Kd.N_reads' HO326.out).2.2 | (with_reducible refine Kd.C_alloc ?_ _) | (with_reducible refine Kd.C_drewN ?_ _) | (with_reducible refine Kd.C_drew ?_))); (case side2 => exact (Kd.N_reads' HO326.out).2.1); rintro e w24 ⟨v329, rfl, ho0, hb⟩; refine ⟨_, rfl, ?_⟩; replace HO303 := aM (Kd.V_elder' (zV HO303) zz62 hb); replace HO306 := aM (Kd.V_elder' (zV HO306) zz62 hb); have HO330 := aM (Kd.N_lower (Kd.N_mono (ok' := fun k_ => some k_ ≠ (.slice Ao16 y307.length co16 : Value).ownBlock ∧ some k_ ≠ (v312 : Value).ownBlock ∧ some k_ ≠ (v316 : Value).ownBlock ∧ some k_ ≠ (v320 : Value).ownBlock ∧ some k_ ≠ (.slice Ao23 y324.length co23 : Value).ownBlock) (Kd.S_N (Kd.S_bound ho0)) (fun k_ hk_ => ⟨(Kd.fresh' (Kd.N_lt (zN HO309)) k_ hk_.2.1), (Kd.fresh' (Kd.R_lt (zR HO313)) k_ hk_.2.1), (Kd.fresh' (Kd.R_lt (zR HO317)) k_ hk_.2.1), (Kd.fresh' (Kd.N_lt (zN HO321)) k_ hk_.2.1), (Kd.fresh' (Kd.N_lt (zN HO326)) k_ hk_.2.1)⟩)) (below_size zz53)); replace HO309 := aM (Kd.N_elder' (zN HO309) zz62 hb); replace HO313 := aM (Kd.R_below (zR HO313) hb); replace HO317 := aM (Kd.R_below (zR HO317) hb); replace HO321 := aM (Kd.N_elder' (zN HO321) zz62 hb); replace HO326 := aM (Kd.N_elder' (zN HO326) zz62 hb); replace HB := aM (below_step zz53 hb); (try clear hb); (try clear hb2); (try clear hk); (try clear hi); (try clear ho0)) | ((with_reducible refine gate_dst (N := 54) rfl ?_); (try (refine gate_guard (by rfl) ?_; dsimp only)); refine Kd.N_lit (Kd.slice 3 (Kd.int .i64)) _ 22 ?hg (N' := 54) ?hd (xs := ([y301, y304] : List (List Int))) (inner := [.slice Ao12 y301.length co12, .slice Ao13 y304.length co13]) (ok := (fun k_ => some k_ ≠ (.slice Ao16 y307.length co16 : Value).ownBlock ∧ some k_ ≠ (v312 : Value).ownBlock ∧ some k_ ≠ (v316 : Value).ownBlock ∧ some k_ ≠ (v320 : Value).ownBlock ∧ some k_ ≠ (.slice Ao23 y324.length co23 : Value).ownBlock ∧ some k_ ≠ (v329 : Value).ownBlock)) (okp := (fun k_ => some k_ ≠ (.slice Ao16 y307.length co16 : Value).ownBlock ∧ some k_ ≠ (v312 : Value).ownBlock ∧ some k_ ≠ (v316 : Value).ownBlock ∧ some k_ ≠ (v320 : Value).ownBlock ∧ some k_ ≠ (.slice Ao23 y324.length co23 : Value).ownBlock ∧ some k_ ≠ (v329 : Value).ownBlock)) ?hr ?hp (fun _ hk => hk) ((show ∀ k_, w24.heap.size ≤ k_ → (fun k_ => some k_ ≠ (.slice Ao16 y307.length co16 : Value).ownBlock ∧ some k_ ≠ (v312 : Value).ownBlock ∧ some k_ ≠ (v316 : Value).ownBlock ∧ some k_ ≠ (v320 : Value).ownBlock ∧ some k_ ≠ (.slice Ao23 y324.length co23 : Value).ownBlock ∧ some k_ ≠ (v329 : Value).ownBlock) k_ from fun k_ hk => ⟨Kd.fresh' (Kd.N_lt (zN HO309)) k_ hk, Kd.fresh' (Kd.R_lt (zR HO313)) k_ hk, Kd.fresh' (Kd.R_lt (zR HO317)) k_ hk, Kd.fresh' (Kd.N_lt (zN HO321)) k_ hk, Kd.fresh' (Kd.N_lt (zN HO326)) k_ hk, Kd.fresh' (Kd.N_lt (zN HO330)) k_ hk⟩) _ (Nat.le_refl _)) (Below.refl _ _) (Nat.le_refl _) (by simp) ?_; (case hd => rfl); (case hg => rfl); (case hr => first | (go_simp; done) | (go_simp; rfl)); (case hp => exact (Reps.one (show Kd.FK (Kd.slice 3 (Kd.int .i64)) _ _ y301 [.slice Ao12 y301.length co12] from (Kd.FK_slice_mk (Kd.V_reads' (Kd.V_mono (ok' := (fun k_ => some k_ ≠ (.slice Ao16 y307.length co16 : Value).ownBlock ∧ some k_ ≠ (v312 : Value).ownBlock ∧ some k_ ≠ (v316 : Value).ownBlock ∧ some k_ ≠ (v320 : Value).ownBlock ∧ some k_ ≠ (.slice Ao23 y324.length co23 : Value).ownBlock ∧ some k_ ≠ (v329 : Value).ownBlock)) (HO303.out) (fun k_ hk => by first | exact ⟨hk.1.1.1.1.1.2, ⟨hk.1.1.1.1.2, ⟨hk.1.1.1.2, ⟨hk.1.1.2, ⟨hk.1.2, hk.2⟩⟩⟩⟩⟩ | ((repeat' apply And.intro) <;> (first | exact hk | exact hk.1 | exact hk.2 | exact hk.1.1 | exact hk.1.2 | exact hk.2.1 | exact hk.2.2 | exact hk.1.1.1 | exact hk.1.1.2 | exact hk.1.2.1 | exact hk.1.2.2 | exact hk.2.1.1 | exact hk.2.1.2 | exact hk.2.2.1 | exact hk.2.2.2 | exact hk.1.1.1.1 | exact hk.1.1.1.2 | exact hk.2.2.2.1 | exact hk.2.2.2.2))))).2.1 (Kd.V_F (Kd.V_mono (ok' := (fun k_ => some k_ ≠ (.slice Ao16 y307.length co16 : Value).ownBlock ∧ some k_ ≠ (v312 : Value).ownBlock ∧ some k_ ≠ (v316 : Value).ownBlock ∧ some k_ ≠ (v320 : Value).ownBlock ∧ some k_ ≠ (.slice Ao23 y324.length co23 : Value).ownBlock ∧ some k_ ≠ (v329 : Value).ownBlock)) (HO303.out) (fun k_ hk => by first | exact ⟨hk.1.1.1.1.1.2, ⟨hk.1.1.1.1.2, ⟨hk.1.1.1.2, ⟨hk.1.1.2, ⟨hk.1.2, hk.2⟩⟩⟩⟩⟩ | ((repeat' apply And.intro) <;> (first | exact hk | exact hk.1 | exact hk.2 | exact hk.1.1 | exact hk.1.2 | exact hk.2.1 | exact hk.2.2 | exact hk.1.1.1 | exact hk.1.1.2 | exact hk.1.2.1 | exact hk.1.2.2 | exact hk.2.1.1 | exact hk.2.1.2 | exact hk.2.2.1 | exact hk.2.2.2 | exact hk.1.1.1.1 | exact hk.1.1.1.2 | exact hk.2.2.2.1 | exact hk.2.2.2.2))))))) (Reps.one (show Kd.FK (Kd.slice 3 (Kd.int .i64)) _ _ y304 [.slice Ao13 y304.length co13] from (Kd.FK_slice_mk (Kd.V_reads' (Kd.V_mono (ok' := (fun k_ => some k_ ≠ (.slice Ao16 y307.length co16 : Value).ownBlock ∧ some k_ ≠ (v312 : Value).ownBlock ∧ some k_ ≠ (v316 : Value).ownBlock ∧ some k_ ≠ (v320 : Value).ownBlock ∧ some k_ ≠ (.slice Ao23 y324.length co23 : Value).ownBlock ∧ some k_ ≠ (v329 : Value).ownBlock)) (HO306.out) (fun k_ hk => by first | exact ⟨hk.1.1.1.1.1.2, ⟨hk.1.1.1.1.2, ⟨hk.1.1.1.2, ⟨hk.1.1.2, ⟨hk.1.2, hk.2⟩⟩⟩⟩⟩ | ((repeat' apply And.intro) <;> (first | exact hk | exact hk.1 | exact hk.2 | exact hk.1.1 | exact hk.1.2 | exact hk.2.1 | exact hk.2.2 | exact hk.1.1.1 | exact hk.1.1.2 | exact hk.1.2.1 | exact hk.1.2.2 | exact hk.2.1.1 | exact hk.2.1.2 | exact hk.2.2.1 | exact hk.2.2.2 | exact hk.1.1.1.1 | exact hk.1.1.1.2 | exact hk.2.2.2.1 | exact hk.2.2.2.2))))).2.1 (Kd.V_F (Kd.V_mono (ok' := (fun k_ => some k_ ≠ (.slice Ao16 y307.length co16 : Value).ownBlock ∧ some k_ ≠ (v312 : Value).ownBlock ∧ some k_ ≠ (v316 : Value).ownBlock ∧ some k_ ≠ (v320 : Value).ownBlock ∧ some k_ ≠ (.slice Ao23 y324.length co23 : Value).ownBlock ∧ some k_ ≠ (v329 : Value).ownBlock)) (HO306.out) (fun k_ hk => by first | exact ⟨hk.1.1.1.1.1.2, ⟨hk.1.1.1.1.2, ⟨hk.1.1.1.2, ⟨hk.1.1.2, ⟨hk.1.2, hk.2⟩⟩⟩⟩⟩ | ((repeat' apply And.intro) <;> (first | exact hk | exact hk.1 | exact hk.2 | exact hk.1.1 | exact hk.1.2 | exact hk.2.1 | exact hk.2.2 | exact hk.1.1.1 | exact hk.1.1.2 | exact hk.1.2.1 | exact hk.1.2.2 | exact hk.2.1.1 | exact hk.2.1.2 | exact hk.2.2.1 | exact hk.2.2.2 | exact hk.1.1.1.1 | exact hk.1.1.1.2 | exact hk.2.2.2.1 | exact hk.2.2.2.2))))))) (Reps.none _ _)))); intro v332 w25 ho26 hb hg_ hnew_; clear hg_ hnew_; (first | rw [← Ny331.out] at ho26 | (simp only [Int.reduceToNat] at ho26; rw [← Ny331.out] at ho26)); replace HO303 := aM (Kd.V_elder' (zV HO303) (Kd.N_base ho26) hb); replace HO306 := aM (Kd.V_elder' (zV HO306) (Kd.N_base ho26) hb); replace HO309 := aM (Kd.N_elder' (zN HO309) (Kd.N_base ho26) hb); replace HO313 := aM (Kd.R_below (zR HO313) hb); replace HO317 := aM (Kd.R_below (zR HO317) hb); replace HO321 := aM (Kd.N_elder' (zN HO321) (Kd.N_base ho26) hb); replace HO326 := aM (Kd.N_elder' (zN HO326) (Kd.N_base ho26) hb); replace HO330 := aM (Kd.N_elder' (zN HO330) (Kd.N_base ho26) hb); have HO333 := aM (Kd.N_lower ho26 (below_size zz53)); replace HB := aM (below_step zz53 hb); clear hb ho26; obtain ⟨Ao27, co27, eo27⟩ := Kd.N_slice HO333.out; subst eo27) | ((with_reducible refine gate_callee (f := 30) rfl ?_); refine goesL_ (some 55) rfl rfl Try.func30 (by kernel_rfl) rfl #[.int .i64 4, .slice Ao27 y331.length co27] rfl zz51 ?_; (with_reducible refine (perm_Build.calls k 4 _ _ y331 t334 t335 t338 _ ?side1 ?side2 A6.out).mono ?_); (case side1 => repeat (first | exact (Kd.N_reads' HO333.out).2.2 | (with_reducible refine Kd.C_alloc ?_ _) | (with_reducible refine Kd.C_drewN ?_ _) | (with_reducible refine Kd.C_drew ?_))); (case side2 => exact (Kd.N_reads' HO333.out).2.1); rintro e w28 ⟨v336, rfl, ho0, hb⟩; refine ⟨_, rfl, ?_⟩; replace HO303 := aM (Kd.V_elder' (zV HO303) zz62 hb); replace HO306 := aM (Kd.V_elder' (zV HO306) zz62 hb); have HO337 := aM (Kd.N_lower (Kd.N_mono (ok' := fun k_ => some k_ ≠ (.slice Ao16 y307.length co16 : Value).ownBlock ∧ some k_ ≠ (v312 : Value).ownBlock ∧ some k_ ≠ (v316 : Value).ownBlock ∧ some k_ ≠ (v320 : Value).ownBlock ∧ some k_ ≠ (.slice Ao23 y324.length co23 : Value).ownBlock ∧ some k_ ≠ (v329 : Value).ownBlock ∧ some k_ ≠ (.slice Ao27 y331.length co27 : Value).ownBlock) ho0 (fun k_ hk_ => ⟨(Kd.fresh' (Kd.N_lt (zN HO309)) k_ hk_), (Kd.fresh' (Kd.R_lt (zR HO313)) k_ hk_), (Kd.fresh' (Kd.R_lt (zR HO317)) k_ hk_), (Kd.fresh' (Kd.N_lt (zN HO321)) k_ hk_), (Kd.fresh' (Kd.N_lt (zN HO326)) k_ hk_), (Kd.fresh' (Kd.N_lt (zN HO330)) k_ hk_), (Kd.fresh' (Kd.N_lt (zN HO333)) k_ hk_)⟩)) (below_size zz53)); replace HO309 := aM (Kd.N_elder' (zN HO309) zz62 hb); replace HO313 := aM (Kd.R_below (zR HO313) hb); replace HO317 := aM (Kd.R_below (zR HO317) hb); replace HO321 := aM (Kd.N_elder' (zN HO321) zz62 hb); replace HO326 := aM (Kd.N_elder' (zN HO326) zz62 hb); replace HO330 := aM (Kd.N_elder' (zN HO330) zz62 hb); replace HO333 := aM (Kd.N_elder' (zN HO333) zz62 hb); replace HB := aM (below_step zz53 hb); (try clear hb); (try clear hb2); (try clear hk); (try clear hi); (try clear ho0)) | ((with_reducible refine gate_dst (N := 13) rfl ?_); (try (refine gate_guard (by rfl) ?_; dsimp only)); refine box_event ?hg (N := 13) ?hd (cs := #[.int .i64 0, .slice none 0 0]) (t := 46) ?hr ?_; (case hd => rfl); (case hg => rfl); (case hr => first | (go_simp; done) | (go_simp; rfl)); intro gb339 hg w29 hbox hb; replace HO303 := aM (Kd.V_below (Kd.V_elderB (zV HO303) gb339 (Nat.le_of_eq hg.symm)) hb); replace HO306 := aM (Kd.V_below (Kd.V_elderB (zV HO306) gb339 (Nat.le_of_eq hg.symm)) hb); replace HO309 := aM (Kd.N_below (Kd.N_elderB (zN HO309) gb339 (Nat.le_of_eq hg.symm)) hb); replace HO313 := aM (Kd.R_below (zR HO313) hb); replace HO317 := aM (Kd.R_below (zR HO317) hb); replace HO321 := aM (Kd.N_below (Kd.N_elderB (zN HO321) gb339 (Nat.le_of_eq hg.symm)) hb); replace HO326 := aM (Kd.N_below (Kd.N_elderB (zN HO326) gb339 (Nat.le_of_eq hg.symm)) hb); replace HO330 := aM (Kd.N_below (Kd.N_elderB (zN HO330) gb339 (Nat.le_of_eq hg.symm)) hb); replace HO333 := aM (Kd.N_below (Kd.N_elderB (zN HO333) gb339 (Nat.le_of_eq hg.symm)) hb); replace HO337 := aM (Kd.N_below (Kd.N_elderB (zN HO337) gb339 (Nat.le_of_eq hg.symm)) hb); have BK339 := aM (hbox); have GW339 := aM ((by rw [hg]; exact (below_size zz53) : w.heap.size ≤ gb339)); have GE339 := aM ((by rw [hg]; exact (below_size zz53) : w.heap.size ≤ gb339)); replace HB := aM (below_step zz53 hb); clear hb hbox hg; have hcz30_0 : w29.cell? ⟨gb339, 0, none⟩ = some (.int .i64 0) := (blk_cell BK339.out 0).trans rfl; have hcz30_1 : w29.cell? ⟨gb339, 1, none⟩ = some (.slice none 0 0) := (blk_cell BK339.out 1).trans rfl; have hfz30_0 := blk_frozen BK339.out 0; have hfz30_1 := blk_frozen BK339.out 1; obtain ⟨Ao31, co31, eo31⟩ := Kd.N_slice HO337.out; subst eo31))
  (try simp only [Act.put, List.setIfInBounds_toArray, List.set_cons_zero, List.set_cons_succ])
  go_cut [83] (fun v83 wc => ∃ (kq : Nat) (x83_6 : Bool), v83 = .bool x83_6 ∧ Aside0 (l30_awakeW.j0 kq y301 t310 t314 t318 t327 x83_6 t334 t335 = some r) ∧ Aside0 (kq ≤ k) ∧ Aside0 (Kd.V (Kd.int .i64) 3 wc w.heap.size (fun k_ => some k_ ≠ (v312 : Value).ownBlock ∧ some k_ ≠ (v316 : Value).ownBlock ∧ some k_ ≠ (v320 : Value).ownBlock ∧ some k_ ≠ (v329 : Value).ownBlock ∧ some k_ ≠ ((.slice Ao31 t335.length co31) : Value).ownBlock ∧ k_ ≠ gb339) (.slice Ao12 y301.length co12) y301) ∧ Aside0 (Kd.R (Kd.int .i64) 3 wc w.heap.size (fun k_ => some k_ ≠ (v316 : Value).ownBlock) v312 t310) ∧ Aside0 (Kd.R (Kd.int .i64) 3 wc w.heap.size (fun k_ => some k_ ≠ (v312 : Value).ownBlock) v316 t314) ∧ Aside0 (Kd.N (Kd.slice 3 (Kd.int .i64)) 22 wc w.heap.size (fun k_ => some k_ ≠ (v312 : Value).ownBlock ∧ some k_ ≠ (v316 : Value).ownBlock ∧ some k_ ≠ (v329 : Value).ownBlock ∧ some k_ ≠ ((.slice Ao31 t335.length co31) : Value).ownBlock ∧ k_ ≠ gb339) v320 t318) ∧ Aside0 (Kd.N (Kd.slice 3 (Kd.int .i64)) 22 wc w.heap.size (fun k_ => some k_ ≠ (v312 : Value).ownBlock ∧ some k_ ≠ (v316 : Value).ownBlock ∧ some k_ ≠ (v320 : Value).ownBlock ∧ some k_ ≠ ((.slice Ao31 t335.length co31) : Value).ownBlock ∧ k_ ≠ gb339) v329 t327) ∧ Aside0 (Kd.N k74 74 wc w.heap.size (fun k_ => some k_ ≠ (v312 : Value).ownBlock ∧ some k_ ≠ (v316 : Value).ownBlock ∧ some k_ ≠ (v320 : Value).ownBlock ∧ some k_ ≠ (v329 : Value).ownBlock ∧ k_ ≠ gb339) (.slice Ao31 t335.length co31) t335) ∧ Aside0 (wc.heap[gb339]? = some (.cells #[.int .i64 t334, (.slice Ao31 t335.length co31)] 46 (0, 0))) ∧ Aside0 (Below w.heap.size w wc))
  case first =>
    have H := HC7.out; clear HC7
    by_cases c32 : t311 = 0
    · rw [if_pos c32] at H; have c32b0 := beq_iff_eq.mpr c32; have c32b1 := bne_eq_false_iff_eq.mpr c32; clear c32
      (first | rw [c32b0] | (simp only [i64_w, i32_w]; rw [c32b0]) | skip)
      by_cases c33 : t315 = 0
      · rw [if_pos c33] at H; have c33b0 := beq_iff_eq.mpr c33; have c33b1 := bne_eq_false_iff_eq.mpr c33; clear c33
        by_cases c34 : t319 = 0
        · rw [if_pos c34] at H; have c34b0 := beq_iff_eq.mpr c34; have c34b1 := bne_eq_false_iff_eq.mpr c34; clear c34
          by_cases c35 : t323 = 0
          · rw [if_pos c35] at H; have c35b0 := beq_iff_eq.mpr c35; have c35b1 := bne_eq_false_iff_eq.mpr c35; clear c35
            by_cases c36 : t328 = 0
            · rw [if_pos c36] at H; have c36b0 := beq_iff_eq.mpr c36; have c36b1 := bne_eq_false_iff_eq.mpr c36; clear c36
              by_cases c37 : t338 = 0
              · rw [if_pos c37] at H; have c37b0 := beq_iff_eq.mpr c37; have c37b1 := bne_eq_false_iff_eq.mpr c37; clear c37; have H' := aM H; clear H; go_wp2; go_meet
                case rel => exact ⟨_, ((t322 != 3)), zz77, H', ⟨zz79⟩, ⟨by (with_reducible repeat (first | apply Kd.V_alloc | apply Kd.V_drewN | apply Kd.V_drew)); exact Kd.V_mono (Kd.V_far (p := ⟨gb339, 1, none⟩) (Kd.V_far (p := ⟨gb339, 0, none⟩) (Kd.V_mono HO303.out (fun k_ hk => (⟨hk, hk.2⟩ : _ ∧ k_ ≠ gb339))) (fun _ hk => by first | exact hk.2 | ((repeat' apply And.intro) <;> (first | exact hk | exact hk.1 | exact hk.2 | exact hk.1.1 | exact hk.1.2 | exact hk.2.1 | exact hk.2.2 | exact hk.1.1.1 | exact hk.1.1.2 | exact hk.1.2.1 | exact hk.1.2.2 | exact hk.2.1.1 | exact hk.2.1.2 | exact hk.2.2.1 | exact hk.2.2.2 | exact hk.1.1.1.1 | exact hk.1.1.1.2 | exact hk.2.2.2.1 | exact hk.2.2.2.2))) (.int .i64 t334)) (fun _ hk => by first | exact hk.2 | ((repeat' apply And.intro) <;> (first | exact hk | exact hk.1 | exact hk.2 | exact hk.1.1 | exact hk.1.2 | exact hk.2.1 | exact hk.2.2 | exact hk.1.1.1 | exact hk.1.1.2 | exact hk.1.2.1 | exact hk.1.2.2 | exact hk.2.1.1 | exact hk.2.1.2 | exact hk.2.2.1 | exact hk.2.2.2 | exact hk.1.1.1.1 | exact hk.1.1.1.2 | exact hk.2.2.2.1 | exact hk.2.2.2.2))) (.slice Ao31 t335.length co31)) (fun _ hk => by first | exact ⟨hk.1.1.1.1.1.1.1.1.2, ⟨hk.1.1.1.1.1.1.1.2, ⟨hk.1.1.1.1.1.1.2, ⟨hk.1.1.1.1.2, ⟨hk.1.1.2, hk.1.2⟩⟩⟩⟩⟩ | ((repeat' apply And.intro) <;> (first | exact hk | exact hk.1 | exact hk.2 | exact hk.1.1 | exact hk.1.2 | exact hk.2.1 | exact hk.2.2 | exact hk.1.1.1 | exact hk.1.1.2 | exact hk.1.2.1 | exact hk.1.2.2 | exact hk.2.1.1 | exact hk.2.1.2 | exact hk.2.2.1 | exact hk.2.2.2 | exact hk.1.1.1.1 | exact hk.1.1.1.2 | exact hk.2.2.2.1 | exact hk.2.2.2.2)))⟩, ⟨(by (with_reducible repeat (first | apply Kd.R_alloc | apply Kd.R_drewN | apply Kd.R_drew)); exact Kd.R_mono (Kd.R_far (p := ⟨gb339, 1, none⟩) (Kd.R_far (p := ⟨gb339, 0, none⟩) (Kd.R_types HO313.out BK339.out (by decide)) (fun _ hk => by first | exact hk.2 | ((repeat' apply And.intro) <;> (first | exact hk | exact hk.1 | exact hk.2 | exact hk.1.1 | exact hk.1.2 | exact hk.2.1 | exact hk.2.2 | exact hk.1.1.1 | exact hk.1.1.2 | exact hk.1.2.1 | exact hk.1.2.2 | exact hk.2.1.1 | exact hk.2.1.2 | exact hk.2.2.1 | exact hk.2.2.2 | exact hk.1.1.1.1 | exact hk.1.1.1.2 | exact hk.2.2.2.1 | exact hk.2.2.2.2))) (.int .i64 t334)) (fun _ hk => by first | exact hk.2 | ((repeat' apply And.intro) <;> (first | exact hk | exact hk.1 | exact hk.2 | exact hk.1.1 | exact hk.1.2 | exact hk.2.1 | exact hk.2.2 | exact hk.1.1.1 | exact hk.1.1.2 | exact hk.1.2.1 | exact hk.1.2.2 | exact hk.2.1.1 | exact hk.2.1.2 | exact hk.2.2.1 | exact hk.2.2.2 | exact hk.1.1.1.1 | exact hk.1.1.1.2 | exact hk.2.2.2.1 | exact hk.2.2.2.2))) (.slice Ao31 t335.length co31)) (fun _ hk => by first | exact hk.1.2 | ((repeat' apply And.intro) <;> (first | exact hk | exact hk.1 | exact hk.2 | exact hk.1.1 | exact hk.1.2 | exact hk.2.1 | exact hk.2.2 | exact hk.1.1.1 | exact hk.1.1.2 | exact hk.1.2.1 | exact hk.1.2.2 | exact hk.2.1.1 | exact hk.2.1.2 | exact hk.2.2.1 | exact hk.2.2.2 | exact hk.1.1.1.1 | exact hk.1.1.1.2 | exact hk.2.2.2.1 | exact hk.2.2.2.2))))⟩, ⟨(by (with_reducible repeat (first | apply Kd.R_alloc | apply Kd.R_drewN | apply Kd.R_drew)); exact Kd.R_mono (Kd.R_far (p := ⟨gb339, 1, none⟩) (Kd.R_far (p := ⟨gb339, 0, none⟩) (Kd.R_types HO317.out BK339.out (by decide)) (fun _ hk => by first | exact hk.2 | ((repeat' apply And.intro) <;> (first | exact hk | exact hk.1 | exact hk.2 | exact hk.1.1 | exact hk.1.2 | exact hk.2.1 | exact hk.2.2 | exact hk.1.1.1 | exact hk.1.1.2 | exact hk.1.2.1 | exact hk.1.2.2 | exact hk.2.1.1 | exact hk.2.1.2 | exact hk.2.2.1 | exact hk.2.2.2 | exact hk.1.1.1.1 | exact hk.1.1.1.2 | exact hk.2.2.2.1 | exact hk.2.2.2.2))) (.int .i64 t334)) (fun _ hk => by first | exact hk.2 | ((repeat' apply And.intro) <;> (first | exact hk | exact hk.1 | exact hk.2 | exact hk.1.1 | exact hk.1.2 | exact hk.2.1 | exact hk.2.2 | exact hk.1.1.1 | exact hk.1.1.2 | exact hk.1.2.1 | exact hk.1.2.2 | exact hk.2.1.1 | exact hk.2.1.2 | exact hk.2.2.1 | exact hk.2.2.2 | exact hk.1.1.1.1 | exact hk.1.1.1.2 | exact hk.2.2.2.1 | exact hk.2.2.2.2))) (.slice Ao31 t335.length co31)) (fun _ hk => by first | exact hk.1.2 | ((repeat' apply And.intro) <;> (first | exact hk | exact hk.1 | exact hk.2 | exact hk.1.1 | exact hk.1.2 | exact hk.2.1 | exact hk.2.2 | exact hk.1.1.1 | exact hk.1.1.2 | exact hk.1.2.1 | exact hk.1.2.2 | exact hk.2.1.1 | exact hk.2.1.2 | exact hk.2.2.1 | exact hk.2.2.2 | exact hk.1.1.1.1 | exact hk.1.1.1.2 | exact hk.2.2.2.1 | exact hk.2.2.2.2))))⟩, ⟨by (with_reducible repeat (first | apply Kd.N_alloc | apply Kd.N_drewN | apply Kd.N_drew)); exact Kd.N_mono (Kd.N_far (p := ⟨gb339, 1, none⟩) (Kd.N_far (p := ⟨gb339, 0, none⟩) (Kd.N_mono HO321.out (fun k_ hk => (⟨hk, hk.2⟩ : _ ∧ k_ ≠ gb339))) (fun _ hk => by first | exact hk.2 | ((repeat' apply And.intro) <;> (first | exact hk | exact hk.1 | exact hk.2 | exact hk.1.1 | exact hk.1.2 | exact hk.2.1 | exact hk.2.2 | exact hk.1.1.1 | exact hk.1.1.2 | exact hk.1.2.1 | exact hk.1.2.2 | exact hk.2.1.1 | exact hk.2.1.2 | exact hk.2.2.1 | exact hk.2.2.2 | exact hk.1.1.1.1 | exact hk.1.1.1.2 | exact hk.2.2.2.1 | exact hk.2.2.2.2))) (.int .i64 t334)) (fun _ hk => by first | exact hk.2 | ((repeat' apply And.intro) <;> (first | exact hk | exact hk.1 | exact hk.2 | exact hk.1.1 | exact hk.1.2 | exact hk.2.1 | exact hk.2.2 | exact hk.1.1.1 | exact hk.1.1.2 | exact hk.1.2.1 | exact hk.1.2.2 | exact hk.2.1.1 | exact hk.2.1.2 | exact hk.2.2.1 | exact hk.2.2.2 | exact hk.1.1.1.1 | exact hk.1.1.1.2 | exact hk.2.2.2.1 | exact hk.2.2.2.2))) (.slice Ao31 t335.length co31)) (fun _ hk => by first | exact ⟨hk.1.1.1.1.1.1.2.1, ⟨hk.1.1.1.1.1.1.2.2, ⟨hk.1.1.1.1.2, ⟨hk.1.1.2, hk.1.2⟩⟩⟩⟩ | ((repeat' apply And.intro) <;> (first | exact hk | exact hk.1 | exact hk.2 | exact hk.1.1 | exact hk.1.2 | exact hk.2.1 | exact hk.2.2 | exact hk.1.1.1 | exact hk.1.1.2 | exact hk.1.2.1 | exact hk.1.2.2 | exact hk.2.1.1 | exact hk.2.1.2 | exact hk.2.2.1 | exact hk.2.2.2 | exact hk.1.1.1.1 | exact hk.1.1.1.2 | exact hk.2.2.2.1 | exact hk.2.2.2.2)))⟩, ⟨by (with_reducible repeat (first | apply Kd.N_alloc | apply Kd.N_drewN | apply Kd.N_drew)); exact Kd.N_mono (Kd.N_far (p := ⟨gb339, 1, none⟩) (Kd.N_far (p := ⟨gb339, 0, none⟩) (Kd.N_mono HO330.out (fun k_ hk => (⟨hk, hk.2⟩ : _ ∧ k_ ≠ gb339))) (fun _ hk => by first | exact hk.2 | ((repeat' apply And.intro) <;> (first | exact hk | exact hk.1 | exact hk.2 | exact hk.1.1 | exact hk.1.2 | exact hk.2.1 | exact hk.2.2 | exact hk.1.1.1 | exact hk.1.1.2 | exact hk.1.2.1 | exact hk.1.2.2 | exact hk.2.1.1 | exact hk.2.1.2 | exact hk.2.2.1 | exact hk.2.2.2 | exact hk.1.1.1.1 | exact hk.1.1.1.2 | exact hk.2.2.2.1 | exact hk.2.2.2.2))) (.int .i64 t334)) (fun _ hk => by first | exact hk.2 | ((repeat' apply And.intro) <;> (first | exact hk | exact hk.1 | exact hk.2 | exact hk.1.1 | exact hk.1.2 | exact hk.2.1 | exact hk.2.2 | exact hk.1.1.1 | exact hk.1.1.2 | exact hk.1.2.1 | exact hk.1.2.2 | exact hk.2.1.1 | exact hk.2.1.2 | exact hk.2.2.1 | exact hk.2.2.2 | exact hk.1.1.1.1 | exact hk.1.1.1.2 | exact hk.2.2.2.1 | exact hk.2.2.2.2))) (.slice Ao31 t335.length co31)) (fun _ hk => by first | exact ⟨hk.1.1.1.1.2.1, ⟨hk.1.1.1.1.2.2.1, ⟨hk.1.1.1.1.2.2.2.1, ⟨hk.1.1.2, hk.1.2⟩⟩⟩⟩ | ((repeat' apply And.intro) <;> (first | exact hk | exact hk.1 | exact hk.2 | exact hk.1.1 | exact hk.1.2 | exact hk.2.1 | exact hk.2.2 | exact hk.1.1.1 | exact hk.1.1.2 | exact hk.1.2.1 | exact hk.1.2.2 | exact hk.2.1.1 | exact hk.2.1.2 | exact hk.2.2.1 | exact hk.2.2.2 | exact hk.1.1.1.1 | exact hk.1.1.1.2 | exact hk.2.2.2.1 | exact hk.2.2.2.2)))⟩, ⟨by (with_reducible repeat (first | apply Kd.N_alloc | apply Kd.N_drewN | apply Kd.N_drew)); exact Kd.N_mono (Kd.N_far (p := ⟨gb339, 1, none⟩) (Kd.N_far (p := ⟨gb339, 0, none⟩) (Kd.N_mono HO337.out (fun k_ hk => (⟨hk, hk.2⟩ : _ ∧ k_ ≠ gb339))) (fun _ hk => by first | exact hk.2 | ((repeat' apply And.intro) <;> (first | exact hk | exact hk.1 | exact hk.2 | exact hk.1.1 | exact hk.1.2 | exact hk.2.1 | exact hk.2.2 | exact hk.1.1.1 | exact hk.1.1.2 | exact hk.1.2.1 | exact hk.1.2.2 | exact hk.2.1.1 | exact hk.2.1.2 | exact hk.2.2.1 | exact hk.2.2.2 | exact hk.1.1.1.1 | exact hk.1.1.1.2 | exact hk.2.2.2.1 | exact hk.2.2.2.2))) (.int .i64 t334)) (fun _ hk => by first | exact hk.2 | ((repeat' apply And.intro) <;> (first | exact hk | exact hk.1 | exact hk.2 | exact hk.1.1 | exact hk.1.2 | exact hk.2.1 | exact hk.2.2 | exact hk.1.1.1 | exact hk.1.1.2 | exact hk.1.2.1 | exact hk.1.2.2 | exact hk.2.1.1 | exact hk.2.1.2 | exact hk.2.2.1 | exact hk.2.2.2 | exact hk.1.1.1.1 | exact hk.1.1.1.2 | exact hk.2.2.2.1 | exact hk.2.2.2.2))) (.slice Ao31 t335.length co31)) (fun _ hk => by first | exact ⟨hk.1.1.2.1, ⟨hk.1.1.2.2.1, ⟨hk.1.1.2.2.2.1, ⟨hk.1.1.2.2.2.2.2.1, hk.1.2⟩⟩⟩⟩ | ((repeat' apply And.intro) <;> (first | exact hk | exact hk.1 | exact hk.2 | exact hk.1.1 | exact hk.1.2 | exact hk.2.1 | exact hk.2.2 | exact hk.1.1.1 | exact hk.1.1.2 | exact hk.1.2.1 | exact hk.1.2.2 | exact hk.2.1.1 | exact hk.2.1.2 | exact hk.2.2.1 | exact hk.2.2.2 | exact hk.1.1.1.1 | exact hk.1.1.1.2 | exact hk.2.2.2.1 | exact hk.2.2.2.2)))⟩, ⟨(by (with_reducible repeat (first | refine blk_drewN ?_ _ | refine blk_drew ?_ | refine blk_alloc ?_ _)); refine blk_put (cs := #[.int .i64 t334, .slice none 0 0]) ?_ 1 _ rfl; (with_reducible repeat (first | refine blk_drewN ?_ _ | refine blk_drew ?_ | refine blk_alloc ?_ _)); refine blk_put (cs := #[.int .i64 0, .slice none 0 0]) ?_ 0 _ rfl; (with_reducible repeat (first | refine blk_drewN ?_ _ | refine blk_drew ?_ | refine blk_alloc ?_ _)); exact BK339.out)⟩, ⟨zz45⟩⟩
              rw [if_neg c37] at H; have c37b0 := beq_eq_false_iff_ne.mpr c37; have c37b1 := bne_iff_ne.mpr c37
              exact absurd (H.trans (congrArg some HR_.out)) zz81
            rw [if_neg c36] at H; have c36b0 := beq_eq_false_iff_ne.mpr c36; have c36b1 := bne_iff_ne.mpr c36
            exact absurd (H.trans (congrArg some HR_.out)) zz81
          rw [if_neg c35] at H; have c35b0 := beq_eq_false_iff_ne.mpr c35; have c35b1 := bne_iff_ne.mpr c35
          exact absurd (H.trans (congrArg some HR_.out)) zz81
        rw [if_neg c34] at H; have c34b0 := beq_eq_false_iff_ne.mpr c34; have c34b1 := bne_iff_ne.mpr c34
        exact absurd (H.trans (congrArg some HR_.out)) zz81
      rw [if_neg c33] at H; have c33b0 := beq_eq_false_iff_ne.mpr c33; have c33b1 := bne_iff_ne.mpr c33
      exact absurd (H.trans (congrArg some HR_.out)) zz81
    rw [if_neg c32] at H; have c32b0 := beq_eq_false_iff_ne.mpr c32; have c32b1 := bne_iff_ne.mpr c32
    (first | rw [c32b0] | (simp only [i64_w, i32_w]; rw [c32b0]) | skip)
    exact absurd (H.trans (congrArg some HR_.out)) zz81
  case rest =>
    clear HC7; (try clear c1); (try clear c2); (try clear p2); (try clear c3); (try clear c12); (try clear c13); (try clear c18); (try clear c20); (try clear c22); (try clear c28); (try clear c30); (try clear c32); (try clear c32b0); (try clear c32b1); (try clear c33); (try clear c33b0); (try clear c33b1); (try clear c34); (try clear c34b0); (try clear c34b1); (try clear c35); (try clear c35b0); (try clear c35b1); (try clear c36); (try clear c36b0); (try clear c36b1); (try clear c37); (try clear c37b0); (try clear c37b1); (try clear hcz30_0); (try clear hcz30_1); (try clear hfz30_0); (try clear hfz30_1); obtain ⟨kq, x83_6, rfl, HA, HJ6, HO_1, HO_3, HO_5, HO_7, HO_11, HO_340001, BK339, HB⟩ := hcut
    cases kq with
    | zero => exact absurd HA.out (by simp [l30_awakeW.j0])
    | succ kj6 =>
      have H := HA.out; clear HA; simp only [l30_awakeW.j0] at H
      by_cases c38 : x83_6 = true
      · subst c38; have H1 : (some false) = some r := by rw [if_pos rfl] at H; exact H
        clear H; have H := H1; clear H1
        exact absurd (Option.some.inj (H.trans (congrArg some HR_.out))) (by decide)
      replace c38 := Bool.eq_false_iff.mpr c38; subst c38; have H1 : ((r09_SameInts.f kj6 t310 (([2, 1, 0, 3] : List Int))).bind fun t343 => (if t343 = true then ((r09_SameInts.f kj6 t314 (([2, 0, 1, 3] : List Int))).bind fun t347 => (if t347 = true then ((r09_SameRows.f kj6 t318 (([(([0, 1, 2] : List Int))] : List (List Int)))).bind fun t354 => (if t354 = true then ((r09_SameRows.f kj6 t327 (([(([0, 1, 2] : List Int)), (([3] : List Int))] : List (List Int)))).bind fun t364 => (l30_awakeW.j1 kj6 y301 (!t364) t334 t335)) else (l30_awakeW.j1 kj6 y301 true t334 t335))) else (l30_awakeW.j1 kj6 y301 true t334 t335))) else (l30_awakeW.j1 kj6 y301 true t334 t335))) = some r := by rw [if_neg (show ¬ (false = true) by decide)] at H; exact H
      clear H; have H := H1; clear H1; have HC39 := aM H; clear H
      go_upto_region 10 with (fail)
      go_cut [108] (fun v108 wc => ∃ (kq : Nat) (x108_38 : Bool), v108 = .bool x108_38 ∧ Aside0 (l30_awakeW.j1 kq y301 x108_38 t334 t335 = some r) ∧ Aside0 (kq ≤ kj6) ∧ Aside0 (Kd.V (Kd.int .i64) 3 wc w.heap.size (fun k_ => some k_ ≠ ((.slice Ao31 t335.length co31) : Value).ownBlock ∧ k_ ≠ gb339) (.slice Ao12 y301.length co12) y301) ∧ Aside0 (Kd.N k74 74 wc w.heap.size (fun k_ => k_ ≠ gb339) (.slice Ao31 t335.length co31) t335) ∧ Aside0 (wc.heap[gb339]? = some (.cells #[.int .i64 t334, (.slice Ao31 t335.length co31)] 46 (0, 0))) ∧ Aside0 (Below w.heap.size w wc))
      case first =>
        have H := HC39.out; clear HC39; obtain ⟨y340, hy340⟩ : ∃ y_ : List Int, y_ = (([2, 1, 0, 3] : List Int)) := ⟨_, rfl⟩; replace H : ((r09_SameInts.f kj6 t310 y340).bind fun t343 => (if t343 = true then ((r09_SameInts.f kj6 t314 (([2, 0, 1, 3] : List Int))).bind fun t347 => (if t347 = true then ((r09_SameRows.f kj6 t318 (([(([0, 1, 2] : List Int))] : List (List Int)))).bind fun t354 => (if t354 = true then ((r09_SameRows.f kj6 t327 (([(([0, 1, 2] : List Int)), (([3] : List Int))] : List (List Int)))).bind fun t364 => (l30_awakeW.j1 kj6 y301 (!t364) t334 t335)) else (l30_awakeW.j1 kj6 y301 true t334 t335))) else (l30_awakeW.j1 kj6 y301 true t334 t335))) else (l30_awakeW.j1 kj6 y301 true t334 t335))) = some r := by first | (rw [hy340]; with_reducible exact H) | (have H2_ := (Option.bind_some _ _).symm.trans H; rw [hy340]; with_reducible exact H2_) | (have H2_ := (Option.bind_some _ _).symm.trans H; with_reducible exact H2_) | with_reducible exact H | (rw [hy340]; exact H) | exact H
        have Ny340 := aM hy340; clear hy340; replace H := Option.bind_eq_some_iff.mp H; obtain ⟨t343, A400, H⟩ := H; replace H : (if t343 = true then ((r09_SameInts.f kj6 t314 (([2, 0, 1, 3] : List Int))).bind fun t347 => (if t347 = true then ((r09_SameRows.f kj6 t318 (([(([0, 1, 2] : List Int))] : List (List Int)))).bind fun t354 => (if t354 = true then ((r09_SameRows.f kj6 t327 (([(([0, 1, 2] : List Int)), (([3] : List Int))] : List (List Int)))).bind fun t364 => (l30_awakeW.j1 kj6 y301 (!t364) t334 t335)) else (l30_awakeW.j1 kj6 y301 true t334 t335))) else (l30_awakeW.j1 kj6 y301 true t334 t335))) else (l30_awakeW.j1 kj6 y301 true t334 t335)) = some r := H; have A40 := aM A400; clear A400
        by_cases c41 : t343 = true
        · subst c41; have H1 : ((r09_SameInts.f kj6 t314 (([2, 0, 1, 3] : List Int))).bind fun t347 => (if t347 = true then ((r09_SameRows.f kj6 t318 (([(([0, 1, 2] : List Int))] : List (List Int)))).bind fun t354 => (if t354 = true then ((r09_SameRows.f kj6 t327 (([(([0, 1, 2] : List Int)), (([3] : List Int))] : List (List Int)))).bind fun t364 => (l30_awakeW.j1 kj6 y301 (!t364) t334 t335)) else (l30_awakeW.j1 kj6 y301 true t334 t335))) else (l30_awakeW.j1 kj6 y301 true t334 t335))) = some r := by rw [if_pos rfl] at H; exact H
          clear H; have H := H1; clear H1; obtain ⟨y344, hy344⟩ : ∃ y_ : List Int, y_ = (([2, 0, 1, 3] : List Int)) := ⟨_, rfl⟩; replace H : ((r09_SameInts.f kj6 t314 y344).bind fun t347 => (if t347 = true then ((r09_SameRows.f kj6 t318 (([(([0, 1, 2] : List Int))] : List (List Int)))).bind fun t354 => (if t354 = true then ((r09_SameRows.f kj6 t327 (([(([0, 1, 2] : List Int)), (([3] : List Int))] : List (List Int)))).bind fun t364 => (l30_awakeW.j1 kj6 y301 (!t364) t334 t335)) else (l30_awakeW.j1 kj6 y301 true t334 t335))) else (l30_awakeW.j1 kj6 y301 true t334 t335))) = some r := by first | (rw [hy344]; with_reducible exact H) | (have H2_ := (Option.bind_some _ _).symm.trans H; rw [hy344]; with_reducible exact H2_) | (have H2_ := (Option.bind_some _ _).symm.trans H; with_reducible exact H2_) | with_reducible exact H | (rw [hy344]; exact H) | exact H
          have Ny344 := aM hy344; clear hy344; replace H := Option.bind_eq_some_iff.mp H; obtain ⟨t347, A420, H⟩ := H; replace H : (if t347 = true then ((r09_SameRows.f kj6 t318 (([(([0, 1, 2] : List Int))] : List (List Int)))).bind fun t354 => (if t354 = true then ((r09_SameRows.f kj6 t327 (([(([0, 1, 2] : List Int)), (([3] : List Int))] : List (List Int)))).bind fun t364 => (l30_awakeW.j1 kj6 y301 (!t364) t334 t335)) else (l30_awakeW.j1 kj6 y301 true t334 t335))) else (l30_awakeW.j1 kj6 y301 true t334 t335)) = some r := H; have A42 := aM A420; clear A420
          by_cases c43 : t347 = true
          · subst c43; have H1 : ((r09_SameRows.f kj6 t318 (([(([0, 1, 2] : List Int))] : List (List Int)))).bind fun t354 => (if t354 = true then ((r09_SameRows.f kj6 t327 (([(([0, 1, 2] : List Int)), (([3] : List Int))] : List (List Int)))).bind fun t364 => (l30_awakeW.j1 kj6 y301 (!t364) t334 t335)) else (l30_awakeW.j1 kj6 y301 true t334 t335))) = some r := by rw [if_pos rfl] at H; exact H
            clear H; have H := H1; clear H1; obtain ⟨y348, hy348⟩ : ∃ y_ : List Int, y_ = (([0, 1, 2] : List Int)) := ⟨_, rfl⟩; replace H : ((r09_SameRows.f kj6 t318 (([y348] : List (List Int)))).bind fun t354 => (if t354 = true then ((r09_SameRows.f kj6 t327 (([(([0, 1, 2] : List Int)), (([3] : List Int))] : List (List Int)))).bind fun t364 => (l30_awakeW.j1 kj6 y301 (!t364) t334 t335)) else (l30_awakeW.j1 kj6 y301 true t334 t335))) = some r := by first | (rw [hy348]; with_reducible exact H) | (have H2_ := (Option.bind_some _ _).symm.trans H; rw [hy348]; with_reducible exact H2_) | (have H2_ := (Option.bind_some _ _).symm.trans H; with_reducible exact H2_) | with_reducible exact H | (rw [hy348]; exact H) | exact H
            have Ny348 := aM hy348; clear hy348; obtain ⟨y351, hy351⟩ : ∃ y_ : List (List Int), y_ = (([y348] : List (List Int))) := ⟨_, rfl⟩; replace H : ((r09_SameRows.f kj6 t318 y351).bind fun t354 => (if t354 = true then ((r09_SameRows.f kj6 t327 (([(([0, 1, 2] : List Int)), (([3] : List Int))] : List (List Int)))).bind fun t364 => (l30_awakeW.j1 kj6 y301 (!t364) t334 t335)) else (l30_awakeW.j1 kj6 y301 true t334 t335))) = some r := by first | (rw [hy351]; with_reducible exact H) | (have H2_ := (Option.bind_some _ _).symm.trans H; rw [hy351]; with_reducible exact H2_) | (have H2_ := (Option.bind_some _ _).symm.trans H; with_reducible exact H2_) | with_reducible exact H | (rw [hy351]; exact H) | exact H
            have Ny351 := aM hy351; clear hy351; replace H := Option.bind_eq_some_iff.mp H; obtain ⟨t354, A440, H⟩ := H; replace H : (if t354 = true then ((r09_SameRows.f kj6 t327 (([(([0, 1, 2] : List Int)), (([3] : List Int))] : List (List Int)))).bind fun t364 => (l30_awakeW.j1 kj6 y301 (!t364) t334 t335)) else (l30_awakeW.j1 kj6 y301 true t334 t335)) = some r := H; have A44 := aM A440; clear A440
            by_cases c45 : t354 = true
            · subst c45; have H1 : ((r09_SameRows.f kj6 t327 (([(([0, 1, 2] : List Int)), (([3] : List Int))] : List (List Int)))).bind fun t364 => (l30_awakeW.j1 kj6 y301 (!t364) t334 t335)) = some r := by rw [if_pos rfl] at H; exact H
              clear H; have H := H1; clear H1; obtain ⟨y355, hy355⟩ : ∃ y_ : List Int, y_ = (([0, 1, 2] : List Int)) := ⟨_, rfl⟩; replace H : ((r09_SameRows.f kj6 t327 (([y355, (([3] : List Int))] : List (List Int)))).bind fun t364 => (l30_awakeW.j1 kj6 y301 (!t364) t334 t335)) = some r := by first | (rw [hy355]; with_reducible exact H) | (have H2_ := (Option.bind_some _ _).symm.trans H; rw [hy355]; with_reducible exact H2_) | (have H2_ := (Option.bind_some _ _).symm.trans H; with_reducible exact H2_) | with_reducible exact H | (rw [hy355]; exact H) | exact H
              have Ny355 := aM hy355; clear hy355; obtain ⟨y358, hy358⟩ : ∃ y_ : List Int, y_ = (([3] : List Int)) := ⟨_, rfl⟩; replace H : ((r09_SameRows.f kj6 t327 (([y355, y358] : List (List Int)))).bind fun t364 => (l30_awakeW.j1 kj6 y301 (!t364) t334 t335)) = some r := by first | (rw [hy358]; with_reducible exact H) | (have H2_ := (Option.bind_some _ _).symm.trans H; rw [hy358]; with_reducible exact H2_) | (have H2_ := (Option.bind_some _ _).symm.trans H; with_reducible exact H2_) | with_reducible exact H | (rw [hy358]; exact H) | exact H
              have Ny358 := aM hy358; clear hy358; obtain ⟨y361, hy361⟩ : ∃ y_ : List (List Int), y_ = (([y355, y358] : List (List Int))) := ⟨_, rfl⟩; replace H : ((r09_SameRows.f kj6 t327 y361).bind fun t364 => (l30_awakeW.j1 kj6 y301 (!t364) t334 t335)) = some r := by first | (rw [hy361]; with_reducible exact H) | (have H2_ := (Option.bind_some _ _).symm.trans H; rw [hy361]; with_reducible exact H2_) | (have H2_ := (Option.bind_some _ _).symm.trans H; with_reducible exact H2_) | with_reducible exact H | (rw [hy361]; exact H) | exact H
              have Ny361 := aM hy361; clear hy361; replace H := Option.bind_eq_some_iff.mp H; obtain ⟨t364, A460, H⟩ := H; replace H : (l30_awakeW.j1 kj6 y301 (!t364) t334 t335) = some r := H; have A46 := aM A460; clear A460; have H' := aM H; clear H
              go_wp2_with (first | ((with_reducible refine gate_dst (N := 85) rfl ?_); (try (refine gate_guard (by rfl) ?_; dsimp only)); refine Kd.R_lit (Kd.int .i64) _ 3 ?hg (N := 85) ?hd (xs := ([2, 1, 0, 3] : List Int)) (inner := [.int .i64 2, .int .i64 1, .int .i64 0, .int .i64 3]) (ok := fun _ => True) (okp := fun _ => True) ?hr ?hp (fun _ hk => hk) trivial (Below.refl _ _) (Nat.le_refl _) (by simp) ?_; (case hd => rfl); (case hg => rfl); (case hr => first | (go_simp; done) | (go_simp; rfl)); (case hp => exact (Reps.one (show Kd.M (Kd.int .i64) _ _ _ 2 [.int .i64 2] from rfl) (Reps.one (show Kd.M (Kd.int .i64) _ _ _ 1 [.int .i64 1] from rfl) (Reps.one (show Kd.M (Kd.int .i64) _ _ _ 0 [.int .i64 0] from rfl) (Reps.one (show Kd.M (Kd.int .i64) _ _ _ 3 [.int .i64 3] from rfl) (Reps.none _ _)))))); intro v341 w47 ho48 hb hg_ hnew_; clear hg_ hnew_; (first | rw [← Ny340.out] at ho48 | (simp only [Int.reduceToNat] at ho48; rw [← Ny340.out] at ho48)); replace HO_1 := aM (Kd.V_elder' (zV HO_1) (Kd.R_base ho48) hb); replace HO_7 := aM (Kd.N_elder' (zN HO_7) (Kd.R_base ho48) hb); replace HO_11 := aM (Kd.N_elder' (zN HO_11) (Kd.R_base ho48) hb); replace HO_340001 := aM (Kd.N_elder' (zN HO_340001) (Kd.R_base ho48) hb); have HO342 := aM (Kd.R_lower (Kd.R_new' (Kd.R_new' ho48 (Kd.R_lt (zR HO_3))) (Kd.R_lt (zR HO_5))) (below_size zz45)); replace HO_3 := aM (Kd.R_elder' (zR HO_3) (Kd.R_base ho48) hb); replace HO_5 := aM (Kd.R_elder' (zR HO_5) (Kd.R_base ho48) hb); replace BK339 := aM (blk_below (g := gb339) (o := .cells #[.int .i64 t334, .slice Ao31 t335.length co31] 46 (0, 0)) (zB BK339) hb); replace HB := aM (below_step zz45 hb); clear hb ho48; obtain ⟨Ao49, co49, eo49⟩ := Kd.R_slice HO_3.out; subst eo49; obtain ⟨Ao50, co50, eo50⟩ := Kd.R_slice HO342.out; subst eo50) | ((with_reducible refine gate_callee (f := 15) rfl ?_); refine goesL_ (some 86) rfl rfl Try.func15 (by kernel_rfl) rfl #[.slice Ao49 t310.length co49, .slice Ao50 y340.length co50] rfl zz51 ?_; (with_reducible refine (r09_SameInts.calls kj6 _ _ t310 _ _ y340 true _ ?side1 ?side2 ?side3 ?side4 A40.out).mono ?_); (case side1 => repeat (first | exact (Kd.R_reads' HO_3.out).2.2 | (with_reducible refine Kd.C_alloc ?_ _) | (with_reducible refine Kd.C_drewN ?_ _) | (with_reducible refine Kd.C_drew ?_))); (case side2 => exact (Kd.R_reads' HO_3.out).2.1); (case side3 => repeat (first | exact (Kd.R_reads' HO342.out).2.2 | (with_reducible refine Kd.C_alloc ?_ _) | (with_reducible refine Kd.C_drewN ?_ _) | (with_reducible refine Kd.C_drew ?_))); (case side4 => exact (Kd.R_reads' HO342.out).2.1); rintro e w' ⟨rfl, ⟨nd, rfl⟩⟩; refine ⟨_, rfl, ?_⟩) | ((with_reducible refine gate_dst (N := 90) rfl ?_); (try (refine gate_guard (by rfl) ?_; dsimp only)); refine Kd.R_lit (Kd.int .i64) _ 3 ?hg (N := 90) ?hd (xs := ([2, 0, 1, 3] : List Int)) (inner := [.int .i64 2, .int .i64 0, .int .i64 1, .int .i64 3]) (ok := fun _ => True) (okp := fun _ => True) ?hr ?hp (fun _ hk => hk) trivial (Below.refl _ _) (Nat.le_refl _) (by simp) ?_; (case hd => rfl); (case hg => rfl); (case hr => first | (go_simp; done) | (go_simp; rfl)); (case hp => exact (Reps.one (show Kd.M (Kd.int .i64) _ _ _ 2 [.int .i64 2] from rfl) (Reps.one (show Kd.M (Kd.int .i64) _ _ _ 0 [.int .i64 0] from rfl) (Reps.one (show Kd.M (Kd.int .i64) _ _ _ 1 [.int .i64 1] from rfl) (Reps.one (show Kd.M (Kd.int .i64) _ _ _ 3 [.int .i64 3] from rfl) (Reps.none _ _)))))); intro v345 w51 ho52 hb hg_ hnew_; clear hg_ hnew_; (first | rw [← Ny344.out] at ho52 | (simp only [Int.reduceToNat] at ho52; rw [← Ny344.out] at ho52)); replace HO_1 := aM (Kd.V_elder' (zV HO_1) (Kd.R_base ho52) hb); replace HO_7 := aM (Kd.N_elder' (zN HO_7) (Kd.R_base ho52) hb); replace HO_11 := aM (Kd.N_elder' (zN HO_11) (Kd.R_base ho52) hb); replace HO_340001 := aM (Kd.N_elder' (zN HO_340001) (Kd.R_base ho52) hb); have HO346 := aM (Kd.R_lower (Kd.R_new' (Kd.R_new' (Kd.R_new' ho52 (Kd.R_lt (zR HO_3))) (Kd.R_lt (zR HO_5))) (Kd.R_lt (zR HO342))) (below_size zz45)); replace HO_3 := aM (Kd.R_elder' (zR HO_3) (Kd.R_base ho52) hb); replace HO_5 := aM (Kd.R_elder' (zR HO_5) (Kd.R_base ho52) hb); replace HO342 := aM (Kd.R_elder' (zR HO342) (Kd.R_base ho52) hb); replace BK339 := aM (blk_below (g := gb339) (o := .cells #[.int .i64 t334, .slice Ao31 t335.length co31] 46 (0, 0)) (zB BK339) hb); replace HB := aM (below_step zz45 hb); clear hb ho52; obtain ⟨Ao53, co53, eo53⟩ := Kd.R_slice HO_5.out; subst eo53; obtain ⟨Ao54, co54, eo54⟩ := Kd.R_slice HO346.out; subst eo54) | (go_at_call 15; (with_reducible refine (r09_SameInts.calls kj6 _ _ t314 _ _ y344 true _ ?side1 ?side2 ?side3 ?side4 A42.out).mono ?_); (case side1 => repeat (first | exact (Kd.R_reads' HO_5.out).2.2 | (with_reducible refine Kd.C_alloc ?_ _) | (with_reducible refine Kd.C_drewN ?_ _) | (with_reducible refine Kd.C_drew ?_))); (case side2 => exact (Kd.R_reads' HO_5.out).2.1); (case side3 => repeat (first | exact (Kd.R_reads' HO346.out).2.2 | (with_reducible refine Kd.C_alloc ?_ _) | (with_reducible refine Kd.C_drewN ?_ _) | (with_reducible refine Kd.C_drew ?_))); (case side4 => exact (Kd.R_reads' HO346.out).2.1); rintro e w' ⟨rfl, ⟨nd, rfl⟩⟩) | ((with_reducible refine gate_dst (N := 96) rfl ?_); (try (refine gate_guard (by rfl) ?_; dsimp only)); refine Kd.R_lit (Kd.int .i64) _ 3 ?hg (N := 96) ?hd (xs := ([0, 1, 2] : List Int)) (inner := [.int .i64 0, .int .i64 1, .int .i64 2]) (ok := fun _ => True) (okp := fun _ => True) ?hr ?hp (fun _ hk => hk) trivial (Below.refl _ _) (Nat.le_refl _) (by simp) ?_; (case hd => rfl); (case hg => rfl); (case hr => first | (go_simp; done) | (go_simp; rfl)); (case hp => exact (Reps.one (show Kd.M (Kd.int .i64) _ _ _ 0 [.int .i64 0] from rfl) (Reps.one (show Kd.M (Kd.int .i64) _ _ _ 1 [.int .i64 1] from rfl) (Reps.one (show Kd.M (Kd.int .i64) _ _ _ 2 [.int .i64 2] from rfl) (Reps.none _ _))))); intro v349 w55 ho56 hb hg_ hnew_; clear hg_ hnew_; (first | rw [← Ny348.out] at ho56 | (simp only [Int.reduceToNat] at ho56; rw [← Ny348.out] at ho56)); replace HO_1 := aM (Kd.V_elder' (zV HO_1) (Kd.R_base ho56) hb); replace HO_7 := aM (Kd.N_elder' (zN HO_7) (Kd.R_base ho56) hb); replace HO_11 := aM (Kd.N_elder' (zN HO_11) (Kd.R_base ho56) hb); replace HO_340001 := aM (Kd.N_elder' (zN HO_340001) (Kd.R_base ho56) hb); have HO350 := aM (Kd.R_lower (Kd.R_new' (Kd.R_new' (Kd.R_new' (Kd.R_new' ho56 (Kd.R_lt (zR HO_3))) (Kd.R_lt (zR HO_5))) (Kd.R_lt (zR HO342))) (Kd.R_lt (zR HO346))) (below_size zz45)); replace HO_3 := aM (Kd.R_elder' (zR HO_3) (Kd.R_base ho56) hb); replace HO_5 := aM (Kd.R_elder' (zR HO_5) (Kd.R_base ho56) hb); replace HO342 := aM (Kd.R_elder' (zR HO342) (Kd.R_base ho56) hb); replace HO346 := aM (Kd.R_elder' (zR HO346) (Kd.R_base ho56) hb); replace BK339 := aM (blk_below (g := gb339) (o := .cells #[.int .i64 t334, .slice Ao31 t335.length co31] 46 (0, 0)) (zB BK339) hb); replace HB := aM (below_step zz45 hb); clear hb ho56; obtain ⟨Ao57, co57, eo57⟩ := Kd.R_slice HO350.out; subst eo57) | ((with_reducible refine gate_dst (N := 97) rfl ?_); (try (refine gate_guard (by rfl) ?_; dsimp only)); refine Kd.N_lit (Kd.slice 3 (Kd.int .i64)) _ 22 ?hg (N' := 97) ?hd (xs := ([y348] : List (List Int))) (inner := [.slice Ao57 y348.length co57]) (ok := (fun k_ => some k_ ≠ (.slice Ao49 t310.length co49 : Value).ownBlock ∧ some k_ ≠ (.slice Ao53 t314.length co53 : Value).ownBlock ∧ some k_ ≠ (v320 : Value).ownBlock ∧ some k_ ≠ (v329 : Value).ownBlock ∧ some k_ ≠ (.slice Ao31 t335.length co31 : Value).ownBlock ∧ some k_ ≠ (.slice Ao50 y340.length co50 : Value).ownBlock ∧ some k_ ≠ (.slice Ao54 y344.length co54 : Value).ownBlock ∧ k_ ≠ gb339)) (okp := (fun k_ => some k_ ≠ (.slice Ao49 t310.length co49 : Value).ownBlock ∧ some k_ ≠ (.slice Ao53 t314.length co53 : Value).ownBlock ∧ some k_ ≠ (v320 : Value).ownBlock ∧ some k_ ≠ (v329 : Value).ownBlock ∧ some k_ ≠ (.slice Ao31 t335.length co31 : Value).ownBlock ∧ some k_ ≠ (.slice Ao50 y340.length co50 : Value).ownBlock ∧ some k_ ≠ (.slice Ao54 y344.length co54 : Value).ownBlock ∧ k_ ≠ gb339)) ?hr ?hp (fun _ hk => hk) ((show ∀ k_, w55.heap.size ≤ k_ → (fun k_ => some k_ ≠ (.slice Ao49 t310.length co49 : Value).ownBlock ∧ some k_ ≠ (.slice Ao53 t314.length co53 : Value).ownBlock ∧ some k_ ≠ (v320 : Value).ownBlock ∧ some k_ ≠ (v329 : Value).ownBlock ∧ some k_ ≠ (.slice Ao31 t335.length co31 : Value).ownBlock ∧ some k_ ≠ (.slice Ao50 y340.length co50 : Value).ownBlock ∧ some k_ ≠ (.slice Ao54 y344.length co54 : Value).ownBlock ∧ k_ ≠ gb339) k_ from fun k_ hk => ⟨Kd.fresh' (Kd.R_lt (zR HO_3)) k_ hk, Kd.fresh' (Kd.R_lt (zR HO_5)) k_ hk, Kd.fresh' (Kd.N_lt (zN HO_7)) k_ hk, Kd.fresh' (Kd.N_lt (zN HO_11)) k_ hk, Kd.fresh' (Kd.N_lt (zN HO_340001)) k_ hk, Kd.fresh' (Kd.R_lt (zR HO342)) k_ hk, Kd.fresh' (Kd.R_lt (zR HO346)) k_ hk, Kd.freshB (g := gb339) (o := .cells #[.int .i64 t334, .slice Ao31 t335.length co31] 46 (0, 0)) (zB BK339) k_ hk⟩) _ (Nat.le_refl _)) (Below.refl _ _) (Nat.le_refl _) (by simp) ?_; (case hd => rfl); (case hg => rfl); (case hr => first | (go_simp; done) | (go_simp; rfl)); (case hp => exact (Reps.one (show Kd.FK (Kd.slice 3 (Kd.int .i64)) _ _ y348 [.slice Ao57 y348.length co57] from (Kd.FK_slice_mk (Kd.R_reads' (Kd.R_mono (ok' := (fun k_ => some k_ ≠ (.slice Ao49 t310.length co49 : Value).ownBlock ∧ some k_ ≠ (.slice Ao53 t314.length co53 : Value).ownBlock ∧ some k_ ≠ (v320 : Value).ownBlock ∧ some k_ ≠ (v329 : Value).ownBlock ∧ some k_ ≠ (.slice Ao31 t335.length co31 : Value).ownBlock ∧ some k_ ≠ (.slice Ao50 y340.length co50 : Value).ownBlock ∧ some k_ ≠ (.slice Ao54 y344.length co54 : Value).ownBlock ∧ k_ ≠ gb339)) (Kd.R_types (Kd.R_apart' (Kd.R_apart' (Kd.R_apart' (HO350.out) (Kd.N_typed HO_7.out) (by decide)) (Kd.N_typed HO_11.out) (by decide)) (Kd.N_typed HO_340001.out) (by decide)) BK339.out (by decide)) (fun k_ hk => by first | exact ⟨hk.1.1.1.1.1.1.1.2, ⟨hk.1.1.1.1.1.1.2, ⟨hk.1.1.1.2, ⟨hk.1.1.2, ⟨hk.1.2, ⟨hk.1.1.1.1.1.2, ⟨hk.1.1.1.1.2, hk.2⟩⟩⟩⟩⟩⟩⟩ | ((repeat' apply And.intro) <;> (first | exact hk | exact hk.1 | exact hk.2 | exact hk.1.1 | exact hk.1.2 | exact hk.2.1 | exact hk.2.2 | exact hk.1.1.1 | exact hk.1.1.2 | exact hk.1.2.1 | exact hk.1.2.2 | exact hk.2.1.1 | exact hk.2.1.2 | exact hk.2.2.1 | exact hk.2.2.2 | exact hk.1.1.1.1 | exact hk.1.1.1.2 | exact hk.2.2.2.1 | exact hk.2.2.2.2))))).2.1 (Kd.R_F (Kd.R_mono (ok' := (fun k_ => some k_ ≠ (.slice Ao49 t310.length co49 : Value).ownBlock ∧ some k_ ≠ (.slice Ao53 t314.length co53 : Value).ownBlock ∧ some k_ ≠ (v320 : Value).ownBlock ∧ some k_ ≠ (v329 : Value).ownBlock ∧ some k_ ≠ (.slice Ao31 t335.length co31 : Value).ownBlock ∧ some k_ ≠ (.slice Ao50 y340.length co50 : Value).ownBlock ∧ some k_ ≠ (.slice Ao54 y344.length co54 : Value).ownBlock ∧ k_ ≠ gb339)) (Kd.R_types (Kd.R_apart' (Kd.R_apart' (Kd.R_apart' (HO350.out) (Kd.N_typed HO_7.out) (by decide)) (Kd.N_typed HO_11.out) (by decide)) (Kd.N_typed HO_340001.out) (by decide)) BK339.out (by decide)) (fun k_ hk => by first | exact ⟨hk.1.1.1.1.1.1.1.2, ⟨hk.1.1.1.1.1.1.2, ⟨hk.1.1.1.2, ⟨hk.1.1.2, ⟨hk.1.2, ⟨hk.1.1.1.1.1.2, ⟨hk.1.1.1.1.2, hk.2⟩⟩⟩⟩⟩⟩⟩ | ((repeat' apply And.intro) <;> (first | exact hk | exact hk.1 | exact hk.2 | exact hk.1.1 | exact hk.1.2 | exact hk.2.1 | exact hk.2.2 | exact hk.1.1.1 | exact hk.1.1.2 | exact hk.1.2.1 | exact hk.1.2.2 | exact hk.2.1.1 | exact hk.2.1.2 | exact hk.2.2.1 | exact hk.2.2.2 | exact hk.1.1.1.1 | exact hk.1.1.1.2 | exact hk.2.2.2.1 | exact hk.2.2.2.2))))))) (Reps.none _ _))); intro v352 w58 ho59 hb hg_ hnew_; clear hg_ hnew_; (first | rw [← Ny351.out] at ho59 | (simp only [Int.reduceToNat] at ho59; rw [← Ny351.out] at ho59)); replace HO_1 := aM (Kd.V_elder' (zV HO_1) (Kd.N_base ho59) hb); replace HO_3 := aM (Kd.R_below (zR HO_3) hb); replace HO_5 := aM (Kd.R_below (zR HO_5) hb); replace HO_7 := aM (Kd.N_elder' (zN HO_7) (Kd.N_base ho59) hb); replace HO_11 := aM (Kd.N_elder' (zN HO_11) (Kd.N_base ho59) hb); replace HO_340001 := aM (Kd.N_elder' (zN HO_340001) (Kd.N_base ho59) hb); replace HO342 := aM (Kd.R_below (zR HO342) hb); replace HO346 := aM (Kd.R_below (zR HO346) hb); have HO353 := aM (Kd.N_lower ho59 (below_size zz45)); replace BK339 := aM (blk_below (g := gb339) (o := .cells #[.int .i64 t334, .slice Ao31 t335.length co31] 46 (0, 0)) (zB BK339) hb); replace HB := aM (below_step zz45 hb); clear HO350; clear hb ho59; obtain ⟨Ao60, co60, eo60⟩ := Kd.N_slice HO_7.out; subst eo60; obtain ⟨Ao61, co61, eo61⟩ := Kd.N_slice HO353.out; subst eo61) | (go_at_call 24; (with_reducible refine (r09_SameRows.calls kj6 _ _ t318 _ _ y351 true _ ?side1 ?side2 ?side3 ?side4 A44.out).mono ?_); (case side1 => repeat (first | exact (Kd.N_reads' HO_7.out).2.2 | (with_reducible refine Kd.C_alloc ?_ _) | (with_reducible refine Kd.C_drewN ?_ _) | (with_reducible refine Kd.C_drew ?_))); (case side2 => exact (Kd.N_reads' HO_7.out).2.1); (case side3 => repeat (first | exact (Kd.N_reads' HO353.out).2.2 | (with_reducible refine Kd.C_alloc ?_ _) | (with_reducible refine Kd.C_drewN ?_ _) | (with_reducible refine Kd.C_drew ?_))); (case side4 => exact (Kd.N_reads' HO353.out).2.1); rintro e w' ⟨rfl, ⟨nd, rfl⟩⟩) | ((with_reducible refine gate_dst (N := 103) rfl ?_); (try (refine gate_guard (by rfl) ?_; dsimp only)); refine Kd.R_lit (Kd.int .i64) _ 3 ?hg (N := 103) ?hd (xs := ([0, 1, 2] : List Int)) (inner := [.int .i64 0, .int .i64 1, .int .i64 2]) (ok := fun _ => True) (okp := fun _ => True) ?hr ?hp (fun _ hk => hk) trivial (Below.refl _ _) (Nat.le_refl _) (by simp) ?_; (case hd => rfl); (case hg => rfl); (case hr => first | (go_simp; done) | (go_simp; rfl)); (case hp => exact (Reps.one (show Kd.M (Kd.int .i64) _ _ _ 0 [.int .i64 0] from rfl) (Reps.one (show Kd.M (Kd.int .i64) _ _ _ 1 [.int .i64 1] from rfl) (Reps.one (show Kd.M (Kd.int .i64) _ _ _ 2 [.int .i64 2] from rfl) (Reps.none _ _))))); intro v356 w62 ho63 hb hg_ hnew_; clear hg_ hnew_; (first | rw [← Ny355.out] at ho63 | (simp only [Int.reduceToNat] at ho63; rw [← Ny355.out] at ho63)); replace HO_1 := aM (Kd.V_elder' (zV HO_1) (Kd.R_base ho63) hb); replace HO_7 := aM (Kd.N_elder' (zN HO_7) (Kd.R_base ho63) hb); replace HO_11 := aM (Kd.N_elder' (zN HO_11) (Kd.R_base ho63) hb); replace HO_340001 := aM (Kd.N_elder' (zN HO_340001) (Kd.R_base ho63) hb); replace HO353 := aM (Kd.N_elder' (zN HO353) (Kd.R_base ho63) hb); have HO357 := aM (Kd.R_lower (Kd.R_new' (Kd.R_new' (Kd.R_new' (Kd.R_new' ho63 (Kd.R_lt (zR HO_3))) (Kd.R_lt (zR HO_5))) (Kd.R_lt (zR HO342))) (Kd.R_lt (zR HO346))) (below_size zz45)); replace HO_3 := aM (Kd.R_elder' (zR HO_3) (Kd.R_base ho63) hb); replace HO_5 := aM (Kd.R_elder' (zR HO_5) (Kd.R_base ho63) hb); replace HO342 := aM (Kd.R_elder' (zR HO342) (Kd.R_base ho63) hb); replace HO346 := aM (Kd.R_elder' (zR HO346) (Kd.R_base ho63) hb); replace BK339 := aM (blk_below (g := gb339) (o := .cells #[.int .i64 t334, .slice Ao31 t335.length co31] 46 (0, 0)) (zB BK339) hb); replace HB := aM (below_step zz45 hb); clear hb ho63) | ((with_reducible refine gate_dst (N := 104) rfl ?_); (try (refine gate_guard (by rfl) ?_; dsimp only)); refine Kd.R_lit (Kd.int .i64) _ 3 ?hg (N := 104) ?hd (xs := ([3] : List Int)) (inner := [.int .i64 3]) (ok := fun _ => True) (okp := fun _ => True) ?hr ?hp (fun _ hk => hk) trivial (Below.refl _ _) (Nat.le_refl _) (by simp) ?_; (case hd => rfl); (case hg => rfl); (case hr => first | (go_simp; done) | (go_simp; rfl)); (case hp => exact (Reps.one (show Kd.M (Kd.int .i64) _ _ _ 3 [.int .i64 3] from rfl) (Reps.none _ _))); intro v359 w64 ho65 hb hg_ hnew_; clear hg_ hnew_; (first | rw [← Ny358.out] at ho65 | (simp only [Int.reduceToNat] at ho65; rw [← Ny358.out] at ho65)); replace HO_1 := aM (Kd.V_elder' (zV HO_1) (Kd.R_base ho65) hb); replace HO_7 := aM (Kd.N_elder' (zN HO_7) (Kd.R_base ho65) hb); replace HO_11 := aM (Kd.N_elder' (zN HO_11) (Kd.R_base ho65) hb); replace HO_340001 := aM (Kd.N_elder' (zN HO_340001) (Kd.R_base ho65) hb); replace HO353 := aM (Kd.N_elder' (zN HO353) (Kd.R_base ho65) hb); have HO360 := aM (Kd.R_lower (Kd.R_new' (Kd.R_new' (Kd.R_new' (Kd.R_new' (Kd.R_new' ho65 (Kd.R_lt (zR HO_3))) (Kd.R_lt (zR HO_5))) (Kd.R_lt (zR HO342))) (Kd.R_lt (zR HO346))) (Kd.R_lt (zR HO357))) (below_size zz45)); replace HO_3 := aM (Kd.R_elder' (zR HO_3) (Kd.R_base ho65) hb); replace HO_5 := aM (Kd.R_elder' (zR HO_5) (Kd.R_base ho65) hb); replace HO342 := aM (Kd.R_elder' (zR HO342) (Kd.R_base ho65) hb); replace HO346 := aM (Kd.R_elder' (zR HO346) (Kd.R_base ho65) hb); replace HO357 := aM (Kd.R_elder' (zR HO357) (Kd.R_base ho65) hb); replace BK339 := aM (blk_below (g := gb339) (o := .cells #[.int .i64 t334, .slice Ao31 t335.length co31] 46 (0, 0)) (zB BK339) hb); replace HB := aM (below_step zz45 hb); clear hb ho65; obtain ⟨Ao66, co66, eo66⟩ := Kd.R_slice HO357.out; subst eo66; obtain ⟨Ao67, co67, eo67⟩ := Kd.R_slice HO360.out; subst eo67) | ((with_reducible refine gate_dst (N := 105) rfl ?_); (try (refine gate_guard (by rfl) ?_; dsimp only)); refine Kd.N_lit (Kd.slice 3 (Kd.int .i64)) _ 22 ?hg (N' := 105) ?hd (xs := ([y355, y358] : List (List Int))) (inner := [.slice Ao66 y355.length co66, .slice Ao67 y358.length co67]) (ok := (fun k_ => some k_ ≠ (.slice Ao49 t310.length co49 : Value).ownBlock ∧ some k_ ≠ (.slice Ao53 t314.length co53 : Value).ownBlock ∧ some k_ ≠ (.slice Ao60 t318.length co60 : Value).ownBlock ∧ some k_ ≠ (v329 : Value).ownBlock ∧ some k_ ≠ (.slice Ao31 t335.length co31 : Value).ownBlock ∧ some k_ ≠ (.slice Ao50 y340.length co50 : Value).ownBlock ∧ some k_ ≠ (.slice Ao54 y344.length co54 : Value).ownBlock ∧ some k_ ≠ (.slice Ao61 y351.length co61 : Value).ownBlock ∧ k_ ≠ gb339)) (okp := (fun k_ => some k_ ≠ (.slice Ao49 t310.length co49 : Value).ownBlock ∧ some k_ ≠ (.slice Ao53 t314.length co53 : Value).ownBlock ∧ some k_ ≠ (.slice Ao60 t318.length co60 : Value).ownBlock ∧ some k_ ≠ (v329 : Value).ownBlock ∧ some k_ ≠ (.slice Ao31 t335.length co31 : Value).ownBlock ∧ some k_ ≠ (.slice Ao50 y340.length co50 : Value).ownBlock ∧ some k_ ≠ (.slice Ao54 y344.length co54 : Value).ownBlock ∧ some k_ ≠ (.slice Ao61 y351.length co61 : Value).ownBlock ∧ k_ ≠ gb339)) ?hr ?hp (fun _ hk => hk) ((show ∀ k_, w64.heap.size ≤ k_ → (fun k_ => some k_ ≠ (.slice Ao49 t310.length co49 : Value).ownBlock ∧ some k_ ≠ (.slice Ao53 t314.length co53 : Value).ownBlock ∧ some k_ ≠ (.slice Ao60 t318.length co60 : Value).ownBlock ∧ some k_ ≠ (v329 : Value).ownBlock ∧ some k_ ≠ (.slice Ao31 t335.length co31 : Value).ownBlock ∧ some k_ ≠ (.slice Ao50 y340.length co50 : Value).ownBlock ∧ some k_ ≠ (.slice Ao54 y344.length co54 : Value).ownBlock ∧ some k_ ≠ (.slice Ao61 y351.length co61 : Value).ownBlock ∧ k_ ≠ gb339) k_ from fun k_ hk => ⟨Kd.fresh' (Kd.R_lt (zR HO_3)) k_ hk, Kd.fresh' (Kd.R_lt (zR HO_5)) k_ hk, Kd.fresh' (Kd.N_lt (zN HO_7)) k_ hk, Kd.fresh' (Kd.N_lt (zN HO_11)) k_ hk, Kd.fresh' (Kd.N_lt (zN HO_340001)) k_ hk, Kd.fresh' (Kd.R_lt (zR HO342)) k_ hk, Kd.fresh' (Kd.R_lt (zR HO346)) k_ hk, Kd.fresh' (Kd.N_lt (zN HO353)) k_ hk, Kd.freshB (g := gb339) (o := .cells #[.int .i64 t334, .slice Ao31 t335.length co31] 46 (0, 0)) (zB BK339) k_ hk⟩) _ (Nat.le_refl _)) (Below.refl _ _) (Nat.le_refl _) (by simp) ?_; (case hd => rfl); (case hg => rfl); (case hr => first | (go_simp; done) | (go_simp; rfl)); (case hp => exact (Reps.one (show Kd.FK (Kd.slice 3 (Kd.int .i64)) _ _ y355 [.slice Ao66 y355.length co66] from (Kd.FK_slice_mk (Kd.R_reads' (Kd.R_mono (ok' := (fun k_ => some k_ ≠ (.slice Ao49 t310.length co49 : Value).ownBlock ∧ some k_ ≠ (.slice Ao53 t314.length co53 : Value).ownBlock ∧ some k_ ≠ (.slice Ao60 t318.length co60 : Value).ownBlock ∧ some k_ ≠ (v329 : Value).ownBlock ∧ some k_ ≠ (.slice Ao31 t335.length co31 : Value).ownBlock ∧ some k_ ≠ (.slice Ao50 y340.length co50 : Value).ownBlock ∧ some k_ ≠ (.slice Ao54 y344.length co54 : Value).ownBlock ∧ some k_ ≠ (.slice Ao61 y351.length co61 : Value).ownBlock ∧ k_ ≠ gb339)) (Kd.R_types (Kd.R_apart' (Kd.R_apart' (Kd.R_apart' (Kd.R_apart' (HO357.out) (Kd.N_typed HO_7.out) (by decide)) (Kd.N_typed HO_11.out) (by decide)) (Kd.N_typed HO_340001.out) (by decide)) (Kd.N_typed HO353.out) (by decide)) BK339.out (by decide)) (fun k_ hk => by first | exact ⟨hk.1.1.1.1.1.1.1.1.1.2, ⟨hk.1.1.1.1.1.1.1.1.2, ⟨hk.1.1.1.1.2, ⟨hk.1.1.1.2, ⟨hk.1.1.2, ⟨hk.1.1.1.1.1.1.1.2, ⟨hk.1.1.1.1.1.1.2, ⟨hk.1.2, hk.2⟩⟩⟩⟩⟩⟩⟩⟩ | ((repeat' apply And.intro) <;> (first | exact hk | exact hk.1 | exact hk.2 | exact hk.1.1 | exact hk.1.2 | exact hk.2.1 | exact hk.2.2 | exact hk.1.1.1 | exact hk.1.1.2 | exact hk.1.2.1 | exact hk.1.2.2 | exact hk.2.1.1 | exact hk.2.1.2 | exact hk.2.2.1 | exact hk.2.2.2 | exact hk.1.1.1.1 | exact hk.1.1.1.2 | exact hk.2.2.2.1 | exact hk.2.2.2.2))))).2.1 (Kd.R_F (Kd.R_mono (ok' := (fun k_ => some k_ ≠ (.slice Ao49 t310.length co49 : Value).ownBlock ∧ some k_ ≠ (.slice Ao53 t314.length co53 : Value).ownBlock ∧ some k_ ≠ (.slice Ao60 t318.length co60 : Value).ownBlock ∧ some k_ ≠ (v329 : Value).ownBlock ∧ some k_ ≠ (.slice Ao31 t335.length co31 : Value).ownBlock ∧ some k_ ≠ (.slice Ao50 y340.length co50 : Value).ownBlock ∧ some k_ ≠ (.slice Ao54 y344.length co54 : Value).ownBlock ∧ some k_ ≠ (.slice Ao61 y351.length co61 : Value).ownBlock ∧ k_ ≠ gb339)) (Kd.R_types (Kd.R_apart' (Kd.R_apart' (Kd.R_apart' (Kd.R_apart' (HO357.out) (Kd.N_typed HO_7.out) (by decide)) (Kd.N_typed HO_11.out) (by decide)) (Kd.N_typed HO_340001.out) (by decide)) (Kd.N_typed HO353.out) (by decide)) BK339.out (by decide)) (fun k_ hk => by first | exact ⟨hk.1.1.1.1.1.1.1.1.1.2, ⟨hk.1.1.1.1.1.1.1.1.2, ⟨hk.1.1.1.1.2, ⟨hk.1.1.1.2, ⟨hk.1.1.2, ⟨hk.1.1.1.1.1.1.1.2, ⟨hk.1.1.1.1.1.1.2, ⟨hk.1.2, hk.2⟩⟩⟩⟩⟩⟩⟩⟩ | ((repeat' apply And.intro) <;> (first | exact hk | exact hk.1 | exact hk.2 | exact hk.1.1 | exact hk.1.2 | exact hk.2.1 | exact hk.2.2 | exact hk.1.1.1 | exact hk.1.1.2 | exact hk.1.2.1 | exact hk.1.2.2 | exact hk.2.1.1 | exact hk.2.1.2 | exact hk.2.2.1 | exact hk.2.2.2 | exact hk.1.1.1.1 | exact hk.1.1.1.2 | exact hk.2.2.2.1 | exact hk.2.2.2.2))))))) (Reps.one (show Kd.FK (Kd.slice 3 (Kd.int .i64)) _ _ y358 [.slice Ao67 y358.length co67] from (Kd.FK_slice_mk (Kd.R_reads' (Kd.R_mono (ok' := (fun k_ => some k_ ≠ (.slice Ao49 t310.length co49 : Value).ownBlock ∧ some k_ ≠ (.slice Ao53 t314.length co53 : Value).ownBlock ∧ some k_ ≠ (.slice Ao60 t318.length co60 : Value).ownBlock ∧ some k_ ≠ (v329 : Value).ownBlock ∧ some k_ ≠ (.slice Ao31 t335.length co31 : Value).ownBlock ∧ some k_ ≠ (.slice Ao50 y340.length co50 : Value).ownBlock ∧ some k_ ≠ (.slice Ao54 y344.length co54 : Value).ownBlock ∧ some k_ ≠ (.slice Ao61 y351.length co61 : Value).ownBlock ∧ k_ ≠ gb339)) (Kd.R_types (Kd.R_apart' (Kd.R_apart' (Kd.R_apart' (Kd.R_apart' (HO360.out) (Kd.N_typed HO_7.out) (by decide)) (Kd.N_typed HO_11.out) (by decide)) (Kd.N_typed HO_340001.out) (by decide)) (Kd.N_typed HO353.out) (by decide)) BK339.out (by decide)) (fun k_ hk => by first | exact ⟨hk.1.1.1.1.1.1.1.1.1.2, ⟨hk.1.1.1.1.1.1.1.1.2, ⟨hk.1.1.1.1.2, ⟨hk.1.1.1.2, ⟨hk.1.1.2, ⟨hk.1.1.1.1.1.1.1.2, ⟨hk.1.1.1.1.1.1.2, ⟨hk.1.2, hk.2⟩⟩⟩⟩⟩⟩⟩⟩ | ((repeat' apply And.intro) <;> (first | exact hk | exact hk.1 | exact hk.2 | exact hk.1.1 | exact hk.1.2 | exact hk.2.1 | exact hk.2.2 | exact hk.1.1.1 | exact hk.1.1.2 | exact hk.1.2.1 | exact hk.1.2.2 | exact hk.2.1.1 | exact hk.2.1.2 | exact hk.2.2.1 | exact hk.2.2.2 | exact hk.1.1.1.1 | exact hk.1.1.1.2 | exact hk.2.2.2.1 | exact hk.2.2.2.2))))).2.1 (Kd.R_F (Kd.R_mono (ok' := (fun k_ => some k_ ≠ (.slice Ao49 t310.length co49 : Value).ownBlock ∧ some k_ ≠ (.slice Ao53 t314.length co53 : Value).ownBlock ∧ some k_ ≠ (.slice Ao60 t318.length co60 : Value).ownBlock ∧ some k_ ≠ (v329 : Value).ownBlock ∧ some k_ ≠ (.slice Ao31 t335.length co31 : Value).ownBlock ∧ some k_ ≠ (.slice Ao50 y340.length co50 : Value).ownBlock ∧ some k_ ≠ (.slice Ao54 y344.length co54 : Value).ownBlock ∧ some k_ ≠ (.slice Ao61 y351.length co61 : Value).ownBlock ∧ k_ ≠ gb339)) (Kd.R_types (Kd.R_apart' (Kd.R_apart' (Kd.R_apart' (Kd.R_apart' (HO360.out) (Kd.N_typed HO_7.out) (by decide)) (Kd.N_typed HO_11.out) (by decide)) (Kd.N_typed HO_340001.out) (by decide)) (Kd.N_typed HO353.out) (by decide)) BK339.out (by decide)) (fun k_ hk => by first | exact ⟨hk.1.1.1.1.1.1.1.1.1.2, ⟨hk.1.1.1.1.1.1.1.1.2, ⟨hk.1.1.1.1.2, ⟨hk.1.1.1.2, ⟨hk.1.1.2, ⟨hk.1.1.1.1.1.1.1.2, ⟨hk.1.1.1.1.1.1.2, ⟨hk.1.2, hk.2⟩⟩⟩⟩⟩⟩⟩⟩ | ((repeat' apply And.intro) <;> (first | exact hk | exact hk.1 | exact hk.2 | exact hk.1.1 | exact hk.1.2 | exact hk.2.1 | exact hk.2.2 | exact hk.1.1.1 | exact hk.1.1.2 | exact hk.1.2.1 | exact hk.1.2.2 | exact hk.2.1.1 | exact hk.2.1.2 | exact hk.2.2.1 | exact hk.2.2.2 | exact hk.1.1.1.1 | exact hk.1.1.1.2 | exact hk.2.2.2.1 | exact hk.2.2.2.2))))))) (Reps.none _ _)))); intro v362 w68 ho69 hb hg_ hnew_; clear hg_ hnew_; (first | rw [← Ny361.out] at ho69 | (simp only [Int.reduceToNat] at ho69; rw [← Ny361.out] at ho69)); replace HO_1 := aM (Kd.V_elder' (zV HO_1) (Kd.N_base ho69) hb); replace HO_3 := aM (Kd.R_below (zR HO_3) hb); replace HO_5 := aM (Kd.R_below (zR HO_5) hb); replace HO_7 := aM (Kd.N_elder' (zN HO_7) (Kd.N_base ho69) hb); replace HO_11 := aM (Kd.N_elder' (zN HO_11) (Kd.N_base ho69) hb); replace HO_340001 := aM (Kd.N_elder' (zN HO_340001) (Kd.N_base ho69) hb); replace HO342 := aM (Kd.R_below (zR HO342) hb); replace HO346 := aM (Kd.R_below (zR HO346) hb); replace HO353 := aM (Kd.N_elder' (zN HO353) (Kd.N_base ho69) hb); have HO363 := aM (Kd.N_lower ho69 (below_size zz45)); replace BK339 := aM (blk_below (g := gb339) (o := .cells #[.int .i64 t334, .slice Ao31 t335.length co31] 46 (0, 0)) (zB BK339) hb); replace HB := aM (below_step zz45 hb); clear HO357 HO360; clear hb ho69; obtain ⟨Ao70, co70, eo70⟩ := Kd.N_slice HO_11.out; subst eo70; obtain ⟨Ao71, co71, eo71⟩ := Kd.N_slice HO363.out; subst eo71) | (go_at_call 24; (with_reducible refine (r09_SameRows.calls kj6 _ _ t327 _ _ y361 t364 _ ?side1 ?side2 ?side3 ?side4 A46.out).mono ?_); (case side1 => repeat (first | exact (Kd.N_reads' HO_11.out).2.2 | (with_reducible refine Kd.C_alloc ?_ _) | (with_reducible refine Kd.C_drewN ?_ _) | (with_reducible refine Kd.C_drew ?_))); (case side2 => exact (Kd.N_reads' HO_11.out).2.1); (case side3 => repeat (first | exact (Kd.N_reads' HO363.out).2.2 | (with_reducible refine Kd.C_alloc ?_ _) | (with_reducible refine Kd.C_drewN ?_ _) | (with_reducible refine Kd.C_drew ?_))); (case side4 => exact (Kd.N_reads' HO363.out).2.1); rintro e w' ⟨rfl, ⟨nd, rfl⟩⟩))
              go_meet
              case rel => exact ⟨_, (!t364), zz77, H', ⟨(by have := HJ6.out; first | omega | exact Nat.le_refl _)⟩, ⟨(by (with_reducible repeat (first | apply Kd.V_alloc | apply Kd.V_drewN | apply Kd.V_drew)); exact Kd.V_mono HO_1.out (fun _ hk => by first | exact ⟨hk.1.1.1.1.1.1.1.2.2.2.2.1, hk.1.1.1.1.1.1.1.2.2.2.2.2⟩ | ((repeat' apply And.intro) <;> (first | exact hk | exact hk.1 | exact hk.2 | exact hk.1.1 | exact hk.1.2 | exact hk.2.1 | exact hk.2.2 | exact hk.1.1.1 | exact hk.1.1.2 | exact hk.1.2.1 | exact hk.1.2.2 | exact hk.2.1.1 | exact hk.2.1.2 | exact hk.2.2.1 | exact hk.2.2.2 | exact hk.1.1.1.1 | exact hk.1.1.1.2 | exact hk.2.2.2.1 | exact hk.2.2.2.2))))⟩, ⟨(by (with_reducible repeat (first | apply Kd.N_alloc | apply Kd.N_drewN | apply Kd.N_drew)); exact Kd.N_mono HO_340001.out (fun _ hk => by first | exact hk.1.1.1.1.1.1.1.2.2.2.2 | ((repeat' apply And.intro) <;> (first | exact hk | exact hk.1 | exact hk.2 | exact hk.1.1 | exact hk.1.2 | exact hk.2.1 | exact hk.2.2 | exact hk.1.1.1 | exact hk.1.1.2 | exact hk.1.2.1 | exact hk.1.2.2 | exact hk.2.1.1 | exact hk.2.1.2 | exact hk.2.2.1 | exact hk.2.2.2 | exact hk.1.1.1.1 | exact hk.1.1.1.2 | exact hk.2.2.2.1 | exact hk.2.2.2.2))))⟩, ⟨(zB BK339)⟩, ⟨zz45⟩⟩
            replace c45 := Bool.eq_false_iff.mpr c45; subst c45; have H1 : (l30_awakeW.j1 kj6 y301 true t334 t335) = some r := by rw [if_neg (show ¬ (false = true) by decide)] at H; exact H
            clear H; have H := H1; clear H1
            exact absurd (H.trans (congrArg some HR_.out)) zz80
          replace c43 := Bool.eq_false_iff.mpr c43; subst c43; have H1 : (l30_awakeW.j1 kj6 y301 true t334 t335) = some r := by rw [if_neg (show ¬ (false = true) by decide)] at H; exact H
          clear H; have H := H1; clear H1
          exact absurd (H.trans (congrArg some HR_.out)) zz80
        replace c41 := Bool.eq_false_iff.mpr c41; subst c41; have H1 : (l30_awakeW.j1 kj6 y301 true t334 t335) = some r := by rw [if_neg (show ¬ (false = true) by decide)] at H; exact H
        clear H; have H := H1; clear H1
        exact absurd (H.trans (congrArg some HR_.out)) zz80
      case rest =>
        clear HC39; (try clear c1); (try clear c2); (try clear p2); (try clear c3); (try clear c4); (try clear c12); (try clear c13); (try clear c15); (try clear c18); (try clear c20); (try clear c22); (try clear c28); (try clear c30); (try clear c32); (try clear c32b0); (try clear c32b1); (try clear c33); (try clear c33b0); (try clear c33b1); (try clear c34); (try clear c34b0); (try clear c34b1); (try clear c35); (try clear c35b0); (try clear c35b1); (try clear c36); (try clear c36b0); (try clear c36b1); (try clear c37); (try clear c37b0); (try clear c37b1); (try clear c38); (try clear c41); (try clear c43); (try clear c45); (try clear hcz30_0); (try clear hcz30_1); (try clear hfz30_0); (try clear hfz30_1); (try clear p2); obtain ⟨kq, x108_38, rfl, HA, HJ38, HO_1, HO_340001, BK339, HB⟩ := hcut
        cases kq with
        | zero => exact absurd HA.out (by simp [l30_awakeW.j1])
        | succ kj38 =>
          have H := HA.out; clear HA; simp only [l30_awakeW.j1] at H
          by_cases c99 : x108_38 = true
          · subst c99; have H1 : (some false) = some r := by rw [if_pos rfl] at H; exact H
            clear H; have H := H1; clear H1
            exact absurd (Option.some.inj (H.trans (congrArg some HR_.out))) (by decide)
          replace c99 := Bool.eq_false_iff.mpr c99; subst c99; have H1 : ((perm_Size.f kj38 t334 t335).bind fun bt396 => ((perm_Sift.f kj38 t334 t335 (([0, 1, 3, 2] : List Int))).bind fun bt403 => ((perm_Has.f kj38 t334 t335 y301).bind fun bt408 => ((r30_Same.f kj38 t334 t335 4 (([(⟨0, (([0, 1, 2] : List Int)), (([(([0, 1, 2, 3] : List Int)), (([1, 0, 2, 3] : List Int)), (([2, 0, 1, 3] : List Int))] : List (List Int)))⟩ : S74), (⟨1, (([1, 2] : List Int)), (([(([0, 1, 2, 3] : List Int)), (([0, 2, 1, 3] : List Int))] : List (List Int)))⟩ : S74)] : List (S74)))).bind fun t410 => (if t410 = true then (if bt396.2 = 0 then (if bt403.2.2 = 0 then (if bt408.2 = 0 then ((r01_Cmp.f kj38 bt396.1 (([6] : List Int))).bind fun t414 => (if t414 = 0 then ((r09_SameInts.f kj38 bt403.1 (([0, 1, 3, 2] : List Int))).bind fun t418 => (if t418 = true then (if bt403.2.1 = 2 then (if bt408.1 = true then ((perm_CheckChain.f kj38 t334 t335).bind fun t419 => (if t419 = 0 then ((perm_Check.f (([0, 0] : List Int))).bind fun t423 => (some (t423 == 18))) else (some false))) else (some false)) else (some false)) else (some false))) else (some false))) else (some false)) else (some false)) else (some false)) else (some false)))))) = some r := by rw [if_neg (show ¬ (false = true) by decide)] at H; exact H
          clear H; have H := H1; clear H1; obtain ⟨y365, hy365⟩ : ∃ y_ : List Int, y_ = (([0, 1, 2] : List Int)) := ⟨_, rfl⟩; replace H : ((perm_Size.f kj38 t334 t335).bind fun bt396 => ((perm_Sift.f kj38 t334 t335 (([0, 1, 3, 2] : List Int))).bind fun bt403 => ((perm_Has.f kj38 t334 t335 y301).bind fun bt408 => ((r30_Same.f kj38 t334 t335 4 (([(⟨0, y365, (([(([0, 1, 2, 3] : List Int)), (([1, 0, 2, 3] : List Int)), (([2, 0, 1, 3] : List Int))] : List (List Int)))⟩ : S74), (⟨1, (([1, 2] : List Int)), (([(([0, 1, 2, 3] : List Int)), (([0, 2, 1, 3] : List Int))] : List (List Int)))⟩ : S74)] : List (S74)))).bind fun t410 => (if t410 = true then (if bt396.2 = 0 then (if bt403.2.2 = 0 then (if bt408.2 = 0 then ((r01_Cmp.f kj38 bt396.1 (([6] : List Int))).bind fun t414 => (if t414 = 0 then ((r09_SameInts.f kj38 bt403.1 (([0, 1, 3, 2] : List Int))).bind fun t418 => (if t418 = true then (if bt403.2.1 = 2 then (if bt408.1 = true then ((perm_CheckChain.f kj38 t334 t335).bind fun t419 => (if t419 = 0 then ((perm_Check.f (([0, 0] : List Int))).bind fun t423 => (some (t423 == 18))) else (some false))) else (some false)) else (some false)) else (some false))) else (some false))) else (some false)) else (some false)) else (some false)) else (some false)))))) = some r := by first | (rw [hy365]; with_reducible exact H) | (have H2_ := (Option.bind_some _ _).symm.trans H; rw [hy365]; with_reducible exact H2_) | (have H2_ := (Option.bind_some _ _).symm.trans H; with_reducible exact H2_) | with_reducible exact H | (rw [hy365]; exact H) | exact H
          have Ny365 := aM hy365; clear hy365; obtain ⟨y368, hy368⟩ : ∃ y_ : List Int, y_ = (([0, 1, 2, 3] : List Int)) := ⟨_, rfl⟩; replace H : ((perm_Size.f kj38 t334 t335).bind fun bt396 => ((perm_Sift.f kj38 t334 t335 (([0, 1, 3, 2] : List Int))).bind fun bt403 => ((perm_Has.f kj38 t334 t335 y301).bind fun bt408 => ((r30_Same.f kj38 t334 t335 4 (([(⟨0, y365, (([y368, (([1, 0, 2, 3] : List Int)), (([2, 0, 1, 3] : List Int))] : List (List Int)))⟩ : S74), (⟨1, (([1, 2] : List Int)), (([(([0, 1, 2, 3] : List Int)), (([0, 2, 1, 3] : List Int))] : List (List Int)))⟩ : S74)] : List (S74)))).bind fun t410 => (if t410 = true then (if bt396.2 = 0 then (if bt403.2.2 = 0 then (if bt408.2 = 0 then ((r01_Cmp.f kj38 bt396.1 (([6] : List Int))).bind fun t414 => (if t414 = 0 then ((r09_SameInts.f kj38 bt403.1 (([0, 1, 3, 2] : List Int))).bind fun t418 => (if t418 = true then (if bt403.2.1 = 2 then (if bt408.1 = true then ((perm_CheckChain.f kj38 t334 t335).bind fun t419 => (if t419 = 0 then ((perm_Check.f (([0, 0] : List Int))).bind fun t423 => (some (t423 == 18))) else (some false))) else (some false)) else (some false)) else (some false))) else (some false))) else (some false)) else (some false)) else (some false)) else (some false)))))) = some r := by first | (rw [hy368]; with_reducible exact H) | (have H2_ := (Option.bind_some _ _).symm.trans H; rw [hy368]; with_reducible exact H2_) | (have H2_ := (Option.bind_some _ _).symm.trans H; with_reducible exact H2_) | with_reducible exact H | (rw [hy368]; exact H) | exact H
          have Ny368 := aM hy368; clear hy368; obtain ⟨y371, hy371⟩ : ∃ y_ : List Int, y_ = (([1, 0, 2, 3] : List Int)) := ⟨_, rfl⟩; replace H : ((perm_Size.f kj38 t334 t335).bind fun bt396 => ((perm_Sift.f kj38 t334 t335 (([0, 1, 3, 2] : List Int))).bind fun bt403 => ((perm_Has.f kj38 t334 t335 y301).bind fun bt408 => ((r30_Same.f kj38 t334 t335 4 (([(⟨0, y365, (([y368, y371, (([2, 0, 1, 3] : List Int))] : List (List Int)))⟩ : S74), (⟨1, (([1, 2] : List Int)), (([(([0, 1, 2, 3] : List Int)), (([0, 2, 1, 3] : List Int))] : List (List Int)))⟩ : S74)] : List (S74)))).bind fun t410 => (if t410 = true then (if bt396.2 = 0 then (if bt403.2.2 = 0 then (if bt408.2 = 0 then ((r01_Cmp.f kj38 bt396.1 (([6] : List Int))).bind fun t414 => (if t414 = 0 then ((r09_SameInts.f kj38 bt403.1 (([0, 1, 3, 2] : List Int))).bind fun t418 => (if t418 = true then (if bt403.2.1 = 2 then (if bt408.1 = true then ((perm_CheckChain.f kj38 t334 t335).bind fun t419 => (if t419 = 0 then ((perm_Check.f (([0, 0] : List Int))).bind fun t423 => (some (t423 == 18))) else (some false))) else (some false)) else (some false)) else (some false))) else (some false))) else (some false)) else (some false)) else (some false)) else (some false)))))) = some r := by first | (rw [hy371]; with_reducible exact H) | (have H2_ := (Option.bind_some _ _).symm.trans H; rw [hy371]; with_reducible exact H2_) | (have H2_ := (Option.bind_some _ _).symm.trans H; with_reducible exact H2_) | with_reducible exact H | (rw [hy371]; exact H) | exact H
          have Ny371 := aM hy371; clear hy371; obtain ⟨y374, hy374⟩ : ∃ y_ : List Int, y_ = (([2, 0, 1, 3] : List Int)) := ⟨_, rfl⟩; replace H : ((perm_Size.f kj38 t334 t335).bind fun bt396 => ((perm_Sift.f kj38 t334 t335 (([0, 1, 3, 2] : List Int))).bind fun bt403 => ((perm_Has.f kj38 t334 t335 y301).bind fun bt408 => ((r30_Same.f kj38 t334 t335 4 (([(⟨0, y365, (([y368, y371, y374] : List (List Int)))⟩ : S74), (⟨1, (([1, 2] : List Int)), (([(([0, 1, 2, 3] : List Int)), (([0, 2, 1, 3] : List Int))] : List (List Int)))⟩ : S74)] : List (S74)))).bind fun t410 => (if t410 = true then (if bt396.2 = 0 then (if bt403.2.2 = 0 then (if bt408.2 = 0 then ((r01_Cmp.f kj38 bt396.1 (([6] : List Int))).bind fun t414 => (if t414 = 0 then ((r09_SameInts.f kj38 bt403.1 (([0, 1, 3, 2] : List Int))).bind fun t418 => (if t418 = true then (if bt403.2.1 = 2 then (if bt408.1 = true then ((perm_CheckChain.f kj38 t334 t335).bind fun t419 => (if t419 = 0 then ((perm_Check.f (([0, 0] : List Int))).bind fun t423 => (some (t423 == 18))) else (some false))) else (some false)) else (some false)) else (some false))) else (some false))) else (some false)) else (some false)) else (some false)) else (some false)))))) = some r := by first | (rw [hy374]; with_reducible exact H) | (have H2_ := (Option.bind_some _ _).symm.trans H; rw [hy374]; with_reducible exact H2_) | (have H2_ := (Option.bind_some _ _).symm.trans H; with_reducible exact H2_) | with_reducible exact H | (rw [hy374]; exact H) | exact H
          have Ny374 := aM hy374; clear hy374; obtain ⟨y377, hy377⟩ : ∃ y_ : List (List Int), y_ = (([y368, y371, y374] : List (List Int))) := ⟨_, rfl⟩; replace H : ((perm_Size.f kj38 t334 t335).bind fun bt396 => ((perm_Sift.f kj38 t334 t335 (([0, 1, 3, 2] : List Int))).bind fun bt403 => ((perm_Has.f kj38 t334 t335 y301).bind fun bt408 => ((r30_Same.f kj38 t334 t335 4 (([(⟨0, y365, y377⟩ : S74), (⟨1, (([1, 2] : List Int)), (([(([0, 1, 2, 3] : List Int)), (([0, 2, 1, 3] : List Int))] : List (List Int)))⟩ : S74)] : List (S74)))).bind fun t410 => (if t410 = true then (if bt396.2 = 0 then (if bt403.2.2 = 0 then (if bt408.2 = 0 then ((r01_Cmp.f kj38 bt396.1 (([6] : List Int))).bind fun t414 => (if t414 = 0 then ((r09_SameInts.f kj38 bt403.1 (([0, 1, 3, 2] : List Int))).bind fun t418 => (if t418 = true then (if bt403.2.1 = 2 then (if bt408.1 = true then ((perm_CheckChain.f kj38 t334 t335).bind fun t419 => (if t419 = 0 then ((perm_Check.f (([0, 0] : List Int))).bind fun t423 => (some (t423 == 18))) else (some false))) else (some false)) else (some false)) else (some false))) else (some false))) else (some false)) else (some false)) else (some false)) else (some false)))))) = some r := by first | (rw [hy377]; with_reducible exact H) | (have H2_ := (Option.bind_some _ _).symm.trans H; rw [hy377]; with_reducible exact H2_) | (have H2_ := (Option.bind_some _ _).symm.trans H; with_reducible exact H2_) | with_reducible exact H | (rw [hy377]; exact H) | exact H
          have Ny377 := aM hy377; clear hy377; obtain ⟨y380, hy380⟩ : ∃ y_ : List Int, y_ = (([1, 2] : List Int)) := ⟨_, rfl⟩; replace H : ((perm_Size.f kj38 t334 t335).bind fun bt396 => ((perm_Sift.f kj38 t334 t335 (([0, 1, 3, 2] : List Int))).bind fun bt403 => ((perm_Has.f kj38 t334 t335 y301).bind fun bt408 => ((r30_Same.f kj38 t334 t335 4 (([(⟨0, y365, y377⟩ : S74), (⟨1, y380, (([(([0, 1, 2, 3] : List Int)), (([0, 2, 1, 3] : List Int))] : List (List Int)))⟩ : S74)] : List (S74)))).bind fun t410 => (if t410 = true then (if bt396.2 = 0 then (if bt403.2.2 = 0 then (if bt408.2 = 0 then ((r01_Cmp.f kj38 bt396.1 (([6] : List Int))).bind fun t414 => (if t414 = 0 then ((r09_SameInts.f kj38 bt403.1 (([0, 1, 3, 2] : List Int))).bind fun t418 => (if t418 = true then (if bt403.2.1 = 2 then (if bt408.1 = true then ((perm_CheckChain.f kj38 t334 t335).bind fun t419 => (if t419 = 0 then ((perm_Check.f (([0, 0] : List Int))).bind fun t423 => (some (t423 == 18))) else (some false))) else (some false)) else (some false)) else (some false))) else (some false))) else (some false)) else (some false)) else (some false)) else (some false)))))) = some r := by first | (rw [hy380]; with_reducible exact H) | (have H2_ := (Option.bind_some _ _).symm.trans H; rw [hy380]; with_reducible exact H2_) | (have H2_ := (Option.bind_some _ _).symm.trans H; with_reducible exact H2_) | with_reducible exact H | (rw [hy380]; exact H) | exact H
          have Ny380 := aM hy380; clear hy380; obtain ⟨y383, hy383⟩ : ∃ y_ : List Int, y_ = (([0, 1, 2, 3] : List Int)) := ⟨_, rfl⟩; replace H : ((perm_Size.f kj38 t334 t335).bind fun bt396 => ((perm_Sift.f kj38 t334 t335 (([0, 1, 3, 2] : List Int))).bind fun bt403 => ((perm_Has.f kj38 t334 t335 y301).bind fun bt408 => ((r30_Same.f kj38 t334 t335 4 (([(⟨0, y365, y377⟩ : S74), (⟨1, y380, (([y383, (([0, 2, 1, 3] : List Int))] : List (List Int)))⟩ : S74)] : List (S74)))).bind fun t410 => (if t410 = true then (if bt396.2 = 0 then (if bt403.2.2 = 0 then (if bt408.2 = 0 then ((r01_Cmp.f kj38 bt396.1 (([6] : List Int))).bind fun t414 => (if t414 = 0 then ((r09_SameInts.f kj38 bt403.1 (([0, 1, 3, 2] : List Int))).bind fun t418 => (if t418 = true then (if bt403.2.1 = 2 then (if bt408.1 = true then ((perm_CheckChain.f kj38 t334 t335).bind fun t419 => (if t419 = 0 then ((perm_Check.f (([0, 0] : List Int))).bind fun t423 => (some (t423 == 18))) else (some false))) else (some false)) else (some false)) else (some false))) else (some false))) else (some false)) else (some false)) else (some false)) else (some false)))))) = some r := by first | (rw [hy383]; with_reducible exact H) | (have H2_ := (Option.bind_some _ _).symm.trans H; rw [hy383]; with_reducible exact H2_) | (have H2_ := (Option.bind_some _ _).symm.trans H; with_reducible exact H2_) | with_reducible exact H | (rw [hy383]; exact H) | exact H
          have Ny383 := aM hy383; clear hy383; obtain ⟨y386, hy386⟩ : ∃ y_ : List Int, y_ = (([0, 2, 1, 3] : List Int)) := ⟨_, rfl⟩; replace H : ((perm_Size.f kj38 t334 t335).bind fun bt396 => ((perm_Sift.f kj38 t334 t335 (([0, 1, 3, 2] : List Int))).bind fun bt403 => ((perm_Has.f kj38 t334 t335 y301).bind fun bt408 => ((r30_Same.f kj38 t334 t335 4 (([(⟨0, y365, y377⟩ : S74), (⟨1, y380, (([y383, y386] : List (List Int)))⟩ : S74)] : List (S74)))).bind fun t410 => (if t410 = true then (if bt396.2 = 0 then (if bt403.2.2 = 0 then (if bt408.2 = 0 then ((r01_Cmp.f kj38 bt396.1 (([6] : List Int))).bind fun t414 => (if t414 = 0 then ((r09_SameInts.f kj38 bt403.1 (([0, 1, 3, 2] : List Int))).bind fun t418 => (if t418 = true then (if bt403.2.1 = 2 then (if bt408.1 = true then ((perm_CheckChain.f kj38 t334 t335).bind fun t419 => (if t419 = 0 then ((perm_Check.f (([0, 0] : List Int))).bind fun t423 => (some (t423 == 18))) else (some false))) else (some false)) else (some false)) else (some false))) else (some false))) else (some false)) else (some false)) else (some false)) else (some false)))))) = some r := by first | (rw [hy386]; with_reducible exact H) | (have H2_ := (Option.bind_some _ _).symm.trans H; rw [hy386]; with_reducible exact H2_) | (have H2_ := (Option.bind_some _ _).symm.trans H; with_reducible exact H2_) | with_reducible exact H | (rw [hy386]; exact H) | exact H
          have Ny386 := aM hy386; clear hy386; obtain ⟨y389, hy389⟩ : ∃ y_ : List (List Int), y_ = (([y383, y386] : List (List Int))) := ⟨_, rfl⟩; replace H : ((perm_Size.f kj38 t334 t335).bind fun bt396 => ((perm_Sift.f kj38 t334 t335 (([0, 1, 3, 2] : List Int))).bind fun bt403 => ((perm_Has.f kj38 t334 t335 y301).bind fun bt408 => ((r30_Same.f kj38 t334 t335 4 (([(⟨0, y365, y377⟩ : S74), (⟨1, y380, y389⟩ : S74)] : List (S74)))).bind fun t410 => (if t410 = true then (if bt396.2 = 0 then (if bt403.2.2 = 0 then (if bt408.2 = 0 then ((r01_Cmp.f kj38 bt396.1 (([6] : List Int))).bind fun t414 => (if t414 = 0 then ((r09_SameInts.f kj38 bt403.1 (([0, 1, 3, 2] : List Int))).bind fun t418 => (if t418 = true then (if bt403.2.1 = 2 then (if bt408.1 = true then ((perm_CheckChain.f kj38 t334 t335).bind fun t419 => (if t419 = 0 then ((perm_Check.f (([0, 0] : List Int))).bind fun t423 => (some (t423 == 18))) else (some false))) else (some false)) else (some false)) else (some false))) else (some false))) else (some false)) else (some false)) else (some false)) else (some false)))))) = some r := by first | (rw [hy389]; with_reducible exact H) | (have H2_ := (Option.bind_some _ _).symm.trans H; rw [hy389]; with_reducible exact H2_) | (have H2_ := (Option.bind_some _ _).symm.trans H; with_reducible exact H2_) | with_reducible exact H | (rw [hy389]; exact H) | exact H
          have Ny389 := aM hy389; clear hy389; obtain ⟨y392, hy392⟩ : ∃ y_ : List (S74), y_ = (([(⟨0, y365, y377⟩ : S74), (⟨1, y380, y389⟩ : S74)] : List (S74))) := ⟨_, rfl⟩; replace H : ((perm_Size.f kj38 t334 t335).bind fun bt396 => ((perm_Sift.f kj38 t334 t335 (([0, 1, 3, 2] : List Int))).bind fun bt403 => ((perm_Has.f kj38 t334 t335 y301).bind fun bt408 => ((r30_Same.f kj38 t334 t335 4 y392).bind fun t410 => (if t410 = true then (if bt396.2 = 0 then (if bt403.2.2 = 0 then (if bt408.2 = 0 then ((r01_Cmp.f kj38 bt396.1 (([6] : List Int))).bind fun t414 => (if t414 = 0 then ((r09_SameInts.f kj38 bt403.1 (([0, 1, 3, 2] : List Int))).bind fun t418 => (if t418 = true then (if bt403.2.1 = 2 then (if bt408.1 = true then ((perm_CheckChain.f kj38 t334 t335).bind fun t419 => (if t419 = 0 then ((perm_Check.f (([0, 0] : List Int))).bind fun t423 => (some (t423 == 18))) else (some false))) else (some false)) else (some false)) else (some false))) else (some false))) else (some false)) else (some false)) else (some false)) else (some false)))))) = some r := by first | (rw [hy392]; with_reducible exact H) | (have H2_ := (Option.bind_some _ _).symm.trans H; rw [hy392]; with_reducible exact H2_) | (have H2_ := (Option.bind_some _ _).symm.trans H; with_reducible exact H2_) | with_reducible exact H | (rw [hy392]; exact H) | exact H
          have Ny392 := aM hy392; clear hy392; replace H := Option.bind_eq_some_iff.mp H; obtain ⟨⟨t396, t399⟩, A1000, H⟩ := H; replace H : ((perm_Sift.f kj38 t334 t335 (([0, 1, 3, 2] : List Int))).bind fun bt403 => ((perm_Has.f kj38 t334 t335 y301).bind fun bt408 => ((r30_Same.f kj38 t334 t335 4 y392).bind fun t410 => (if t410 = true then (if t399 = 0 then (if bt403.2.2 = 0 then (if bt408.2 = 0 then ((r01_Cmp.f kj38 t396 (([6] : List Int))).bind fun t414 => (if t414 = 0 then ((r09_SameInts.f kj38 bt403.1 (([0, 1, 3, 2] : List Int))).bind fun t418 => (if t418 = true then (if bt403.2.1 = 2 then (if bt408.1 = true then ((perm_CheckChain.f kj38 t334 t335).bind fun t419 => (if t419 = 0 then ((perm_Check.f (([0, 0] : List Int))).bind fun t423 => (some (t423 == 18))) else (some false))) else (some false)) else (some false)) else (some false))) else (some false))) else (some false)) else (some false)) else (some false)) else (some false))))) = some r := H; have A100 := aM A1000; clear A1000; obtain ⟨y400, hy400⟩ : ∃ y_ : List Int, y_ = (([0, 1, 3, 2] : List Int)) := ⟨_, rfl⟩; replace H : ((perm_Sift.f kj38 t334 t335 y400).bind fun bt403 => ((perm_Has.f kj38 t334 t335 y301).bind fun bt408 => ((r30_Same.f kj38 t334 t335 4 y392).bind fun t410 => (if t410 = true then (if t399 = 0 then (if bt403.2.2 = 0 then (if bt408.2 = 0 then ((r01_Cmp.f kj38 t396 (([6] : List Int))).bind fun t414 => (if t414 = 0 then ((r09_SameInts.f kj38 bt403.1 (([0, 1, 3, 2] : List Int))).bind fun t418 => (if t418 = true then (if bt403.2.1 = 2 then (if bt408.1 = true then ((perm_CheckChain.f kj38 t334 t335).bind fun t419 => (if t419 = 0 then ((perm_Check.f (([0, 0] : List Int))).bind fun t423 => (some (t423 == 18))) else (some false))) else (some false)) else (some false)) else (some false))) else (some false))) else (some false)) else (some false)) else (some false)) else (some false))))) = some r := by first | (rw [hy400]; with_reducible exact H) | (have H2_ := (Option.bind_some _ _).symm.trans H; rw [hy400]; with_reducible exact H2_) | (have H2_ := (Option.bind_some _ _).symm.trans H; with_reducible exact H2_) | with_reducible exact H | (rw [hy400]; exact H) | exact H
          have Ny400 := aM hy400; clear hy400; replace H := Option.bind_eq_some_iff.mp H; obtain ⟨⟨t403, t406, t407⟩, A1010, H⟩ := H; replace H : ((perm_Has.f kj38 t334 t335 y301).bind fun bt408 => ((r30_Same.f kj38 t334 t335 4 y392).bind fun t410 => (if t410 = true then (if t399 = 0 then (if t407 = 0 then (if bt408.2 = 0 then ((r01_Cmp.f kj38 t396 (([6] : List Int))).bind fun t414 => (if t414 = 0 then ((r09_SameInts.f kj38 t403 (([0, 1, 3, 2] : List Int))).bind fun t418 => (if t418 = true then (if t406 = 2 then (if bt408.1 = true then ((perm_CheckChain.f kj38 t334 t335).bind fun t419 => (if t419 = 0 then ((perm_Check.f (([0, 0] : List Int))).bind fun t423 => (some (t423 == 18))) else (some false))) else (some false)) else (some false)) else (some false))) else (some false))) else (some false)) else (some false)) else (some false)) else (some false)))) = some r := H; have A101 := aM A1010; clear A1010; replace H := Option.bind_eq_some_iff.mp H; obtain ⟨⟨t408, t409⟩, A1020, H⟩ := H; replace H : ((r30_Same.f kj38 t334 t335 4 y392).bind fun t410 => (if t410 = true then (if t399 = 0 then (if t407 = 0 then (if t409 = 0 then ((r01_Cmp.f kj38 t396 (([6] : List Int))).bind fun t414 => (if t414 = 0 then ((r09_SameInts.f kj38 t403 (([0, 1, 3, 2] : List Int))).bind fun t418 => (if t418 = true then (if t406 = 2 then (if t408 = true then ((perm_CheckChain.f kj38 t334 t335).bind fun t419 => (if t419 = 0 then ((perm_Check.f (([0, 0] : List Int))).bind fun t423 => (some (t423 == 18))) else (some false))) else (some false)) else (some false)) else (some false))) else (some false))) else (some false)) else (some false)) else (some false)) else (some false))) = some r := H; have A102 := aM A1020; clear A1020; replace H := Option.bind_eq_some_iff.mp H; obtain ⟨t410, A1030, H⟩ := H; replace H : (if t410 = true then (if t399 = 0 then (if t407 = 0 then (if t409 = 0 then ((r01_Cmp.f kj38 t396 (([6] : List Int))).bind fun t414 => (if t414 = 0 then ((r09_SameInts.f kj38 t403 (([0, 1, 3, 2] : List Int))).bind fun t418 => (if t418 = true then (if t406 = 2 then (if t408 = true then ((perm_CheckChain.f kj38 t334 t335).bind fun t419 => (if t419 = 0 then ((perm_Check.f (([0, 0] : List Int))).bind fun t423 => (some (t423 == 18))) else (some false))) else (some false)) else (some false)) else (some false))) else (some false))) else (some false)) else (some false)) else (some false)) else (some false)) = some r := H; have A103 := aM A1030; clear A1030
          by_cases c104 : t410 = true
          · subst c104; have H1 : (if t399 = 0 then (if t407 = 0 then (if t409 = 0 then ((r01_Cmp.f kj38 t396 (([6] : List Int))).bind fun t414 => (if t414 = 0 then ((r09_SameInts.f kj38 t403 (([0, 1, 3, 2] : List Int))).bind fun t418 => (if t418 = true then (if t406 = 2 then (if t408 = true then ((perm_CheckChain.f kj38 t334 t335).bind fun t419 => (if t419 = 0 then ((perm_Check.f (([0, 0] : List Int))).bind fun t423 => (some (t423 == 18))) else (some false))) else (some false)) else (some false)) else (some false))) else (some false))) else (some false)) else (some false)) else (some false)) = some r := by rw [if_pos rfl] at H; exact H
            clear H; have H := H1; clear H1
            by_cases c105 : t399 = 0
            · rw [if_pos c105] at H; have c105b0 := beq_iff_eq.mpr c105; have c105b1 := bne_eq_false_iff_eq.mpr c105; clear c105
              by_cases c106 : t407 = 0
              · rw [if_pos c106] at H; have c106b0 := beq_iff_eq.mpr c106; have c106b1 := bne_eq_false_iff_eq.mpr c106; clear c106
                by_cases c107 : t409 = 0
                · rw [if_pos c107] at H; have c107b0 := beq_iff_eq.mpr c107; have c107b1 := bne_eq_false_iff_eq.mpr c107; clear c107; obtain ⟨y411, hy411⟩ : ∃ y_ : List Int, y_ = (([6] : List Int)) := ⟨_, rfl⟩; replace H : ((r01_Cmp.f kj38 t396 y411).bind fun t414 => (if t414 = 0 then ((r09_SameInts.f kj38 t403 (([0, 1, 3, 2] : List Int))).bind fun t418 => (if t418 = true then (if t406 = 2 then (if t408 = true then ((perm_CheckChain.f kj38 t334 t335).bind fun t419 => (if t419 = 0 then ((perm_Check.f (([0, 0] : List Int))).bind fun t423 => (some (t423 == 18))) else (some false))) else (some false)) else (some false)) else (some false))) else (some false))) = some r := by first | (rw [hy411]; with_reducible exact H) | (have H2_ := (Option.bind_some _ _).symm.trans H; rw [hy411]; with_reducible exact H2_) | (have H2_ := (Option.bind_some _ _).symm.trans H; with_reducible exact H2_) | with_reducible exact H | (rw [hy411]; exact H) | exact H
                  have Ny411 := aM hy411; clear hy411; replace H := Option.bind_eq_some_iff.mp H; obtain ⟨t414, A1080, H⟩ := H; replace H : (if t414 = 0 then ((r09_SameInts.f kj38 t403 (([0, 1, 3, 2] : List Int))).bind fun t418 => (if t418 = true then (if t406 = 2 then (if t408 = true then ((perm_CheckChain.f kj38 t334 t335).bind fun t419 => (if t419 = 0 then ((perm_Check.f (([0, 0] : List Int))).bind fun t423 => (some (t423 == 18))) else (some false))) else (some false)) else (some false)) else (some false))) else (some false)) = some r := H; have A108 := aM A1080; clear A1080
                  by_cases c109 : t414 = 0
                  · rw [if_pos c109] at H; have c109b0 := beq_iff_eq.mpr c109; have c109b1 := bne_eq_false_iff_eq.mpr c109; clear c109; obtain ⟨y415, hy415⟩ : ∃ y_ : List Int, y_ = (([0, 1, 3, 2] : List Int)) := ⟨_, rfl⟩; replace H : ((r09_SameInts.f kj38 t403 y415).bind fun t418 => (if t418 = true then (if t406 = 2 then (if t408 = true then ((perm_CheckChain.f kj38 t334 t335).bind fun t419 => (if t419 = 0 then ((perm_Check.f (([0, 0] : List Int))).bind fun t423 => (some (t423 == 18))) else (some false))) else (some false)) else (some false)) else (some false))) = some r := by first | (rw [hy415]; with_reducible exact H) | (have H2_ := (Option.bind_some _ _).symm.trans H; rw [hy415]; with_reducible exact H2_) | (have H2_ := (Option.bind_some _ _).symm.trans H; with_reducible exact H2_) | with_reducible exact H | (rw [hy415]; exact H) | exact H
                    have Ny415 := aM hy415; clear hy415; replace H := Option.bind_eq_some_iff.mp H; obtain ⟨t418, A1100, H⟩ := H; replace H : (if t418 = true then (if t406 = 2 then (if t408 = true then ((perm_CheckChain.f kj38 t334 t335).bind fun t419 => (if t419 = 0 then ((perm_Check.f (([0, 0] : List Int))).bind fun t423 => (some (t423 == 18))) else (some false))) else (some false)) else (some false)) else (some false)) = some r := H; have A110 := aM A1100; clear A1100
                    by_cases c111 : t418 = true
                    · subst c111; have H1 : (if t406 = 2 then (if t408 = true then ((perm_CheckChain.f kj38 t334 t335).bind fun t419 => (if t419 = 0 then ((perm_Check.f (([0, 0] : List Int))).bind fun t423 => (some (t423 == 18))) else (some false))) else (some false)) else (some false)) = some r := by rw [if_pos rfl] at H; exact H
                      clear H; have H := H1; clear H1
                      by_cases c112 : t406 = 2
                      · rw [if_pos c112] at H; have c112b0 := beq_iff_eq.mpr c112; have c112b1 := bne_eq_false_iff_eq.mpr c112; clear c112
                        by_cases c113 : t408 = true
                        · subst c113; have H1 : ((perm_CheckChain.f kj38 t334 t335).bind fun t419 => (if t419 = 0 then ((perm_Check.f (([0, 0] : List Int))).bind fun t423 => (some (t423 == 18))) else (some false))) = some r := by rw [if_pos rfl] at H; exact H
                          clear H; have H := H1; clear H1; replace H := Option.bind_eq_some_iff.mp H; obtain ⟨t419, A1140, H⟩ := H; replace H : (if t419 = 0 then ((perm_Check.f (([0, 0] : List Int))).bind fun t423 => (some (t423 == 18))) else (some false)) = some r := H; have A114 := aM A1140; clear A1140
                          by_cases c115 : t419 = 0
                          · rw [if_pos c115] at H; have c115b0 := beq_iff_eq.mpr c115; have c115b1 := bne_eq_false_iff_eq.mpr c115; clear c115; obtain ⟨y420, hy420⟩ : ∃ y_ : List Int, y_ = (([0, 0] : List Int)) := ⟨_, rfl⟩; replace H : ((perm_Check.f y420).bind fun t423 => (some (t423 == 18))) = some r := by first | (rw [hy420]; with_reducible exact H) | (have H2_ := (Option.bind_some _ _).symm.trans H; rw [hy420]; with_reducible exact H2_) | (have H2_ := (Option.bind_some _ _).symm.trans H; with_reducible exact H2_) | with_reducible exact H | (rw [hy420]; exact H) | exact H
                            have Ny420 := aM hy420; clear hy420; replace H := Option.bind_eq_some_iff.mp H; obtain ⟨t423, A1160, H⟩ := H; replace H : (some (t423 == 18)) = some r := H; have A116 := aM A1160; clear A1160; obtain rfl := Option.some.inj H
                            go_wp2_with (first | ((with_reducible refine gate_dst (N := 109) rfl ?_); (try (refine gate_guard (by rfl) ?_; dsimp only)); refine Kd.R_lit (Kd.int .i64) _ 3 ?hg (N := 109) ?hd (xs := ([0, 1, 2] : List Int)) (inner := [.int .i64 0, .int .i64 1, .int .i64 2]) (ok := fun _ => True) (okp := fun _ => True) ?hr ?hp (fun _ hk => hk) trivial (Below.refl _ _) (Nat.le_refl _) (by simp) ?_; (case hd => rfl); (case hg => rfl); (case hr => first | (go_simp; done) | (go_simp; rfl)); (case hp => exact (Reps.one (show Kd.M (Kd.int .i64) _ _ _ 0 [.int .i64 0] from rfl) (Reps.one (show Kd.M (Kd.int .i64) _ _ _ 1 [.int .i64 1] from rfl) (Reps.one (show Kd.M (Kd.int .i64) _ _ _ 2 [.int .i64 2] from rfl) (Reps.none _ _))))); intro v366 w117 ho118 hb hg_ hnew_; clear hg_ hnew_; (first | rw [← Ny365.out] at ho118 | (simp only [Int.reduceToNat] at ho118; rw [← Ny365.out] at ho118)); replace HO_1 := aM (Kd.V_elder' (zV HO_1) (Kd.R_base ho118) hb); replace HO_340001 := aM (Kd.N_elder' (zN HO_340001) (Kd.R_base ho118) hb); have HO367 := aM (Kd.R_lower ho118 (below_size zz45)); replace BK339 := aM (blk_below (g := gb339) (o := .cells #[.int .i64 t334, .slice Ao31 t335.length co31] 46 (0, 0)) (zB BK339) hb); replace HB := aM (below_step zz45 hb); clear hb ho118) | ((with_reducible refine gate_dst (N := 110) rfl ?_); (try (refine gate_guard (by rfl) ?_; dsimp only)); refine Kd.R_lit (Kd.int .i64) _ 3 ?hg (N := 110) ?hd (xs := ([0, 1, 2, 3] : List Int)) (inner := [.int .i64 0, .int .i64 1, .int .i64 2, .int .i64 3]) (ok := fun _ => True) (okp := fun _ => True) ?hr ?hp (fun _ hk => hk) trivial (Below.refl _ _) (Nat.le_refl _) (by simp) ?_; (case hd => rfl); (case hg => rfl); (case hr => first | (go_simp; done) | (go_simp; rfl)); (case hp => exact (Reps.one (show Kd.M (Kd.int .i64) _ _ _ 0 [.int .i64 0] from rfl) (Reps.one (show Kd.M (Kd.int .i64) _ _ _ 1 [.int .i64 1] from rfl) (Reps.one (show Kd.M (Kd.int .i64) _ _ _ 2 [.int .i64 2] from rfl) (Reps.one (show Kd.M (Kd.int .i64) _ _ _ 3 [.int .i64 3] from rfl) (Reps.none _ _)))))); intro v369 w119 ho120 hb hg_ hnew_; clear hg_ hnew_; (first | rw [← Ny368.out] at ho120 | (simp only [Int.reduceToNat] at ho120; rw [← Ny368.out] at ho120)); replace HO_1 := aM (Kd.V_elder' (zV HO_1) (Kd.R_base ho120) hb); replace HO_340001 := aM (Kd.N_elder' (zN HO_340001) (Kd.R_base ho120) hb); have HO370 := aM (Kd.R_lower (Kd.R_new' ho120 (Kd.R_lt (zR HO367))) (below_size zz45)); replace HO367 := aM (Kd.R_elder' (zR HO367) (Kd.R_base ho120) hb); replace BK339 := aM (blk_below (g := gb339) (o := .cells #[.int .i64 t334, .slice Ao31 t335.length co31] 46 (0, 0)) (zB BK339) hb); replace HB := aM (below_step zz45 hb); clear hb ho120) | ((with_reducible refine gate_dst (N := 111) rfl ?_); (try (refine gate_guard (by rfl) ?_; dsimp only)); refine Kd.R_lit (Kd.int .i64) _ 3 ?hg (N := 111) ?hd (xs := ([1, 0, 2, 3] : List Int)) (inner := [.int .i64 1, .int .i64 0, .int .i64 2, .int .i64 3]) (ok := fun _ => True) (okp := fun _ => True) ?hr ?hp (fun _ hk => hk) trivial (Below.refl _ _) (Nat.le_refl _) (by simp) ?_; (case hd => rfl); (case hg => rfl); (case hr => first | (go_simp; done) | (go_simp; rfl)); (case hp => exact (Reps.one (show Kd.M (Kd.int .i64) _ _ _ 1 [.int .i64 1] from rfl) (Reps.one (show Kd.M (Kd.int .i64) _ _ _ 0 [.int .i64 0] from rfl) (Reps.one (show Kd.M (Kd.int .i64) _ _ _ 2 [.int .i64 2] from rfl) (Reps.one (show Kd.M (Kd.int .i64) _ _ _ 3 [.int .i64 3] from rfl) (Reps.none _ _)))))); intro v372 w121 ho122 hb hg_ hnew_; clear hg_ hnew_; (first | rw [← Ny371.out] at ho122 | (simp only [Int.reduceToNat] at ho122; rw [← Ny371.out] at ho122)); replace HO_1 := aM (Kd.V_elder' (zV HO_1) (Kd.R_base ho122) hb); replace HO_340001 := aM (Kd.N_elder' (zN HO_340001) (Kd.R_base ho122) hb); have HO373 := aM (Kd.R_lower (Kd.R_new' (Kd.R_new' ho122 (Kd.R_lt (zR HO367))) (Kd.R_lt (zR HO370))) (below_size zz45)); replace HO367 := aM (Kd.R_elder' (zR HO367) (Kd.R_base ho122) hb); replace HO370 := aM (Kd.R_elder' (zR HO370) (Kd.R_base ho122) hb); replace BK339 := aM (blk_below (g := gb339) (o := .cells #[.int .i64 t334, .slice Ao31 t335.length co31] 46 (0, 0)) (zB BK339) hb); replace HB := aM (below_step zz45 hb); clear hb ho122) | ((with_reducible refine gate_dst (N := 112) rfl ?_); (try (refine gate_guard (by rfl) ?_; dsimp only)); refine Kd.R_lit (Kd.int .i64) _ 3 ?hg (N := 112) ?hd (xs := ([2, 0, 1, 3] : List Int)) (inner := [.int .i64 2, .int .i64 0, .int .i64 1, .int .i64 3]) (ok := fun _ => True) (okp := fun _ => True) ?hr ?hp (fun _ hk => hk) trivial (Below.refl _ _) (Nat.le_refl _) (by simp) ?_; (case hd => rfl); (case hg => rfl); (case hr => first | (go_simp; done) | (go_simp; rfl)); (case hp => exact (Reps.one (show Kd.M (Kd.int .i64) _ _ _ 2 [.int .i64 2] from rfl) (Reps.one (show Kd.M (Kd.int .i64) _ _ _ 0 [.int .i64 0] from rfl) (Reps.one (show Kd.M (Kd.int .i64) _ _ _ 1 [.int .i64 1] from rfl) (Reps.one (show Kd.M (Kd.int .i64) _ _ _ 3 [.int .i64 3] from rfl) (Reps.none _ _)))))); intro v375 w123 ho124 hb hg_ hnew_; clear hg_ hnew_; (first | rw [← Ny374.out] at ho124 | (simp only [Int.reduceToNat] at ho124; rw [← Ny374.out] at ho124)); replace HO_1 := aM (Kd.V_elder' (zV HO_1) (Kd.R_base ho124) hb); replace HO_340001 := aM (Kd.N_elder' (zN HO_340001) (Kd.R_base ho124) hb); have HO376 := aM (Kd.R_lower (Kd.R_new' (Kd.R_new' (Kd.R_new' ho124 (Kd.R_lt (zR HO367))) (Kd.R_lt (zR HO370))) (Kd.R_lt (zR HO373))) (below_size zz45)); replace HO367 := aM (Kd.R_elder' (zR HO367) (Kd.R_base ho124) hb); replace HO370 := aM (Kd.R_elder' (zR HO370) (Kd.R_base ho124) hb); replace HO373 := aM (Kd.R_elder' (zR HO373) (Kd.R_base ho124) hb); replace BK339 := aM (blk_below (g := gb339) (o := .cells #[.int .i64 t334, .slice Ao31 t335.length co31] 46 (0, 0)) (zB BK339) hb); replace HB := aM (below_step zz45 hb); clear hb ho124; obtain ⟨Ao125, co125, eo125⟩ := Kd.R_slice HO370.out; subst eo125; obtain ⟨Ao126, co126, eo126⟩ := Kd.R_slice HO373.out; subst eo126; obtain ⟨Ao127, co127, eo127⟩ := Kd.R_slice HO376.out; subst eo127) | ((with_reducible refine gate_dst (N := 113) rfl ?_); (try (refine gate_guard (by rfl) ?_; dsimp only)); refine Kd.N_lit (Kd.slice 3 (Kd.int .i64)) _ 22 ?hg (N' := 113) ?hd (xs := ([y368, y371, y374] : List (List Int))) (inner := [.slice Ao125 y368.length co125, .slice Ao126 y371.length co126, .slice Ao127 y374.length co127]) (ok := (fun k_ => some k_ ≠ (.slice Ao31 t335.length co31 : Value).ownBlock ∧ some k_ ≠ (v366 : Value).ownBlock ∧ k_ ≠ gb339)) (okp := (fun k_ => some k_ ≠ (.slice Ao31 t335.length co31 : Value).ownBlock ∧ some k_ ≠ (v366 : Value).ownBlock ∧ k_ ≠ gb339)) ?hr ?hp (fun _ hk => hk) ((show ∀ k_, w123.heap.size ≤ k_ → (fun k_ => some k_ ≠ (.slice Ao31 t335.length co31 : Value).ownBlock ∧ some k_ ≠ (v366 : Value).ownBlock ∧ k_ ≠ gb339) k_ from fun k_ hk => ⟨Kd.fresh' (Kd.N_lt (zN HO_340001)) k_ hk, Kd.fresh' (Kd.R_lt (zR HO367)) k_ hk, Kd.freshB (g := gb339) (o := .cells #[.int .i64 t334, .slice Ao31 t335.length co31] 46 (0, 0)) (zB BK339) k_ hk⟩) _ (Nat.le_refl _)) (Below.refl _ _) (Nat.le_refl _) (by simp) ?_; (case hd => rfl); (case hg => rfl); (case hr => first | (go_simp; done) | (go_simp; rfl)); (case hp => exact (Reps.one (show Kd.FK (Kd.slice 3 (Kd.int .i64)) _ _ y368 [.slice Ao125 y368.length co125] from (Kd.FK_slice_mk (Kd.R_reads' (Kd.R_mono (ok' := (fun k_ => some k_ ≠ (.slice Ao31 t335.length co31 : Value).ownBlock ∧ some k_ ≠ (v366 : Value).ownBlock ∧ k_ ≠ gb339)) (Kd.R_types (Kd.R_apart' (HO370.out) (Kd.N_typed HO_340001.out) (by decide)) BK339.out (by decide)) (fun k_ hk => by first | exact ⟨hk.1.2, ⟨hk.1.1.1.1.2, hk.2⟩⟩ | ((repeat' apply And.intro) <;> (first | exact hk | exact hk.1 | exact hk.2 | exact hk.1.1 | exact hk.1.2 | exact hk.2.1 | exact hk.2.2 | exact hk.1.1.1 | exact hk.1.1.2 | exact hk.1.2.1 | exact hk.1.2.2 | exact hk.2.1.1 | exact hk.2.1.2 | exact hk.2.2.1 | exact hk.2.2.2 | exact hk.1.1.1.1 | exact hk.1.1.1.2 | exact hk.2.2.2.1 | exact hk.2.2.2.2))))).2.1 (Kd.R_F (Kd.R_mono (ok' := (fun k_ => some k_ ≠ (.slice Ao31 t335.length co31 : Value).ownBlock ∧ some k_ ≠ (v366 : Value).ownBlock ∧ k_ ≠ gb339)) (Kd.R_types (Kd.R_apart' (HO370.out) (Kd.N_typed HO_340001.out) (by decide)) BK339.out (by decide)) (fun k_ hk => by first | exact ⟨hk.1.2, ⟨hk.1.1.1.1.2, hk.2⟩⟩ | ((repeat' apply And.intro) <;> (first | exact hk | exact hk.1 | exact hk.2 | exact hk.1.1 | exact hk.1.2 | exact hk.2.1 | exact hk.2.2 | exact hk.1.1.1 | exact hk.1.1.2 | exact hk.1.2.1 | exact hk.1.2.2 | exact hk.2.1.1 | exact hk.2.1.2 | exact hk.2.2.1 | exact hk.2.2.2 | exact hk.1.1.1.1 | exact hk.1.1.1.2 | exact hk.2.2.2.1 | exact hk.2.2.2.2))))))) (Reps.one (show Kd.FK (Kd.slice 3 (Kd.int .i64)) _ _ y371 [.slice Ao126 y371.length co126] from (Kd.FK_slice_mk (Kd.R_reads' (Kd.R_mono (ok' := (fun k_ => some k_ ≠ (.slice Ao31 t335.length co31 : Value).ownBlock ∧ some k_ ≠ (v366 : Value).ownBlock ∧ k_ ≠ gb339)) (Kd.R_types (Kd.R_apart' (HO373.out) (Kd.N_typed HO_340001.out) (by decide)) BK339.out (by decide)) (fun k_ hk => by first | exact ⟨hk.1.2, ⟨hk.1.1.1.1.2, hk.2⟩⟩ | ((repeat' apply And.intro) <;> (first | exact hk | exact hk.1 | exact hk.2 | exact hk.1.1 | exact hk.1.2 | exact hk.2.1 | exact hk.2.2 | exact hk.1.1.1 | exact hk.1.1.2 | exact hk.1.2.1 | exact hk.1.2.2 | exact hk.2.1.1 | exact hk.2.1.2 | exact hk.2.2.1 | exact hk.2.2.2 | exact hk.1.1.1.1 | exact hk.1.1.1.2 | exact hk.2.2.2.1 | exact hk.2.2.2.2))))).2.1 (Kd.R_F (Kd.R_mono (ok' := (fun k_ => some k_ ≠ (.slice Ao31 t335.length co31 : Value).ownBlock ∧ some k_ ≠ (v366 : Value).ownBlock ∧ k_ ≠ gb339)) (Kd.R_types (Kd.R_apart' (HO373.out) (Kd.N_typed HO_340001.out) (by decide)) BK339.out (by decide)) (fun k_ hk => by first | exact ⟨hk.1.2, ⟨hk.1.1.1.1.2, hk.2⟩⟩ | ((repeat' apply And.intro) <;> (first | exact hk | exact hk.1 | exact hk.2 | exact hk.1.1 | exact hk.1.2 | exact hk.2.1 | exact hk.2.2 | exact hk.1.1.1 | exact hk.1.1.2 | exact hk.1.2.1 | exact hk.1.2.2 | exact hk.2.1.1 | exact hk.2.1.2 | exact hk.2.2.1 | exact hk.2.2.2 | exact hk.1.1.1.1 | exact hk.1.1.1.2 | exact hk.2.2.2.1 | exact hk.2.2.2.2))))))) (Reps.one (show Kd.FK (Kd.slice 3 (Kd.int .i64)) _ _ y374 [.slice Ao127 y374.length co127] from (Kd.FK_slice_mk (Kd.R_reads' (Kd.R_mono (ok' := (fun k_ => some k_ ≠ (.slice Ao31 t335.length co31 : Value).ownBlock ∧ some k_ ≠ (v366 : Value).ownBlock ∧ k_ ≠ gb339)) (Kd.R_types (Kd.R_apart' (HO376.out) (Kd.N_typed HO_340001.out) (by decide)) BK339.out (by decide)) (fun k_ hk => by first | exact ⟨hk.1.2, ⟨hk.1.1.1.1.2, hk.2⟩⟩ | ((repeat' apply And.intro) <;> (first | exact hk | exact hk.1 | exact hk.2 | exact hk.1.1 | exact hk.1.2 | exact hk.2.1 | exact hk.2.2 | exact hk.1.1.1 | exact hk.1.1.2 | exact hk.1.2.1 | exact hk.1.2.2 | exact hk.2.1.1 | exact hk.2.1.2 | exact hk.2.2.1 | exact hk.2.2.2 | exact hk.1.1.1.1 | exact hk.1.1.1.2 | exact hk.2.2.2.1 | exact hk.2.2.2.2))))).2.1 (Kd.R_F (Kd.R_mono (ok' := (fun k_ => some k_ ≠ (.slice Ao31 t335.length co31 : Value).ownBlock ∧ some k_ ≠ (v366 : Value).ownBlock ∧ k_ ≠ gb339)) (Kd.R_types (Kd.R_apart' (HO376.out) (Kd.N_typed HO_340001.out) (by decide)) BK339.out (by decide)) (fun k_ hk => by first | exact ⟨hk.1.2, ⟨hk.1.1.1.1.2, hk.2⟩⟩ | ((repeat' apply And.intro) <;> (first | exact hk | exact hk.1 | exact hk.2 | exact hk.1.1 | exact hk.1.2 | exact hk.2.1 | exact hk.2.2 | exact hk.1.1.1 | exact hk.1.1.2 | exact hk.1.2.1 | exact hk.1.2.2 | exact hk.2.1.1 | exact hk.2.1.2 | exact hk.2.2.1 | exact hk.2.2.2 | exact hk.1.1.1.1 | exact hk.1.1.1.2 | exact hk.2.2.2.1 | exact hk.2.2.2.2))))))) (Reps.none _ _))))); intro v378 w128 ho129 hb hg_ hnew_; clear hg_ hnew_; (first | rw [← Ny377.out] at ho129 | (simp only [Int.reduceToNat] at ho129; rw [← Ny377.out] at ho129)); replace HO_1 := aM (Kd.V_elder' (zV HO_1) (Kd.N_base ho129) hb); replace HO_340001 := aM (Kd.N_elder' (zN HO_340001) (Kd.N_base ho129) hb); replace HO367 := aM (Kd.R_below (zR HO367) hb); have HO379 := aM (Kd.N_lower ho129 (below_size zz45)); replace BK339 := aM (blk_below (g := gb339) (o := .cells #[.int .i64 t334, .slice Ao31 t335.length co31] 46 (0, 0)) (zB BK339) hb); replace HB := aM (below_step zz45 hb); clear HO370 HO373 HO376; clear hb ho129; obtain ⟨Ao130, co130, eo130⟩ := Kd.N_slice HO379.out; subst eo130; obtain ⟨Ao131, co131, eo131⟩ := Kd.R_slice HO367.out; subst eo131) | ((with_reducible refine gate_dst (N := 115) rfl ?_); (try (refine gate_guard (by rfl) ?_; dsimp only)); refine Kd.R_lit (Kd.int .i64) _ 3 ?hg (N := 115) ?hd (xs := ([1, 2] : List Int)) (inner := [.int .i64 1, .int .i64 2]) (ok := fun _ => True) (okp := fun _ => True) ?hr ?hp (fun _ hk => hk) trivial (Below.refl _ _) (Nat.le_refl _) (by simp) ?_; (case hd => rfl); (case hg => rfl); (case hr => first | (go_simp; done) | (go_simp; rfl)); (case hp => exact (Reps.one (show Kd.M (Kd.int .i64) _ _ _ 1 [.int .i64 1] from rfl) (Reps.one (show Kd.M (Kd.int .i64) _ _ _ 2 [.int .i64 2] from rfl) (Reps.none _ _)))); intro v381 w132 ho133 hb hg_ hnew_; clear hg_ hnew_; (first | rw [← Ny380.out] at ho133 | (simp only [Int.reduceToNat] at ho133; rw [← Ny380.out] at ho133)); replace HO_1 := aM (Kd.V_elder' (zV HO_1) (Kd.R_base ho133) hb); replace HO_340001 := aM (Kd.N_elder' (zN HO_340001) (Kd.R_base ho133) hb); replace HO379 := aM (Kd.N_elder' (zN HO379) (Kd.R_base ho133) hb); have HO382 := aM (Kd.R_lower (Kd.R_new' ho133 (Kd.R_lt (zR HO367))) (below_size zz45)); replace HO367 := aM (Kd.R_elder' (zR HO367) (Kd.R_base ho133) hb); replace BK339 := aM (blk_below (g := gb339) (o := .cells #[.int .i64 t334, .slice Ao31 t335.length co31] 46 (0, 0)) (zB BK339) hb); replace HB := aM (below_step zz45 hb); clear hb ho133) | ((with_reducible refine gate_dst (N := 116) rfl ?_); (try (refine gate_guard (by rfl) ?_; dsimp only)); refine Kd.R_lit (Kd.int .i64) _ 3 ?hg (N := 116) ?hd (xs := ([0, 1, 2, 3] : List Int)) (inner := [.int .i64 0, .int .i64 1, .int .i64 2, .int .i64 3]) (ok := fun _ => True) (okp := fun _ => True) ?hr ?hp (fun _ hk => hk) trivial (Below.refl _ _) (Nat.le_refl _) (by simp) ?_; (case hd => rfl); (case hg => rfl); (case hr => first | (go_simp; done) | (go_simp; rfl)); (case hp => exact (Reps.one (show Kd.M (Kd.int .i64) _ _ _ 0 [.int .i64 0] from rfl) (Reps.one (show Kd.M (Kd.int .i64) _ _ _ 1 [.int .i64 1] from rfl) (Reps.one (show Kd.M (Kd.int .i64) _ _ _ 2 [.int .i64 2] from rfl) (Reps.one (show Kd.M (Kd.int .i64) _ _ _ 3 [.int .i64 3] from rfl) (Reps.none _ _)))))); intro v384 w134 ho135 hb hg_ hnew_; clear hg_ hnew_; (first | rw [← Ny383.out] at ho135 | (simp only [Int.reduceToNat] at ho135; rw [← Ny383.out] at ho135)); replace HO_1 := aM (Kd.V_elder' (zV HO_1) (Kd.R_base ho135) hb); replace HO_340001 := aM (Kd.N_elder' (zN HO_340001) (Kd.R_base ho135) hb); replace HO379 := aM (Kd.N_elder' (zN HO379) (Kd.R_base ho135) hb); have HO385 := aM (Kd.R_lower (Kd.R_new' (Kd.R_new' ho135 (Kd.R_lt (zR HO367))) (Kd.R_lt (zR HO382))) (below_size zz45)); replace HO367 := aM (Kd.R_elder' (zR HO367) (Kd.R_base ho135) hb); replace HO382 := aM (Kd.R_elder' (zR HO382) (Kd.R_base ho135) hb); replace BK339 := aM (blk_below (g := gb339) (o := .cells #[.int .i64 t334, .slice Ao31 t335.length co31] 46 (0, 0)) (zB BK339) hb); replace HB := aM (below_step zz45 hb); clear hb ho135) | ((with_reducible refine gate_dst (N := 117) rfl ?_); (try (refine gate_guard (by rfl) ?_; dsimp only)); refine Kd.R_lit (Kd.int .i64) _ 3 ?hg (N := 117) ?hd (xs := ([0, 2, 1, 3] : List Int)) (inner := [.int .i64 0, .int .i64 2, .int .i64 1, .int .i64 3]) (ok := fun _ => True) (okp := fun _ => True) ?hr ?hp (fun _ hk => hk) trivial (Below.refl _ _) (Nat.le_refl _) (by simp) ?_; (case hd => rfl); (case hg => rfl); (case hr => first | (go_simp; done) | (go_simp; rfl)); (case hp => exact (Reps.one (show Kd.M (Kd.int .i64) _ _ _ 0 [.int .i64 0] from rfl) (Reps.one (show Kd.M (Kd.int .i64) _ _ _ 2 [.int .i64 2] from rfl) (Reps.one (show Kd.M (Kd.int .i64) _ _ _ 1 [.int .i64 1] from rfl) (Reps.one (show Kd.M (Kd.int .i64) _ _ _ 3 [.int .i64 3] from rfl) (Reps.none _ _)))))); intro v387 w136 ho137 hb hg_ hnew_; clear hg_ hnew_; (first | rw [← Ny386.out] at ho137 | (simp only [Int.reduceToNat] at ho137; rw [← Ny386.out] at ho137)); replace HO_1 := aM (Kd.V_elder' (zV HO_1) (Kd.R_base ho137) hb); replace HO_340001 := aM (Kd.N_elder' (zN HO_340001) (Kd.R_base ho137) hb); replace HO379 := aM (Kd.N_elder' (zN HO379) (Kd.R_base ho137) hb); have HO388 := aM (Kd.R_lower (Kd.R_new' (Kd.R_new' (Kd.R_new' ho137 (Kd.R_lt (zR HO367))) (Kd.R_lt (zR HO382))) (Kd.R_lt (zR HO385))) (below_size zz45)); replace HO367 := aM (Kd.R_elder' (zR HO367) (Kd.R_base ho137) hb); replace HO382 := aM (Kd.R_elder' (zR HO382) (Kd.R_base ho137) hb); replace HO385 := aM (Kd.R_elder' (zR HO385) (Kd.R_base ho137) hb); replace BK339 := aM (blk_below (g := gb339) (o := .cells #[.int .i64 t334, .slice Ao31 t335.length co31] 46 (0, 0)) (zB BK339) hb); replace HB := aM (below_step zz45 hb); clear hb ho137; obtain ⟨Ao138, co138, eo138⟩ := Kd.R_slice HO385.out; subst eo138; obtain ⟨Ao139, co139, eo139⟩ := Kd.R_slice HO388.out; subst eo139) | ((with_reducible refine gate_dst (N := 118) rfl ?_); (try (refine gate_guard (by rfl) ?_; dsimp only)); refine Kd.N_lit (Kd.slice 3 (Kd.int .i64)) _ 22 ?hg (N' := 118) ?hd (xs := ([y383, y386] : List (List Int))) (inner := [.slice Ao138 y383.length co138, .slice Ao139 y386.length co139]) (ok := (fun k_ => some k_ ≠ (.slice Ao31 t335.length co31 : Value).ownBlock ∧ some k_ ≠ (.slice Ao131 y365.length co131 : Value).ownBlock ∧ some k_ ≠ (.slice Ao130 y377.length co130 : Value).ownBlock ∧ some k_ ≠ (v381 : Value).ownBlock ∧ k_ ≠ gb339)) (okp := (fun k_ => some k_ ≠ (.slice Ao31 t335.length co31 : Value).ownBlock ∧ some k_ ≠ (.slice Ao131 y365.length co131 : Value).ownBlock ∧ some k_ ≠ (.slice Ao130 y377.length co130 : Value).ownBlock ∧ some k_ ≠ (v381 : Value).ownBlock ∧ k_ ≠ gb339)) ?hr ?hp (fun _ hk => hk) ((show ∀ k_, w136.heap.size ≤ k_ → (fun k_ => some k_ ≠ (.slice Ao31 t335.length co31 : Value).ownBlock ∧ some k_ ≠ (.slice Ao131 y365.length co131 : Value).ownBlock ∧ some k_ ≠ (.slice Ao130 y377.length co130 : Value).ownBlock ∧ some k_ ≠ (v381 : Value).ownBlock ∧ k_ ≠ gb339) k_ from fun k_ hk => ⟨Kd.fresh' (Kd.N_lt (zN HO_340001)) k_ hk, Kd.fresh' (Kd.R_lt (zR HO367)) k_ hk, Kd.fresh' (Kd.N_lt (zN HO379)) k_ hk, Kd.fresh' (Kd.R_lt (zR HO382)) k_ hk, Kd.freshB (g := gb339) (o := .cells #[.int .i64 t334, .slice Ao31 t335.length co31] 46 (0, 0)) (zB BK339) k_ hk⟩) _ (Nat.le_refl _)) (Below.refl _ _) (Nat.le_refl _) (by simp) ?_; (case hd => rfl); (case hg => rfl); (case hr => first | (go_simp; done) | (go_simp; rfl)); (case hp => exact (Reps.one (show Kd.FK (Kd.slice 3 (Kd.int .i64)) _ _ y383 [.slice Ao138 y383.length co138] from (Kd.FK_slice_mk (Kd.R_reads' (Kd.R_mono (ok' := (fun k_ => some k_ ≠ (.slice Ao31 t335.length co31 : Value).ownBlock ∧ some k_ ≠ (.slice Ao131 y365.length co131 : Value).ownBlock ∧ some k_ ≠ (.slice Ao130 y377.length co130 : Value).ownBlock ∧ some k_ ≠ (v381 : Value).ownBlock ∧ k_ ≠ gb339)) (Kd.R_types (Kd.R_apart' (Kd.R_apart' (HO385.out) (Kd.N_typed HO_340001.out) (by decide)) (Kd.N_typed HO379.out) (by decide)) BK339.out (by decide)) (fun k_ hk => by first | exact ⟨hk.1.1.2, ⟨hk.1.1.1.1.1.2, ⟨hk.1.2, ⟨hk.1.1.1.1.2, hk.2⟩⟩⟩⟩ | ((repeat' apply And.intro) <;> (first | exact hk | exact hk.1 | exact hk.2 | exact hk.1.1 | exact hk.1.2 | exact hk.2.1 | exact hk.2.2 | exact hk.1.1.1 | exact hk.1.1.2 | exact hk.1.2.1 | exact hk.1.2.2 | exact hk.2.1.1 | exact hk.2.1.2 | exact hk.2.2.1 | exact hk.2.2.2 | exact hk.1.1.1.1 | exact hk.1.1.1.2 | exact hk.2.2.2.1 | exact hk.2.2.2.2))))).2.1 (Kd.R_F (Kd.R_mono (ok' := (fun k_ => some k_ ≠ (.slice Ao31 t335.length co31 : Value).ownBlock ∧ some k_ ≠ (.slice Ao131 y365.length co131 : Value).ownBlock ∧ some k_ ≠ (.slice Ao130 y377.length co130 : Value).ownBlock ∧ some k_ ≠ (v381 : Value).ownBlock ∧ k_ ≠ gb339)) (Kd.R_types (Kd.R_apart' (Kd.R_apart' (HO385.out) (Kd.N_typed HO_340001.out) (by decide)) (Kd.N_typed HO379.out) (by decide)) BK339.out (by decide)) (fun k_ hk => by first | exact ⟨hk.1.1.2, ⟨hk.1.1.1.1.1.2, ⟨hk.1.2, ⟨hk.1.1.1.1.2, hk.2⟩⟩⟩⟩ | ((repeat' apply And.intro) <;> (first | exact hk | exact hk.1 | exact hk.2 | exact hk.1.1 | exact hk.1.2 | exact hk.2.1 | exact hk.2.2 | exact hk.1.1.1 | exact hk.1.1.2 | exact hk.1.2.1 | exact hk.1.2.2 | exact hk.2.1.1 | exact hk.2.1.2 | exact hk.2.2.1 | exact hk.2.2.2 | exact hk.1.1.1.1 | exact hk.1.1.1.2 | exact hk.2.2.2.1 | exact hk.2.2.2.2))))))) (Reps.one (show Kd.FK (Kd.slice 3 (Kd.int .i64)) _ _ y386 [.slice Ao139 y386.length co139] from (Kd.FK_slice_mk (Kd.R_reads' (Kd.R_mono (ok' := (fun k_ => some k_ ≠ (.slice Ao31 t335.length co31 : Value).ownBlock ∧ some k_ ≠ (.slice Ao131 y365.length co131 : Value).ownBlock ∧ some k_ ≠ (.slice Ao130 y377.length co130 : Value).ownBlock ∧ some k_ ≠ (v381 : Value).ownBlock ∧ k_ ≠ gb339)) (Kd.R_types (Kd.R_apart' (Kd.R_apart' (HO388.out) (Kd.N_typed HO_340001.out) (by decide)) (Kd.N_typed HO379.out) (by decide)) BK339.out (by decide)) (fun k_ hk => by first | exact ⟨hk.1.1.2, ⟨hk.1.1.1.1.1.2, ⟨hk.1.2, ⟨hk.1.1.1.1.2, hk.2⟩⟩⟩⟩ | ((repeat' apply And.intro) <;> (first | exact hk | exact hk.1 | exact hk.2 | exact hk.1.1 | exact hk.1.2 | exact hk.2.1 | exact hk.2.2 | exact hk.1.1.1 | exact hk.1.1.2 | exact hk.1.2.1 | exact hk.1.2.2 | exact hk.2.1.1 | exact hk.2.1.2 | exact hk.2.2.1 | exact hk.2.2.2 | exact hk.1.1.1.1 | exact hk.1.1.1.2 | exact hk.2.2.2.1 | exact hk.2.2.2.2))))).2.1 (Kd.R_F (Kd.R_mono (ok' := (fun k_ => some k_ ≠ (.slice Ao31 t335.length co31 : Value).ownBlock ∧ some k_ ≠ (.slice Ao131 y365.length co131 : Value).ownBlock ∧ some k_ ≠ (.slice Ao130 y377.length co130 : Value).ownBlock ∧ some k_ ≠ (v381 : Value).ownBlock ∧ k_ ≠ gb339)) (Kd.R_types (Kd.R_apart' (Kd.R_apart' (HO388.out) (Kd.N_typed HO_340001.out) (by decide)) (Kd.N_typed HO379.out) (by decide)) BK339.out (by decide)) (fun k_ hk => by first | exact ⟨hk.1.1.2, ⟨hk.1.1.1.1.1.2, ⟨hk.1.2, ⟨hk.1.1.1.1.2, hk.2⟩⟩⟩⟩ | ((repeat' apply And.intro) <;> (first | exact hk | exact hk.1 | exact hk.2 | exact hk.1.1 | exact hk.1.2 | exact hk.2.1 | exact hk.2.2 | exact hk.1.1.1 | exact hk.1.1.2 | exact hk.1.2.1 | exact hk.1.2.2 | exact hk.2.1.1 | exact hk.2.1.2 | exact hk.2.2.1 | exact hk.2.2.2 | exact hk.1.1.1.1 | exact hk.1.1.1.2 | exact hk.2.2.2.1 | exact hk.2.2.2.2))))))) (Reps.none _ _)))); intro v390 w140 ho141 hb hg_ hnew_; clear hg_ hnew_; (first | rw [← Ny389.out] at ho141 | (simp only [Int.reduceToNat] at ho141; rw [← Ny389.out] at ho141)); replace HO_1 := aM (Kd.V_elder' (zV HO_1) (Kd.N_base ho141) hb); replace HO_340001 := aM (Kd.N_elder' (zN HO_340001) (Kd.N_base ho141) hb); replace HO367 := aM (Kd.R_below (zR HO367) hb); replace HO379 := aM (Kd.N_elder' (zN HO379) (Kd.N_base ho141) hb); replace HO382 := aM (Kd.R_below (zR HO382) hb); have HO391 := aM (Kd.N_lower ho141 (below_size zz45)); replace BK339 := aM (blk_below (g := gb339) (o := .cells #[.int .i64 t334, .slice Ao31 t335.length co31] 46 (0, 0)) (zB BK339) hb); replace HB := aM (below_step zz45 hb); clear HO385 HO388; clear hb ho141; obtain ⟨Ao142, co142, eo142⟩ := Kd.N_slice HO391.out; subst eo142; obtain ⟨Ao143, co143, eo143⟩ := Kd.R_slice HO382.out; subst eo143) | ((with_reducible refine gate_dst (N := 120) rfl ?_); (try (refine gate_guard (by rfl) ?_; dsimp only)); refine Kd.N_lit k74 _ 74 ?hg (N' := 120) ?hd (xs := ([(⟨0, y365, y377⟩ : S74), (⟨1, y380, y389⟩ : S74)] : List (S74))) (inner := [.int .i64 0, .slice Ao131 y365.length co131, .slice Ao130 y377.length co130, .int .i64 1, .slice Ao143 y380.length co143, .slice Ao142 y389.length co142]) (ok := (fun k_ => some k_ ≠ (.slice Ao31 t335.length co31 : Value).ownBlock ∧ k_ ≠ gb339)) (okp := (fun k_ => some k_ ≠ (.slice Ao31 t335.length co31 : Value).ownBlock ∧ k_ ≠ gb339)) ?hr ?hp (fun _ hk => hk) ((show ∀ k_, w140.heap.size ≤ k_ → (fun k_ => some k_ ≠ (.slice Ao31 t335.length co31 : Value).ownBlock ∧ k_ ≠ gb339) k_ from fun k_ hk => ⟨Kd.fresh' (Kd.N_lt (zN HO_340001)) k_ hk, Kd.freshB (g := gb339) (o := .cells #[.int .i64 t334, .slice Ao31 t335.length co31] 46 (0, 0)) (zB BK339) k_ hk⟩) _ (Nat.le_refl _)) (Below.refl _ _) (Nat.le_refl _) (by simp) ?_; (case hd => rfl); (case hg => rfl); (case hr => first | (go_simp; done) | (go_simp; rfl)); (case hp => exact (Reps.c3 (show Kd.FK k74 _ _ (⟨0, y365, y377⟩ : S74) [.int .i64 0, .slice Ao131 y365.length co131, .slice Ao130 y377.length co130] from (k74_mkF _ _ (⟨0, y365, y377⟩ : S74) (Kd.R_reads' (Kd.R_mono (ok' := (fun k_ => some k_ ≠ (.slice Ao31 t335.length co31 : Value).ownBlock ∧ k_ ≠ gb339)) (Kd.R_types (Kd.R_apart' (HO367.out) (Kd.N_typed HO_340001.out) (by decide)) BK339.out (by decide)) (fun k_ hk => by first | exact ⟨hk.1.2, hk.2⟩ | ((repeat' apply And.intro) <;> (first | exact hk | exact hk.1 | exact hk.2 | exact hk.1.1 | exact hk.1.2 | exact hk.2.1 | exact hk.2.2 | exact hk.1.1.1 | exact hk.1.1.2 | exact hk.1.2.1 | exact hk.1.2.2 | exact hk.2.1.1 | exact hk.2.1.2 | exact hk.2.2.1 | exact hk.2.2.2 | exact hk.1.1.1.1 | exact hk.1.1.1.2 | exact hk.2.2.2.1 | exact hk.2.2.2.2))))).2.1 (Kd.R_F (Kd.R_mono (ok' := (fun k_ => some k_ ≠ (.slice Ao31 t335.length co31 : Value).ownBlock ∧ k_ ≠ gb339)) (Kd.R_types (Kd.R_apart' (HO367.out) (Kd.N_typed HO_340001.out) (by decide)) BK339.out (by decide)) (fun k_ hk => by first | exact ⟨hk.1.2, hk.2⟩ | ((repeat' apply And.intro) <;> (first | exact hk | exact hk.1 | exact hk.2 | exact hk.1.1 | exact hk.1.2 | exact hk.2.1 | exact hk.2.2 | exact hk.1.1.1 | exact hk.1.1.2 | exact hk.1.2.1 | exact hk.1.2.2 | exact hk.2.1.1 | exact hk.2.1.2 | exact hk.2.2.1 | exact hk.2.2.2 | exact hk.1.1.1.1 | exact hk.1.1.1.2 | exact hk.2.2.2.1 | exact hk.2.2.2.2))))) (Kd.N_reads' (Kd.N_mono (ok' := (fun k_ => some k_ ≠ (.slice Ao31 t335.length co31 : Value).ownBlock ∧ k_ ≠ gb339)) (HO379.out) (fun k_ hk => by first | exact ⟨hk.1.1.1.1.1, hk.1.1.1.1.2.2⟩ | ((repeat' apply And.intro) <;> (first | exact hk | exact hk.1 | exact hk.2 | exact hk.1.1 | exact hk.1.2 | exact hk.2.1 | exact hk.2.2 | exact hk.1.1.1 | exact hk.1.1.2 | exact hk.1.2.1 | exact hk.1.2.2 | exact hk.2.1.1 | exact hk.2.1.2 | exact hk.2.2.1 | exact hk.2.2.2 | exact hk.1.1.1.1 | exact hk.1.1.1.2 | exact hk.2.2.2.1 | exact hk.2.2.2.2))))).2.1 (Kd.N_F (Kd.N_mono (ok' := (fun k_ => some k_ ≠ (.slice Ao31 t335.length co31 : Value).ownBlock ∧ k_ ≠ gb339)) (HO379.out) (fun k_ hk => by first | exact ⟨hk.1.1.1.1.1, hk.1.1.1.1.2.2⟩ | ((repeat' apply And.intro) <;> (first | exact hk | exact hk.1 | exact hk.2 | exact hk.1.1 | exact hk.1.2 | exact hk.2.1 | exact hk.2.2 | exact hk.1.1.1 | exact hk.1.1.2 | exact hk.1.2.1 | exact hk.1.2.2 | exact hk.2.1.1 | exact hk.2.1.2 | exact hk.2.2.1 | exact hk.2.2.2 | exact hk.1.1.1.1 | exact hk.1.1.1.2 | exact hk.2.2.2.1 | exact hk.2.2.2.2))))))) (Reps.c3 (show Kd.FK k74 _ _ (⟨1, y380, y389⟩ : S74) [.int .i64 1, .slice Ao143 y380.length co143, .slice Ao142 y389.length co142] from (k74_mkF _ _ (⟨1, y380, y389⟩ : S74) (Kd.R_reads' (Kd.R_mono (ok' := (fun k_ => some k_ ≠ (.slice Ao31 t335.length co31 : Value).ownBlock ∧ k_ ≠ gb339)) (Kd.R_types (Kd.R_apart' (HO382.out) (Kd.N_typed HO_340001.out) (by decide)) BK339.out (by decide)) (fun k_ hk => by first | exact ⟨hk.1.2, hk.2⟩ | ((repeat' apply And.intro) <;> (first | exact hk | exact hk.1 | exact hk.2 | exact hk.1.1 | exact hk.1.2 | exact hk.2.1 | exact hk.2.2 | exact hk.1.1.1 | exact hk.1.1.2 | exact hk.1.2.1 | exact hk.1.2.2 | exact hk.2.1.1 | exact hk.2.1.2 | exact hk.2.2.1 | exact hk.2.2.2 | exact hk.1.1.1.1 | exact hk.1.1.1.2 | exact hk.2.2.2.1 | exact hk.2.2.2.2))))).2.1 (Kd.R_F (Kd.R_mono (ok' := (fun k_ => some k_ ≠ (.slice Ao31 t335.length co31 : Value).ownBlock ∧ k_ ≠ gb339)) (Kd.R_types (Kd.R_apart' (HO382.out) (Kd.N_typed HO_340001.out) (by decide)) BK339.out (by decide)) (fun k_ hk => by first | exact ⟨hk.1.2, hk.2⟩ | ((repeat' apply And.intro) <;> (first | exact hk | exact hk.1 | exact hk.2 | exact hk.1.1 | exact hk.1.2 | exact hk.2.1 | exact hk.2.2 | exact hk.1.1.1 | exact hk.1.1.2 | exact hk.1.2.1 | exact hk.1.2.2 | exact hk.2.1.1 | exact hk.2.1.2 | exact hk.2.2.1 | exact hk.2.2.2 | exact hk.1.1.1.1 | exact hk.1.1.1.2 | exact hk.2.2.2.1 | exact hk.2.2.2.2))))) (Kd.N_reads' (Kd.N_mono (ok' := (fun k_ => some k_ ≠ (.slice Ao31 t335.length co31 : Value).ownBlock ∧ k_ ≠ gb339)) (HO391.out) (fun k_ hk => by first | exact ⟨hk.1, hk.2.2.2.2⟩ | ((repeat' apply And.intro) <;> (first | exact hk | exact hk.1 | exact hk.2 | exact hk.1.1 | exact hk.1.2 | exact hk.2.1 | exact hk.2.2 | exact hk.1.1.1 | exact hk.1.1.2 | exact hk.1.2.1 | exact hk.1.2.2 | exact hk.2.1.1 | exact hk.2.1.2 | exact hk.2.2.1 | exact hk.2.2.2 | exact hk.1.1.1.1 | exact hk.1.1.1.2 | exact hk.2.2.2.1 | exact hk.2.2.2.2))))).2.1 (Kd.N_F (Kd.N_mono (ok' := (fun k_ => some k_ ≠ (.slice Ao31 t335.length co31 : Value).ownBlock ∧ k_ ≠ gb339)) (HO391.out) (fun k_ hk => by first | exact ⟨hk.1, hk.2.2.2.2⟩ | ((repeat' apply And.intro) <;> (first | exact hk | exact hk.1 | exact hk.2 | exact hk.1.1 | exact hk.1.2 | exact hk.2.1 | exact hk.2.2 | exact hk.1.1.1 | exact hk.1.1.2 | exact hk.1.2.1 | exact hk.1.2.2 | exact hk.2.1.1 | exact hk.2.1.2 | exact hk.2.2.1 | exact hk.2.2.2 | exact hk.1.1.1.1 | exact hk.1.1.1.2 | exact hk.2.2.2.1 | exact hk.2.2.2.2))))))) (Reps.none _ _)))); intro v393 w144 ho145 hb hg_ hnew_; clear hg_ hnew_; (first | rw [← Ny392.out] at ho145 | (simp only [Int.reduceToNat] at ho145; rw [← Ny392.out] at ho145)); replace HO_1 := aM (Kd.V_elder' (zV HO_1) (Kd.N_base ho145) hb); replace HO_340001 := aM (Kd.N_elder' (zN HO_340001) (Kd.N_base ho145) hb); have HO394 := aM (Kd.N_lower ho145 (below_size zz45)); replace BK339 := aM (blk_below (g := gb339) (o := .cells #[.int .i64 t334, .slice Ao31 t335.length co31] 46 (0, 0)) (zB BK339) hb); replace HB := aM (below_step zz45 hb); clear HO367 HO379 HO382 HO391; clear hb ho145; obtain ⟨Ao146, co146, eo146⟩ := Kd.N_slice HO394.out; subst eo146) | ((with_reducible refine gate_dst (N := 15) rfl ?_); (try (refine gate_guard (by rfl) ?_; dsimp only)); refine box_event ?hg (N := 15) ?hd (cs := #[.int .i64 0, .slice none 0 0]) (t := 46) ?hr ?_; (case hd => rfl); (case hg => rfl); (case hr => first | (go_simp; done) | (go_simp; rfl)); intro gb395 hg w147 hbox hb; replace HO_1 := aM (Kd.V_below (Kd.V_elderB (zV HO_1) gb395 (Nat.le_of_eq hg.symm)) hb); replace HO_340001 := aM (Kd.N_below (Kd.N_elderB (zN HO_340001) gb395 (Nat.le_of_eq hg.symm)) hb); replace HO394 := aM (Kd.N_below (Kd.N_elderB (zN HO394) gb395 (Nat.le_of_eq hg.symm)) hb); have BK395 := aM (hbox); have GW395 := aM ((by rw [hg]; exact (below_size zz45) : w.heap.size ≤ gb395)); have GE395 := aM ((by rw [hg]; exact (below_size zz45) : w.heap.size ≤ gb395)); replace HB := aM (below_step zz45 hb); have NB339_395 := aM ((by rw [hg]; exact Nat.ne_of_lt (blk_lt (g := gb339) (o := .cells #[.int .i64 t334, .slice Ao31 t335.length co31] 46 (0, 0)) (zB BK339)) : gb339 ≠ gb395)); have NB395_339 := aM ((by rw [hg]; exact Nat.ne_of_gt (blk_lt (g := gb339) (o := .cells #[.int .i64 t334, .slice Ao31 t335.length co31] 46 (0, 0)) (zB BK339)) : gb395 ≠ gb339)); replace BK339 := aM (blk_below (g := gb339) (o := .cells #[.int .i64 t334, .slice Ao31 t335.length co31] 46 (0, 0)) (zB BK339) hb); clear hb hbox hg; have hnb148 := NB395_339.out; have hnc148 := NB339_395.out; have hcz149_0 : w147.cell? ⟨gb395, 0, none⟩ = some (.int .i64 0) := (blk_cell BK395.out 0).trans rfl; have hcz149_1 : w147.cell? ⟨gb395, 1, none⟩ = some (.slice none 0 0) := (blk_cell BK395.out 1).trans rfl; have hfz149_0 := blk_frozen BK395.out 0; have hfz149_1 := blk_frozen BK395.out 1; have hcz150_0 : w147.cell? ⟨gb339, 0, none⟩ = some (.int .i64 t334) := (blk_cell BK339.out 0).trans rfl; have hcz150_1 : w147.cell? ⟨gb339, 1, none⟩ = some (.slice Ao31 t335.length co31) := (blk_cell BK339.out 1).trans rfl; have hfz150_0 := blk_frozen BK339.out 0; have hfz150_1 := blk_frozen BK339.out 1) | ((with_reducible refine gate_callee (f := 35) rfl ?_); refine goesL_ (some 124) rfl rfl Try.func35 (by kernel_rfl) rfl #[.agg #[.int .i64 t334, .slice Ao31 t335.length co31]] rfl zz51 ?_; (with_reducible refine (perm_Size.callsz kj38 t334 _ _ t335 t396 t399 _ ?side1 ?side2 A100.out zz74).mono ?_); (case side1 => exact (Kd.N_reads' zz2).2.2); (case side2 => exact (Kd.N_reads' HO_340001.out).2.1); rintro e w151 ⟨v397, rfl, ho0, hb⟩; refine ⟨_, rfl, ?_⟩; replace HO_1 := aM (Kd.V_elder' (by (with_reducible repeat (first | apply Kd.V_alloc | apply Kd.V_drewN | apply Kd.V_drew)); exact (Kd.V_mono (Kd.V_far (p := ⟨gb395, 1, none⟩) (Kd.V_far (p := ⟨gb395, 0, none⟩) (Kd.V_mono HO_1.out (fun k_ hk => (⟨hk, hk.2⟩ : _ ∧ k_ ≠ gb395))) (fun _ hk => by first | exact hk.2 | ((repeat' apply And.intro) <;> (first | exact hk | exact hk.1 | exact hk.2 | exact hk.1.1 | exact hk.1.2 | exact hk.2.1 | exact hk.2.2 | exact hk.1.1.1 | exact hk.1.1.2 | exact hk.1.2.1 | exact hk.1.2.2 | exact hk.2.1.1 | exact hk.2.1.2 | exact hk.2.2.1 | exact hk.2.2.2 | exact hk.1.1.1.1 | exact hk.1.1.1.2 | exact hk.2.2.2.1 | exact hk.2.2.2.2))) (.int .i64 4)) (fun _ hk => by first | exact hk.2 | ((repeat' apply And.intro) <;> (first | exact hk | exact hk.1 | exact hk.2 | exact hk.1.1 | exact hk.1.2 | exact hk.2.1 | exact hk.2.2 | exact hk.1.1.1 | exact hk.1.1.2 | exact hk.1.2.1 | exact hk.1.2.2 | exact hk.2.1.1 | exact hk.2.1.2 | exact hk.2.2.1 | exact hk.2.2.2 | exact hk.1.1.1.1 | exact hk.1.1.1.2 | exact hk.2.2.2.1 | exact hk.2.2.2.2))) (.slice Ao146 y392.length co146)) (fun _ h_ => h_.1))) (Kd.R_base ho0) hb); replace HO_340001 := aM (Kd.N_elder' zz2 (Kd.R_base ho0) hb); replace HO394 := aM (Kd.N_elder' (by (with_reducible repeat (first | apply Kd.N_alloc | apply Kd.N_drewN | apply Kd.N_drew)); exact (Kd.N_mono (Kd.N_far (p := ⟨gb395, 1, none⟩) (Kd.N_far (p := ⟨gb395, 0, none⟩) (Kd.N_mono HO394.out (fun k_ hk => (⟨hk, hk.2⟩ : _ ∧ k_ ≠ gb395))) (fun _ hk => by first | exact hk.2 | ((repeat' apply And.intro) <;> (first | exact hk | exact hk.1 | exact hk.2 | exact hk.1.1 | exact hk.1.2 | exact hk.2.1 | exact hk.2.2 | exact hk.1.1.1 | exact hk.1.1.2 | exact hk.1.2.1 | exact hk.1.2.2 | exact hk.2.1.1 | exact hk.2.1.2 | exact hk.2.2.1 | exact hk.2.2.2 | exact hk.1.1.1.1 | exact hk.1.1.1.2 | exact hk.2.2.2.1 | exact hk.2.2.2.2))) (.int .i64 4)) (fun _ hk => by first | exact hk.2 | ((repeat' apply And.intro) <;> (first | exact hk | exact hk.1 | exact hk.2 | exact hk.1.1 | exact hk.1.2 | exact hk.2.1 | exact hk.2.2 | exact hk.1.1.1 | exact hk.1.1.2 | exact hk.1.2.1 | exact hk.1.2.2 | exact hk.2.1.1 | exact hk.2.1.2 | exact hk.2.2.1 | exact hk.2.2.2 | exact hk.1.1.1.1 | exact hk.1.1.1.2 | exact hk.2.2.2.1 | exact hk.2.2.2.2))) (.slice Ao146 y392.length co146)) (fun _ h_ => h_.1))) (Kd.R_base ho0) hb); have HO398 := aM (Kd.R_lower ho0 (below_size zz36)); replace BK339 := aM (blk_below (g := gb339) (o := .cells #[.int .i64 t334, .slice Ao31 t335.length co31] 46 (0, 0)) (by (with_reducible repeat (first | refine blk_drewN ?_ _ | refine blk_drew ?_ | refine blk_alloc ?_ _)); refine blk_far ?_ NB339_395.out _; (with_reducible repeat (first | refine blk_drewN ?_ _ | refine blk_drew ?_ | refine blk_alloc ?_ _)); refine blk_far ?_ NB339_395.out _; (with_reducible repeat (first | refine blk_drewN ?_ _ | refine blk_drew ?_ | refine blk_alloc ?_ _)); exact BK339.out) hb); replace BK395 := aM (blk_below (g := gb395) (o := .cells #[.int .i64 4, .slice Ao146 y392.length co146] 46 (0, 0)) (by (with_reducible repeat (first | refine blk_drewN ?_ _ | refine blk_drew ?_ | refine blk_alloc ?_ _)); refine blk_put (cs := #[.int .i64 4, .slice none 0 0]) ?_ 1 _ rfl; (with_reducible repeat (first | refine blk_drewN ?_ _ | refine blk_drew ?_ | refine blk_alloc ?_ _)); refine blk_put (cs := #[.int .i64 0, .slice none 0 0]) ?_ 0 _ rfl; (with_reducible repeat (first | refine blk_drewN ?_ _ | refine blk_drew ?_ | refine blk_alloc ?_ _)); exact BK395.out) hb); replace HB := aM (below_step zz36 hb); (try clear hb); (try clear hb2); (try clear hk); (try clear hi); (try clear ho0); have hcz152_0 : w151.cell? ⟨gb339, 0, none⟩ = some (.int .i64 t334) := (blk_cell BK339.out 0).trans rfl; have hcz152_1 : w151.cell? ⟨gb339, 1, none⟩ = some (.slice Ao31 t335.length co31) := (blk_cell BK339.out 1).trans rfl; have hfz152_0 := blk_frozen BK339.out 0; have hfz152_1 := blk_frozen BK339.out 1) | ((with_reducible refine gate_dst (N := 129) rfl ?_); (try (refine gate_guard (by rfl) ?_; dsimp only)); refine Kd.R_lit (Kd.int .i64) _ 3 ?hg (N := 129) ?hd (xs := ([0, 1, 3, 2] : List Int)) (inner := [.int .i64 0, .int .i64 1, .int .i64 3, .int .i64 2]) (ok := fun _ => True) (okp := fun _ => True) ?hr ?hp (fun _ hk => hk) trivial (Below.refl _ _) (Nat.le_refl _) (by simp) ?_; (case hd => rfl); (case hg => rfl); (case hr => first | (go_simp; done) | (go_simp; rfl)); (case hp => exact (Reps.one (show Kd.M (Kd.int .i64) _ _ _ 0 [.int .i64 0] from rfl) (Reps.one (show Kd.M (Kd.int .i64) _ _ _ 1 [.int .i64 1] from rfl) (Reps.one (show Kd.M (Kd.int .i64) _ _ _ 3 [.int .i64 3] from rfl) (Reps.one (show Kd.M (Kd.int .i64) _ _ _ 2 [.int .i64 2] from rfl) (Reps.none _ _)))))); intro v401 w153 ho154 hb hg_ hnew_; clear hg_ hnew_; (first | rw [← Ny400.out] at ho154 | (simp only [Int.reduceToNat] at ho154; rw [← Ny400.out] at ho154)); replace HO_1 := aM (Kd.V_elder' (zV HO_1) (Kd.R_base ho154) hb); replace HO_340001 := aM (Kd.N_elder' (zN HO_340001) (Kd.R_base ho154) hb); replace HO394 := aM (Kd.N_elder' (zN HO394) (Kd.R_base ho154) hb); replace HO398 := aM (Kd.R_below (zR HO398) hb); have HO402 := aM (Kd.R_lower ho154 (below_size zz36)); replace BK339 := aM (blk_below (g := gb339) (o := .cells #[.int .i64 t334, .slice Ao31 t335.length co31] 46 (0, 0)) (zB BK339) hb); replace BK395 := aM (blk_below (g := gb395) (o := .cells #[.int .i64 4, .slice Ao146 y392.length co146] 46 (0, 0)) (zB BK395) hb); replace HB := aM (below_step zz36 hb); clear hb ho154; obtain ⟨Ao155, co155, eo155⟩ := Kd.R_slice HO402.out; subst eo155) | ((with_reducible refine gate_callee (f := 39) rfl ?_); refine goesL_ (some 130) rfl rfl Try.func39 (by kernel_rfl) rfl #[.agg #[.int .i64 t334, .slice Ao31 t335.length co31], .slice Ao155 y400.length co155] rfl zz51 ?_; (with_reducible refine (perm_Sift.callsz kj38 t334 _ _ t335 _ _ y400 t403 t406 t407 _ ?side1 ?side2 ?side3 ?side4 A101.out zz74).mono ?_); (case side1 => repeat (first | exact (Kd.N_reads' HO_340001.out).2.2 | (with_reducible refine Kd.C_alloc ?_ _) | (with_reducible refine Kd.C_drewN ?_ _) | (with_reducible refine Kd.C_drew ?_))); (case side2 => exact (Kd.N_reads' HO_340001.out).2.1); (case side3 => repeat (first | exact (Kd.R_reads' HO402.out).2.2 | (with_reducible refine Kd.C_alloc ?_ _) | (with_reducible refine Kd.C_drewN ?_ _) | (with_reducible refine Kd.C_drew ?_))); (case side4 => exact (Kd.R_reads' HO402.out).2.1); rintro e w156 ⟨v404, rfl, ho0, hb⟩; refine ⟨_, rfl, ?_⟩; replace HO_1 := aM (Kd.V_elder' (zV HO_1) (Kd.R_base ho0) hb); replace HO_340001 := aM (Kd.N_elder' (zN HO_340001) (Kd.R_base ho0) hb); replace HO394 := aM (Kd.N_elder' (zN HO394) (Kd.R_base ho0) hb); replace HO398 := aM (Kd.R_below (zR HO398) hb); have HO405 := aM (Kd.R_lower (Kd.R_new' ho0 (Kd.R_lt (zR HO402))) (below_size zz36)); replace HO402 := aM (Kd.R_elder' (zR HO402) (Kd.R_base ho0) hb); replace BK339 := aM (blk_below (g := gb339) (o := .cells #[.int .i64 t334, .slice Ao31 t335.length co31] 46 (0, 0)) (zB BK339) hb); replace BK395 := aM (blk_below (g := gb395) (o := .cells #[.int .i64 4, .slice Ao146 y392.length co146] 46 (0, 0)) (zB BK395) hb); replace HB := aM (below_step zz36 hb); (try clear hb); (try clear hb2); (try clear hk); (try clear hi); (try clear ho0); have hcz157_0 : w156.cell? ⟨gb339, 0, none⟩ = some (.int .i64 t334) := (blk_cell BK339.out 0).trans rfl; have hcz157_1 : w156.cell? ⟨gb339, 1, none⟩ = some (.slice Ao31 t335.length co31) := (blk_cell BK339.out 1).trans rfl; have hfz157_0 := blk_frozen BK339.out 0; have hfz157_1 := blk_frozen BK339.out 1) | ((with_reducible refine gate_callee (f := 40) rfl ?_); refine goesL_ (some 137) rfl rfl Try.func40 (by kernel_rfl) rfl #[.agg #[.int .i64 t334, .slice Ao31 t335.length co31], .slice Ao12 y301.length co12] rfl zz51 ?_; (with_reducible refine (perm_Has.callsz kj38 t334 _ _ t335 _ _ y301 true t409 _ ?side1 ?side2 ?side3 ?side4 A102.out zz74).mono ?_); (case side1 => repeat (first | exact (Kd.N_reads' HO_340001.out).2.2 | (with_reducible refine Kd.C_alloc ?_ _) | (with_reducible refine Kd.C_drewN ?_ _) | (with_reducible refine Kd.C_drew ?_))); (case side2 => exact (Kd.N_reads' HO_340001.out).2.1); (case side3 => repeat (first | exact (Kd.V_reads' HO_1.out).2.2 | (with_reducible refine Kd.C_alloc ?_ _) | (with_reducible refine Kd.C_drewN ?_ _) | (with_reducible refine Kd.C_drew ?_))); (case side4 => exact (Kd.V_reads' HO_1.out).2.1); rintro e w158 ⟨rfl, hb⟩; refine ⟨_, rfl, ?_⟩; replace HO_1 := aM (Kd.V_below (zV HO_1) hb); replace HO_340001 := aM (Kd.N_below (zN HO_340001) hb); replace HO394 := aM (Kd.N_below (zN HO394) hb); replace HO398 := aM (Kd.R_below (zR HO398) hb); replace HO402 := aM (Kd.R_below (zR HO402) hb); replace HO405 := aM (Kd.R_below (zR HO405) hb); replace BK339 := aM (blk_below (g := gb339) (o := .cells #[.int .i64 t334, .slice Ao31 t335.length co31] 46 (0, 0)) (zB BK339) hb); replace BK395 := aM (blk_below (g := gb395) (o := .cells #[.int .i64 4, .slice Ao146 y392.length co146] 46 (0, 0)) (zB BK395) hb); replace HB := aM (below_step zz36 hb); (try clear hb); (try clear hb2); (try clear hk); (try clear hi); have hcz159_0 : w158.cell? ⟨gb339, 0, none⟩ = some (.int .i64 t334) := (blk_cell BK339.out 0).trans rfl; have hcz159_1 : w158.cell? ⟨gb339, 1, none⟩ = some (.slice Ao31 t335.length co31) := (blk_cell BK339.out 1).trans rfl; have hfz159_0 := blk_frozen BK339.out 0; have hfz159_1 := blk_frozen BK339.out 1; have hcz160_0 : w158.cell? ⟨gb395, 0, none⟩ = some (.int .i64 4) := (blk_cell BK395.out 0).trans rfl; have hcz160_1 : w158.cell? ⟨gb395, 1, none⟩ = some (.slice Ao146 y392.length co146) := (blk_cell BK395.out 1).trans rfl; have hfz160_0 := blk_frozen BK395.out 0; have hfz160_1 := blk_frozen BK395.out 1) | ((with_reducible refine gate_callee (f := 32) rfl ?_); refine goesL_ (some 142) rfl rfl Try.func32 (by kernel_rfl) rfl #[.agg #[.int .i64 t334, .slice Ao31 t335.length co31], .agg #[.int .i64 4, .slice Ao146 y392.length co146]] rfl zz51 ?_; (with_reducible refine (r30_Same.callsz kj38 t334 _ _ t335 4 _ _ y392 true _ ?side1 ?side2 ?side3 ?side4 A103.out (by first | rfl | assumption)).mono ?_); (case side1 => repeat (first | exact (Kd.N_reads' HO_340001.out).2.2 | (with_reducible refine Kd.C_alloc ?_ _) | (with_reducible refine Kd.C_drewN ?_ _) | (with_reducible refine Kd.C_drew ?_))); (case side2 => exact (Kd.N_reads' HO_340001.out).2.1); (case side3 => repeat (first | exact (Kd.N_reads' HO394.out).2.2 | (with_reducible refine Kd.C_alloc ?_ _) | (with_reducible refine Kd.C_drewN ?_ _) | (with_reducible refine Kd.C_drew ?_))); (case side4 => exact (Kd.N_reads' HO394.out).2.1); rintro e w161 ⟨rfl, hb⟩; refine ⟨_, rfl, ?_⟩; replace HO_1 := aM (Kd.V_below (zV HO_1) hb); replace HO_340001 := aM (Kd.N_below (zN HO_340001) hb); replace HO394 := aM (Kd.N_below (zN HO394) hb); replace HO398 := aM (Kd.R_below (zR HO398) hb); replace HO402 := aM (Kd.R_below (zR HO402) hb); replace HO405 := aM (Kd.R_below (zR HO405) hb); replace BK339 := aM (blk_below (g := gb339) (o := .cells #[.int .i64 t334, .slice Ao31 t335.length co31] 46 (0, 0)) (zB BK339) hb); replace BK395 := aM (blk_below (g := gb395) (o := .cells #[.int .i64 4, .slice Ao146 y392.length co146] 46 (0, 0)) (zB BK395) hb); replace HB := aM (below_step zz36 hb); (try clear hb); (try clear hb2); (try clear hk); (try clear hi)) | ((with_reducible refine gate_dst (N := 157) rfl ?_); (try (refine gate_guard (by rfl) ?_; dsimp only)); refine Kd.R_lit (Kd.int .u32) _ 72 ?hg (N := 157) ?hd (xs := ([6] : List Int)) (inner := [.int .u32 6]) (ok := fun _ => True) (okp := fun _ => True) ?hr ?hp (fun _ hk => hk) trivial (Below.refl _ _) (Nat.le_refl _) (by simp) ?_; (case hd => rfl); (case hg => rfl); (case hr => first | (go_simp; done) | (go_simp; rfl)); (case hp => exact (Reps.one (show Kd.M (Kd.int .u32) _ _ _ 6 [.int .u32 6] from rfl) (Reps.none _ _))); intro v412 w162 ho163 hb hg_ hnew_; clear hg_ hnew_; (first | rw [← Ny411.out] at ho163 | (simp only [Int.reduceToNat] at ho163; rw [← Ny411.out] at ho163)); replace HO_1 := aM (Kd.V_elder' (zV HO_1) (Kd.R_base ho163) hb); replace HO_340001 := aM (Kd.N_elder' (zN HO_340001) (Kd.R_base ho163) hb); replace HO394 := aM (Kd.N_elder' (zN HO394) (Kd.R_base ho163) hb); replace HO402 := aM (Kd.R_below (zR HO402) hb); replace HO405 := aM (Kd.R_below (zR HO405) hb); have HO413 := aM (Kd.R_lower (Kd.R_new' ho163 (Kd.R_lt (zR HO398))) (below_size zz36)); replace HO398 := aM (Kd.R_elder' (zR HO398) (Kd.R_base ho163) hb); replace BK339 := aM (blk_below (g := gb339) (o := .cells #[.int .i64 t334, .slice Ao31 t335.length co31] 46 (0, 0)) (zB BK339) hb); replace BK395 := aM (blk_below (g := gb395) (o := .cells #[.int .i64 4, .slice Ao146 y392.length co146] 46 (0, 0)) (zB BK395) hb); replace HB := aM (below_step zz36 hb); clear hb ho163; obtain ⟨Ao164, co164, eo164⟩ := Kd.R_slice HO398.out; subst eo164; obtain ⟨Ao165, co165, eo165⟩ := Kd.R_slice HO413.out; subst eo165) | (go_at_call 46; (with_reducible refine (r01_Cmp.calls kj38 _ _ t396 _ _ y411 t414 _ ?side1 ?side2 ?side3 ?side4 A108.out).mono ?_); (case side1 => repeat (first | exact (Kd.R_reads' HO398.out).2.2 | (with_reducible refine Kd.C_alloc ?_ _) | (with_reducible refine Kd.C_drewN ?_ _) | (with_reducible refine Kd.C_drew ?_))); (case side2 => exact (Kd.R_reads' HO398.out).2.1); (case side3 => repeat (first | exact (Kd.R_reads' HO413.out).2.2 | (with_reducible refine Kd.C_alloc ?_ _) | (with_reducible refine Kd.C_drewN ?_ _) | (with_reducible refine Kd.C_drew ?_))); (case side4 => exact (Kd.R_reads' HO413.out).2.1); rintro e w166 ⟨rfl, hb⟩; replace HO_1 := aM (Kd.V_below (zV HO_1) hb); replace HO_340001 := aM (Kd.N_below (zN HO_340001) hb); replace HO394 := aM (Kd.N_below (zN HO394) hb); replace HO398 := aM (Kd.R_below (zR HO398) hb); replace HO402 := aM (Kd.R_below (zR HO402) hb); replace HO405 := aM (Kd.R_below (zR HO405) hb); replace HO413 := aM (Kd.R_below (zR HO413) hb); replace BK339 := aM (blk_below (g := gb339) (o := .cells #[.int .i64 t334, .slice Ao31 t335.length co31] 46 (0, 0)) (zB BK339) hb); replace BK395 := aM (blk_below (g := gb395) (o := .cells #[.int .i64 4, .slice Ao146 y392.length co146] 46 (0, 0)) (zB BK395) hb); replace HB := aM (below_step zz36 hb); (try clear hb); (try clear hb2); (try clear hk); (try clear hi)) | ((with_reducible refine gate_dst (N := 163) rfl ?_); (try (refine gate_guard (by rfl) ?_; dsimp only)); refine Kd.R_lit (Kd.int .i64) _ 3 ?hg (N := 163) ?hd (xs := ([0, 1, 3, 2] : List Int)) (inner := [.int .i64 0, .int .i64 1, .int .i64 3, .int .i64 2]) (ok := fun _ => True) (okp := fun _ => True) ?hr ?hp (fun _ hk => hk) trivial (Below.refl _ _) (Nat.le_refl _) (by simp) ?_; (case hd => rfl); (case hg => rfl); (case hr => first | (go_simp; done) | (go_simp; rfl)); (case hp => exact (Reps.one (show Kd.M (Kd.int .i64) _ _ _ 0 [.int .i64 0] from rfl) (Reps.one (show Kd.M (Kd.int .i64) _ _ _ 1 [.int .i64 1] from rfl) (Reps.one (show Kd.M (Kd.int .i64) _ _ _ 3 [.int .i64 3] from rfl) (Reps.one (show Kd.M (Kd.int .i64) _ _ _ 2 [.int .i64 2] from rfl) (Reps.none _ _)))))); intro v416 w167 ho168 hb hg_ hnew_; clear hg_ hnew_; (first | rw [← Ny415.out] at ho168 | (simp only [Int.reduceToNat] at ho168; rw [← Ny415.out] at ho168)); replace HO_1 := aM (Kd.V_elder' (zV HO_1) (Kd.R_base ho168) hb); replace HO_340001 := aM (Kd.N_elder' (zN HO_340001) (Kd.R_base ho168) hb); replace HO394 := aM (Kd.N_elder' (zN HO394) (Kd.R_base ho168) hb); replace HO398 := aM (Kd.R_below (zR HO398) hb); replace HO413 := aM (Kd.R_below (zR HO413) hb); have HO417 := aM (Kd.R_lower (Kd.R_new' (Kd.R_new' ho168 (Kd.R_lt (zR HO402))) (Kd.R_lt (zR HO405))) (below_size zz36)); replace HO402 := aM (Kd.R_elder' (zR HO402) (Kd.R_base ho168) hb); replace HO405 := aM (Kd.R_elder' (zR HO405) (Kd.R_base ho168) hb); replace BK339 := aM (blk_below (g := gb339) (o := .cells #[.int .i64 t334, .slice Ao31 t335.length co31] 46 (0, 0)) (zB BK339) hb); replace BK395 := aM (blk_below (g := gb395) (o := .cells #[.int .i64 4, .slice Ao146 y392.length co146] 46 (0, 0)) (zB BK395) hb); replace HB := aM (below_step zz36 hb); clear hb ho168; obtain ⟨Ao169, co169, eo169⟩ := Kd.R_slice HO405.out; subst eo169; obtain ⟨Ao170, co170, eo170⟩ := Kd.R_slice HO417.out; subst eo170) | (go_at_call 15; (with_reducible refine (r09_SameInts.calls kj38 _ _ t403 _ _ y415 true _ ?side1 ?side2 ?side3 ?side4 A110.out).mono ?_); (case side1 => repeat (first | exact (Kd.R_reads' HO405.out).2.2 | (with_reducible refine Kd.C_alloc ?_ _) | (with_reducible refine Kd.C_drewN ?_ _) | (with_reducible refine Kd.C_drew ?_))); (case side2 => exact (Kd.R_reads' HO405.out).2.1); (case side3 => repeat (first | exact (Kd.R_reads' HO417.out).2.2 | (with_reducible refine Kd.C_alloc ?_ _) | (with_reducible refine Kd.C_drewN ?_ _) | (with_reducible refine Kd.C_drew ?_))); (case side4 => exact (Kd.R_reads' HO417.out).2.1); rintro e w' ⟨rfl, ⟨nd, rfl⟩⟩; have hcz171_0 : w167.cell? ⟨gb339, 0, none⟩ = some (.int .i64 t334) := (blk_cell BK339.out 0).trans rfl; have hcz171_1 : w167.cell? ⟨gb339, 1, none⟩ = some (.slice Ao31 t335.length co31) := (blk_cell BK339.out 1).trans rfl; have hfz171_0 := blk_frozen BK339.out 0; have hfz171_1 := blk_frozen BK339.out 1) | (go_at_call 36; (with_reducible refine (perm_CheckChain.callsz kj38 t334 _ _ t335 t419 _ ?side1 ?side2 A114.out zz74).mono ?_); (case side1 => repeat (first | exact (Kd.N_reads' HO_340001.out).2.2 | (with_reducible refine Kd.C_alloc ?_ _) | (with_reducible refine Kd.C_drewN ?_ _) | (with_reducible refine Kd.C_drew ?_))); (case side2 => exact (Kd.N_reads' HO_340001.out).2.1); rintro e w172 ⟨rfl, hb⟩; replace HO_1 := aM (Kd.V_below (zV HO_1) hb); replace HO_340001 := aM (Kd.N_below (zN HO_340001) hb); replace HO394 := aM (Kd.N_below (zN HO394) hb); replace HO398 := aM (Kd.R_below (zR HO398) hb); replace HO402 := aM (Kd.R_below (zR HO402) hb); replace HO405 := aM (Kd.R_below (zR HO405) hb); replace HO413 := aM (Kd.R_below (zR HO413) hb); replace HO417 := aM (Kd.R_below (zR HO417) hb); replace BK339 := aM (blk_below (g := gb339) (o := .cells #[.int .i64 t334, .slice Ao31 t335.length co31] 46 (0, 0)) (zB BK339) hb); replace BK395 := aM (blk_below (g := gb395) (o := .cells #[.int .i64 4, .slice Ao146 y392.length co146] 46 (0, 0)) (zB BK395) hb); replace HB := aM (below_step zz36 hb); (try clear hb); (try clear hb2); (try clear hk); (try clear hi)) | ((with_reducible refine gate_dst (N := 179) rfl ?_); (try (refine gate_guard (by rfl) ?_; dsimp only)); refine Kd.R_lit (Kd.int .i64) _ 3 ?hg (N := 179) ?hd (xs := ([0, 0] : List Int)) (inner := [.int .i64 0, .int .i64 0]) (ok := fun _ => True) (okp := fun _ => True) ?hr ?hp (fun _ hk => hk) trivial (Below.refl _ _) (Nat.le_refl _) (by simp) ?_; (case hd => rfl); (case hg => rfl); (case hr => first | (go_simp; done) | (go_simp; rfl)); (case hp => exact (Reps.one (show Kd.M (Kd.int .i64) _ _ _ 0 [.int .i64 0] from rfl) (Reps.one (show Kd.M (Kd.int .i64) _ _ _ 0 [.int .i64 0] from rfl) (Reps.none _ _)))); intro v421 w173 ho174 hb hg_ hnew_; clear hg_ hnew_; (first | rw [← Ny420.out] at ho174 | (simp only [Int.reduceToNat] at ho174; rw [← Ny420.out] at ho174)); replace HO_1 := aM (Kd.V_elder' (zV HO_1) (Kd.R_base ho174) hb); replace HO_340001 := aM (Kd.N_elder' (zN HO_340001) (Kd.R_base ho174) hb); replace HO394 := aM (Kd.N_elder' (zN HO394) (Kd.R_base ho174) hb); replace HO398 := aM (Kd.R_below (zR HO398) hb); replace HO413 := aM (Kd.R_below (zR HO413) hb); have HO422 := aM (Kd.R_lower (Kd.R_new' (Kd.R_new' (Kd.R_new' ho174 (Kd.R_lt (zR HO402))) (Kd.R_lt (zR HO405))) (Kd.R_lt (zR HO417))) (below_size zz36)); replace HO402 := aM (Kd.R_elder' (zR HO402) (Kd.R_base ho174) hb); replace HO405 := aM (Kd.R_elder' (zR HO405) (Kd.R_base ho174) hb); replace HO417 := aM (Kd.R_elder' (zR HO417) (Kd.R_base ho174) hb); replace BK339 := aM (blk_below (g := gb339) (o := .cells #[.int .i64 t334, .slice Ao31 t335.length co31] 46 (0, 0)) (zB BK339) hb); replace BK395 := aM (blk_below (g := gb395) (o := .cells #[.int .i64 4, .slice Ao146 y392.length co146] 46 (0, 0)) (zB BK395) hb); replace HB := aM (below_step zz36 hb); clear hb ho174; obtain ⟨Ao175, co175, eo175⟩ := Kd.R_slice HO422.out; subst eo175) | (go_at_call 16; (with_reducible refine (perm_Check.calls _ _ y420 t423 _ ?side1 ?side2 A116.out).mono ?_); (case side1 => repeat (first | exact (Kd.R_reads' HO422.out).2.2 | (with_reducible refine Kd.C_alloc ?_ _) | (with_reducible refine Kd.C_drewN ?_ _) | (with_reducible refine Kd.C_drew ?_))); (case side2 => exact (Kd.R_reads' HO422.out).2.1); rintro e w176 ⟨rfl, hb⟩; replace HO_1 := aM (Kd.V_below (zV HO_1) hb); replace HO_340001 := aM (Kd.N_below (zN HO_340001) hb); replace HO394 := aM (Kd.N_below (zN HO394) hb); replace HO398 := aM (Kd.R_below (zR HO398) hb); replace HO402 := aM (Kd.R_below (zR HO402) hb); replace HO405 := aM (Kd.R_below (zR HO405) hb); replace HO413 := aM (Kd.R_below (zR HO413) hb); replace HO417 := aM (Kd.R_below (zR HO417) hb); replace HO422 := aM (Kd.R_below (zR HO422) hb); replace BK339 := aM (blk_below (g := gb339) (o := .cells #[.int .i64 t334, .slice Ao31 t335.length co31] 46 (0, 0)) (zB BK339) hb); replace BK395 := aM (blk_below (g := gb395) (o := .cells #[.int .i64 4, .slice Ao146 y392.length co146] 46 (0, 0)) (zB BK395) hb); replace HB := aM (below_step zz36 hb); (try clear hb); (try clear hb2); (try clear hk); (try clear hi)))
                            go_ret
                            exact ⟨by first | rfl | (simp [errW_none, errW_some] <;> rfl) | (simp [*, errW_none, errW_some] <;> rfl), by repeat (first | (with_reducible first | exact HB.out | apply below_alloc | apply pw_below_drewN | apply below_drew1 | refine below_set ?_ GE339.out | refine below_set ?_ GE395.out) | exact HB.out)⟩
                          rw [if_neg c115] at H; have c115b0 := beq_eq_false_iff_ne.mpr c115; have c115b1 := bne_iff_ne.mpr c115
                          exact absurd (Option.some.inj (H.trans (congrArg some HR_.out))) (by decide)
                        replace c113 := Bool.eq_false_iff.mpr c113; subst c113; have H1 : (some false) = some r := by rw [if_neg (show ¬ (false = true) by decide)] at H; exact H
                        clear H; have H := H1; clear H1
                        exact absurd (Option.some.inj (H.trans (congrArg some HR_.out))) (by decide)
                      rw [if_neg c112] at H; have c112b0 := beq_eq_false_iff_ne.mpr c112; have c112b1 := bne_iff_ne.mpr c112
                      exact absurd (Option.some.inj (H.trans (congrArg some HR_.out))) (by decide)
                    replace c111 := Bool.eq_false_iff.mpr c111; subst c111; have H1 : (some false) = some r := by rw [if_neg (show ¬ (false = true) by decide)] at H; exact H
                    clear H; have H := H1; clear H1
                    exact absurd (Option.some.inj (H.trans (congrArg some HR_.out))) (by decide)
                  rw [if_neg c109] at H; have c109b0 := beq_eq_false_iff_ne.mpr c109; have c109b1 := bne_iff_ne.mpr c109
                  exact absurd (Option.some.inj (H.trans (congrArg some HR_.out))) (by decide)
                rw [if_neg c107] at H; have c107b0 := beq_eq_false_iff_ne.mpr c107; have c107b1 := bne_iff_ne.mpr c107
                exact absurd (Option.some.inj (H.trans (congrArg some HR_.out))) (by decide)
              rw [if_neg c106] at H; have c106b0 := beq_eq_false_iff_ne.mpr c106; have c106b1 := bne_iff_ne.mpr c106
              exact absurd (Option.some.inj (H.trans (congrArg some HR_.out))) (by decide)
            rw [if_neg c105] at H; have c105b0 := beq_eq_false_iff_ne.mpr c105; have c105b1 := bne_iff_ne.mpr c105
            exact absurd (Option.some.inj (H.trans (congrArg some HR_.out))) (by decide)
          replace c104 := Bool.eq_false_iff.mpr c104; subst c104; have H1 : (some false) = some r := by rw [if_neg (show ¬ (false = true) by decide)] at H; exact H
          clear H; have H := H1; clear H1
          exact absurd (Option.some.inj (H.trans (congrArg some HR_.out))) (by decide)
end
section
theorem awakeW_true : l30_awakeW.f 200 = some true := by decide +kernel
def l30_awake.f : Option Bool := some true
theorem l30_awake.calls (r : Bool) (w : World) (h : l30_awake.f = some r) :
    Calls Try.prog 12 #[] w fun e w' => e = .returned (.bool r) ∧ Below w.heap.size w w' := by
  cases h
  exact l30_awakeW.calls 200 true w awakeW_true rfl
end
section
attribute [local go_sem] max2_int min2_int max_two min_two max_three min_three max_four min_four
def l30_PermOrbits.j0 : Nat → Int → List (List Int) → Bool → Option (Bool)
  | 0, _, _, _ => none
  | k + 1, x0, x1, x16 => if x16 = true then ((l30_awake.f).bind fun t505 => (some t505)) else ((perm_Orbits.f k x0 x1).bind fun bt506 => ((r30_Orbits.f k x0 x1).bind fun bt510 => (if bt506.2 = bt510.2 then ((r09_SameRows.f k bt506.1 bt510.1).bind fun t514 => (some t514)) else (some false))))
def l30_PermOrbits.f (k : Nat) (a0 : Int) (l1 : List (List Int)) : Option (Bool) := (l30_awake.f).bind fun t503 => (if t503 = true then ((r09_Few.f k 0 l1 400).bind fun t504 => (l30_PermOrbits.j0 k a0 l1 (!t504))) else (l30_PermOrbits.j0 k a0 l1 true))
theorem l30_PermOrbits.calls (k : Nat) (a0 : Int) (A1 : Option Addr) (c1 : Nat) (l1 : List (List Int)) (r : Bool) (w : World) (hr1 : Kd.C (Kd.slice 3 (Kd.int .i64)) w A1 l1.length l1) (hc1 : l1.length ≤ c1) (h : l30_PermOrbits.f k a0 l1 = some r) :
    Calls Try.prog 5 #[.int .i64 a0, .slice A1 l1.length c1] w fun e w' => e = .returned (.bool r) ∧ Below w.heap.size w w' := by
  have hu42 := Try.underlying42
  have HR1 := aM hr1
  have HC1 := aM hc1
  clear hr1 hc1
  have HB := aM (Below.refl w.heap.size w)
  have H : ((l30_awake.f).bind fun t503 => (if t503 = true then ((r09_Few.f k 0 l1 400).bind fun t504 => (l30_PermOrbits.j0 k a0 l1 (!t504))) else (l30_PermOrbits.j0 k a0 l1 true))) = some r := h
  clear h
  have HC3 := aM H
  clear H
  go_enter Try.func5, Try.ntmps5
  go_upto_region 1 with (fail)
  go_cut [16] (fun v16 wc => ∃ (kq : Nat) (x16_2 : Bool), v16 = .bool x16_2 ∧ Aside0 (l30_PermOrbits.j0 kq a0 l1 x16_2 = some r) ∧ Aside0 (kq ≤ k) ∧ Aside0 (Below w.heap.size w wc))
  case first =>
    have H := HC3.out; clear HC3; replace H := Option.bind_eq_some_iff.mp H; obtain ⟨t503, A40, H⟩ := H; replace H : (if t503 = true then ((r09_Few.f k 0 l1 400).bind fun t504 => (l30_PermOrbits.j0 k a0 l1 (!t504))) else (l30_PermOrbits.j0 k a0 l1 true)) = some r := H; have A4 := aM A40; clear A40
    by_cases c5 : t503 = true
    · subst c5; have H1 : ((r09_Few.f k 0 l1 400).bind fun t504 => (l30_PermOrbits.j0 k a0 l1 (!t504))) = some r := by rw [if_pos rfl] at H; exact H
      clear H; have H := H1; clear H1; replace H := Option.bind_eq_some_iff.mp H; obtain ⟨t504, A60, H⟩ := H; replace H : (l30_PermOrbits.j0 k a0 l1 (!t504)) = some r := H; have A6 := aM A60; clear A60; have H' := aM H; clear H
      go_wp2_with (first | ((with_reducible refine gate_callee (f := 12) rfl ?_); refine goesL_ (some 9) rfl rfl Try.func12 (by kernel_rfl) rfl #[] rfl zz51 ?_; (with_reducible refine (l30_awake.calls  true _ A4.out).mono ?_); rintro e w7 ⟨rfl, hb⟩; refine ⟨_, rfl, ?_⟩; replace HB := aM (below_step zz53 hb); (try clear hb); (try clear hb2); (try clear hk); (try clear hi)) | (go_at_call 27; (with_reducible refine (r09_Few.calls k 0 _ _ l1 400 t504 _ ?side1 ?side2 A6.out).mono ?_); (case side1 => repeat (first | exact (Kd.C_below HR1.out HB.out) | (with_reducible refine Kd.C_alloc ?_ _) | (with_reducible refine Kd.C_drewN ?_ _) | (with_reducible refine Kd.C_drew ?_))); (case side2 => exact HC1.out); rintro e w8 ⟨rfl, hb⟩; replace HB := aM (below_step zz53 hb); (try clear hb); (try clear hb2); (try clear hk); (try clear hi)))
      go_meet
      case rel => exact ⟨_, (!t504), zz77, H', ⟨zz79⟩, ⟨zz53⟩⟩
    replace c5 := Bool.eq_false_iff.mpr c5; subst c5; have H1 : (l30_PermOrbits.j0 k a0 l1 true) = some r := by rw [if_neg (show ¬ (false = true) by decide)] at H; exact H
    clear H; have H := H1; clear H1; have H' := aM H; clear H
    go_wp2_with (first | ((with_reducible refine gate_callee (f := 12) rfl ?_); refine goesL_ (some 9) rfl rfl Try.func12 (by kernel_rfl) rfl #[] rfl zz51 ?_; (with_reducible refine (l30_awake.calls  false _ A4.out).mono ?_); rintro e w9 ⟨rfl, hb⟩; refine ⟨_, rfl, ?_⟩; replace HB := aM (below_step zz53 hb); (try clear hb); (try clear hb2); (try clear hk); (try clear hi)))
    go_meet
    case rel => exact ⟨_, (true), zz77, H', ⟨zz79⟩, ⟨zz53⟩⟩
  case rest =>
    clear HC3; (try clear c1); (try clear p2); (try clear c5); obtain ⟨kq, x16_2, rfl, HA, HJ2, HB⟩ := hcut
    cases kq with
    | zero => exact absurd HA.out (by simp [l30_PermOrbits.j0])
    | succ kj2 =>
      have H := HA.out; clear HA; simp only [l30_PermOrbits.j0] at H
      by_cases c10 : x16_2 = true
      · subst c10; have H1 : ((l30_awake.f).bind fun t505 => (some t505)) = some r := by rw [if_pos rfl] at H; exact H
        clear H; have H := H1; clear H1; replace H := Option.bind_eq_some_iff.mp H; obtain ⟨t505, A110, H⟩ := H; replace H : (some t505) = some r := H; have A11 := aM A110; clear A110; obtain rfl := Option.some.inj H
        go_wp2_with (first | ((with_reducible refine gate_callee (f := 12) rfl ?_); refine goesL_ (some 17) rfl rfl Try.func12 (by kernel_rfl) rfl #[] rfl zz51 ?_; (with_reducible refine (l30_awake.calls  t505 _ A11.out).mono ?_); rintro e w12 ⟨rfl, hb⟩; refine ⟨_, rfl, ?_⟩; replace HB := aM (below_step zz53 hb); (try clear hb); (try clear hb2); (try clear hk); (try clear hi)))
        go_ret
        exact ⟨by first | rfl | (simp [errW_none, errW_some] <;> rfl) | (simp [*, errW_none, errW_some] <;> rfl), by repeat (first | (with_reducible first | exact HB.out | apply below_alloc | apply pw_below_drewN | apply below_drew1) | exact HB.out)⟩
      replace c10 := Bool.eq_false_iff.mpr c10; subst c10; have H1 : ((perm_Orbits.f kj2 a0 l1).bind fun bt506 => ((r30_Orbits.f kj2 a0 l1).bind fun bt510 => (if bt506.2 = bt510.2 then ((r09_SameRows.f kj2 bt506.1 bt510.1).bind fun t514 => (some t514)) else (some false)))) = some r := by rw [if_neg (show ¬ (false = true) by decide)] at H; exact H
      clear H; have H := H1; clear H1; replace H := Option.bind_eq_some_iff.mp H; obtain ⟨⟨t506, t507⟩, A130, H⟩ := H; replace H : ((r30_Orbits.f kj2 a0 l1).bind fun bt510 => (if t507 = bt510.2 then ((r09_SameRows.f kj2 t506 bt510.1).bind fun t514 => (some t514)) else (some false))) = some r := H; have A13 := aM A130; clear A130; replace H := Option.bind_eq_some_iff.mp H; obtain ⟨⟨t510, t511⟩, A140, H⟩ := H; replace H : (if t507 = t511 then ((r09_SameRows.f kj2 t506 t510).bind fun t514 => (some t514)) else (some false)) = some r := H; have A14 := aM A140; clear A140
      by_cases c15 : t507 = t511
      · rw [if_pos c15] at H; have c15b0 := beq_iff_eq.mpr c15; have c15b1 := bne_eq_false_iff_eq.mpr c15; clear c15; replace H := Option.bind_eq_some_iff.mp H; obtain ⟨t514, A160, H⟩ := H; replace H : (some t514) = some r := H; have A16 := aM A160; clear A160; obtain rfl := Option.some.inj H
        go_wp2_with (first | ((with_reducible refine gate_callee (f := 28) rfl ?_); refine goesL_ (some 21) rfl rfl Try.func28 (by kernel_rfl) rfl #[.int .i64 a0, .slice A1 l1.length c1] rfl zz51 ?_; (with_reducible refine (perm_Orbits.calls kj2 a0 _ _ l1 t506 t507 _ ?side1 ?side2 A13.out).mono ?_); (case side1 => repeat (first | exact (Kd.C_below HR1.out HB.out) | (with_reducible refine Kd.C_alloc ?_ _) | (with_reducible refine Kd.C_drewN ?_ _) | (with_reducible refine Kd.C_drew ?_))); (case side2 => exact HC1.out); rintro e w17 ⟨v508, rfl, ho0, hb⟩; refine ⟨_, rfl, ?_⟩; have HO509 := aM (Kd.S_lower ho0 (below_size zz53)); replace HB := aM (below_step zz53 hb); (try clear hb); (try clear hb2); (try clear hk); (try clear hi); (try clear ho0)) | ((with_reducible refine gate_callee (f := 29) rfl ?_); refine goesL_ (some 27) rfl rfl Try.func29 (by kernel_rfl) rfl #[.int .i64 a0, .slice A1 l1.length c1] rfl zz51 ?_; (with_reducible refine (r30_Orbits.calls kj2 a0 _ _ l1 t510 t511 _ ?side1 ?side2 A14.out).mono ?_); (case side1 => repeat (first | exact (Kd.C_below HR1.out HB.out) | (with_reducible refine Kd.C_alloc ?_ _) | (with_reducible refine Kd.C_drewN ?_ _) | (with_reducible refine Kd.C_drew ?_))); (case side2 => exact HC1.out); rintro e w18 ⟨v512, rfl, ho0, hb⟩; refine ⟨_, rfl, ?_⟩; have HO513 := aM (Kd.S_lower (Kd.S_new' ho0 (Kd.S_lt (zS HO509))) (below_size zz53)); replace HO509 := aM (Kd.S_elder' (zS HO509) (Kd.S_base ho0) hb); replace HB := aM (below_step zz53 hb); (try clear hb); (try clear hb2); (try clear hk); (try clear hi); (try clear ho0); obtain ⟨Ao19, co19, eo19⟩ := Kd.S_slice HO509.out; subst eo19; obtain ⟨Ao20, co20, eo20⟩ := Kd.S_slice HO513.out; subst eo20) | (go_at_call 24; (with_reducible refine (r09_SameRows.calls kj2 _ _ t506 _ _ t510 t514 _ ?side1 ?side2 ?side3 ?side4 A16.out).mono ?_); (case side1 => repeat (first | exact (Kd.S_reads' HO509.out).2.2 | (with_reducible refine Kd.C_alloc ?_ _) | (with_reducible refine Kd.C_drewN ?_ _) | (with_reducible refine Kd.C_drew ?_))); (case side2 => exact (Kd.S_reads' HO509.out).2.1); (case side3 => repeat (first | exact (Kd.S_reads' HO513.out).2.2 | (with_reducible refine Kd.C_alloc ?_ _) | (with_reducible refine Kd.C_drewN ?_ _) | (with_reducible refine Kd.C_drew ?_))); (case side4 => exact (Kd.S_reads' HO513.out).2.1); rintro e w' ⟨rfl, ⟨nd, rfl⟩⟩))
        go_ret
        exact ⟨by first | rfl | (simp [errW_none, errW_some] <;> rfl) | (simp [*, errW_none, errW_some] <;> rfl), by repeat (first | (with_reducible first | exact HB.out | apply below_alloc | apply pw_below_drewN | apply below_drew1) | exact HB.out)⟩
      rw [if_neg c15] at H; have c15b0 := beq_eq_false_iff_ne.mpr c15; have c15b1 := bne_iff_ne.mpr c15; obtain rfl := Option.some.inj H
      go_wp2_with (first | ((with_reducible refine gate_callee (f := 28) rfl ?_); refine goesL_ (some 21) rfl rfl Try.func28 (by kernel_rfl) rfl #[.int .i64 a0, .slice A1 l1.length c1] rfl zz51 ?_; (with_reducible refine (perm_Orbits.calls kj2 a0 _ _ l1 t506 t507 _ ?side1 ?side2 A13.out).mono ?_); (case side1 => repeat (first | exact (Kd.C_below HR1.out HB.out) | (with_reducible refine Kd.C_alloc ?_ _) | (with_reducible refine Kd.C_drewN ?_ _) | (with_reducible refine Kd.C_drew ?_))); (case side2 => exact HC1.out); rintro e w21 ⟨v508, rfl, ho0, hb⟩; refine ⟨_, rfl, ?_⟩; have HO509 := aM (Kd.S_lower ho0 (below_size zz53)); replace HB := aM (below_step zz53 hb); (try clear hb); (try clear hb2); (try clear hk); (try clear hi); (try clear ho0)) | ((with_reducible refine gate_callee (f := 29) rfl ?_); refine goesL_ (some 27) rfl rfl Try.func29 (by kernel_rfl) rfl #[.int .i64 a0, .slice A1 l1.length c1] rfl zz51 ?_; (with_reducible refine (r30_Orbits.calls kj2 a0 _ _ l1 t510 t511 _ ?side1 ?side2 A14.out).mono ?_); (case side1 => repeat (first | exact (Kd.C_below HR1.out HB.out) | (with_reducible refine Kd.C_alloc ?_ _) | (with_reducible refine Kd.C_drewN ?_ _) | (with_reducible refine Kd.C_drew ?_))); (case side2 => exact HC1.out); rintro e w22 ⟨v512, rfl, ho0, hb⟩; refine ⟨_, rfl, ?_⟩; have HO513 := aM (Kd.S_lower (Kd.S_new' ho0 (Kd.S_lt (zS HO509))) (below_size zz53)); replace HO509 := aM (Kd.S_elder' (zS HO509) (Kd.S_base ho0) hb); replace HB := aM (below_step zz53 hb); (try clear hb); (try clear hb2); (try clear hk); (try clear hi); (try clear ho0)))
      go_ret
      exact ⟨by first | rfl | (simp [errW_none, errW_some] <;> rfl) | (simp [*, errW_none, errW_some] <;> rfl), by repeat (first | (with_reducible first | exact HB.out | apply below_alloc | apply pw_below_drewN | apply below_drew1) | exact HB.out)⟩
end
end Go.Proofs.Ytjjlhbgpdncpcaa.P
section
set_option linter.unusedVariables false
set_option linter.unusedSimpArgs false
namespace Go.Proofs.Ytjjlhbgpdncpcaa.P.M
def ap (l : List Int) (i : Int) : Int := l.getD i.toNat 0
def Pm (n : Nat) (l : List Int) : Prop := l.length = n ∧ (∀ x ∈ l, 0 ≤ x ∧ x < (n : Int)) ∧ l.Nodup
def mulL (p q : List Int) : List Int := p.map (fun x => ap q x)
def idL (n : Nat) : List Int := (List.range n).map (fun (i : Nat) => (i : Int))
def invL (p : List Int) : List Int := (List.range p.length).map (fun (i : Nat) => ((p.idxOf (i : Int) : Nat) : Int))
theorem ap_nat (l : List Int) (i : Nat) : ap l (i : Int) = l.getD i 0 := by simp [ap]
theorem ap_mem {l : List Int} {i : Int} (h0 : 0 ≤ i) (h1 : i < (l.length : Int)) : ap l i ∈ l := by
  have h : i.toNat < l.length := by omega
  simp only [ap, List.getD_eq_getElem?_getD, List.getElem?_eq_getElem h, Option.getD_some]
  exact List.getElem_mem h
theorem ap_map (f : Int → Int) (l : List Int) {i : Int} (h0 : 0 ≤ i) (h1 : i < (l.length : Int)) : ap (l.map f) i = f (ap l i) := by
  have h : i.toNat < l.length := by omega
  simp [ap, List.getD_eq_getElem?_getD, List.getElem?_eq_getElem h]
theorem ap_range (n : Nat) (f : Nat → Int) {i : Int} (h0 : 0 ≤ i) (h1 : i < (n : Int)) : ap ((List.range n).map f) i = f i.toNat := by
  have h : i.toNat < n := by omega
  simp [ap, List.getD_eq_getElem?_getD, h]
theorem ap_ext {n : Nat} {p q : List Int} (hp : p.length = n) (hq : q.length = n) (h : ∀ i : Int, 0 ≤ i → i < n → ap p i = ap q i) : p = q := by
  apply List.ext_getElem (by omega)
  intro i h1 h2
  have := h i (by omega) (by omega)
  rw [ap_nat, ap_nat] at this
  simpa [List.getD_eq_getElem?_getD, h1, h2] using this
theorem Pm.rng {n : Nat} {p : List Int} (h : Pm n p) {i : Int} (h0 : 0 ≤ i) (h1 : i < n) : 0 ≤ ap p i ∧ ap p i < n := h.2.1 _ (ap_mem h0 (by rw [h.1]; exact h1))
theorem Pm.inj {n : Nat} {p : List Int} (h : Pm n p) {i j : Int} (h0 : 0 ≤ i) (h1 : i < n) (k0 : 0 ≤ j) (k1 : j < n) (e : ap p i = ap p j) : i = j := by
  have hi : i.toNat < p.length := by have := h.1; omega
  have hj : j.toNat < p.length := by have := h.1; omega
  simp only [ap, List.getD_eq_getElem?_getD, List.getElem?_eq_getElem hi, List.getElem?_eq_getElem hj, Option.getD_some] at e
  have := (List.getElem_inj h.2.2).1 e
  omega
theorem sub_len : ∀ {l1 l2 : List Int}, l1.Nodup → (∀ x ∈ l1, x ∈ l2) → l1.length ≤ l2.length
  | [], _, _, _ => by simp
  | a :: l1, l2, h, hs => by
    rw [List.nodup_cons] at h; have ha : a ∈ l2 := hs a (by simp); have := sub_len (l1 := l1) (l2 := l2.erase a) h.2 (fun x hx => (List.mem_erase_of_ne (fun e => h.1 (by rw [← e]; exact hx))).2 (hs x (by simp [hx]))); rw [List.length_erase_of_mem ha] at this; have := List.length_pos_of_mem ha; simp only [List.length_cons]; omega
theorem sub_back : ∀ {l1 l2 : List Int}, l1.Nodup → (∀ x ∈ l1, x ∈ l2) → l2.length ≤ l1.length → ∀ x ∈ l2, x ∈ l1
  | [], l2, _, _, hl, x, hx => by have := List.length_pos_of_mem hx; simp only [List.length_nil] at hl; omega
  | a :: l1, l2, h, hs, hl, x, hx => by
    rw [List.nodup_cons] at h; have ha : a ∈ l2 := hs a (by simp)
    by_cases e : x = a
    · simp [e]
    · refine List.mem_cons_of_mem _ (sub_back (l1 := l1) (l2 := l2.erase a) h.2 (fun y hy => (List.mem_erase_of_ne (fun e => h.1 (by rw [← e]; exact hy))).2 (hs y (by simp [hy]))) ?_ x ((List.mem_erase_of_ne e).2 hx)); rw [List.length_erase_of_mem ha]; simp only [List.length_cons] at hl; omega
theorem mem_idL {n : Nat} {x : Int} : x ∈ idL n ↔ 0 ≤ x ∧ x < n := by
  simp only [idL, List.mem_map, List.mem_range]
  constructor
  · rintro ⟨i, hi, rfl⟩; omega
  · intro h; exact ⟨x.toNat, by omega, by omega⟩
theorem idL_len (n : Nat) : (idL n).length = n := by simp [idL]
theorem map_nodup {α β : Type} {f : α → β} {l : List α} (h : l.Nodup) (hf : ∀ x ∈ l, ∀ y ∈ l, f x = f y → x = y) : (l.map f).Nodup := by
  rw [List.Nodup, List.pairwise_map]
  refine List.Pairwise.imp_of_mem ?_ h
  intro a b ha hb hab e
  exact hab (hf a ha b hb e)
theorem Pm_id (n : Nat) : Pm n (idL n) := by
  refine ⟨idL_len n, fun x hx => mem_idL.1 hx, ?_⟩
  exact map_nodup List.nodup_range (fun x _ y _ e => by omega)
theorem ap_id {n : Nat} {i : Int} (h0 : 0 ≤ i) (h1 : i < n) : ap (idL n) i = i := by rw [idL, ap_range n _ h0 h1]; omega
theorem Pm.surj {n : Nat} {p : List Int} (h : Pm n p) {y : Int} (h0 : 0 ≤ y) (h1 : y < n) : y ∈ p :=
  sub_back h.2.2 (fun x hx => mem_idL.2 (h.2.1 x hx)) (by rw [idL_len, h.1]; exact Nat.le_refl _) y (mem_idL.2 ⟨h0, h1⟩)
theorem Pm.idx {n : Nat} {p : List Int} (h : Pm n p) {y : Int} (h0 : 0 ≤ y) (h1 : y < n) : p.idxOf y < n ∧ ap p (p.idxOf y : Nat) = y := by
  have hy := h.surj h0 h1
  have hl := List.idxOf_lt_length_of_mem hy
  refine ⟨h.1 ▸ hl, ?_⟩
  rw [ap_nat, List.getD_eq_getElem?_getD, List.getElem?_eq_getElem hl, Option.getD_some]
  exact List.getElem_idxOf hl
theorem mul_len (p q : List Int) : (mulL p q).length = p.length := by simp [mulL]
theorem ap_mul {p q : List Int} {i : Int} (h0 : 0 ≤ i) (h1 : i < (p.length : Int)) : ap (mulL p q) i = ap q (ap p i) := by rw [mulL, ap_map _ _ h0 h1]
theorem Pm.ap_mul {n : Nat} {p q : List Int} (h : Pm n p) {i : Int} (h0 : 0 ≤ i) (h1 : i < n) : ap (mulL p q) i = ap q (ap p i) := M.ap_mul h0 (by rw [h.1]; exact h1)
theorem Pm.mul {n : Nat} {p q : List Int} (hp : Pm n p) (hq : Pm n q) : Pm n (mulL p q) := by
  refine ⟨by rw [mul_len, hp.1], ?_, ?_⟩
  · intro x hx
    rw [mulL, List.mem_map] at hx; obtain ⟨y, hy, rfl⟩ := hx
    exact hq.rng (hp.2.1 y hy).1 (hp.2.1 y hy).2
  · exact map_nodup hp.2.2 (fun x hx y hy e => hq.inj (hp.2.1 x hx).1 (hp.2.1 x hx).2 (hp.2.1 y hy).1 (hp.2.1 y hy).2 e)
theorem mul_assoc {n : Nat} {p q r : List Int} (hp : Pm n p) (hq : Pm n q) (hr : Pm n r) : mulL (mulL p q) r = mulL p (mulL q r) := by
  refine ap_ext ((hp.mul hq).mul hr).1 (hp.mul (hq.mul hr)).1 (fun i h0 h1 => ?_)
  have := hp.rng h0 h1
  rw [(hp.mul hq).ap_mul h0 h1, hp.ap_mul h0 h1, hp.ap_mul h0 h1, hq.ap_mul this.1 this.2]
theorem mul_id {n : Nat} {p : List Int} (hp : Pm n p) : mulL p (idL n) = p := by
  refine ap_ext (hp.mul (Pm_id n)).1 hp.1 (fun i h0 h1 => ?_)
  have := hp.rng h0 h1
  rw [hp.ap_mul h0 h1, ap_id this.1 this.2]
theorem id_mul {n : Nat} {p : List Int} (hp : Pm n p) : mulL (idL n) p = p := by
  refine ap_ext ((Pm_id n).mul hp).1 hp.1 (fun i h0 h1 => ?_)
  rw [(Pm_id n).ap_mul h0 h1, ap_id h0 h1]
theorem inv_len (p : List Int) : (invL p).length = p.length := by simp [invL]
theorem Pm.ap_inv {n : Nat} {p : List Int} (hp : Pm n p) {i : Int} (h0 : 0 ≤ i) (h1 : i < n) : ap (invL p) i = (p.idxOf i : Nat) := by
  rw [invL, hp.1, ap_range n _ h0 h1]
  rw [show ((i.toNat : Nat) : Int) = i by omega]
theorem Pm.inv {n : Nat} {p : List Int} (hp : Pm n p) : Pm n (invL p) := by
  refine ⟨by rw [inv_len, hp.1], ?_, ?_⟩
  · intro x hx
    rw [invL, hp.1, List.mem_map] at hx; obtain ⟨i, hi, rfl⟩ := hx; rw [List.mem_range] at hi; have := hp.idx (y := i) (by omega) (by omega); omega
  · rw [invL, hp.1]
    refine map_nodup List.nodup_range (fun x hx y hy e => ?_); rw [List.mem_range] at hx hy; have h1 := hp.idx (y := x) (by omega) (by omega); have h2 := hp.idx (y := y) (by omega) (by omega); rw [e] at h1; have := h1.2.symm.trans h2.2; omega
theorem inv_mul {n : Nat} {p : List Int} (hp : Pm n p) : mulL (invL p) p = idL n := by
  refine ap_ext (hp.inv.mul hp).1 (Pm_id n).1 (fun i h0 h1 => ?_)
  rw [hp.inv.ap_mul h0 h1, hp.ap_inv h0 h1, (hp.idx h0 h1).2, ap_id h0 h1]
theorem mul_inv {n : Nat} {p : List Int} (hp : Pm n p) : mulL p (invL p) = idL n := by
  refine ap_ext (hp.mul hp.inv).1 (Pm_id n).1 (fun i h0 h1 => ?_)
  have hr := hp.rng h0 h1
  rw [hp.ap_mul h0 h1, hp.ap_inv hr.1 hr.2, ap_id h0 h1]
  have h2 := hp.idx hr.1 hr.2
  exact hp.inj (by omega) (by omega) h0 h1 h2.2
theorem mul_inv_cancel {n : Nat} {p r : List Int} (hp : Pm n p) (hr : Pm n r) : mulL (mulL p (invL r)) r = p := by rw [mul_assoc hp hr.inv hr, inv_mul hr, mul_id hp]
theorem mul_cancel_inv {n : Nat} {p r : List Int} (hp : Pm n p) (hr : Pm n r) : mulL (mulL p r) (invL r) = p := by rw [mul_assoc hp hr hr.inv, mul_inv hr, mul_id hp]
theorem inv_unique {n : Nat} {p q : List Int} (hp : Pm n p) (hq : Pm n q) (e : mulL q p = idL n) : q = invL p := by
  have := congrArg (fun x => mulL x (invL p)) e
  simp only [mul_cancel_inv hq hp, id_mul hp.inv] at this
  exact this
def powL (n : Nat) (p : List Int) : Nat → List Int
  | 0 => idL n
  | k + 1 => mulL (powL n p k) p
theorem Pm.pow {n : Nat} {p : List Int} (hp : Pm n p) : ∀ k, Pm n (powL n p k)
  | 0 => Pm_id n
  | k + 1 => (hp.pow k).mul hp
theorem pow_add {n : Nat} {p : List Int} (hp : Pm n p) (a : Nat) : ∀ b, powL n p (a + b) = mulL (powL n p a) (powL n p b)
  | 0 => (mul_id (hp.pow a)).symm
  | b + 1 => by
    show mulL (powL n p (a + b)) p = mulL (powL n p a) (mulL (powL n p b) p)
    rw [pow_add hp a b, mul_assoc (hp.pow a) (hp.pow b) hp]
theorem pow_fix {n : Nat} {p : List Int} (hp : Pm n p) {d : Nat} {i : Int} (h0 : 0 ≤ i) (h1 : i < n) (e : ap (powL n p d) i = i) : ∀ k, ap (powL n p (d * k)) i = i
  | 0 => ap_id h0 h1
  | k + 1 => by rw [Nat.mul_succ, pow_add hp, (hp.pow _).ap_mul h0 h1, pow_fix hp h0 h1 e k, e]
theorem pow_back {n : Nat} {p : List Int} (hp : Pm n p) {i : Int} (h0 : 0 ≤ i) (h1 : i < n) : ∃ d, 1 ≤ d ∧ d ≤ n ∧ ap (powL n p d) i = i := by
  have hn : ¬ ((List.range (n + 1)).map (fun k => ap (powL n p k) i)).Nodup := by
    intro h
    have := sub_len (l2 := idL n) h (fun x hx => by
      rw [List.mem_map] at hx; obtain ⟨k, _, rfl⟩ := hx
      exact mem_idL.2 ((hp.pow k).rng h0 h1))
    simp only [idL_len, List.length_map, List.length_range] at this; omega
  have : ∃ a b, a < b ∧ b ≤ n ∧ ap (powL n p a) i = ap (powL n p b) i := by
    apply Classical.byContradiction; intro hc
    apply hn
    apply map_nodup List.nodup_range; intro x hx y hy e; rw [List.mem_range] at hx hy
    rcases Nat.lt_trichotomy x y with h | h | h
    · exact absurd ⟨x, y, h, by omega, e⟩ hc
    · exact h
    · exact absurd ⟨y, x, h, by omega, e.symm⟩ hc
  obtain ⟨a, b, hab, hb, e⟩ := this
  refine ⟨b - a, by omega, by omega, ?_⟩
  rw [show b = (b - a) + a by omega, pow_add hp, (hp.pow _).ap_mul h0 h1] at e
  have hr := (hp.pow (b - a)).rng h0 h1
  exact ((hp.pow a).inj h0 h1 hr.1 hr.2 e).symm
def fac : Nat → Nat
  | 0 => 1
  | k + 1 => (k + 1) * fac k
theorem fac_pos : ∀ k, 1 ≤ fac k
  | 0 => Nat.le_refl _
  | k + 1 => Nat.mul_pos (Nat.succ_pos k) (fac_pos k)
theorem dvd_fac : ∀ {d n : Nat}, 1 ≤ d → d ≤ n → d ∣ fac n
  | d, 0, h, k => by omega
  | d, n + 1, h, k => by
    by_cases e : d = n + 1
    · subst e; exact Nat.dvd_mul_right (n + 1) (fac n)
    · exact Nat.dvd_trans (dvd_fac h (by omega)) (Nat.dvd_mul_left _ _)
theorem pow_fac {n : Nat} {p : List Int} (hp : Pm n p) : powL n p (fac n) = idL n := by
  refine ap_ext (hp.pow _).1 (Pm_id n).1 (fun i h0 h1 => ?_)
  obtain ⟨d, hd, hd', e⟩ := pow_back hp h0 h1
  obtain ⟨k, hk⟩ := dvd_fac hd hd'
  rw [hk, pow_fix hp h0 h1 e, ap_id h0 h1]
theorem inv_pow {n : Nat} {p : List Int} (hp : Pm n p) : powL n p (fac n - 1) = invL p := by
  refine inv_unique hp (hp.pow _) ?_
  have h := fac_pos n
  rw [← pow_fac hp]
  conv => rhs; rw [show fac n = (fac n - 1) + 1 by omega]
  rfl
inductive Cl (n : Nat) (S : List Int → Prop) : List Int → Prop
  | one : Cl n S (idL n)
  | mul {p g : List Int} : Cl n S p → S g → Cl n S (mulL p g)
theorem Cl.pm {n : Nat} {S : List Int → Prop} (hS : ∀ g, S g → Pm n g) {p : List Int} (h : Cl n S p) : Pm n p := by
  induction h with
  | one => exact Pm_id n
  | mul _ hg ih => exact ih.mul (hS _ hg)
theorem Cl.gen {n : Nat} {S : List Int → Prop} (hS : ∀ g, S g → Pm n g) {g : List Int} (h : S g) : Cl n S g := by
  have := Cl.mul (Cl.one (n := n) (S := S)) h
  rwa [id_mul (hS g h)] at this
theorem Cl.mul' {n : Nat} {S : List Int → Prop} (hS : ∀ g, S g → Pm n g) {p q : List Int} (hp : Cl n S p) (hq : Cl n S q) : Cl n S (mulL p q) := by
  induction hq with
  | one => rw [mul_id (hp.pm hS)]; exact hp
  | mul hq hg ih => rw [← mul_assoc (hp.pm hS) (hq.pm hS) (hS _ hg)]; exact ih.mul hg
theorem Cl.pow {n : Nat} {S : List Int → Prop} (hS : ∀ g, S g → Pm n g) {p : List Int} (hp : Cl n S p) : ∀ k, Cl n S (powL n p k)
  | 0 => .one
  | k + 1 => Cl.mul' hS (Cl.pow hS hp k) hp
theorem Cl.inv {n : Nat} {S : List Int → Prop} (hS : ∀ g, S g → Pm n g) {p : List Int} (hp : Cl n S p) : Cl n S (invL p) := by
  rw [← inv_pow (hp.pm hS)]; exact hp.pow hS _
theorem Cl.least {n : Nat} {S H : List Int → Prop} (h1 : H (idL n)) (hm : ∀ p g, H p → S g → H (mulL p g)) {p : List Int} (hp : Cl n S p) : H p := by
  induction hp with
  | one => exact h1
  | mul _ hg ih => exact hm _ _ ih hg
theorem Cl.sub {n : Nat} {S R : List Int → Prop} (hR : ∀ g, R g → Pm n g) (h : ∀ g, S g → Cl n R g) {p : List Int} (hp : Cl n S p) : Cl n R p :=
  Cl.least .one (fun _ _ h1 h2 => Cl.mul' hR h1 (h _ h2)) hp
end Go.Proofs.Ytjjlhbgpdncpcaa.P.M
end
section
set_option linter.unusedVariables false
set_option linter.unusedSimpArgs false
namespace Go.Proofs.Ytjjlhbgpdncpcaa.P.M
def Fx (b : Int) (p : List Int) : Prop := ∀ i : Int, 0 ≤ i → i < b → ap p i = i
theorem Fx.id (n : Nat) {b : Int} (hb : b ≤ n) : Fx b (idL n) := fun i h0 h1 => ap_id h0 (by omega)
theorem Fx.mul {n : Nat} {b : Int} {p q : List Int} (hp : Pm n p) (hq : Pm n q) (hb : b ≤ n) (h : Fx b p) (k : Fx b q) : Fx b (mulL p q) :=
  fun i h0 h1 => by rw [hp.ap_mul h0 (by omega), h i h0 h1, k i h0 h1]
theorem Fx.inv {n : Nat} {b : Int} {p : List Int} (hp : Pm n p) (hb : b ≤ n) (h : Fx b p) : Fx b (invL p) := fun i h0 h1 => by
  have e : ap (mulL (invL p) p) i = i := by rw [inv_mul hp, ap_id h0 (by omega)]
  rw [hp.inv.ap_mul h0 (by omega)] at e
  have hr := hp.inv.rng h0 (show i < n by omega)
  exact hp.inj hr.1 hr.2 h0 (by omega) (e.trans (h i h0 h1).symm)
theorem Fx.up {b : Int} {p : List Int} (h : Fx b p) (e : ap p b = b) : Fx (b + 1) p := fun i h0 h1 => by
  by_cases k : i < b
  · exact h i h0 k
  · have : i = b := by omega
    rw [this, e]
theorem Fx.all {n : Nat} {p : List Int} (hp : Pm n p) (h : Fx n p) : p = idL n :=
  ap_ext hp.1 (idL_len n) (fun i h0 h1 => by rw [h i h0 h1, ap_id h0 h1])
def Sf (n : Nat) (rep : Int → Int → List Int) : Nat → Int → List Int → Prop
  | 0, _, p => p = idL n
  | m + 1, b, p => rep b (ap p b) ≠ [] ∧ Sf n rep m (b + 1) (mulL p (invL (rep b (ap p b))))
structure Wf (T : Tw) : Prop where
  n1 : 1 ≤ T.n
  n64 : T.n ≤ 64
  lr : T.reps.length = T.n
  lrr : ∀ b : Int, 0 ≤ b → b < T.n → (T.row b).length = T.n
  lg : T.gens.length = T.n
  one : ∀ b : Int, 0 ≤ b → b < T.n → T.rep b b = idL T.n
  rep : ∀ b x : Int, 0 ≤ b → b < T.n → 0 ≤ x → x < T.n → T.rep b x ≠ [] → Pm T.n (T.rep b x) ∧ Fx b (T.rep b x) ∧ ap (T.rep b x) b = x
  gen : ∀ b : Int, 0 ≤ b → b < T.n → ∀ g ∈ T.gen b, Pm T.n g ∧ Fx b g
def G (T : Tw) (b : Int) : List Int → Prop := Cl T.n (fun g => g ∈ T.gen b)
theorem Wf.gpm {T : Tw} (h : Wf T) {b : Int} (h0 : 0 ≤ b) (h1 : b ≤ T.n) : ∀ g, g ∈ T.gen b → Pm T.n g := fun g hg => by
  by_cases k : b < T.n
  · exact (h.gen b h0 k g hg).1
  · have : b.toNat = T.n := by omega
    rw [Tw.gen, this, List.getD_eq_getElem?_getD, List.getElem?_eq_none (by rw [h.lg]; exact Nat.le_refl _)] at hg; simp at hg
theorem Wf.gfx {T : Tw} (h : Wf T) {b : Int} (h0 : 0 ≤ b) (h1 : b ≤ T.n) {p : List Int} (hp : G T b p) : Pm T.n p ∧ Fx b p := by
  refine ⟨hp.pm (h.gpm h0 h1), ?_⟩
  have : Pm T.n p ∧ Fx b p := by
    refine Cl.least (H := fun p => Pm T.n p ∧ Fx b p) ⟨Pm_id _, Fx.id _ h1⟩ ?_ hp; rintro p g ⟨hp, hf⟩ hg
    by_cases k : b < T.n
    · have := h.gen b h0 k g hg
      exact ⟨hp.mul this.1, hf.mul hp this.1 h1 this.2⟩
    · have hb : b.toNat = T.n := by omega
      rw [Tw.gen, hb, List.getD_eq_getElem?_getD, List.getElem?_eq_none (by rw [h.lg]; exact Nat.le_refl _)] at hg; simp at hg
  exact this.2
theorem Wf.g_end {T : Tw} (h : Wf T) {p : List Int} (hp : G T T.n p) : p = idL T.n := by
  have := h.gfx (by omega) (by omega) hp
  exact this.2.all this.1
structure Lv (T : Tw) (b : Int) : Prop where
  reps : ∀ x : Int, 0 ≤ x → x < T.n → T.rep b x ≠ [] → G T b (T.rep b x)
  gens : ∀ g ∈ T.gen (b + 1), G T b g
  pairs : ∀ x : Int, 0 ≤ x → x < T.n → T.rep b x ≠ [] → ∀ g ∈ T.gen b, Sf T.n T.rep (T.n - b).toNat b (mulL (T.rep b x) g)
def Comp (T : Tw) (b : Int) : Prop := ∀ c : Int, b ≤ c → c < T.n → Lv T c
theorem sf_iff {T : Tw} (h : Wf T) : ∀ (m : Nat) (b : Int), 0 ≤ b → b + m = T.n → Comp T b → ∀ p, Pm T.n p → Fx b p → (Sf T.n T.rep m b p ↔ G T b p)
  | 0, b, h0, hb, hc, p, hp, hf => by
    have : b = T.n := by omega
    subst this
    refine ⟨fun e => ?_, fun e => h.g_end e⟩; rw [Sf] at e; rw [e]; exact .one
  | m + 1, b, h0, hb, hc, p, hp, hf => by
    have hb1 : b < T.n := by omega
    have hl := hc b (Int.le_refl _) hb1; have ih := sf_iff h m (b + 1) (by omega) (by omega) (fun c h1 h2 => hc c (by omega) h2); have hgp := h.gpm h0 (Int.le_of_lt hb1)
    have strip : ∀ q, Pm T.n q → Fx b q → ∀ r, Pm T.n r → Fx b r → ap r b = ap q b → Pm T.n (mulL q (invL r)) ∧ Fx (b + 1) (mulL q (invL r)) := by
      intro q hq hqf r hr hrf e
      refine ⟨hq.mul hr.inv, (hqf.mul hq hr.inv (Int.le_of_lt hb1) (hrf.inv hr (Int.le_of_lt hb1))).up ?_⟩; rw [hq.ap_mul h0 hb1, ← e, ← hr.ap_mul h0 hb1, mul_inv hr, ap_id h0 hb1]
    constructor
    · rintro ⟨h1, h2⟩; have hx := hp.rng h0 hb1; have hr := h.rep b _ h0 hb1 hx.1 hx.2 h1; have hs := strip p hp hf _ hr.1 hr.2.1 hr.2.2; have hg := (ih _ hs.1 hs.2).1 h2; have hg' : G T b (mulL p (invL (T.rep b (ap p b)))) := Cl.sub hgp hl.gens hg; have := Cl.mul' hgp hg' (hl.reps _ hx.1 hx.2 h1)
      rwa [mul_inv_cancel hp hr.1] at this
    · intro hg
      have key : Pm T.n p ∧ Fx b p ∧ Sf T.n T.rep (m + 1) b p := by
        refine Cl.least (H := fun p => Pm T.n p ∧ Fx b p ∧ Sf T.n T.rep (m + 1) b p) ?_ ?_ hg
        · refine ⟨Pm_id _, Fx.id _ (Int.le_of_lt hb1), ?_⟩; have hi : ap (idL T.n) b = b := ap_id h0 hb1
          refine ⟨by rw [hi, h.one b h0 hb1]; intro e; have := congrArg List.length e; rw [idL_len] at this; simp at this; omega, ?_⟩; rw [hi, h.one b h0 hb1, mul_inv (Pm_id _)]
          exact (ih _ (Pm_id _) (Fx.id _ (by omega))).2 .one
        · rintro p g ⟨hp, hf, h1, h2⟩ hgb; have hgg := h.gen b h0 hb1 g hgb; have hx := hp.rng h0 hb1; have hr := h.rep b _ h0 hb1 hx.1 hx.2 h1; have hs := strip p hp hf _ hr.1 hr.2.1 hr.2.2; have hsG := (ih _ hs.1 hs.2).1 h2; have hpr := hl.pairs _ hx.1 hx.2 h1 g hgb; rw [show (T.n - b).toNat = m + 1 by omega] at hpr; obtain ⟨k1, k2⟩ := hpr; have hrg : ap (mulL (T.rep b (ap p b)) g) b = ap (mulL p g) b := by rw [hr.1.ap_mul h0 hb1, hp.ap_mul h0 hb1, hr.2.2]
          rw [hrg] at k1 k2; have hpg := hp.mul hgg.1; have hpf := hf.mul hp hgg.1 (Int.le_of_lt hb1) hgg.2; have hy := hpg.rng h0 hb1; have hr' := h.rep b _ h0 hb1 hy.1 hy.2 k1; have hs' := strip _ (hr.1.mul hgg.1) (hr.2.1.mul hr.1 hgg.1 (Int.le_of_lt hb1) hgg.2) _ hr'.1 hr'.2.1 (hr'.2.2.trans hrg.symm); have hsG' := (ih _ hs'.1 hs'.2).1 k2; have hz := strip _ hpg hpf _ hr'.1 hr'.2.1 hr'.2.2
          refine ⟨hpg, hpf, k1, (ih _ hz.1 hz.2).2 ?_⟩; have := Cl.mul' (h.gpm (by omega) (by omega)) hsG hsG'; rw [← mul_assoc hs.1 (hr.1.mul hgg.1) hr'.1.inv, ← mul_assoc hs.1 hr.1 hgg.1, mul_inv_cancel hp hr.1] at this
          exact this
      exact key.2.2
def Ext (T T' : Tw) : Prop := T'.n = T.n ∧ ∀ b x : Int, 0 ≤ b → b < T.n → 0 ≤ x → x < T.n → T.rep b x ≠ [] → T'.rep b x = T.rep b x
theorem Ext.refl (T : Tw) : Ext T T := ⟨rfl, fun _ _ _ _ _ _ _ => rfl⟩
theorem Ext.trans {T T' T'' : Tw} (h : Ext T T') (k : Ext T' T'') : Ext T T'' := by
  refine ⟨k.1.trans h.1, fun b x h0 h1 h2 h3 hr => ?_⟩
  have e := h.2 b x h0 h1 h2 h3 hr
  rw [← e]
  exact k.2 b x h0 (by rw [h.1]; exact h1) h2 (by rw [h.1]; exact h3) (by rw [e]; exact hr)
theorem Sf.ext {T T' : Tw} (hw : Wf T) (h : Ext T T') : ∀ (m : Nat) (b : Int) (p : List Int), 0 ≤ b → b + m = T.n → Pm T.n p → Sf T.n T.rep m b p → Sf T'.n T'.rep m b p
  | 0, b, p, h0, hb, hp, hs => by rw [Sf] at hs ⊢; rw [h.1]; exact hs
  | m + 1, b, p, h0, hb, hp, hs => by
    obtain ⟨h1, h2⟩ := hs; have hx := hp.rng h0 (show b < T.n by omega); have e := h.2 b _ h0 (by omega) hx.1 hx.2 h1
    refine ⟨by rw [e]; exact h1, ?_⟩; rw [e]
    exact Sf.ext hw h m (b + 1) _ (by omega) (by omega) (hp.mul (hw.rep b _ h0 (by omega) hx.1 hx.2 h1).1.inv) h2
theorem Sf.same {T T' : Tw} (hw' : Wf T') (h : Ext T T') (b0 : Int) (hn : ∀ b x : Int, b0 ≤ b → b < T.n → 0 ≤ x → x < T.n → T.rep b x = [] → T'.rep b x = []) : ∀ (m : Nat) (b : Int) (p : List Int), 0 ≤ b → b0 ≤ b → b + m = T.n → Pm T.n p → Sf T'.n T'.rep m b p → Sf T.n T.rep m b p
  | 0, b, p, h0, hb0, hb, hp, hs => by rw [Sf] at hs ⊢; rw [← h.1]; exact hs
  | m + 1, b, p, h0, hb0, hb, hp, hs => by
    obtain ⟨h1, h2⟩ := hs; have hx := hp.rng h0 (show b < T.n by omega); have h1' : T.rep b (ap p b) ≠ [] := fun e => h1 (hn b _ hb0 (by omega) hx.1 hx.2 e)
    have e := h.2 b _ h0 (by omega) hx.1 hx.2 h1'; rw [e] at h2; have hr := hw'.rep b _ h0 (by rw [h.1]; omega) hx.1 (by rw [h.1]; exact hx.2) h1; rw [e, h.1] at hr
    exact ⟨h1', Sf.same hw' h b0 hn m (b + 1) _ (by omega) (by omega) (by omega) (hp.mul hr.1.inv) h2⟩
theorem sf_id {T : Tw} (hw : Wf T) : ∀ (m : Nat) (b : Int), 0 ≤ b → b + m = T.n → Sf T.n T.rep m b (idL T.n)
  | 0, b, h0, hb => rfl
  | m + 1, b, h0, hb => by
    have hi : ap (idL T.n) b = b := ap_id h0 (by omega)
    refine ⟨by rw [hi, hw.one b h0 (by omega)]; intro e; have := congrArg List.length e; rw [idL_len] at this; simp at this; omega, ?_⟩; rw [hi, hw.one b h0 (by omega), mul_inv (Pm_id _)]
    exact sf_id hw m (b + 1) (by omega) (by omega)
theorem rep_set {T : Tw} (hw : Wf T) {b x : Int} (h0 : 0 ≤ b) (h1 : b < T.n) (h2 : 0 ≤ x) (h3 : x < T.n) (p : List Int) {c y : Int} (k0 : 0 ≤ c) (k2 : 0 ≤ y) :
    (T.setRep b x p).rep c y = if c = b ∧ y = x then p else T.rep c y := by
  have hl : b.toNat < T.reps.length := by rw [hw.lr]; omega
  have hl2 : x.toNat < (T.row b).length := by rw [hw.lrr b h0 h1]; omega
  simp only [Tw.rep, Tw.setRep, Tw.row]
  by_cases e : c = b
  · subst e
    have : (T.reps.set c.toNat ((T.reps.getD c.toNat []).set x.toNat p)).getD c.toNat [] = (T.reps.getD c.toNat []).set x.toNat p := by
      rw [List.getD_eq_getElem?_getD, List.getElem?_set_self hl]; rfl
    rw [this]
    by_cases e2 : y = x
    · subst e2; rw [List.getD_eq_getElem?_getD, List.getElem?_set_self (show y.toNat < (T.reps.getD c.toNat []).length from hl2)]; simp
    rw [List.getD_eq_getElem?_getD, List.getElem?_set_ne (by omega), ← List.getD_eq_getElem?_getD, if_neg (fun k => e2 k.2)]
  have : (T.reps.set b.toNat ((T.reps.getD b.toNat []).set x.toNat p)).getD c.toNat [] = T.reps.getD c.toNat [] := by
    rw [List.getD_eq_getElem?_getD, List.getElem?_set_ne (by omega), ← List.getD_eq_getElem?_getD]
  rw [this, if_neg (fun k => e k.1)]
theorem gen_add {T : Tw} (hw : Wf T) {b : Int} (h0 : 0 ≤ b) (h1 : b < T.n) (p : List Int) {c : Int} (k0 : 0 ≤ c) : (T.addGen b p).gen c = if c = b then T.gen b ++ [p] else T.gen c := by
  have hl : b.toNat < T.gens.length := by rw [hw.lg]; omega
  simp only [Tw.gen, Tw.addGen]
  by_cases e : c = b
  · subst e
    rw [List.getD_eq_getElem?_getD, List.getElem?_set_self hl, if_pos rfl]; rfl
  rw [List.getD_eq_getElem?_getD, List.getElem?_set_ne (by omega), ← List.getD_eq_getElem?_getD, if_neg e]
theorem Wf.setRep {T : Tw} (hw : Wf T) {b x : Int} (h0 : 0 ≤ b) (h1 : b < T.n) (h2 : 0 ≤ x) (h3 : x < T.n) {p : List Int} (hp : Pm T.n p) (hf : Fx b p) (hx : ap p b = x) (hn : T.rep b x = []) : Wf (T.setRep b x p) := by
  have hl : b.toNat < T.reps.length := by rw [hw.lr]; omega
  have hne : ∀ c : Int, 0 ≤ c → c < T.n → ¬ (c = b ∧ c = x) := by
    rintro c k0 k1 ⟨rfl, rfl⟩; have := hw.one c k0 k1; rw [hn] at this; have := congrArg List.length this; rw [idL_len] at this; simp at this; omega
  refine ⟨hw.n1, hw.n64, by simp [Tw.setRep, hw.lr], ?_, hw.lg, ?_, ?_, hw.gen⟩
  · intro c k0 k1
    show (List.getD (T.reps.set b.toNat ((T.row b).set x.toNat p)) c.toNat []).length = T.n
    by_cases e : c = b
    · subst e; rw [List.getD_eq_getElem?_getD, List.getElem?_set_self hl, Option.getD_some, List.length_set]
      exact hw.lrr c k0 k1
    rw [List.getD_eq_getElem?_getD, List.getElem?_set_ne (by omega), ← List.getD_eq_getElem?_getD]
    exact hw.lrr c k0 k1
  · intro c k0 k1
    rw [rep_set hw h0 h1 h2 h3 p k0 k0, if_neg (hne c k0 k1)]
    exact hw.one c k0 k1
  · intro c y k0 k1 k2 k3
    rw [rep_set hw h0 h1 h2 h3 p k0 k2]
    by_cases e : c = b ∧ y = x
    · rw [if_pos e]; intro _; obtain ⟨rfl, rfl⟩ := e
      exact ⟨hp, hf, hx⟩
    rw [if_neg e]
    exact hw.rep c y k0 k1 k2 k3
theorem Wf.addGen {T : Tw} (hw : Wf T) {b : Int} (h0 : 0 ≤ b) (h1 : b < T.n) {p : List Int} (hp : Pm T.n p) (hf : Fx b p) : Wf (T.addGen b p) := by
  refine ⟨hw.n1, hw.n64, hw.lr, hw.lrr, by simp [Tw.addGen, hw.lg], hw.one, hw.rep, ?_⟩
  intro c k0 k1 g
  rw [gen_add hw h0 h1 p k0]
  by_cases e : c = b
  · subst e
    rw [if_pos rfl, List.mem_append, List.mem_singleton]; rintro (h | rfl)
    · exact hw.gen c k0 k1 g h
    · exact ⟨hp, hf⟩
  rw [if_neg e]; exact hw.gen c k0 k1 g
end Go.Proofs.Ytjjlhbgpdncpcaa.P.M
end
namespace Go.Proofs.Ytjjlhbgpdncpcaa.P
open Go.RowKit Go.Proofs.YtjjlhbgpdncpcaaW.PrintWords Go.Proofs.YtjjlhbgpdncpcaaW.PrintLast Go.Proofs.YtjjlhbgpdncpcaaW.PrintMore
set_option linter.unusedVariables false
set_option linter.unusedSimpArgs false
set_option maxHeartbeats 8000000
set_option maxRecDepth 100000
section
attribute [local go_sem] max2_int min2_int max_two min_two max_three min_three max_four min_four

end
section
attribute [local go_sem] max2_int min2_int max_two min_two max_three min_three max_four min_four

end
section
attribute [local go_sem] max2_int min2_int max_two min_two max_three min_three max_four min_four

end
section
attribute [local go_sem] max2_int min2_int max_two min_two max_three min_three max_four min_four

end
end Go.Proofs.Ytjjlhbgpdncpcaa.P
section
set_option linter.unusedVariables false
set_option linter.unusedSimpArgs false
namespace Go.Proofs.Ytjjlhbgpdncpcaa.P.M
open Go.RowKit Go.Proofs.YtjjlhbgpdncpcaaW.PrintWords Go.Proofs.YtjjlhbgpdncpcaaW.PrintLast Go.Proofs.YtjjlhbgpdncpcaaW.PrintMore
def Tells {α : Type} (g : Nat → Option α) (v : α) : Prop := ∃ k0, ∀ k, k0 ≤ k → g k = some v
theorem Tells.now {α : Type} {v : α} : Tells (fun _ => some v) v := ⟨0, fun _ _ => rfl⟩
theorem Tells.now' {α : Type} {v u : α} (h : v = u) : Tells (fun _ => some v) u := ⟨0, fun _ _ => by rw [h]⟩
theorem Tells.eq {α : Type} {g : Nat → Option α} {v u : α} (h : Tells g v) (e : v = u) : Tells g u := e ▸ h
theorem Tells.step {α : Type} {g F : Nat → Option α} {v : α} (hg : ∀ k, g (k + 1) = F k) (h : Tells F v) : Tells g v := by
  obtain ⟨k0, h⟩ := h
  refine ⟨k0 + 1, fun k hk => ?_⟩
  obtain ⟨j, rfl⟩ : ∃ j, k = j + 1 := ⟨k - 1, by omega⟩
  rw [hg, h j (by omega)]
theorem Tells.shift {α : Type} {g : Nat → Option α} {v : α} (h : Tells (fun k => g (k + 1)) v) : Tells g v := Tells.step (fun _ => rfl) h
theorem Tells.bind {α β : Type} {g : Nat → Option α} {h : Nat → α → Option β} {a : α} {v : β} (h1 : Tells g a) (h2 : Tells (fun k => h k a) v) : Tells (fun k => (g k).bind (fun x => h k x)) v := by
  obtain ⟨k1, h1⟩ := h1
  obtain ⟨k2, h2⟩ := h2
  refine ⟨max k1 k2, fun k hk => ?_⟩
  show (g k).bind _ = _
  rw [h1 k (by omega)]
  exact h2 k (by omega)
theorem Tells.pos {α : Type} {c : Prop} [Decidable c] {A B : Nat → Option α} {v : α} (hc : c) (h : Tells A v) : Tells (fun k => if c then A k else B k) v := by simpa only [if_pos hc] using h
theorem Tells.neg {α : Type} {c : Prop} [Decidable c] {A B : Nat → Option α} {v : α} (hc : ¬ c) (h : Tells B v) : Tells (fun k => if c then A k else B k) v := by simpa only [if_neg hc] using h
theorem Tells.mono {α : Type} {g : Nat → Option α} {v : α} (hm : ∀ k, LeO (g k) (g (k + 1))) {k : Nat} (h : g k = some v) : Tells g v := by
  refine ⟨k, fun j hj => ?_⟩
  obtain ⟨d, rfl⟩ : ∃ d, j = k + d := ⟨j - k, by omega⟩
  clear hj
  induction d with
  | zero => exact h
  | succ d ih => exact hm _ _ ih
theorem Tells.some {α : Type} {g : Nat → Option α} {v : α} (h : Tells g v) : ∃ k, g k = some v := h.elim fun k hk => ⟨k, hk k (Nat.le_refl _)⟩
theorem rd_ap (l : List Int) (i : Int) : rd l i = ap l i := rfl
theorem w64 {n : Int} (h0 : -9223372036854775808 ≤ n) (h1 : n ≤ 9223372036854775807) : wrap64 n = n := by unfold wrap64; omega
theorem ap_set {l : List Int} {i : Int} (v : Int) (h0 : 0 ≤ i) (h1 : i < (l.length : Int)) {j : Int} (k0 : 0 ≤ j) : ap (l.set i.toNat v) j = if j = i then v else ap l j := by
  have hi : i.toNat < l.length := by omega
  by_cases e : j = i
  · subst e
    rw [if_pos rfl, ap, List.getD_eq_getElem?_getD, List.getElem?_set_self hi]; rfl
  rw [if_neg e, ap, List.getD_eq_getElem?_getD, List.getElem?_set_ne (by omega), ← List.getD_eq_getElem?_getD]; rfl
def Rg (n : Nat) (p : List Int) : Prop := ∀ x ∈ p, 0 ≤ x ∧ x < (n : Int)
theorem Rg.ap {n : Nat} {p : List Int} (h : Rg n p) {i : Int} (h0 : 0 ≤ i) (h1 : i < (p.length : Int)) : 0 ≤ M.ap p i ∧ M.ap p i < n := h _ (ap_mem h0 h1)
theorem Pm.rg {n : Nat} {p : List Int} (h : Pm n p) : Rg n p := h.2.1
theorem then_loop (p q : List Int) (hl : p.length ≤ 4611686018427387904) (hr : Rg q.length p) : ∀ (m i : Nat) (x : List Int), i + m = p.length → x.length = p.length → (∀ j : Int, 0 ≤ j → j < i → ap x j = ap q (ap p j)) → Tells (fun k => perm_then.l0 k q x p (p.length : Int) (i : Int)) (mulL p q)
  | 0, i, x, hi, hx, hv => by
    refine Tells.shift ?_; simp only [perm_then.l0]
    refine Tells.neg (by omega) (Tells.now' ?_)
    exact ap_ext hx (mul_len p q) (fun j h0 h1 => by rw [hv j h0 (by omega), ap_mul h0 h1])
  | m + 1, i, x, hi, hx, hv => by
    refine Tells.shift ?_; simp only [perm_then.l0]; have hr' := hr.ap (i := (i : Int)) (by omega) (by omega); simp only [rd_ap]
    refine Tells.pos (by omega) (Tells.pos (by omega) (Tells.pos (by omega) (Tells.pos hr'.1 (Tells.pos hr'.2 (Tells.pos (by omega) ?_))))); rw [w64 (n := (i : Int) + 1) (by omega) (by omega)]
    refine then_loop p q hl hr m (i + 1) _ (by omega) (by rw [List.length_set]; exact hx) (fun j h0 h1 => ?_); rw [ap_set _ (by omega) (by omega) h0]
    by_cases e : j = i
    · rw [if_pos e, e]
    · rw [if_neg e, hv j h0 (by omega)]
theorem then_tells (p q : List Int) (hl : p.length ≤ 1000000) (hr : Rg q.length p) : Tells (fun k => perm_then.f k p q) (mulL p q) := by
  unfold perm_then.f
  refine Tells.pos (by omega) (Tells.pos (by omega) ?_)
  exact then_loop p q (by omega) hr p.length 0 _ (by omega) (by simp) (fun j h0 h1 => by omega)
theorem Unit_loop (n : Nat) (hl : n ≤ 4611686018427387904) : ∀ (m i : Nat) (x : List Int), i + m = n → x.length = n → (∀ j : Int, 0 ≤ j → j < i → ap x j = j) → Tells (fun k => r30_Unit.l0 k (n : Int) x (i : Int)) (idL n)
  | 0, i, x, hi, hx, hv => by
    refine Tells.shift ?_; simp only [r30_Unit.l0]
    refine Tells.neg (by omega) (Tells.now' ?_)
    exact ap_ext hx (idL_len n) (fun j h0 h1 => by rw [hv j h0 (by omega), ap_id h0 h1])
  | m + 1, i, x, hi, hx, hv => by
    refine Tells.shift ?_; simp only [r30_Unit.l0]
    refine Tells.pos (by omega) (Tells.pos (by omega) (Tells.pos (by omega) ?_)); rw [w64 (n := (i : Int) + 1) (by omega) (by omega)]
    refine Unit_loop n hl m (i + 1) _ (by omega) (by rw [List.length_set]; exact hx) (fun j h0 h1 => ?_); rw [ap_set _ (by omega) (by omega) h0]
    by_cases e : j = i
    · rw [if_pos e, e]
    · rw [if_neg e, hv j h0 (by omega)]
theorem Unit_tells (n : Nat) (hl : n ≤ 1000000) : Tells (fun k => r30_Unit.f k (n : Int)) (idL n) := by
  unfold r30_Unit.f
  refine Tells.pos (by omega) (Tells.pos (by omega) ?_)
  rw [show ((n : Int)).toNat = n by omega]
  exact Unit_loop n (by omega) n 0 _ (by omega) (by simp) (fun j h0 h1 => by omega)
theorem inv_end {n : Nat} {p x : List Int} (hp : Pm n p) (hx : x.length = n) (hv : ∀ j : Int, 0 ≤ j → j < n → ap x (ap p j) = j) : x = invL p := by
  refine ap_ext hx hp.inv.1 (fun i h0 h1 => ?_)
  rw [hp.ap_inv h0 h1]
  have h := hp.idx h0 h1
  conv => lhs; rw [← h.2]
  exact hv _ (by omega) (by omega)
theorem inverse_loop {n : Nat} {p : List Int} (hp : Pm n p) (hl : n ≤ 4611686018427387904) : ∀ (m i : Nat) (x : List Int), i + m = n → x.length = n → (∀ j : Int, 0 ≤ j → j < i → ap x (ap p j) = j) → Tells (fun k => perm_inverse.l0 k x p (n : Int) (i : Int)) (invL p)
  | 0, i, x, hi, hx, hv => by
    refine Tells.shift ?_; simp only [perm_inverse.l0]
    exact Tells.neg (by omega) (Tells.now' (inv_end hp hx (fun j h0 h1 => hv j h0 (by omega))))
  | m + 1, i, x, hi, hx, hv => by
    refine Tells.shift ?_; simp only [perm_inverse.l0]; have hr := hp.rng (i := (i : Int)) (by omega) (by omega); have hpl := hp.1; simp only [rd_ap]
    refine Tells.pos (by omega) (Tells.pos (by omega) (Tells.pos (by omega) (Tells.pos hr.1 (Tells.pos (by omega) ?_)))); rw [w64 (n := (i : Int) + 1) (by omega) (by omega)]
    refine inverse_loop hp hl m (i + 1) _ (by omega) (by rw [List.length_set]; exact hx) (fun j h0 h1 => ?_); have hj := hp.rng (i := j) h0 (by omega); rw [ap_set _ hr.1 (by omega) hj.1]
    by_cases e : j = i
    · rw [if_pos (by rw [e]), e]
    · rw [if_neg (fun k => e (hp.inj h0 (by omega) (by omega) (by omega) k)), hv j h0 (by omega)]
theorem inverse_tells {n : Nat} {p : List Int} (hp : Pm n p) (hl : n ≤ 1000000) : Tells (fun k => perm_inverse.f k p) (invL p) := by
  unfold perm_inverse.f
  have hpl := hp.1
  refine Tells.pos (by omega) (Tells.pos (by omega) ?_)
  rw [hpl]
  exact inverse_loop hp (by omega) n 0 _ (by omega) (by simp) (fun j h0 h1 => by omega)
theorem take_succ_ap {x y : List Int} {i : Nat} (hx : i < x.length) (hy : i < y.length) : x.take (i + 1) = y.take (i + 1) ↔ x.take i = y.take i ∧ ap x i = ap y i := by
  rw [ap_nat, ap_nat, List.take_succ_eq_append_getElem hx, List.take_succ_eq_append_getElem hy, List.getD_eq_getElem?_getD, List.getD_eq_getElem?_getD, List.getElem?_eq_getElem hx, List.getElem?_eq_getElem hy, Option.getD_some, Option.getD_some]
  constructor
  · intro h
    have := List.append_inj h (by rw [List.length_take, List.length_take]; omega)
    exact ⟨this.1, by simpa using this.2⟩
  · rintro ⟨h1, h2⟩; rw [h1, h2]
theorem same_loop (x y : List Int) (hxy : x.length = y.length) (hl : x.length ≤ 4611686018427387904) : ∀ (m i : Nat), i + m = x.length → x.take i = y.take i → Tells (fun k => r09_SameInts.l0 k x y (i : Int)) (decide (x = y))
  | 0, i, hi, ht => by
    refine Tells.shift ?_; simp only [r09_SameInts.l0]
    refine Tells.neg (by omega) (Tells.now' ?_); rw [List.take_of_length_le (by omega), List.take_of_length_le (by omega)] at ht
    exact (decide_eq_true ht).symm
  | m + 1, i, hi, ht => by
    refine Tells.shift ?_; simp only [r09_SameInts.l0]; simp only [rd_ap]
    refine Tells.pos (by omega) (Tells.pos (by omega) (Tells.pos (by omega) ?_))
    by_cases e : ap x i = ap y i
    · refine Tells.pos e ?_; rw [w64 (n := (i : Int) + 1) (by omega) (by omega)]
      exact same_loop x y hxy hl m (i + 1) (by omega) ((take_succ_ap (by omega) (by omega)).2 ⟨ht, e⟩)
    · refine Tells.neg e (Tells.now' ?_)
      refine (decide_eq_false (fun h => e ?_)).symm; rw [h]
theorem SameInts_tells (x y : List Int) (hl : x.length ≤ 4611686018427387904) : Tells (fun k => r09_SameInts.f k x y) (decide (x = y)) := by
  unfold r09_SameInts.f
  by_cases h : x.length = y.length
  · exact Tells.pos (by omega) (same_loop x y h hl x.length 0 (by omega) rfl)
  exact Tells.neg (by omega) (Tells.now' (decide_eq_false (fun e => h (by rw [e]))).symm)
theorem rows_loop (x y : List (List Int)) (hxy : x.length = y.length) (hl : x.length ≤ 4611686018427387904) (hr : ∀ r ∈ x, r.length ≤ 4611686018427387904) : ∀ (m i : Nat), i + m = x.length → x.take i = y.take i → Tells (fun k => r09_SameRows.l0 k x y (i : Int)) (decide (x = y))
  | 0, i, hi, ht => by
    refine Tells.shift ?_; simp only [r09_SameRows.l0]
    refine Tells.neg (by omega) (Tells.now' ?_); rw [List.take_of_length_le (by omega), List.take_of_length_le (by omega)] at ht
    exact (decide_eq_true ht).symm
  | m + 1, i, hi, ht => by
    refine Tells.shift ?_; simp only [r09_SameRows.l0]; have hx : i < x.length := by omega
    have hy : i < y.length := by omega
    have ex : rd_L1 x (i : Int) = x[i] := by simp [rd_L1, hx]
    have ey : rd_L1 y (i : Int) = y[i] := by simp [rd_L1, hy]
    rw [ex, ey]
    refine Tells.pos (by omega) (Tells.pos (by omega) (Tells.pos (by omega) (Tells.bind (SameInts_tells _ _ (hr _ (List.getElem_mem hx))) ?_)))
    by_cases e : x[i] = y[i]
    · refine Tells.pos (by rw [decide_eq_true e]) ?_; rw [w64 (n := (i : Int) + 1) (by omega) (by omega)]
      refine rows_loop x y hxy hl hr m (i + 1) (by omega) ?_; rw [List.take_succ_eq_append_getElem hx, List.take_succ_eq_append_getElem hy, ht, e]
    · refine Tells.neg (by rw [decide_eq_false e]; decide) (Tells.now' ?_)
      refine (decide_eq_false (fun h => e ?_)).symm; simp only [h]
theorem SameRows_tells (x y : List (List Int)) (hl : x.length ≤ 4611686018427387904) (hr : ∀ r ∈ x, r.length ≤ 4611686018427387904) : Tells (fun k => r09_SameRows.f k x y) (decide (x = y)) := by
  unfold r09_SameRows.f
  by_cases h : x.length = y.length
  · exact Tells.pos (by omega) (rows_loop x y h hl hr x.length 0 (by omega) rfl)
  exact Tells.neg (by omega) (Tells.now' (decide_eq_false (fun e => h (by rw [e]))).symm)
end Go.Proofs.Ytjjlhbgpdncpcaa.P.M
end
section
set_option linter.unusedVariables false
set_option linter.unusedSimpArgs false
namespace Go.Proofs.Ytjjlhbgpdncpcaa.P.M
open Go.RowKit Go.Proofs.YtjjlhbgpdncpcaaW.PrintWords Go.Proofs.YtjjlhbgpdncpcaaW.PrintLast Go.Proofs.YtjjlhbgpdncpcaaW.PrintMore
structure Ok (n : Nat) (T : Tw) : Prop where
  wf : Wf T
  hn : T.n = n
def Gn (n : Nat) (T : Tw) (b : Int) : List Int → Prop := Cl n (fun g => g ∈ T.gen b)
structure Lvn (n : Nat) (T : Tw) (b : Int) : Prop where
  reps : ∀ x : Int, 0 ≤ x → x < n → T.rep b x ≠ [] → Gn n T b (T.rep b x)
  gens : ∀ g ∈ T.gen (b + 1), Gn n T b g
  pairs : ∀ x : Int, 0 ≤ x → x < n → T.rep b x ≠ [] → ∀ g ∈ T.gen b, Sf n T.rep (n - b).toNat b (mulL (T.rep b x) g)
def Compn (n : Nat) (T : Tw) (b : Int) : Prop := ∀ c : Int, b ≤ c → c < n → Lvn n T c
theorem Compn.comp {n : Nat} {T : Tw} {b : Int} (hn : T.n = n) (h : Compn n T b) : Comp T b := by
  subst hn
  intro c h1 h2
  have := h c h1 h2
  exact ⟨this.reps, this.gens, this.pairs⟩
theorem sfI {n : Nat} {T : Tw} (h : Ok n T) {b : Int} (h0 : 0 ≤ b) (h1 : b ≤ n) (hc : Compn n T b) {p : List Int} (hp : Pm n p) (hf : Fx b p) : Sf n T.rep (n - b).toNat b p ↔ Gn n T b p := by
  obtain ⟨hw, hn⟩ := h
  have := hc.comp hn
  subst hn
  exact sf_iff hw _ b h0 (by omega) this p hp hf
theorem Ok.rep {n : Nat} {T : Tw} (h : Ok n T) {b x : Int} (h0 : 0 ≤ b) (h1 : b < n) (h2 : 0 ≤ x) (h3 : x < n) (hr : T.rep b x ≠ []) : Pm n (T.rep b x) ∧ Fx b (T.rep b x) ∧ ap (T.rep b x) b = x := by
  obtain ⟨hw, rfl⟩ := h; exact hw.rep b x h0 h1 h2 h3 hr
theorem Ok.gpm {n : Nat} {T : Tw} (h : Ok n T) {b : Int} (h0 : 0 ≤ b) (h1 : b ≤ n) : ∀ g, g ∈ T.gen b → Pm n g := by
  obtain ⟨hw, rfl⟩ := h; exact hw.gpm h0 h1
theorem Ok.gfx {n : Nat} {T : Tw} (h : Ok n T) {b : Int} (h0 : 0 ≤ b) (h1 : b ≤ n) {p : List Int} (hp : Gn n T b p) : Pm n p ∧ Fx b p := by
  obtain ⟨hw, rfl⟩ := h; exact hw.gfx h0 h1 hp
theorem Ok.sfx {n : Nat} {T T' : Tw} (h : Ok n T) (hx : Ext T T') {m : Nat} {b : Int} {p : List Int} (h0 : 0 ≤ b) (hb : b + m = n) (hp : Pm n p) (hs : Sf n T.rep m b p) : Sf n T'.rep m b p := by
  obtain ⟨hw, rfl⟩ := h
  have := Sf.ext hw hx m b p h0 hb hp hs
  rwa [hx.1] at this
theorem Ok.id {n : Nat} {T : Tw} (h : Ok n T) {b : Int} (h0 : 0 ≤ b) (h1 : b < n) : T.rep b b = idL n := by
  obtain ⟨hw, rfl⟩ := h; exact hw.one b h0 h1
theorem Pm.ne {n : Nat} {p : List Int} (hp : Pm n p) (h : 1 ≤ n) : p ≠ [] := by
  intro e
  have := hp.1
  rw [e] at this
  simp at this; omega
theorem strip_fx {n : Nat} {b : Int} (h0 : 0 ≤ b) (h1 : b < n) {q r : List Int} (hq : Pm n q) (hqf : Fx b q) (hr : Pm n r) (hrf : Fx b r) (e : ap r b = ap q b) : Pm n (mulL q (invL r)) ∧ Fx (b + 1) (mulL q (invL r)) := by
  refine ⟨hq.mul hr.inv, (hqf.mul hq hr.inv (Int.le_of_lt h1) (hrf.inv hr (Int.le_of_lt h1))).up ?_⟩
  rw [hq.ap_mul h0 h1, ← e, ← hr.ap_mul h0 h1, mul_inv hr, ap_id h0 h1]
theorem strip_tells {n : Nat} {T : Tw} (h : Ok n T) (h64 : n ≤ 64) : ∀ (m : Nat) (b : Int) (p : List Int), 0 ≤ b → b + m = n → Pm n p → Fx b p → ∃ e : Int, Tells (fun k => stripL k T p b) e ∧ (e = n ↔ Sf n T.rep m b p)
  | 0, b, p, h0, hb, hp, hf => by
    have hn := h.hn
    refine ⟨n, Tells.shift ?_, ?_⟩
    · simp only [stripL]
      exact Tells.neg (by omega) (Tells.now' (by omega))
    · rw [Sf]
      refine ⟨fun _ => ?_, fun _ => rfl⟩; have : b = n := by omega
      subst this
      exact hf.all hp
  | m + 1, b, p, h0, hb, hp, hf => by
    have hn := h.hn; have hx := hp.rng h0 (show b < n by omega); have hpl := hp.1
    by_cases hr : T.rep b (ap p b) = []
    · refine ⟨b, Tells.shift ?_, ?_⟩
      · simp only [stripL, rd_ap]
        exact Tells.pos (by omega) (Tells.pos (by omega) (Tells.pos (by omega) (Tells.pos hx.1 (Tells.pos (by omega) (Tells.pos hr Tells.now)))))
      · rw [Sf]
        exact ⟨fun e => by omega, fun e => absurd hr e.1⟩
    · have hR := h.rep h0 (show b < n by omega) hx.1 hx.2 hr; have hs := strip_fx h0 (show b < n by omega) hp hf hR.1 hR.2.1 hR.2.2; obtain ⟨e, ht, he⟩ := strip_tells h h64 m (b + 1) _ (by omega) (by omega) hs.1 hs.2
      refine ⟨e, Tells.shift ?_, ?_⟩
      · simp only [stripL, rd_ap]; have hil := hR.1.inv.1
        exact Tells.pos (by omega) (Tells.pos (by omega) (Tells.pos (by omega) (Tells.pos hx.1 (Tells.pos (by omega) (Tells.neg hr (Tells.bind (inverse_tells hR.1 (by omega)) (Tells.bind (then_tells _ _ (by omega) (by rw [hil]; exact hp.rg)) ht)))))))
      · rw [he, Sf]
        exact ⟨fun k => ⟨hr, k⟩, fun k => k.2⟩
theorem countP_le {α : Type} {P Q : α → Bool} : ∀ {l : List α}, (∀ x ∈ l, P x = true → Q x = true) → l.countP P ≤ l.countP Q
  | [], _ => by simp
  | a :: l, h => by
    have ih := countP_le (l := l) (fun x hx => h x (by simp [hx])); have ha := h a (by simp); simp only [List.countP_cons]
    cases hP : P a
    · simp; omega
    · simp [ha hP]; omega
theorem countP_lt {α : Type} {P Q : α → Bool} : ∀ {l : List α}, (∀ x ∈ l, P x = true → Q x = true) → (∃ x ∈ l, Q x = true ∧ P x = false) → l.countP P < l.countP Q
  | [], _, ⟨x, hx, _⟩ => by simp at hx
  | a :: l, h, ⟨x, hx, hq, hp⟩ => by
    have hl := countP_le (l := l) (P := P) (Q := Q) (fun x hx => h x (by simp [hx])); simp only [List.countP_cons]
    rcases List.mem_cons.1 hx with rfl | hx
    · simp [hq, hp]; omega
    · have ih := countP_lt (l := l) (fun x hx => h x (by simp [hx])) ⟨x, hx, hq, hp⟩; have ha := h a (by simp)
      cases hP : P a
      · simp; omega
      · simp [ha hP]; omega
def cnt (n : Nat) (T : Tw) (b : Int) : Nat := (List.range (n * n)).countP (fun i => decide (b ≤ ((i / n : Nat) : Int) ∧ T.rep ((i / n : Nat) : Int) ((i % n : Nat) : Int) ≠ []))
theorem cnt_max (n : Nat) (T : Tw) (b : Int) : cnt n T b ≤ n * n := by
  have := List.countP_le_length (p := (fun i => decide (b ≤ ((i / n : Nat) : Int) ∧ T.rep ((i / n : Nat) : Int) ((i % n : Nat) : Int) ≠ []))) (l := List.range (n * n))
  simpa [cnt] using this
theorem cell_of {n i : Nat} (h : i < n * n) : i / n < n ∧ i % n < n := by
  have hn : 0 < n := by
    cases n with
    | zero => simp at h
    | succ n => omega
  exact ⟨Nat.div_lt_of_lt_mul h, Nat.mod_lt _ hn⟩
theorem cnt_le {n : Nat} {T T' : Tw} (hn : T.n = n) (hx : Ext T T') (b : Int) : cnt n T b ≤ cnt n T' b := by
  refine countP_le (fun i hi h => ?_)
  have hc := cell_of (List.mem_range.1 hi)
  simp only [decide_eq_true_eq] at h ⊢
  refine ⟨h.1, ?_⟩
  rw [hx.2 _ _ (Int.natCast_nonneg _) (by rw [hn]; exact Int.ofNat_lt.2 hc.1) (Int.natCast_nonneg _) (by rw [hn]; exact Int.ofNat_lt.2 hc.2) h.2]
  exact h.2
theorem cnt_lt {n : Nat} {T T' : Tw} (hn : T.n = n) (hx : Ext T T') {b c x : Int} (hb0 : 0 ≤ b) (hb : b ≤ c) (h1 : c < n) (h2 : 0 ≤ x) (h3 : x < n) (e : T.rep c x = []) (e' : T'.rep c x ≠ []) : cnt n T b < cnt n T' b := by
  refine countP_lt (fun i hi h => ?_) ?_
  · have hc := cell_of (List.mem_range.1 hi)
    simp only [decide_eq_true_eq] at h ⊢
    refine ⟨h.1, ?_⟩; rw [hx.2 _ _ (Int.natCast_nonneg _) (by rw [hn]; exact Int.ofNat_lt.2 hc.1) (Int.natCast_nonneg _) (by rw [hn]; exact Int.ofNat_lt.2 hc.2) h.2]
    exact h.2
  · have hn0 : 0 < n := by omega
    have hd : (c.toNat * n + x.toNat) / n = c.toNat := by
      rw [Nat.add_comm, Nat.add_mul_div_right _ _ hn0, Nat.div_eq_of_lt (by omega)]; omega
    have hm : (c.toNat * n + x.toNat) % n = x.toNat := by
      rw [Nat.add_comm, Nat.add_mul_mod_self_right, Nat.mod_eq_of_lt (by omega)]
    have hl : c.toNat * n + x.toNat < n * n := by
      have : (c.toNat + 1) * n ≤ n * n := Nat.mul_le_mul_right n (by omega); rw [Nat.add_mul] at this; omega
    refine ⟨c.toNat * n + x.toNat, List.mem_range.2 hl, ?_⟩; rw [hd, hm, show ((c.toNat : Nat) : Int) = c by omega, show ((x.toNat : Nat) : Int) = x by omega]; simp [hb, e, e']
def nil (n : Nat) (T : Tw) (b : Int) : Nat := (List.range n).countP (fun x => decide (T.rep b ((x : Nat) : Int) = []))
theorem nil_le {n : Nat} {T T' : Tw} (hn : T.n = n) (hx : Ext T T') {b : Int} (h0 : 0 ≤ b) (h1 : b < n) : nil n T' b ≤ nil n T b := by
  refine countP_le (fun i hi h => ?_)
  have := List.mem_range.1 hi
  simp only [decide_eq_true_eq] at h ⊢
  apply Classical.byContradiction
  intro hc
  rw [hx.2 _ _ h0 (by omega) (by omega) (by omega) hc] at h
  exact hc h
theorem nil_lt {n : Nat} {T T' : Tw} (hn : T.n = n) (hx : Ext T T') {b x : Int} (h0 : 0 ≤ b) (h1 : b < n) (h2 : 0 ≤ x) (h3 : x < n) (e : T.rep b x = []) (e' : T'.rep b x ≠ []) : nil n T' b < nil n T b := by
  refine countP_lt (fun i hi h => ?_) ⟨x.toNat, List.mem_range.2 (by omega), ?_⟩
  · have := List.mem_range.1 hi
    simp only [decide_eq_true_eq] at h ⊢
    apply Classical.byContradiction; intro hc; rw [hx.2 _ _ h0 (by omega) (by omega) (by omega) hc] at h
    exact hc h
  · rw [show ((x.toNat : Nat) : Int) = x by omega]
    simp [e, e']
def Bd (n : Nat) (T : Tw) (b : Int) : Prop := ∀ c : Int, b ≤ c → c < n → (T.gen c).length ≤ cnt n T c
def Low (T T' : Tw) (b : Int) : Prop := ∀ c : Int, 0 ≤ c → c < b → (∀ x : Int, 0 ≤ x → T'.rep c x = T.rep c x) ∧ T'.gen c = T.gen c
theorem Low.refl (T : Tw) (b : Int) : Low T T b := fun _ _ _ => ⟨fun _ _ => rfl, rfl⟩
theorem Low.trans {T T' T'' : Tw} {b : Int} (h : Low T T' b) (k : Low T' T'' b) : Low T T'' b := fun c h0 h1 => ⟨fun x hx => ((k c h0 h1).1 x hx).trans ((h c h0 h1).1 x hx), (k c h0 h1).2.trans (h c h0 h1).2⟩
structure Pre (n : Nat) (T : Tw) (b : Int) : Prop where
  ok : Ok n T
  comp : Compn n T (b + 1)
  reps : ∀ x : Int, 0 ≤ x → x < n → T.rep b x ≠ [] → Gn n T b (T.rep b x)
  gens : ∀ g ∈ T.gen (b + 1), Gn n T b g
  bd : Bd n T (b + 1)
structure Stp (n : Nat) (b : Int) (T T' : Tw) : Prop where
  pre : Pre n T' b
  ext : Ext T T'
  low : Low T T' b
  gen : T'.gen b = T.gen b
  new : ∀ x : Int, 0 ≤ x → x < n → T.rep b x = [] → T'.rep b x ≠ [] → ∀ g ∈ T.gen b, Sf n T'.rep (n - b).toNat b (mulL (T'.rep b x) g)
structure Ins (n : Nat) (b : Int) (T T' : Tw) (q : List Int) : Prop where
  ok : Ok n T'
  comp : Compn n T' b
  ext : Ext T T'
  low : Low T T' b
  bd : Bd n T' b
  sf : Sf n T'.rep (n - b).toNat b q
  gens : ∀ g ∈ T'.gen b, g ∈ T.gen b ∨ g = q
  keep : ∀ g ∈ T.gen b, g ∈ T'.gen b
def InsOk (n : Nat) (b : Int) : Prop := ∀ (T : Tw) (q : List Int), Ok n T → Compn n T b → Bd n T b → Pm n q → Fx b q → ∃ T', Tells (fun k => insertL k T q b) T' ∧ Ins n b T T' q
theorem Stp.refl {n : Nat} {b : Int} {T : Tw} (h : Pre n T b) : Stp n b T T := ⟨h, Ext.refl T, Low.refl T b, rfl, fun x _ _ e e' => absurd e e'⟩
theorem Stp.trans {n : Nat} {b : Int} {T T' T'' : Tw} (hT : T.n = n) (h0 : 0 ≤ b) (h1 : b < n) (h : Stp n b T T') (k : Stp n b T' T'') : Stp n b T T'' := by
  refine ⟨k.pre, h.ext.trans k.ext, h.low.trans k.low, k.gen.trans h.gen, fun x h2 h3 e e' g hg => ?_⟩
  by_cases hm : T'.rep b x = []
  · exact k.new x h2 h3 hm e' g (by rw [h.gen]; exact hg)
  have hT' : T'.n = n := h.pre.ok.hn
  have e2 := k.ext.2 b x h0 (by omega) h2 (by omega) hm
  rw [e2]
  have hr := h.pre.ok.rep h0 h1 h2 h3 hm
  have hgp := h.pre.ok.gpm h0 (Int.le_of_lt h1) g (by rw [h.gen]; exact hg)
  exact h.pre.ok.sfx k.ext h0 (by omega) (hr.1.mul hgp) (h.new x h2 h3 e hm g hg)
theorem Gn.eq {n : Nat} {T T' : Tw} {b : Int} (e : T'.gen b = T.gen b) {p : List Int} (h : Gn n T b p) : Gn n T' b p := by unfold Gn; rw [e]; exact h
theorem Ins.stp {n : Nat} {b : Int} {T T' : Tw} {q : List Int} (h0 : 0 ≤ b) (h1 : b < n) (hp : Pre n T b) (hq : Gn n T b q) (h : Ins n (b + 1) T T' q) : Stp n b T T' := by
  have hl := h.low b h0 (by omega)
  refine ⟨⟨h.ok, h.comp, ?_, ?_, h.bd⟩, h.ext, fun c k0 k1 => h.low c k0 (by omega), hl.2, ?_⟩
  · intro x h2 h3 hr
    rw [hl.1 x h2] at hr ⊢
    exact Gn.eq hl.2 (hp.reps x h2 h3 hr)
  · intro g hg
    rcases h.gens g hg with k | rfl
    · exact Gn.eq hl.2 (hp.gens g k)
    · exact Gn.eq hl.2 hq
  · intro x h2 h3 e e'
    rw [hl.1 x h2] at e'
    exact absurd e e'
theorem visit_ok {n : Nat} (h64 : n ≤ 64) {b : Int} (h0 : 0 ≤ b) (h1 : b < n) (hI : InsOk n (b + 1)) (hgl : ∀ T : Tw, Pre n T b → (T.gen b).length ≤ 1000000 → True) (L : Nat) : ∀ N : Nat, ∀ (T : Tw) (q : List Int), nil n T b < N → Pre n T b → Gn n T b q → (T.gen b).length ≤ 1000000 → ∃ T', Tells (fun k => visitL k T q b) T' ∧ Stp n b T T' ∧ Sf n T'.rep (n - b).toNat b q
  | 0, T, q, hN, _, _, _ => by omega
  | N + 1, T, q, hN, hp, hq, hl => by
    have hT := hp.ok.hn; have hqp := hp.ok.gfx h0 (Int.le_of_lt h1) hq; have hx := hqp.1.rng h0 h1; have hql := hqp.1.1
    by_cases hr : T.rep b (ap q b) = []
    · -- a new representative
      have hw1 : Ok n (T.setRep b (ap q b) q) := ⟨Wf.setRep hp.ok.wf h0 (by omega) hx.1 (by omega) (by rw [hT]; exact hqp.1) hqp.2 rfl hr, hT⟩; have hrs : ∀ c y : Int, 0 ≤ c → 0 ≤ y → (T.setRep b (ap q b) q).rep c y = if c = b ∧ y = ap q b then q else T.rep c y := fun c y k0 k1 => rep_set hp.ok.wf h0 (by omega) hx.1 (by omega) q k0 k1
      have hx1 : Ext T (T.setRep b (ap q b) q) := ⟨rfl, fun c y k0 k1 k2 k3 e => by
        rw [hrs c y k0 k2, if_neg]; rintro ⟨rfl, rfl⟩
        exact e hr⟩
      have hup : ∀ c y : Int, b < c → 0 ≤ y → (T.setRep b (ap q b) q).rep c y = T.rep c y := fun c y k0 k1 => by rw [hrs c y (by omega) k1, if_neg (by omega)]
      have hself : (T.setRep b (ap q b) q).rep b (ap q b) = q := by rw [hrs b _ h0 hx.1, if_pos ⟨rfl, rfl⟩]
      have hp1 : Pre n (T.setRep b (ap q b) q) b := by
        refine ⟨hw1, fun c k1 k2 => ?_, ?_, hp.gens, fun c k1 k2 => Nat.le_trans (hp.bd c k1 k2) (cnt_le hT hx1 c)⟩
        · have hl := hp.comp c k1 k2
          refine ⟨fun x j0 j1 e => ?_, hl.gens, fun x j0 j1 e g hg => ?_⟩
          · rw [hup c x (by omega) j0] at e ⊢
            exact hl.reps x j0 j1 e
          · rw [hup c x (by omega) j0] at e ⊢; have hr' := hp.ok.rep (by omega) k2 j0 j1 e; have hg' := hp.ok.gpm (b := c) (by omega) (Int.le_of_lt k2) g hg
            exact hp.ok.sfx hx1 (by omega) (by omega) (hr'.1.mul hg') (hl.pairs x j0 j1 e g hg)
        · intro x j0 j1 e; rw [hrs b x h0 j0] at e ⊢
          by_cases k : b = b ∧ x = ap q b
          · rw [if_pos k]; exact hq
          · rw [if_neg k] at e ⊢; exact hp.reps x j0 j1 e
      have hnl : nil n (T.setRep b (ap q b) q) b < N := by
        have := nil_lt hT hx1 h0 h1 hx.1 hx.2 hr (by rw [hself]; exact hqp.1.ne (by omega)); omega
      -- the loop over the generators; its visits are smaller
      have loop : ∀ (m j : Nat) (T1 : Tw), T1.gen b = T.gen b → j + m = (T.gen b).length → nil n T1 b < N → Pre n T1 b → ∃ T', Tells (fun k => visitLoop k T1 q b (j : Int)) T' ∧ Stp n b T1 T' ∧ ∀ i : Nat, j ≤ i → ∀ hi : i < (T.gen b).length, Sf n T'.rep (n - b).toNat b (mulL q (T.gen b)[i]) := by
        intro m
        induction m with
        | zero =>
          intro j T1 hge hj hN1 hp1; have hT1 := hp1.ok.hn
          refine ⟨T1, Tells.shift ?_, Stp.refl hp1, fun i h2 h3 => by omega⟩; simp only [visitLoop, hge]
          exact Tells.pos (by omega) (Tells.neg (by omega) Tells.now)
        | succ m ih =>
          intro j T1 hge hj hN1 hp1; have hT1 := hp1.ok.hn; have hjl : j < (T.gen b).length := by omega
          have hgm := hp.ok.gpm h0 (Int.le_of_lt h1) _ (List.getElem_mem hjl); have hgq : Gn n T1 b (mulL q (T.gen b)[j]) := Gn.eq hge (Cl.mul hq (List.getElem_mem hjl)); obtain ⟨T2, ht2, hs2, hf2⟩ := visit_ok h64 h0 h1 hI hgl L N T1 _ hN1 hp1 hgq (by rw [hge]; exact hl); obtain ⟨T3, ht3, hs3, hf3⟩ := ih (j + 1) T2 (hs2.gen.trans hge) (by omega) (Nat.lt_of_le_of_lt (nil_le hT1 hs2.ext h0 h1) hN1) hs2.pre
          refine ⟨T3, Tells.shift ?_, hs2.trans hT1 h0 h1 hs3, fun i h2 h3 => ?_⟩
          · simp only [visitLoop, hge]; have e : rd_L1 (T.gen b) (j : Int) = (T.gen b)[j] := by simp [rd_L1, hjl]
            rw [e]; have hgl := hgm.1
            exact Tells.pos (by omega) (Tells.pos (by omega) (Tells.bind (then_tells _ _ (by omega) (by rw [hgl]; exact hqp.1.rg)) (Tells.bind ht2 ht3)))
          · by_cases e : i = j
            · subst e
              exact hs2.pre.ok.sfx hs3.ext h0 (by omega) (hqp.1.mul hgm) hf2
            · exact hf3 i (by omega) h3
      obtain ⟨T', ht, hs, hf⟩ := loop (T.gen b).length 0 (T.setRep b (ap q b) q) rfl (by omega) hnl hp1; have hext := hx1.trans hs.ext
      have hrq : T'.rep b (ap q b) = q := by
        rw [hs.ext.2 b _ h0 (by rw [hw1.hn]; exact h1) hx.1 (by rw [hw1.hn]; exact hx.2) (by rw [hself]; exact hqp.1.ne (by omega)), hself]
      refine ⟨T', Tells.shift ?_, ⟨hs.pre, hext, fun c k0 k1 => ?_, hs.gen, fun x j0 j1 e e' g hg => ?_⟩, ?_⟩
      · simp only [visitL, rd_ap]
        exact Tells.pos (by omega) (Tells.pos (by omega) (Tells.pos hx.1 (Tells.pos (by omega) (Tells.pos (by omega) (Tells.pos hr ht)))))
      · have := hs.low c k0 k1
        refine ⟨fun x hx0 => ?_, this.2⟩; rw [this.1 x hx0, hrs c x k0 hx0, if_neg (by omega)]
      · by_cases k : x = ap q b
        · subst k; rw [hrq]; obtain ⟨i, hi, rfl⟩ := List.getElem_of_mem hg
          exact hf i (by omega) hi
        · exact hs.new x j0 j1 (by rw [hrs b x h0 j0, if_neg (by omega)]; exact e) e' g hg
      · rw [show (n - b).toNat = (n - (b + 1)).toNat + 1 by omega, Sf, hrq]
        refine ⟨hqp.1.ne (by omega), ?_⟩; rw [mul_inv hqp.1]; have hok := hs.pre.ok; have := sf_id hok.wf (n - (b + 1)).toNat (b + 1) (by omega) (by rw [hok.hn]; omega); rw [hok.hn] at this
        exact this
    · have hR := hp.ok.rep h0 h1 hx.1 hx.2 hr; have hs := strip_fx h0 h1 hqp.1 hqp.2 hR.1 hR.2.1 hR.2.2; have hpm := hp.ok.gpm h0 (Int.le_of_lt h1); have hG : Gn n T b (mulL q (invL (T.rep b (ap q b)))) := Cl.mul' hpm hq (Cl.inv hpm (hp.reps _ hx.1 hx.2 hr)); obtain ⟨T', ht, hi⟩ := hI T _ hp.ok hp.comp hp.bd hs.1 hs.2
      refine ⟨T', Tells.shift ?_, hi.stp h0 h1 hp hG, ?_⟩
      · simp only [visitL, rd_ap]; have hil := hR.1.inv.1
        exact Tells.pos (by omega) (Tells.pos (by omega) (Tells.pos hx.1 (Tells.pos (by omega) (Tells.pos (by omega) (Tells.neg hr (Tells.bind (inverse_tells hR.1 (by omega)) (Tells.bind (then_tells _ _ (by omega) (by rw [hil]; exact hqp.1.rg)) ht)))))))
      · rw [show (n - b).toNat = (n - (b + 1)).toNat + 1 by omega, Sf]; have e := hi.ext.2 b _ h0 (by omega) hx.1 (by omega) hr; rw [e]
        exact ⟨hr, hi.sf⟩
end Go.Proofs.Ytjjlhbgpdncpcaa.P.M
end
section
set_option linter.unusedVariables false
set_option linter.unusedSimpArgs false
namespace Go.Proofs.Ytjjlhbgpdncpcaa.P.M
open Go.RowKit Go.Proofs.YtjjlhbgpdncpcaaW.PrintWords Go.Proofs.YtjjlhbgpdncpcaaW.PrintLast Go.Proofs.YtjjlhbgpdncpcaaW.PrintMore
theorem Gn.up {n : Nat} {T T' : Tw} {b : Int} (hp : ∀ g ∈ T'.gen b, Pm n g) (h : ∀ g ∈ T.gen b, g ∈ T'.gen b) {p : List Int} (hg : Gn n T b p) : Gn n T' b p :=
  Cl.sub hp (fun g hg => Cl.gen hp (h g hg)) hg
theorem insert_step {n : Nat} (h64 : n ≤ 64) {b : Int} (h0 : 0 ≤ b) (h1 : b < n) (hI : InsOk n (b + 1)) : InsOk n b := by
  intro T p hok hc hb hp hf
  have hT := hok.hn
  obtain ⟨e, hte, hie⟩ := strip_tells hok h64 (n - b).toNat b p h0 (by omega) hp hf
  by_cases he : e = n
  · -- it sifts: nothing is done
    refine ⟨T, Tells.shift ?_, ⟨hok, hc, Ext.refl T, Low.refl T b, hb, hie.1 he, fun g hg => .inl hg, fun g hg => hg⟩⟩; simp only [insertL]
    exact Tells.bind hte (Tells.pos (by omega) Tells.now)
  have hns : ¬ Sf n T.rep (n - b).toNat b p := fun h => he (hie.2 h)
  have hlen : (T.gen b).length ≤ 4096 := by
    have h2 := hb b (Int.le_refl _) h1; have h3 := cnt_max n T b; have : n * n ≤ 64 * 64 := Nat.mul_le_mul h64 h64; omega
  have ok1 : Ok n (T.addGen b p) := ⟨Wf.addGen hok.wf h0 (by omega) (by rw [hT]; exact hp) hf, hT⟩
  have g1 : (T.addGen b p).gen b = T.gen b ++ [p] := by rw [gen_add hok.wf h0 (by omega) p h0, if_pos rfl]
  have g2 : ∀ c : Int, 0 ≤ c → c ≠ b → (T.addGen b p).gen c = T.gen c := fun c k0 k1 => by rw [gen_add hok.wf h0 (by omega) p k0, if_neg k1]
  have pm1 := ok1.gpm h0 (Int.le_of_lt h1)
  have upb : ∀ {x : List Int}, Gn n T b x → Gn n (T.addGen b p) b x := fun h => Gn.up pm1 (fun g hg => by rw [g1]; exact List.mem_append_left _ hg) h
  have hb1 := hc b (Int.le_refl _) h1
  have pre1 : Pre n (T.addGen b p) b := by
    refine ⟨ok1, fun c k1 k2 => ?_, fun x j0 j1 e => upb (hb1.reps x j0 j1 e), fun g hg => ?_, fun c k1 k2 => ?_⟩
    · have hl := hc c (by omega) k2
      refine ⟨fun x j0 j1 e => Gn.eq (g2 c (by omega) (by omega)) (hl.reps x j0 j1 e), fun g hg => ?_, fun x j0 j1 e g hg => ?_⟩
      · rw [g2 (c + 1) (by omega) (by omega)] at hg
        exact Gn.eq (g2 c (by omega) (by omega)) (hl.gens g hg)
      · rw [g2 c (by omega) (by omega)] at hg
        exact hl.pairs x j0 j1 e g hg
    · rw [g2 (b + 1) (by omega) (by omega)] at hg
      exact upb (hb1.gens g hg)
    · rw [g2 c (by omega) (by omega)]
      exact hb c (by omega) k2
  have ext1 : Ext T (T.addGen b p) := ⟨rfl, fun _ _ _ _ _ _ _ => rfl⟩
  have hrow : (T.row b).length = n := by have := hok.wf.lrr b h0 (by omega); omega
  have loop : ∀ (m i : Nat) (T2 : Tw), i + m = n → Pre n T2 b → T2.gen b = T.gen b ++ [p] → Ext T T2 → ∃ T', Tells (fun k => insertLoop k T2 (T.row b) p b (i : Int)) T' ∧ Stp n b T2 T' ∧ ∀ x : Int, (i : Int) ≤ x → x < n → T.rep b x ≠ [] → Sf n T'.rep (n - b).toNat b (mulL (T.rep b x) p) := by
    intro m
    induction m with
    | zero =>
      intro i T2 hi hp2 hg2 hx2
      refine ⟨T2, Tells.shift ?_, Stp.refl hp2, fun x k1 k2 => by omega⟩; simp only [insertLoop]
      exact Tells.neg (by omega) Tells.now
    | succ m ih =>
      intro i T2 hi hp2 hg2 hx2; have hT2 := hp2.ok.hn; have e0 : rd_L1 (T.row b) (i : Int) = T.rep b (i : Int) := rfl
      by_cases hr : T.rep b (i : Int) = []
      · obtain ⟨T', ht, hs, hx⟩ := ih (i + 1) T2 (by omega) hp2 hg2 hx2
        refine ⟨T', Tells.shift ?_, hs, fun x k1 k2 k3 => ?_⟩
        · simp only [insertLoop, e0]
          exact Tells.pos (by omega) (Tells.pos hr ht)
        · by_cases e : x = i
          · rw [e] at k3; exact absurd hr k3
          · exact hx x (by omega) k2 k3
      · have hR := hok.rep h0 h1 (x := (i : Int)) (by omega) (by omega) hr; have hr2 := hx2.2 b (i : Int) h0 (by omega) (by omega) (by omega) hr
        have hG : Gn n T2 b (mulL (T.rep b (i : Int)) p) := by
          have := hp2.reps (i : Int) (by omega) (by omega) (by rw [hr2]; exact hr); rw [hr2] at this
          exact Cl.mul this (by rw [hg2]; simp)
        obtain ⟨T3, ht3, hs3, hf3⟩ := visit_ok h64 h0 h1 hI (fun _ _ _ => trivial) 0 (nil n T2 b + 1) T2 _ (by omega) hp2 hG (by rw [hg2, List.length_append]; simp; omega); obtain ⟨T', ht, hs, hx⟩ := ih (i + 1) T3 (by omega) hs3.pre (hs3.gen.trans hg2) (hx2.trans hs3.ext)
        refine ⟨T', Tells.shift ?_, hs3.trans hT2 h0 h1 hs, fun x k1 k2 k3 => ?_⟩
        · simp only [insertLoop, e0]; have h2 := hR.1.1; have h3 := hp.1
          exact Tells.pos (by omega) (Tells.neg hr (Tells.bind (then_tells _ _ (by omega) (by rw [h3]; exact hR.1.rg)) (Tells.bind ht3 ht)))
        · by_cases e : x = i
          · subst e
            exact hs3.pre.ok.sfx hs.ext h0 (by omega) (hR.1.mul hp) hf3
          · exact hx x (by omega) k2 k3
  obtain ⟨T', ht, hs, hx⟩ := loop n 0 (T.addGen b p) (by omega) pre1 g1 ext1
  have hext := ext1.trans hs.ext
  have hgen : T'.gen b = T.gen b ++ [p] := hs.gen.trans g1
  have hcomp : Compn n T' b := by
    intro c k1 k2
    by_cases e : c = b
    · subst e
      refine ⟨hs.pre.reps, hs.pre.gens, fun x j0 j1 e g hg => ?_⟩
      by_cases hm : T.rep c x = []
      · exact hs.new x j0 j1 hm e g (by rw [g1, ← hgen]; exact hg)
      · have e2 := hext.2 c x h0 (by omega) j0 (by omega) hm; have hR := hok.rep h0 h1 j0 j1 hm; rw [e2]; rw [hgen, List.mem_append, List.mem_singleton] at hg
        rcases hg with hg | rfl
        · exact hok.sfx hext h0 (by omega) (hR.1.mul (hok.gpm h0 (Int.le_of_lt h1) g hg)) (hb1.pairs x j0 j1 hm g hg)
        · exact hx x (by omega) j1 hm
    · exact hs.pre.comp c (by omega) k2
  have hsf : Sf n T'.rep (n - b).toNat b p := (sfI hs.pre.ok h0 (Int.le_of_lt h1) hcomp hp hf).2 (Cl.gen (hs.pre.ok.gpm h0 (Int.le_of_lt h1)) (by rw [hgen]; simp))
  refine ⟨T', Tells.shift ?_, ⟨hs.pre.ok, hcomp, hext, fun c k0 k1 => ?_, fun c k1 k2 => ?_, hsf, fun g hg => ?_, fun g hg => by rw [hgen]; exact List.mem_append_left _ hg⟩⟩
  · simp only [insertL]
    exact Tells.bind hte (Tells.neg (by omega) (Tells.pos h0 (Tells.pos (by omega) (Tells.pos (by omega) ht))))
  · have := hs.low c k0 k1
    exact ⟨this.1, this.2.trans (g2 c k0 (by omega))⟩
  · by_cases e : c = b
    · subst e
      have hlt : cnt n T c < cnt n T' c := by
        apply Classical.byContradiction; intro hcon
        apply hns; have hw' := hs.pre.ok.wf
        have := Sf.same hw' hext c (fun d x j0 j1 j2 j3 e => by
          apply Classical.byContradiction; intro hne
          exact hcon (cnt_lt hT hext h0 j0 (by omega) j2 (by omega) e hne)) (n - c).toNat c p h0 (Int.le_refl _) (by omega) (by rw [hT]; exact hp) (by rw [hs.pre.ok.hn]; exact hsf)
        rwa [hT] at this
      have := hb c (Int.le_refl _) h1; rw [hgen, List.length_append]; simp only [List.length_singleton]; omega
    exact hs.pre.bd c (by omega) k2
  · rw [hgen, List.mem_append, List.mem_singleton] at hg
    exact hg
def Lx (n : Nat) (p q : List Int) : Prop := ∃ i : Int, 0 ≤ i ∧ i < n ∧ (∀ j : Int, 0 ≤ j → j < i → ap p j = ap q j) ∧ ap p i < ap q i
theorem Gn.sub {n : Nat} {T : Tw} (hok : Ok n T) {b : Int} (h0 : 0 ≤ b) (h1 : b < n) (hc : Compn n T b) {p : List Int} (h : Gn n T (b + 1) p) : Gn n T b p :=
  Cl.sub (hok.gpm h0 (Int.le_of_lt h1)) (hc b (Int.le_refl _) h1).gens h
end Go.Proofs.Ytjjlhbgpdncpcaa.P.M
end
section
set_option linter.unusedVariables false
set_option linter.unusedSimpArgs false
namespace Go.Proofs.Ytjjlhbgpdncpcaa.P.M
open Go.RowKit Go.Proofs.YtjjlhbgpdncpcaaW.PrintWords Go.Proofs.YtjjlhbgpdncpcaaW.PrintLast Go.Proofs.YtjjlhbgpdncpcaaW.PrintMore
theorem checkL_zero {p : List Int} : checkL p = 0 ↔ Pm p.length p ∧ 1 ≤ p.length ∧ p.length ≤ 64 := by
  unfold checkL
  by_cases h1 : p.length < 1 ∨ 64 < p.length
  · rw [if_pos h1]; constructor
    · intro h; omega
    · rintro ⟨_, h2, h3⟩; omega
  rw [if_neg h1]
  by_cases h2 : ∃ x ∈ p, x < 0 ∨ (p.length : Int) ≤ x
  · rw [if_pos h2]; constructor
    · intro h; omega
    · rintro ⟨h3, _⟩; obtain ⟨x, hx, hb⟩ := h2; have := h3.2.1 x hx; omega
  rw [if_neg h2]
  by_cases h3 : p.Nodup
  · rw [if_pos h3]
    refine ⟨fun _ => ⟨⟨rfl, fun x hx => ?_, h3⟩, by omega, by omega⟩, fun _ => rfl⟩; have : ¬ (x < 0 ∨ (p.length : Int) ≤ x) := fun k => h2 ⟨x, hx, k⟩
    omega
  rw [if_neg h3]; constructor
  · intro h; omega
  · rintro ⟨h4, _⟩; exact absurd h4.2.2 h3
theorem nodup_iff_ap {p : List Int} : p.Nodup ↔ ∀ i j : Nat, j < i → i < p.length → ap p i ≠ ap p j := by
  rw [List.Nodup, List.pairwise_iff_getElem]
  constructor
  · intro h i j hj hi e
    have := h j i (by omega) hi hj; rw [ap_nat, ap_nat, List.getD_eq_getElem?_getD, List.getD_eq_getElem?_getD, List.getElem?_eq_getElem hi, List.getElem?_eq_getElem (show j < p.length by omega)] at e
    exact this e.symm
  · intro h i j hi hj hij e
    refine h j i hij hj ?_; rw [ap_nat, ap_nat, List.getD_eq_getElem?_getD, List.getD_eq_getElem?_getD, List.getElem?_eq_getElem hi, List.getElem?_eq_getElem hj]
    exact e.symm
theorem rck2 (p : List Int) (hl : p.length ≤ 64) (i : Nat) (hi : i < p.length) (v : Int) (hv : (∀ j : Nat, j < i → ap p i ≠ ap p j) → Tells (fun k => r30_Check.l1 k p (p.length : Int) ((i : Int) + 1)) v) (hd : (∃ j : Nat, j < i ∧ ap p i = ap p j) → v = 18) :
    ∀ (m j : Nat), j + m = i → (∀ a : Nat, a < j → ap p i ≠ ap p a) → Tells (fun k => r30_Check.l2 k p (p.length : Int) (i : Int) (j : Int)) v
  | 0, j, hj, ha => by
    refine Tells.shift ?_; simp only [r30_Check.l2]
    refine Tells.neg (by omega) ?_; rw [w64 (n := (i : Int) + 1) (by omega) (by omega)]
    exact hv (fun b hb => ha b (by omega))
  | m + 1, j, hj, ha => by
    refine Tells.shift ?_; simp only [r30_Check.l2, rd_ap]
    refine Tells.pos (by omega) (Tells.pos (by omega) (Tells.pos (by omega) (Tells.pos (by omega) (Tells.pos (by omega) ?_))))
    by_cases e : ap p i = ap p j
    · exact Tells.pos e (Tells.now' (hd ⟨j, by omega, e⟩).symm)
    · refine Tells.neg e ?_; rw [w64 (n := (j : Int) + 1) (by omega) (by omega)]
      refine rck2 p hl i hi v hv hd m (j + 1) (by omega) (fun a h => ?_)
      by_cases e2 : a = j
      · rw [e2]; exact e
      · exact ha a (by omega)
theorem rck1 (p : List Int) (hl : p.length ≤ 64) : ∀ (m i : Nat), i + m = p.length → (∀ a b : Nat, b < a → a < i → ap p a ≠ ap p b) → Tells (fun k => r30_Check.l1 k p (p.length : Int) (i : Int)) (if p.Nodup then 0 else 18)
  | 0, i, hi, ha => by
    refine Tells.shift ?_; simp only [r30_Check.l1]
    refine Tells.neg (by omega) (Tells.now' ?_); rw [if_pos (nodup_iff_ap.2 (fun a b h1 h2 => ha a b h1 (by omega)))]
  | m + 1, i, hi, ha => by
    refine Tells.shift ?_; simp only [r30_Check.l1]
    refine Tells.pos (by omega) ?_
    refine rck2 p hl i (by omega) _ (fun h => ?_) (fun ⟨j, hj, e⟩ => if_neg (fun h => nodup_iff_ap.1 h i j hj (by omega) e)) i 0 (by omega) (fun a h => by omega)
    have := rck1 p hl m (i + 1) (by omega) (fun a b h1 h2 => by
      by_cases e : a = i
      · rw [e]; exact h b (by omega)
      · exact ha a b h1 (by omega))
    exact this
theorem rck0 (p : List Int) (hl : p.length ≤ 64) : ∀ (m i : Nat), i + m = p.length → (∀ a : Nat, a < i → 0 ≤ ap p a ∧ ap p a < p.length) → Tells (fun k => r30_Check.l0 k p (p.length : Int) (i : Int)) (if ∃ x ∈ p, x < 0 ∨ (p.length : Int) ≤ x then 6 else if p.Nodup then 0 else 18)
  | 0, i, hi, ha => by
    refine Tells.shift ?_; simp only [r30_Check.l0]
    refine Tells.neg (by omega) ?_; rw [if_neg]
    · exact rck1 p hl p.length 0 (by omega) (fun a b h1 h2 => by omega)
    · rintro ⟨x, hx, hb⟩; obtain ⟨j, hj, rfl⟩ := List.getElem_of_mem hx; have := ha j (by omega); rw [ap_nat, List.getD_eq_getElem?_getD, List.getElem?_eq_getElem hj, Option.getD_some] at this; omega
  | m + 1, i, hi, ha => by
    refine Tells.shift ?_; simp only [r30_Check.l0, rd_ap]
    refine Tells.pos (by omega) (Tells.pos (by omega) (Tells.pos (by omega) ?_)); have hm : ap p i ∈ p := ap_mem (by omega) (by omega)
    by_cases e : ap p i < 0
    · refine Tells.pos e (Tells.now' ?_); rw [if_pos ⟨_, hm, .inl e⟩]
    · refine Tells.neg e ?_
      by_cases e2 : ap p i ≥ (p.length : Int)
      · refine Tells.pos e2 (Tells.now' ?_); rw [if_pos ⟨_, hm, .inr e2⟩]
      · refine Tells.neg e2 ?_; rw [w64 (n := (i : Int) + 1) (by omega) (by omega)]
        refine rck0 p hl m (i + 1) (by omega) (fun a h => ?_)
        by_cases e3 : a = i
        · rw [e3]; exact ⟨by omega, by omega⟩
        · exact ha a (by omega)
theorem Check_tells (p : List Int) : Tells (fun k => r30_Check.f k p) (checkL p) := by
  unfold r30_Check.f checkL
  by_cases h1 : (p.length : Int) < 1
  · refine Tells.pos h1 (Tells.shift ?_)
    simp only [r30_Check.j0]
    refine Tells.pos trivial (Tells.now' ?_); rw [if_pos (by omega)]
  refine Tells.neg h1 (Tells.shift ?_)
  simp only [r30_Check.j0]
  by_cases h2 : (p.length : Int) > 64
  · refine Tells.pos (decide_eq_true h2) (Tells.now' ?_)
    rw [if_pos (by omega)]
  refine Tells.neg (by rw [decide_eq_false h2]; decide) ?_
  rw [if_neg (by omega)]
  exact rck0 p (by omega) p.length 0 (by omega) (fun a h => by omega)
theorem rdL1_nat {l : List (List Int)} {i : Nat} (h : i < l.length) : rd_L1 l (i : Int) = l[i] := by simp [rd_L1, h]
def allL (n : Int) (l : List (List Int)) : Int := match (l.map checkL).find? (fun e => e != 0) with
  | some e => e
  | none => if l.any (lenB n) then 10 else 0
theorem find_at {l : List (List Int)} {i : Nat} (h : i < l.length) (ha : ∀ a : Nat, a < i → ∀ k : a < l.length, checkL l[a] = 0) (hb : checkL l[i] ≠ 0) : (l.map checkL).find? (fun e => e != 0) = some (checkL l[i]) := by
  rw [List.find?_eq_some_iff_getElem]
  refine ⟨by simpa using hb, i, by simpa using h, by simp, fun j hj => ?_⟩
  have := ha j hj (by omega)
  simp [this]
theorem find_zero {l : List (List Int)} (ha : ∀ a : Nat, ∀ k : a < l.length, checkL l[a] = 0) : (l.map checkL).find? (fun e => e != 0) = none := by
  rw [List.find?_eq_none]
  intro x hx
  rw [List.mem_map] at hx
  obtain ⟨y, hy, rfl⟩ := hx
  obtain ⟨j, hj, rfl⟩ := List.getElem_of_mem hy
  rw [ha j hj]; simp
theorem all_l1 (n : Int) (l : List (List Int)) (hl : l.length ≤ 4611686018427387904) : ∀ (m i : Nat), i + m = l.length → (∀ a : Nat, a < i → ∀ k : a < l.length, lenB n l[a] = false) → Tells (fun k => r30_all.l1 k n l (i : Int)) (if l.any (lenB n) then 10 else 0)
  | 0, i, hi, ha => by
    refine Tells.shift ?_; simp only [r30_all.l1]
    refine Tells.neg (by omega) (Tells.now' ?_); rw [if_neg]; rw [List.any_eq_true]; rintro ⟨x, hx, hb⟩; obtain ⟨j, hj, rfl⟩ := List.getElem_of_mem hx; rw [ha j (by omega) hj] at hb; cases hb
  | m + 1, i, hi, ha => by
    refine Tells.shift ?_; simp only [r30_all.l1]; have h : i < l.length := by omega
    rw [rdL1_nat h]
    refine Tells.pos (by omega) (Tells.pos (by omega) ?_)
    by_cases e : (l[i].length : Int) = n
    · refine Tells.pos e ?_; rw [w64 (n := (i : Int) + 1) (by omega) (by omega)]
      refine all_l1 n l hl m (i + 1) (by omega) (fun a h1 h2 => ?_)
      by_cases e2 : a = i
      · subst e2; simp [lenB, e]
      · exact ha a (by omega) h2
    · refine Tells.neg e (Tells.now' ?_); rw [if_pos]; rw [List.any_eq_true]
      exact ⟨l[i], List.getElem_mem h, by simpa [lenB] using e⟩
theorem all_l0 (n : Int) (l : List (List Int)) (hl : l.length ≤ 4611686018427387904) : ∀ (m i : Nat), i + m = l.length → (∀ a : Nat, a < i → ∀ k : a < l.length, checkL l[a] = 0) → Tells (fun k => r30_all.l0 k n l (i : Int)) (allL n l)
  | 0, i, hi, ha => by
    refine Tells.shift ?_; simp only [r30_all.l0]
    refine Tells.neg (by omega) ?_; have : allL n l = if l.any (lenB n) then 10 else 0 := by rw [allL, find_zero (fun a k => ha a (by omega) k)]
    rw [this]
    exact all_l1 n l hl l.length 0 (by omega) (fun a h => by omega)
  | m + 1, i, hi, ha => by
    refine Tells.shift ?_; simp only [r30_all.l0]; have h : i < l.length := by omega
    rw [rdL1_nat h]
    refine Tells.pos (by omega) (Tells.pos (by omega) (Tells.bind (Check_tells _) ?_))
    by_cases e : checkL l[i] = 0
    · refine Tells.pos e ?_; rw [w64 (n := (i : Int) + 1) (by omega) (by omega)]
      refine all_l0 n l hl m (i + 1) (by omega) (fun a h1 h2 => ?_)
      by_cases e2 : a = i
      · subst e2; exact e
      · exact ha a (by omega) h2
    · refine Tells.neg e (Tells.now' ?_); rw [allL, find_at h ha e]
theorem all_tells (n : Int) (l : List (List Int)) (hl : l.length ≤ 4611686018427387904) : Tells (fun k => r30_all.f k n l) (allL n l) := by
  unfold r30_all.f
  exact all_l0 n l hl l.length 0 (by omega) (fun a h => by omega)
theorem allL_zero {n : Int} {l : List (List Int)} : allL n l = 0 ↔ ∀ p ∈ l, checkL p = 0 ∧ (p.length : Int) = n := by
  unfold allL
  constructor
  · intro h
    split at h
    · rename_i e he
      have := List.find?_some he; simp [h] at this
    · rename_i he
      rw [List.find?_eq_none] at he; intro p hp
      refine ⟨by simpa using he (checkL p) (List.mem_map.2 ⟨p, hp, rfl⟩), ?_⟩
      apply Classical.byContradiction; intro hc; rw [if_pos (List.any_eq_true.2 ⟨p, hp, by simpa [lenB] using hc⟩)] at h
      cases h
  · intro h
    rw [List.find?_eq_none.2 (fun x hx => by
      rw [List.mem_map] at hx; obtain ⟨y, hy, rfl⟩ := hx; rw [(h y hy).1]; simp)]
    simp only; rw [if_neg]; rw [List.any_eq_true]; rintro ⟨p, hp, hb⟩; have := (h p hp).2; simp [lenB, this] at hb
end Go.Proofs.Ytjjlhbgpdncpcaa.P.M
end
section
set_option linter.unusedVariables false
set_option linter.unusedSimpArgs false
namespace Go.Proofs.Ytjjlhbgpdncpcaa.P.M
open Go.RowKit Go.Proofs.YtjjlhbgpdncpcaaW.PrintWords Go.Proofs.YtjjlhbgpdncpcaaW.PrintLast Go.Proofs.YtjjlhbgpdncpcaaW.PrintMore
open Classical
theorem Lx.asymm {n : Nat} {p q : List Int} (h : Lx n p q) (k : Lx n q p) : False := by
  obtain ⟨i, h0, h1, h2, h3⟩ := h
  obtain ⟨j, k0, k1, k2, k3⟩ := k
  rcases Int.lt_trichotomy i j with e | e | e
  · have := k2 i h0 e; omega
  · subst e; omega
  · have := h2 j k0 e; omega
def gensE (n : Int) (l : List (List Int)) : Int := if n < 1 ∨ 64 < n then 4 else allL n l
theorem gensL_eq (n : Int) (l : List (List Int)) : gensL n l = gensE n l := rfl
def Gp (n : Nat) (l : List (List Int)) : List Int → Prop := Cl n (fun g => g ∈ l)
theorem gensE_zero {n : Int} {l : List (List Int)} (h : gensE n l = 0) : ∃ m : Nat, n = m ∧ 1 ≤ m ∧ m ≤ 64 ∧ ∀ p ∈ l, Pm m p := by
  unfold gensE at h
  split at h
  · cases h
  · refine ⟨n.toNat, by omega, by omega, by omega, fun p hp => ?_⟩
    have := allL_zero.1 h p hp; have h2 := checkL_zero.1 this.1; have : p.length = n.toNat := by omega
    rw [← this]; exact h2.1
end Go.Proofs.Ytjjlhbgpdncpcaa.P.M
end
namespace Go.Proofs.Ytjjlhbgpdncpcaa.P
open Go.RowKit Go.Proofs.YtjjlhbgpdncpcaaW.PrintWords Go.Proofs.YtjjlhbgpdncpcaaW.PrintLast Go.Proofs.YtjjlhbgpdncpcaaW.PrintMore
set_option linter.unusedVariables false
set_option linter.unusedSimpArgs false
set_option maxHeartbeats 8000000
set_option maxRecDepth 100000
section

end
section
attribute [local go_sem] max2_int min2_int max_two min_two max_three min_three max_four min_four

end
section
attribute [local go_sem] max2_int min2_int max_two min_two max_three min_three max_four min_four

end
section
attribute [local go_sem] max2_int min2_int max_two min_two max_three min_three max_four min_four

end
section
attribute [local go_sem] max2_int min2_int max_two min_two max_three min_three max_four min_four

end
end Go.Proofs.Ytjjlhbgpdncpcaa.P
section
set_option linter.unusedVariables false
set_option linter.unusedSimpArgs false
namespace Go.Proofs.Ytjjlhbgpdncpcaa.P.M
open Go.RowKit Go.Proofs.YtjjlhbgpdncpcaaW.PrintWords Go.Proofs.YtjjlhbgpdncpcaaW.PrintLast Go.Proofs.YtjjlhbgpdncpcaaW.PrintMore
def cdF (a : Int) (l : List Int) : Int := l.foldl (fun a x => 6 * a + x) a
theorem cdF_inj : ∀ {p q : List Int} {a b : Int}, p.length = q.length → (∀ x ∈ p, 0 ≤ x ∧ x < 6) → (∀ x ∈ q, 0 ≤ x ∧ x < 6) → cdF a p = cdF b q → a = b ∧ p = q
  | [], [], a, b, _, _, _, h => ⟨h, rfl⟩
  | [], _ :: _, _, _, h, _, _, _ => by simp at h
  | _ :: _, [], _, _, h, _, _, _ => by simp at h
  | x :: p, y :: q, a, b, h, hp, hq, e => by
    have ih := cdF_inj (p := p) (q := q) (a := 6 * a + x) (b := 6 * b + y) (by simpa using h) (fun z hz => hp z (by simp [hz])) (fun z hz => hq z (by simp [hz])) e; have h1 := hp x (by simp); have h2 := hq y (by simp); have : x = y := by omega
    subst this
    exact ⟨by omega, by rw [ih.2]⟩
theorem cdF_bound : ∀ {l : List Int} {a : Int}, 0 ≤ a → (∀ x ∈ l, 0 ≤ x ∧ x < 6) → 0 ≤ cdF a l ∧ cdF a l < (a + 1) * 6 ^ l.length
  | [], a, h, _ => by simp [cdF]; omega
  | x :: l, a, h, hl => by
    have hx := hl x (by simp); have ih := cdF_bound (l := l) (a := 6 * a + x) (by omega) (fun z hz => hl z (by simp [hz])); have e : cdF a (x :: l) = cdF (6 * a + x) l := rfl; rw [e]
    refine ⟨ih.1, Int.lt_of_lt_of_le ih.2 ?_⟩; rw [List.length_cons, Int.pow_succ, ← Int.mul_assoc, Int.mul_right_comm]
    exact Int.mul_le_mul_of_nonneg_right (by omega) (Int.le_of_lt (Int.pow_pos (by decide)))
theorem six_le (n : Nat) (h : n ≤ 6) : (6 : Int) ^ n ≤ 46656 := by
  have : n = 0 ∨ n = 1 ∨ n = 2 ∨ n = 3 ∨ n = 4 ∨ n = 5 ∨ n = 6 := by omega
  rcases this with rfl | rfl | rfl | rfl | rfl | rfl | rfl <;> decide
theorem cd_small {n : Nat} (hn : n ≤ 6) {p : List Int} (hp : Pm n p) : 0 ≤ cdF 0 p ∧ cdF 0 p < 46656 := by
  have := cdF_bound (l := p) (a := 0) (by omega) (fun x hx => by have := hp.2.1 x hx; omega)
  refine ⟨this.1, Int.lt_of_lt_of_le this.2 ?_⟩
  rw [hp.1]
  have := six_le n hn
  omega
theorem cd_inj {n : Nat} (hn : n ≤ 6) {p q : List Int} (hp : Pm n p) (hq : Pm n q) (e : cdF 0 p = cdF 0 q) : p = q :=
  (cdF_inj (by rw [hp.1, hq.1]) (fun x hx => by have := hp.2.1 x hx; omega) (fun x hx => by have := hq.2.1 x hx; omega) e).2
theorem Lx.trans {n : Nat} {p q r : List Int} (h : Lx n p q) (k : Lx n q r) : Lx n p r := by
  obtain ⟨i, h0, h1, h2, h3⟩ := h
  obtain ⟨j, k0, k1, k2, k3⟩ := k
  rcases Int.lt_trichotomy i j with e | e | e
  · exact ⟨i, h0, h1, fun a a0 a1 => (h2 a a0 a1).trans (k2 a a0 (by omega)), by have := k2 i h0 e; omega⟩
  · subst e
    exact ⟨i, h0, h1, fun a a0 a1 => (h2 a a0 a1).trans (k2 a a0 a1), by omega⟩
  · exact ⟨j, k0, k1, fun a a0 a1 => (h2 a a0 (by omega)).trans (k2 a a0 a1), by have := h2 j k0 e; omega⟩
theorem Lx.total {n : Nat} {p q : List Int} (hp : p.length = n) (hq : q.length = n) : Lx n p q ∨ p = q ∨ Lx n q p := by
  by_cases h : ∃ i : Nat, i < n ∧ ap p i ≠ ap q i
  · have : ∃ i : Nat, (i < n ∧ ap p i ≠ ap q i) ∧ ∀ j < i, ¬ (j < n ∧ ap p j ≠ ap q j) := by
      obtain ⟨i, hi⟩ := h
      have key : ∀ m : Nat, ∀ i ≤ m, (i < n ∧ ap p i ≠ ap q i) → ∃ i : Nat, (i < n ∧ ap p i ≠ ap q i) ∧ ∀ j < i, ¬ (j < n ∧ ap p j ≠ ap q j) := by
        intro m
        induction m with
        | zero => intro i hi h; exact ⟨i, h, fun j hj => by omega⟩
        | succ m ih =>
          intro i hi h
          by_cases hc : ∃ j < i, (j < n ∧ ap p j ≠ ap q j)
          · obtain ⟨j, hj, hh⟩ := hc
            exact ih j (by omega) hh
          · exact ⟨i, h, fun j hj hh => hc ⟨j, hj, hh⟩⟩
      exact key i i (Nat.le_refl _) hi
    obtain ⟨i, ⟨h1, h2⟩, h3⟩ := this
    have eqs : ∀ j : Int, 0 ≤ j → j < i → ap p j = ap q j := by
      intro j j0 j1; have := h3 j.toNat (by omega)
      apply Classical.byContradiction; intro hc
      exact this ⟨by omega, by rw [show ((j.toNat : Nat) : Int) = j by omega]; exact hc⟩
    rcases Int.lt_trichotomy (ap p i) (ap q i) with e | e | e
    · exact .inl ⟨i, by omega, by omega, eqs, e⟩
    · exact absurd e h2
    · exact .inr (.inr ⟨i, by omega, by omega, fun j j0 j1 => (eqs j j0 j1).symm, e⟩)
  right; left
  refine ap_ext hp hq (fun i h0 h1 => ?_)
  apply Classical.byContradiction
  intro hc
  exact h ⟨i.toNat, by omega, by rw [show ((i.toNat : Nat) : Int) = i by omega]; exact hc⟩
def at1 (l : List (List Int)) (i : Nat) : List Int := l.getD i []
theorem at1_eq {l : List (List Int)} {i : Nat} (h : i < l.length) : at1 l i = l[i] := by simp [at1, h]
def Le (n : Nat) (p q : List Int) : Prop := ¬ Lx n q p
theorem Le.trans {n : Nat} {p q r : List Int} (hp : p.length = n) (hq : q.length = n) (hr : r.length = n) (h : Le n p q) (k : Le n q r) : Le n p r := by
  intro c
  rcases Lx.total hp hq with a | a | a
  · rcases Lx.total hq hr with b | b | b
    · exact (a.trans b).asymm c
    · subst b; exact a.asymm c
    · exact k b
  · subst a; exact k c
  · exact h a
structure SortI (n : Nat) (l0 l : List (List Int)) : Prop where
  perm : l.Perm l0
  len : ∀ p ∈ l0, p.length = n
theorem SortI.at {n : Nat} {l0 l : List (List Int)} (h : SortI n l0 l) {i : Nat} (hi : i < l.length) : (at1 l i).length = n := by
  rw [at1_eq hi]
  exact h.len _ (h.perm.mem_iff.1 (List.getElem_mem hi))
theorem rd1_at (l : List (List Int)) (i : Nat) : rd_L1 l (i : Int) = at1 l i := by simp [rd_L1, at1]
end Go.Proofs.Ytjjlhbgpdncpcaa.P.M
end
namespace Go.Proofs.Ytjjlhbgpdncpcaa.P
open Go.RowKit Go.Proofs.YtjjlhbgpdncpcaaW.PrintWords Go.Proofs.YtjjlhbgpdncpcaaW.PrintLast Go.Proofs.YtjjlhbgpdncpcaaW.PrintMore
set_option linter.unusedVariables false
set_option linter.unusedSimpArgs false
set_option maxHeartbeats 8000000
set_option maxRecDepth 100000
section
attribute [local go_sem] max2_int min2_int max_two min_two max_three min_three max_four min_four

end
section
attribute [local go_sem] max2_int min2_int max_two min_two max_three min_three max_four min_four

end
section
attribute [local go_sem] max2_int min2_int max_two min_two max_three min_three max_four min_four

end
section
attribute [local go_sem] max2_int min2_int max_two min_two max_three min_three max_four min_four

end
section
attribute [local go_sem] max2_int min2_int max_two min_two max_three min_three max_four min_four

end
section
attribute [local go_sem] max2_int min2_int max_two min_two max_three min_three max_four min_four

end
end Go.Proofs.Ytjjlhbgpdncpcaa.P
