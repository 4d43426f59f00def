/- The law of the claim, proved for every input: the last of its texts. -/
import Derived.Test.YtjjlhbgpdncpcaaRows
import Derived.Deep.Matrix
import Derived.WalkKit
import Derived.ProofKit
import Derived.OpenShut
import Derived.ShutString
import Derived.ChangeOld
import Derived.Below
import Derived.SizedLaws
import Derived.Carry
import Derived.Test.YtjjlhbgpdncpcaaMa5
import Derived.Test.YtjjlhbgpdncpcaaMa1
import Derived.Test.YtjjlhbgpdncpcaaMa2
section
set_option linter.unusedVariables false
set_option linter.unusedSimpArgs false
namespace Go.Proofs.Ytjjlhbgpdncpcaa.P.M
open Go.RowKit Go.Proofs.YtjjlhbgpdncpcaaW.PrintWords Go.Proofs.YtjjlhbgpdncpcaaW.PrintLast Go.Proofs.YtjjlhbgpdncpcaaW.PrintMore
theorem checkL_zero {p : List Int} : checkL p = 0 ↔ Pm p.length p ∧ 1 ≤ p.length ∧ p.length ≤ 64 := by
  unfold checkL
  by_cases h1 : p.length < 1 ∨ 64 < p.length
  · rw [if_pos h1]; constructor
    · intro h; omega
    · rintro ⟨_, h2, h3⟩; omega
  rw [if_neg h1]
  by_cases h2 : ∃ x ∈ p, x < 0 ∨ (p.length : Int) ≤ x
  · rw [if_pos h2]; constructor
    · intro h; omega
    · rintro ⟨h3, _⟩
      obtain ⟨x, hx, hb⟩ := h2; have := h3.2.1 x hx; omega
  rw [if_neg h2]
  by_cases h3 : p.Nodup
  · rw [if_pos h3]
    refine ⟨fun _ => ⟨⟨rfl, fun x hx => ?_, h3⟩, by omega, by omega⟩, fun _ => rfl⟩; have : ¬ (x < 0 ∨ (p.length : Int) ≤ x) := fun k => h2 ⟨x, hx, k⟩
    omega
  rw [if_neg h3]; constructor
  · intro h; omega
  · rintro ⟨h4, _⟩; exact absurd h4.2.2 h3
theorem nodup_iff_ap {p : List Int} : p.Nodup ↔ ∀ i j : Nat, j < i → i < p.length → ap p i ≠ ap p j := by
  rw [List.Nodup, List.pairwise_iff_getElem]
  constructor
  · intro h i j hj hi e
    have := h j i (by omega) hi hj; rw [ap_nat, ap_nat, List.getD_eq_getElem?_getD, List.getD_eq_getElem?_getD, List.getElem?_eq_getElem hi, List.getElem?_eq_getElem (show j < p.length by omega)] at e
    exact this e.symm
  · intro h i j hi hj hij e
    refine h j i hij hj ?_; rw [ap_nat, ap_nat, List.getD_eq_getElem?_getD, List.getD_eq_getElem?_getD, List.getElem?_eq_getElem hi, List.getElem?_eq_getElem hj]
    exact e.symm
theorem rck2 (p : List Int) (hl : p.length ≤ 64) (i : Nat) (hi : i < p.length) (v : Int) (hv : (∀ j : Nat, j < i → ap p i ≠ ap p j) → Tells (fun k => codewrightref30_Check.l1 k p (p.length : Int) ((i : Int) + 1)) v) (hd : (∃ j : Nat, j < i ∧ ap p i = ap p j) → v = 18) :
    ∀ (m j : Nat), j + m = i → (∀ a : Nat, a < j → ap p i ≠ ap p a) → Tells (fun k => codewrightref30_Check.l2 k p (p.length : Int) (i : Int) (j : Int)) v
  | 0, j, hj, ha => by
    refine Tells.shift ?_; simp only [codewrightref30_Check.l2]
    refine Tells.neg (by omega) ?_; rw [w64 (n := (i : Int) + 1) (by omega) (by omega)]
    exact hv (fun b hb => ha b (by omega))
  | m + 1, j, hj, ha => by
    refine Tells.shift ?_; simp only [codewrightref30_Check.l2, rd_ap]
    refine Tells.pos (by omega) (Tells.pos (by omega) (Tells.pos (by omega) (Tells.pos (by omega) (Tells.pos (by omega) ?_))))
    by_cases e : ap p i = ap p j
    · exact Tells.pos e (Tells.now' (hd ⟨j, by omega, e⟩).symm)
    · refine Tells.neg e ?_; rw [w64 (n := (j : Int) + 1) (by omega) (by omega)]
      refine rck2 p hl i hi v hv hd m (j + 1) (by omega) (fun a h => ?_)
      by_cases e2 : a = j
      · rw [e2]; exact e
      · exact ha a (by omega)
theorem rck1 (p : List Int) (hl : p.length ≤ 64) : ∀ (m i : Nat), i + m = p.length → (∀ a b : Nat, b < a → a < i → ap p a ≠ ap p b) → Tells (fun k => codewrightref30_Check.l1 k p (p.length : Int) (i : Int)) (if p.Nodup then 0 else 18)
  | 0, i, hi, ha => by
    refine Tells.shift ?_; simp only [codewrightref30_Check.l1]
    refine Tells.neg (by omega) (Tells.now' ?_); rw [if_pos (nodup_iff_ap.2 (fun a b h1 h2 => ha a b h1 (by omega)))]
  | m + 1, i, hi, ha => by
    refine Tells.shift ?_; simp only [codewrightref30_Check.l1]
    refine Tells.pos (by omega) ?_
    refine rck2 p hl i (by omega) _ (fun h => ?_) (fun ⟨j, hj, e⟩ => if_neg (fun h => nodup_iff_ap.1 h i j hj (by omega) e)) i 0 (by omega) (fun a h => by omega)
    have := rck1 p hl m (i + 1) (by omega) (fun a b h1 h2 => by
      by_cases e : a = i
      · rw [e]; exact h b (by omega)
      · exact ha a b h1 (by omega))
    exact this
theorem rck0 (p : List Int) (hl : p.length ≤ 64) : ∀ (m i : Nat), i + m = p.length → (∀ a : Nat, a < i → 0 ≤ ap p a ∧ ap p a < p.length) → Tells (fun k => codewrightref30_Check.l0 k p (p.length : Int) (i : Int)) (if ∃ x ∈ p, x < 0 ∨ (p.length : Int) ≤ x then 6 else if p.Nodup then 0 else 18)
  | 0, i, hi, ha => by
    refine Tells.shift ?_; simp only [codewrightref30_Check.l0]
    refine Tells.neg (by omega) ?_; rw [if_neg]
    · exact rck1 p hl p.length 0 (by omega) (fun a b h1 h2 => by omega)
    · rintro ⟨x, hx, hb⟩
      obtain ⟨j, hj, rfl⟩ := List.getElem_of_mem hx; have := ha j (by omega); rw [ap_nat, List.getD_eq_getElem?_getD, List.getElem?_eq_getElem hj, Option.getD_some] at this; omega
  | m + 1, i, hi, ha => by
    refine Tells.shift ?_; simp only [codewrightref30_Check.l0, rd_ap]
    refine Tells.pos (by omega) (Tells.pos (by omega) (Tells.pos (by omega) ?_)); have hm : ap p i ∈ p := ap_mem (by omega) (by omega)
    by_cases e : ap p i < 0
    · refine Tells.pos e (Tells.now' ?_); rw [if_pos ⟨_, hm, .inl e⟩]
    · refine Tells.neg e ?_
      by_cases e2 : ap p i ≥ (p.length : Int)
      · refine Tells.pos e2 (Tells.now' ?_); rw [if_pos ⟨_, hm, .inr e2⟩]
      · refine Tells.neg e2 ?_; rw [w64 (n := (i : Int) + 1) (by omega) (by omega)]
        refine rck0 p hl m (i + 1) (by omega) (fun a h => ?_)
        by_cases e3 : a = i
        · rw [e3]; exact ⟨by omega, by omega⟩
        · exact ha a (by omega)
theorem Check_tells (p : List Int) : Tells (fun k => codewrightref30_Check.f k p) (checkL p) := by
  unfold codewrightref30_Check.f checkL
  by_cases h1 : (p.length : Int) < 1
  · refine Tells.pos h1 (Tells.shift ?_)
    simp only [codewrightref30_Check.j0]
    refine Tells.pos trivial (Tells.now' ?_); rw [if_pos (by omega)]
  refine Tells.neg h1 (Tells.shift ?_)
  simp only [codewrightref30_Check.j0]
  by_cases h2 : (p.length : Int) > 64
  · refine Tells.pos (decide_eq_true h2) (Tells.now' ?_)
    rw [if_pos (by omega)]
  refine Tells.neg (by rw [decide_eq_false h2]; decide) ?_
  rw [if_neg (by omega)]
  exact rck0 p (by omega) p.length 0 (by omega) (fun a h => by omega)
theorem rdL1_nat {l : List (List Int)} {i : Nat} (h : i < l.length) : rd_L1 l (i : Int) = l[i] := by simp [rd_L1, h]
def allL (n : Int) (l : List (List Int)) : Int := match (l.map checkL).find? (fun e => e != 0) with
  | some e => e
  | none => if l.any (lenB n) then 10 else 0
theorem find_at {l : List (List Int)} {i : Nat} (h : i < l.length) (ha : ∀ a : Nat, a < i → ∀ k : a < l.length, checkL l[a] = 0) (hb : checkL l[i] ≠ 0) : (l.map checkL).find? (fun e => e != 0) = some (checkL l[i]) := by
  rw [List.find?_eq_some_iff_getElem]
  refine ⟨by simpa using hb, i, by simpa using h, by simp, fun j hj => ?_⟩
  have := ha j hj (by omega)
  simp [this]
theorem find_zero {l : List (List Int)} (ha : ∀ a : Nat, ∀ k : a < l.length, checkL l[a] = 0) : (l.map checkL).find? (fun e => e != 0) = none := by
  rw [List.find?_eq_none]
  intro x hx
  rw [List.mem_map] at hx
  obtain ⟨y, hy, rfl⟩ := hx
  obtain ⟨j, hj, rfl⟩ := List.getElem_of_mem hy
  rw [ha j hj]; simp
theorem all_l1 (n : Int) (l : List (List Int)) (hl : l.length ≤ 4611686018427387904) : ∀ (m i : Nat), i + m = l.length → (∀ a : Nat, a < i → ∀ k : a < l.length, lenB n l[a] = false) → Tells (fun k => codewrightref30_all.l1 k n l (i : Int)) (if l.any (lenB n) then 10 else 0)
  | 0, i, hi, ha => by
    refine Tells.shift ?_; simp only [codewrightref30_all.l1]
    refine Tells.neg (by omega) (Tells.now' ?_); rw [if_neg]; rw [List.any_eq_true]
    rintro ⟨x, hx, hb⟩
    obtain ⟨j, hj, rfl⟩ := List.getElem_of_mem hx; rw [ha j (by omega) hj] at hb; cases hb
  | m + 1, i, hi, ha => by
    refine Tells.shift ?_; simp only [codewrightref30_all.l1]; have h : i < l.length := by omega
    rw [rdL1_nat h]
    refine Tells.pos (by omega) (Tells.pos (by omega) ?_)
    by_cases e : (l[i].length : Int) = n
    · refine Tells.pos e ?_; rw [w64 (n := (i : Int) + 1) (by omega) (by omega)]
      refine all_l1 n l hl m (i + 1) (by omega) (fun a h1 h2 => ?_)
      by_cases e2 : a = i
      · subst e2; simp [lenB, e]
      · exact ha a (by omega) h2
    · refine Tells.neg e (Tells.now' ?_); rw [if_pos]; rw [List.any_eq_true]
      exact ⟨l[i], List.getElem_mem h, by simpa [lenB] using e⟩
theorem all_l0 (n : Int) (l : List (List Int)) (hl : l.length ≤ 4611686018427387904) : ∀ (m i : Nat), i + m = l.length → (∀ a : Nat, a < i → ∀ k : a < l.length, checkL l[a] = 0) → Tells (fun k => codewrightref30_all.l0 k n l (i : Int)) (allL n l)
  | 0, i, hi, ha => by
    refine Tells.shift ?_; simp only [codewrightref30_all.l0]
    refine Tells.neg (by omega) ?_; have : allL n l = if l.any (lenB n) then 10 else 0 := by rw [allL, find_zero (fun a k => ha a (by omega) k)]
    rw [this]
    exact all_l1 n l hl l.length 0 (by omega) (fun a h => by omega)
  | m + 1, i, hi, ha => by
    refine Tells.shift ?_; simp only [codewrightref30_all.l0]; have h : i < l.length := by omega
    rw [rdL1_nat h]
    refine Tells.pos (by omega) (Tells.pos (by omega) (Tells.bind (Check_tells _) ?_))
    by_cases e : checkL l[i] = 0
    · refine Tells.pos e ?_; rw [w64 (n := (i : Int) + 1) (by omega) (by omega)]
      refine all_l0 n l hl m (i + 1) (by omega) (fun a h1 h2 => ?_)
      by_cases e2 : a = i
      · subst e2; exact e
      · exact ha a (by omega) h2
    · refine Tells.neg e (Tells.now' ?_); rw [allL, find_at h ha e]
theorem all_tells (n : Int) (l : List (List Int)) (hl : l.length ≤ 4611686018427387904) : Tells (fun k => codewrightref30_all.f k n l) (allL n l) := by
  unfold codewrightref30_all.f
  exact all_l0 n l hl l.length 0 (by omega) (fun a h => by omega)
theorem allL_zero {n : Int} {l : List (List Int)} : allL n l = 0 ↔ ∀ p ∈ l, checkL p = 0 ∧ (p.length : Int) = n := by
  unfold allL
  constructor
  · intro h
    split at h
    · rename_i e he
      have := List.find?_some he
      simp [h] at this
    · rename_i he
      rw [List.find?_eq_none] at he
      intro p hp
      refine ⟨by simpa using he (checkL p) (List.mem_map.2 ⟨p, hp, rfl⟩), ?_⟩
      apply Classical.byContradiction
      intro hc
      rw [if_pos (List.any_eq_true.2 ⟨p, hp, by simpa [lenB] using hc⟩)] at h
      cases h
  · intro h
    rw [List.find?_eq_none.2 (fun x hx => by
      rw [List.mem_map] at hx; obtain ⟨y, hy, rfl⟩ := hx; rw [(h y hy).1]; simp)]
    simp only; rw [if_neg]; rw [List.any_eq_true]
    rintro ⟨p, hp, hb⟩
    have := (h p hp).2
    simp [lenB, this] at hb
def prodL (n : Nat) (l : List (List Int)) : List Int := l.foldl mulL (idL n)
theorem fold_take {α : Type} (f : List Int → α → List Int) (x : List Int) (l : List α) (i : Nat) (h : i < l.length) : (l.take (i + 1)).foldl f x = f ((l.take i).foldl f x) l[i] := by
  rw [List.take_succ_eq_append_getElem h, List.foldl_append]; rfl
theorem fold_pm {n : Nat} : ∀ {l : List (List Int)} {x : List Int}, Pm n x → (∀ p ∈ l, Pm n p) → Pm n (l.foldl mulL x)
  | [], x, hx, h => hx
  | p :: l, x, hx, h => fold_pm (l := l) (hx.mul (h p (by simp))) (fun q hq => h q (by simp [hq]))
def composeL (l : List (List Int)) : List Int × Int :=
  match l with
  | [] => ([], 11)
  | p :: _ => if allL p.length l = 0 then (prodL p.length l, 0) else ([], allL p.length l)
theorem RCompose_loop {n : Nat} (l : List (List Int)) (hn : n ≤ 64) (hl : l.length ≤ 4611686018427387904) (h : ∀ p ∈ l, Pm n p) : ∀ (m i : Nat), i + m = l.length → Tells (fun k => codewrightref30_Compose.l0 k l ((l.take i).foldl mulL (idL n)) (i : Int)) (prodL n l, 0)
  | 0, i, hi => by
    refine Tells.shift ?_; simp only [codewrightref30_Compose.l0]
    refine Tells.neg (by omega) (Tells.now' ?_); rw [List.take_of_length_le (by omega)]; rfl
  | m + 1, i, hi => by
    refine Tells.shift ?_; simp only [codewrightref30_Compose.l0]; have hb : i < l.length := by omega
    have hp : Pm n l[i] := h _ (List.getElem_mem hb); have hx : Pm n ((l.take i).foldl mulL (idL n)) := fold_pm (Pm_id n) (fun p hp => h p (List.mem_of_mem_take hp)); rw [rdL1_nat hb]; have hxl := hx.1; have hpl := hp.1
    refine Tells.pos (by omega) (Tells.pos (by omega) (Tells.bind (Then_tells _ _ (by omega) (by rw [hpl]; exact hx.rg)) ?_)); rw [w64 (n := (i : Int) + 1) (by omega) (by omega), ← fold_take mulL _ l i hb]
    exact RCompose_loop l hn hl h m (i + 1) (by omega)
theorem RCompose_tells (l : List (List Int)) (hl : l.length ≤ 1000000) : Tells (fun k => codewrightref30_Compose.f k l) (composeL l) := by
  unfold codewrightref30_Compose.f
  cases l with
  | nil => exact Tells.pos rfl (Tells.now' rfl)
  | cons p l =>
    have e : rd_L1 (p :: l) 0 = p := rfl; rw [e]
    refine Tells.neg zz69 (Tells.pos zz69 (Tells.bind (all_tells _ _ (by omega)) ?_))
    by_cases h : allL p.length (p :: l) = 0
    · have h' := allL_zero.1 h; have hp0 := checkL_zero.1 (h' p (by simp)).1
      refine Tells.pos h (Tells.bind (Unit_tells p.length (by omega)) ?_); have : composeL (p :: l) = (prodL p.length (p :: l), 0) := if_pos h; rw [this]
      exact RCompose_loop (n := p.length) (p :: l) hp0.2.2 (by omega) (fun q hq => by
        have := h' q hq; have h2 := checkL_zero.1 this.1; have : q.length = p.length := by omega
        rw [← this]; exact h2.1) (p :: l).length 0 (by omega)
    refine Tells.neg h (Tells.now' ?_)
    exact (if_neg h).symm
theorem PCompose_l1 {n : Nat} (l : List (List Int)) (hn : n ≤ 64) (hl : l.length ≤ 4611686018427387904) (h : ∀ p ∈ l, Pm p.length p) : ∀ (m i : Nat), i + m = l.length → (∀ a : Nat, a < i → ∀ k : a < l.length, l[a].length = n) → Tells (fun k => perm_Compose.l1 k ((l.take i).foldl mulL (idL n)) l (l.length : Int) (i : Int)) (if l.any (lenB n) then ([], 10) else (prodL n l, 0))
  | 0, i, hi, ha => by
    refine Tells.shift ?_; simp only [perm_Compose.l1]
    refine Tells.neg (by omega) (Tells.now' ?_); rw [if_neg, List.take_of_length_le (by omega)]
    · rfl
    · rw [List.any_eq_true]
      rintro ⟨x, hx, hb⟩
      obtain ⟨j, hj, rfl⟩ := List.getElem_of_mem hx; have := ha j (by omega) hj
      simp [lenB, this] at hb
  | m + 1, i, hi, ha => by
    refine Tells.shift ?_; simp only [perm_Compose.l1]; have hb : i < l.length := by omega
    have hp := h _ (List.getElem_mem hb)
    have hx : Pm n ((l.take i).foldl mulL (idL n)) := fold_pm (Pm_id n) (fun p hp => by
      obtain ⟨j, hj, rfl⟩ := List.getElem_of_mem hp; rw [List.getElem_take]; have hj' : j < i ∧ j < l.length := by rw [List.length_take] at hj; omega
      have := ha j hj'.1 hj'.2; rw [← this]
      exact h _ (List.getElem_mem hj'.2))
    rw [rdL1_nat hb]; have hxl := hx.1
    refine Tells.pos (by omega) (Tells.pos (by omega) (Tells.pos (by omega) ?_))
    by_cases e : l[i].length = n
    · refine Tells.pos (by omega) (Tells.bind (then_tells _ _ (by omega) (by rw [e]; exact hx.rg)) ?_); rw [w64 (n := (i : Int) + 1) (by omega) (by omega), ← fold_take mulL _ l i hb]
      refine PCompose_l1 l hn hl h m (i + 1) (by omega) (fun a h1 h2 => ?_)
      by_cases e2 : a = i
      · subst e2; exact e
      · exact ha a (by omega) h2
    · refine Tells.neg (by omega) (Tells.now' ?_); rw [if_pos]; rw [List.any_eq_true]
      exact ⟨l[i], List.getElem_mem hb, by simp [lenB]; omega⟩
theorem PCompose_l0 (p : List Int) (l0 : List (List Int)) (hl : (p :: l0).length ≤ 4611686018427387904) : ∀ (m i : Nat), i + m = (p :: l0).length → (∀ a : Nat, a < i → ∀ k : a < (p :: l0).length, checkL (p :: l0)[a] = 0) → Tells (fun k => perm_Compose.l0 k (p :: l0) (p :: l0) ((p :: l0).length : Int) (i : Int)) (composeL (p :: l0))
  | 0, i, hi, ha => by
    refine Tells.shift ?_; simp only [perm_Compose.l0]; have h0 := checkL_zero.1 (ha 0 (by simp only [List.length_cons] at hi; omega) (by simp)); simp only [List.getElem_cons_zero] at h0; have e : rd_L1 (p :: l0) 0 = p := rfl; rw [e]
    refine Tells.neg (by omega) (Tells.pos zz69 (Tells.bind (identity_tells p.length (by omega)) ?_))
    have := PCompose_l1 (n := p.length) (p :: l0) h0.2.2 hl (fun q hq => by
      obtain ⟨j, hj, rfl⟩ := List.getElem_of_mem hq
      exact (checkL_zero.1 (ha j (by omega) hj)).1) (p :: l0).length 0 (by omega) (fun a h => by omega)
    refine this.eq ?_; simp only [composeL]
    have hz : allL p.length (p :: l0) = if (p :: l0).any (lenB p.length) then 10 else 0 := by
      rw [allL, find_zero (fun a k => ha a (by omega) k)]
    rw [hz]
    by_cases hb : (p :: l0).any (lenB p.length) = true
    · rw [if_pos hb, if_pos hb]; rfl
    · rw [if_neg hb, if_neg hb]; rfl
  | m + 1, i, hi, ha => by
    refine Tells.shift ?_; simp only [perm_Compose.l0]; have hb : i < (p :: l0).length := by omega
    rw [rdL1_nat hb]
    refine Tells.pos (by omega) (Tells.pos (by omega) (Tells.pos (by omega) (Tells.bind (a := checkL (p :: l0)[i]) Tells.now ?_)))
    by_cases e : checkL (p :: l0)[i] = 0
    · refine Tells.pos e ?_; rw [w64 (n := (i : Int) + 1) (by omega) (by omega)]
      refine PCompose_l0 p l0 hl m (i + 1) (by omega) (fun a h1 h2 => ?_)
      by_cases e2 : a = i
      · subst e2; exact e
      · exact ha a (by omega) h2
    · refine Tells.neg e (Tells.now' ?_); have hz : allL p.length (p :: l0) = checkL (p :: l0)[i] := by rw [allL, find_at hb ha e]
      simp only [composeL, hz]; rw [if_neg e]
theorem PCompose_tells (l : List (List Int)) (hl : l.length ≤ 1000000) : Tells (fun k => perm_Compose.f k l) (composeL l) := by
  unfold perm_Compose.f
  cases l with
  | nil => exact Tells.pos rfl (Tells.now' rfl)
  | cons p l =>
    refine Tells.neg zz69 ?_
    exact PCompose_l0 p l (by omega) (p :: l).length 0 (by omega) (fun a h => by omega)
def inverseL (p : List Int) : List Int × Int := if checkL p = 0 then (invL p, 0) else ([], checkL p)
theorem PInverse_tells (p : List Int) : Tells (fun k => perm_Inverse.f k p) (inverseL p) := by
  unfold perm_Inverse.f inverseL
  refine Tells.bind (a := checkL p) Tells.now ?_
  by_cases h : checkL p = 0
  · have h' := checkL_zero.1 h
    rw [if_pos h]
    exact Tells.pos h (Tells.bind (inverse_tells h'.1 (by omega)) Tells.now)
  rw [if_neg h]
  exact Tells.neg h Tells.now
theorem RInverse_tells (p : List Int) : Tells (fun k => codewrightref30_Inverse.f k p) (inverseL p) := by
  unfold codewrightref30_Inverse.f inverseL
  refine Tells.bind (Check_tells p) ?_
  by_cases h : checkL p = 0
  · have h' := checkL_zero.1 h
    rw [if_pos h]
    exact Tells.pos h (Tells.bind (Back_tells h'.1 (by omega)) Tells.now)
  rw [if_neg h]
  exact Tells.neg h Tells.now
end Go.Proofs.Ytjjlhbgpdncpcaa.P.M
end
section
set_option linter.unusedVariables false
set_option linter.unusedSimpArgs false
namespace Go.Proofs.Ytjjlhbgpdncpcaa.P.M
open Go.RowKit Go.Proofs.YtjjlhbgpdncpcaaW.PrintWords Go.Proofs.YtjjlhbgpdncpcaaW.PrintLast Go.Proofs.YtjjlhbgpdncpcaaW.PrintMore
theorem cyc_same (p : List Int) : ∀ k : Nat, (∀ out seen i, perm_Cycles.l0 k p out seen (p.length : Int) i = codewrightref30_Cycles.l0 k p seen out i) ∧ (∀ out seen c j i, perm_Cycles.l1 k p out seen c j (p.length : Int) i = codewrightref30_Cycles.l1 k p seen out i c j)
  | 0 => ⟨fun _ _ _ => by simp only [perm_Cycles.l0, codewrightref30_Cycles.l0], fun _ _ _ _ _ => by simp only [perm_Cycles.l1, codewrightref30_Cycles.l1]⟩
  | k + 1 => by
    obtain ⟨h0, h1⟩ := cyc_same p k
    refine ⟨fun out seen i => ?_, fun out seen c j i => ?_⟩
    · simp only [perm_Cycles.l0, codewrightref30_Cycles.l0, h1]
    · simp only [perm_Cycles.l1, codewrightref30_Cycles.l1, h0, h1]
def run (n : Nat) (p : List Int) (x : Int) (t : Nat) : List Int := (List.range t).map (fun s => ap (powL n p s) x)
theorem run_succ (n : Nat) (p : List Int) (x : Int) (t : Nat) : run n p x (t + 1) = run n p x t ++ [ap (powL n p t) x] := by simp [run, List.range_succ]
theorem mem_run {n : Nat} {p : List Int} {x y : Int} {t : Nat} : y ∈ run n p x t ↔ ∃ s, s < t ∧ ap (powL n p s) x = y := by simp [run]
def IsCyc (n : Nat) (p : List Int) (c : List Int) : Prop := ∃ x : Int, 0 ≤ x ∧ x < n ∧ c = run n p x c.length ∧ ap (powL n p c.length) x = x ∧ c.Nodup
def lens (v : List (List Int)) : Nat := (v.map List.length).sum
structure CycInv (n : Nat) (p : List Int) (out : List (List Int)) (seen : List Bool) : Prop where
  len : seen.length = n
  sum : lens out ≤ seen.count true
  cyc : ∀ c ∈ out, 2 ≤ c.length ∧ IsCyc n p c
  got : ∀ y : Int, 0 ≤ y → y < n → rdOf false seen y = true → ap p y = y ∨ ∃ c ∈ out, y ∈ c
  inv : ∀ y : Int, 0 ≤ y → y < n → (rdOf false seen y = true ↔ rdOf false seen (ap p y) = true)
theorem rdb_set {l : List Bool} {i : Int} (v : Bool) (h0 : 0 ≤ i) (h1 : i < (l.length : Int)) {j : Int} (k0 : 0 ≤ j) : rdOf false (l.set i.toNat v) j = if j = i then v else rdOf false l j := by
  have hi : i.toNat < l.length := by omega
  by_cases e : j = i
  · subst e
    rw [if_pos rfl, rdOf, List.getD_eq_getElem?_getD, List.getElem?_set_self hi]; rfl
  rw [if_neg e, rdOf, List.getD_eq_getElem?_getD, List.getElem?_set_ne (by omega), ← List.getD_eq_getElem?_getD]; rfl
theorem count_set : ∀ {l : List Bool} {i : Nat}, i < l.length → l.getD i false = false → (l.set i true).count true = l.count true + 1
  | [], i, h, _ => by simp at h
  | b :: l, 0, h, e => by
    have : b = false := by simpa using e
    subst this
    simp [List.count_cons]
  | b :: l, i + 1, h, e => by
    have := count_set (l := l) (i := i) (by simpa using h) (by simpa using e); simp only [List.set_cons_succ, List.count_cons, this]; omega
theorem rdb_lt {l : List Bool} {i : Int} (h0 : 0 ≤ i) (h1 : i < (l.length : Int)) (e : rdOf false l i = false) : (l.set i.toNat true).count true = l.count true + 1 := count_set (by omega) e
theorem lens_snoc (v : List (List Int)) (c : List Int) : lens (v ++ [c]) = lens v + c.length := by simp [lens]
structure RunInv (n : Nat) (p : List Int) (old : List Bool) (x : Int) (t : Nat) (seen : List Bool) : Prop where
  len : seen.length = n
  cnt : seen.count true = old.count true + t
  mem : ∀ y : Int, 0 ≤ y → y < n → (rdOf false seen y = true ↔ rdOf false old y = true ∨ y ∈ run n p x t)
  nod : (run n p x t).Nodup
theorem run_end {n : Nat} {p : List Int} (hp : Pm n p) {out : List (List Int)} {old seen : List Bool} {x : Int} {t : Nat} (ho : CycInv n p out old) (h0 : 0 ≤ x) (h1 : x < n) (hx : rdOf false old x = false)
    (h : RunInv n p old x t seen) (ht : 1 ≤ t) (he : rdOf false seen (ap (powL n p t) x) = true) : ap (powL n p t) x = x := by
  have hr := fun s => (hp.pow s).rng h0 h1
  have nold : ∀ s, rdOf false old (ap (powL n p s) x) = false := by
    intro s
    induction s with
    | zero => rw [powL, ap_id h0 h1]; exact hx
    | succ s ih =>
      rw [powL, (hp.pow s).ap_mul h0 h1]; have := ho.inv _ (hr s).1 (hr s).2; rw [ih] at this
      cases hc : rdOf false old (ap p (ap (powL n p s) x)) with
      | false => rfl
      | true => rw [hc] at this; simp at this
  rcases (h.mem _ (hr t).1 (hr t).2).1 he with k | k
  · rw [nold t] at k; cases k
  · obtain ⟨s, hs, e⟩ := mem_run.1 k
    -- p^s x = p^t x, s < t
    have e2 : ap (powL n p (t - s)) x = x := by
      have : ap (powL n p s) (ap (powL n p (t - s)) x) = ap (powL n p s) x := by
        rw [← (hp.pow (t - s)).ap_mul h0 h1, ← pow_add hp, show t - s + s = t by omega, e]
      exact (hp.pow s).inj (hr (t - s)).1 (hr (t - s)).2 h0 h1 this
    by_cases hz : s = 0
    · rw [hz] at e2; simpa using e2
    -- p^(t-s) x = p^0 x, both in the run
    exfalso
    have hnd := h.nod; rw [run, List.Nodup, List.pairwise_map] at hnd; have := List.pairwise_iff_getElem.1 hnd 0 (t - s) (by simp; omega) (by simp; omega) (by omega); simp only [List.getElem_range] at this
    exact this (by rw [e2, powL, ap_id h0 h1])
theorem run_step {n : Nat} {p : List Int} (hp : Pm n p) {old seen : List Bool} {x : Int} {t : Nat} (h0 : 0 ≤ x) (h1 : x < n)
    (h : RunInv n p old x t seen) (he : rdOf false seen (ap (powL n p t) x) = false) : RunInv n p old x (t + 1) (seen.set (ap (powL n p t) x).toNat true) := by
  have hr := (hp.pow t).rng h0 h1
  have hl := h.len
  refine ⟨by rw [List.length_set]; exact hl, ?_, ?_, ?_⟩
  · rw [rdb_lt hr.1 (by omega) he, h.cnt]; omega
  · intro y k0 k1
    rw [rdb_set true hr.1 (by omega) k0, run_succ, List.mem_append, List.mem_singleton]
    by_cases e : y = ap (powL n p t) x
    · rw [if_pos e]; simp [e]
    rw [if_neg e, h.mem y k0 k1]; simp [e]
  · rw [run_succ, List.nodup_append]
    refine ⟨h.nod, by simp, ?_⟩
    intro a ha b hb e
    rw [List.mem_singleton] at hb; subst hb; rw [e] at ha; rw [(h.mem _ hr.1 hr.2).2 (.inr ha)] at he; cases he
theorem run_close {n : Nat} {p : List Int} (hp : Pm n p) {out : List (List Int)} {old seen : List Bool} {x : Int} {t : Nat} (ho : CycInv n p out old) (h0 : 0 ≤ x) (h1 : x < n)
    (h : RunInv n p old x t seen) (ht : 1 ≤ t) (he : ap (powL n p t) x = x) : CycInv n p (if 2 ≤ t then out ++ [run n p x t] else out) seen ∧ (∀ y : Int, 0 ≤ y → y < n → rdOf false old y = true → rdOf false seen y = true) ∧ rdOf false seen x = true := by
  have hlen : (run n p x t).length = t := by simp [run]
  have hmemp : ∀ y : Int, 0 ≤ y → y < n → (y ∈ run n p x t ↔ ap p y ∈ run n p x t) := by
    intro y k0 k1
    constructor
    · intro hy
      obtain ⟨s, hs, rfl⟩ := mem_run.1 hy
      by_cases e : s + 1 < t
      · exact mem_run.2 ⟨s + 1, e, by rw [powL, (hp.pow s).ap_mul h0 h1]⟩
      · refine mem_run.2 ⟨0, by omega, ?_⟩; rw [powL, ap_id h0 h1, ← (hp.pow s).ap_mul h0 h1]
        show x = ap (powL n p (s + 1)) x
        rw [show s + 1 = t by omega, he]
    · intro hy
      obtain ⟨s, hs, e⟩ := mem_run.1 hy
      cases s with
      | zero =>
        rw [powL, ap_id h0 h1] at e
        refine mem_run.2 ⟨t - 1, by omega, ?_⟩
        have : ap p (ap (powL n p (t - 1)) x) = ap p y := by
          rw [← (hp.pow (t - 1)).ap_mul h0 h1, ← e]
          show ap (powL n p (t - 1 + 1)) x = x
          rw [show t - 1 + 1 = t by omega, he]
        exact hp.inj ((hp.pow _).rng h0 h1).1 ((hp.pow _).rng h0 h1).2 k0 k1 this
      | succ s =>
        refine mem_run.2 ⟨s, by omega, ?_⟩; rw [powL, (hp.pow s).ap_mul h0 h1] at e
        exact hp.inj ((hp.pow _).rng h0 h1).1 ((hp.pow _).rng h0 h1).2 k0 k1 e
  refine ⟨⟨h.len, ?_, ?_, ?_, ?_⟩, fun y k0 k1 hy => (h.mem y k0 k1).2 (.inl hy), (h.mem x h0 h1).2 (.inr (mem_run.2 ⟨0, by omega, ap_id h0 h1⟩))⟩
  · have := ho.sum
    rw [h.cnt]
    split
    · rw [lens_snoc, hlen]; omega
    · omega
  · intro c hc
    split at hc
    · rename_i h2
      rw [List.mem_append, List.mem_singleton] at hc
      rcases hc with hc | rfl
      · exact ho.cyc c hc
      · rw [hlen]
        exact ⟨h2, x, h0, h1, by rw [hlen], by rw [hlen]; exact he, h.nod⟩
    · exact ho.cyc c hc
  · intro y k0 k1 hy
    rcases (h.mem y k0 k1).1 hy with k | k
    · rcases ho.got y k0 k1 k with e | ⟨c, hc, hy'⟩
      · exact .inl e
      · right
        refine ⟨c, ?_, hy'⟩
        split
        · exact List.mem_append_left _ hc
        · exact hc
    · by_cases h2 : 2 ≤ t
      · right
        rw [if_pos h2]
        exact ⟨_, List.mem_append_right _ (List.mem_singleton.2 rfl), k⟩
      left
      have ht1 : t = 1 := by omega
      subst ht1; obtain ⟨s, hs, rfl⟩ := mem_run.1 k; have : s = 0 := by omega
      subst this; rw [powL, ap_id h0 h1]; have e := he; rw [powL, powL, id_mul hp] at e
      exact e
  · intro y k0 k1
    have hr := hp.rng k0 k1; rw [h.mem y k0 k1, h.mem _ hr.1 hr.2, ho.inv y k0 k1, hmemp y k0 k1]
theorem cycles_l1 {n : Nat} {p : List Int} (hp : Pm n p) (hn : n ≤ 64) {out : List (List Int)} {old : List Bool} {x : Int} (ho : CycInv n p out old) (h0 : 0 ≤ x) (h1 : x < n) (hx : rdOf false old x = false) (P : List (List Int) → Prop)
    (cont : ∀ out' seen', CycInv n p out' seen' → (∀ y : Int, 0 ≤ y → y < n → rdOf false old y = true → rdOf false seen' y = true) → rdOf false seen' x = true → ∃ v, P v ∧ Tells (fun k => perm_Cycles.l0 k p out' seen' (n : Int) (x + 1)) (v, 0)) :
    ∀ (m t : Nat) (seen : List Bool), n - seen.count true = m → RunInv n p old x t seen → (1 ≤ t ∨ rdOf false seen (ap (powL n p t) x) = false) → ∃ v, P v ∧ Tells (fun k => perm_Cycles.l1 k p out seen (run n p x t) (ap (powL n p t) x) (n : Int) x) (v, 0)
  | m, t, seen, hm, h, ht => by
    have hr := (hp.pow t).rng h0 h1; have hl := h.len; have hpl := hp.1; have hrl : (run n p x t).length = t := by simp [run]
    by_cases hs : rdOf false seen (ap (powL n p t) x) = true
    · have ht1 : 1 ≤ t := by rcases ht with k | k; exact k; rw [hs] at k; cases k
      have hc := run_close hp ho h0 h1 h ht1 (run_end hp ho h0 h1 hx h ht1 hs); obtain ⟨v, hv, htl⟩ := cont _ seen hc.1 hc.2.1 hc.2.2
      refine ⟨v, hv, Tells.shift ?_⟩; simp only [perm_Cycles.l1]
      refine Tells.pos hr.1 (Tells.pos (by omega) (Tells.pos hs ?_)); rw [w64 (n := x + 1) (by omega) (by omega), hrl]
      by_cases h2 : 2 ≤ t
      · rw [if_pos h2] at htl
        have hcl : out.length ≤ 64 := by
          have h3 := ho.sum
          have h4 : out.length ≤ lens out := by
            have : ∀ v : List (List Int), (∀ c ∈ v, 2 ≤ c.length) → v.length ≤ lens v := by
              intro v
              induction v with
              | nil => intro _; simp
              | cons c v ih =>
                intro hv
                have := hv c (by simp); have := ih (fun d hd => hv d (by simp [hd])); simp only [lens, List.map_cons, List.sum_cons, List.length_cons] at *; omega
            exact this out (fun c hc => (ho.cyc c hc).1)
          have h5 : old.count true ≤ old.length := List.count_le_length; have := ho.len; omega
        exact Tells.pos (by omega) (Tells.pos (by omega) htl)
      · rw [if_neg h2] at htl
        exact Tells.neg (by omega) htl
    · have hs' : rdOf false seen (ap (powL n p t) x) = false := by simpa using hs
      have hstep := run_step hp h0 h1 h hs'; have hcnt : (seen.set (ap (powL n p t) x).toNat true).count true = seen.count true + 1 := rdb_lt hr.1 (by omega) hs'
      have hle : (seen.set (ap (powL n p t) x).toNat true).count true ≤ n := by
        have := List.count_le_length (a := true) (l := seen.set (ap (powL n p t) x).toNat true); rw [List.length_set] at this; omega
      obtain ⟨v, hv, htl⟩ := cycles_l1 hp hn ho h0 h1 hx P cont (m - 1) (t + 1) _ (by omega) hstep (.inl (by omega))
      refine ⟨v, hv, Tells.shift ?_⟩; simp only [perm_Cycles.l1, rd_ap]
      refine Tells.pos hr.1 (Tells.pos (by omega) (Tells.neg (by rw [hs']; decide) (Tells.pos (by have := h.cnt; omega) (Tells.pos (by omega) ?_)))); rw [run_succ, powL, (hp.pow t).ap_mul h0 h1] at htl
      exact htl
  termination_by m => m
  decreasing_by omega
theorem cycles_l0 {n : Nat} {p : List Int} (hp : Pm n p) (hn : n ≤ 64) : ∀ (m i : Nat) (out : List (List Int)) (seen : List Bool), i + m = n → CycInv n p out seen → (∀ y : Int, 0 ≤ y → y < i → rdOf false seen y = true) →
    ∃ v, (∃ s, CycInv n p v s ∧ ∀ y : Int, 0 ≤ y → y < n → rdOf false s y = true) ∧ Tells (fun k => perm_Cycles.l0 k p out seen (n : Int) (i : Int)) (v, 0)
  | 0, i, out, seen, hi, ho, hy => by
    refine ⟨out, ⟨seen, ho, fun y h0 h1 => hy y h0 (by omega)⟩, Tells.shift ?_⟩; simp only [perm_Cycles.l0]
    exact Tells.neg (by omega) Tells.now
  | m + 1, i, out, seen, hi, ho, hy => by
    have next : ∀ out' seen', CycInv n p out' seen' → (∀ y : Int, 0 ≤ y → y < n → rdOf false seen y = true → rdOf false seen' y = true) → rdOf false seen' (i : Int) = true → ∃ v, (∃ s, CycInv n p v s ∧ ∀ y : Int, 0 ≤ y → y < n → rdOf false s y = true) ∧ Tells (fun k => perm_Cycles.l0 k p out' seen' (n : Int) ((i : Int) + 1)) (v, 0) := by
      intro out' seen' h1 h2 h3
      exact cycles_l0 hp hn m (i + 1) out' seen' (by omega) h1 (fun y k0 k1 => by
        by_cases e : y = i
        · rw [e]; exact h3
        · exact h2 y k0 (by omega) (hy y k0 (by omega)))
    have hpl := hp.1; have hl := ho.len
    by_cases hs : rdOf false seen (i : Int) = true
    · obtain ⟨v, hv, ht⟩ := next out seen ho (fun _ _ _ h => h) hs
      refine ⟨v, hv, Tells.shift ?_⟩; simp only [perm_Cycles.l0]
      refine Tells.pos (by omega) (Tells.shift ?_); simp only [perm_Cycles.l1]
      refine Tells.pos (by omega) (Tells.pos (by omega) (Tells.pos hs (Tells.neg (by simp) ?_))); rw [w64 (n := (i : Int) + 1) (by omega) (by omega)]
      exact ht
    · have hs' : rdOf false seen (i : Int) = false := by simpa using hs
      have hid : ap (powL n p 0) (i : Int) = i := ap_id (by omega) (by omega); obtain ⟨v, hv, ht⟩ := cycles_l1 hp hn ho (x := (i : Int)) (by omega) (by omega) hs' _ next (n - seen.count true) 0 seen rfl ⟨hl, by omega, fun y _ _ => by simp [run], by simp [run]⟩ (.inr (by rw [hid]; exact hs'))
      refine ⟨v, hv, Tells.shift ?_⟩; simp only [perm_Cycles.l0]
      refine Tells.pos (by omega) ?_; rw [hid] at ht
      exact ht
structure CycOf (n : Nat) (p : List Int) (v : List (List Int)) : Prop where
  sum : lens v ≤ 64
  cyc : ∀ c ∈ v, 2 ≤ c.length ∧ IsCyc n p c
  got : ∀ y : Int, 0 ≤ y → y < n → ap p y = y ∨ ∃ c ∈ v, y ∈ c
theorem Cycles_tells {n : Nat} {p : List Int} (hp : Pm n p) (h1 : 1 ≤ n) (hn : n ≤ 64) : ∃ v, CycOf n p v ∧ Tells (fun k => perm_Cycles.f k p) (v, 0) ∧ Tells (fun k => codewrightref30_Cycles.f k p) (v, 0) := by
  have hpl := hp.1
  have hz : ∀ y : Int, rdOf false (List.replicate n false) y = false := by
    intro y
    simp only [rdOf, List.getD_eq_getElem?_getD, List.getElem?_replicate]
    split <;> rfl
  have hc : checkL p = 0 := checkL_zero.2 ⟨hpl ▸ hp, by omega, by omega⟩
  obtain ⟨v, ⟨s, hs, hall⟩, ht⟩ := cycles_l0 hp hn n 0 [] (List.replicate n false) (by omega) ⟨by simp, by simp [lens], fun c hc => by simp at hc, fun y _ _ h => (by rw [hz] at h; cases h), fun y _ _ => by rw [hz, hz]⟩ (fun y h0 h1 => by omega)
  refine ⟨v, ⟨?_, hs.cyc, fun y h0 h1 => hs.got y h0 h1 (hall y h0 h1)⟩, ?_, ?_⟩
  · have := hs.sum
    have h2 : s.count true ≤ s.length := List.count_le_length; have := hs.len; omega
  · unfold perm_Cycles.f
    refine Tells.bind (a := checkL p) Tells.now (Tells.pos hc (Tells.pos (by omega) (Tells.pos (by omega) ?_))); rw [hpl]
    exact ht
  · unfold codewrightref30_Cycles.f
    refine Tells.bind (Check_tells p) (Tells.pos hc (Tells.pos (by omega) (Tells.pos (by omega) ?_))); rw [hpl]; have : ∀ k, codewrightref30_Cycles.l0 k p (List.replicate n false) [] 0 = perm_Cycles.l0 k p [] (List.replicate n false) (n : Int) 0 := fun k => by rw [← (cyc_same p k).1, hpl]
    show Tells (fun k => codewrightref30_Cycles.l0 k p (List.replicate n false) [] 0) (v, 0)
    simp only [this]
    exact ht
end Go.Proofs.Ytjjlhbgpdncpcaa.P.M
end
section
set_option linter.unusedVariables false
set_option linter.unusedSimpArgs false
namespace Go.Proofs.Ytjjlhbgpdncpcaa.P.M
open Go.RowKit Go.Proofs.YtjjlhbgpdncpcaaW.PrintWords Go.Proofs.YtjjlhbgpdncpcaaW.PrintLast Go.Proofs.YtjjlhbgpdncpcaaW.PrintMore
def lcmL (v : List (List Int)) : Nat := v.foldl (fun a c => a / Nat.gcd a c.length * c.length) 1
theorem lcmL_snoc (v : List (List Int)) (c : List Int) : lcmL (v ++ [c]) = lcmL v / Nat.gcd (lcmL v) c.length * c.length := by simp [lcmL, List.foldl_append]
theorem cube_le : ∀ {l : Nat}, 2 ≤ l → l * l * l ≤ 3 ^ l
  | 0, h => by omega
  | 1, h => by omega
  | 2, _ => by decide
  | 3, _ => by decide
  | l + 4, _ => by
    have ih : (l + 3) * (l + 3) * (l + 3) ≤ 3 ^ (l + 3) := cube_le (by omega)
    have h : (l + 4) * (l + 4) * (l + 4) ≤ 3 * ((l + 3) * (l + 3) * (l + 3)) := by
      have e1 : (l + 4) * (l + 4) * (l + 4) = l * l * l + 12 * (l * l) + 48 * l + 64 := by grind
      have e2 : 3 * ((l + 3) * (l + 3) * (l + 3)) = 3 * (l * l * l) + 27 * (l * l) + 81 * l + 81 := by grind
      omega
    rw [show l + 4 = (l + 3) + 1 by omega, Nat.pow_succ, show l + 3 + 1 = l + 4 by omega]; omega
theorem lcm_bound : ∀ (v : List (List Int)), (∀ c ∈ v, 2 ≤ c.length) → ∀ a : Nat, (v.foldl (fun a c => a / Nat.gcd a c.length * c.length) a) ^ 3 ≤ a ^ 3 * 3 ^ lens v ∧ (1 ≤ a → 1 ≤ v.foldl (fun a c => a / Nat.gcd a c.length * c.length) a)
  | [], _, a => by simp [lens]
  | c :: v, h, a => by
    have ih := lcm_bound v (fun d hd => h d (by simp [hd])) (a / Nat.gcd a c.length * c.length); have hc := h c (by simp); have h1 : a / Nat.gcd a c.length ≤ a := Nat.div_le_self _ _
    have h2 : (a / Nat.gcd a c.length * c.length) ^ 3 ≤ a ^ 3 * 3 ^ c.length := by
      rw [Nat.mul_pow]; have := cube_le hc
      exact Nat.mul_le_mul (Nat.pow_le_pow_left h1 3) (by rw [show c.length ^ 3 = c.length * c.length * c.length by grind]; exact this)
    have h3 : lens (c :: v) = c.length + lens v := by simp [lens]
    refine ⟨?_, fun ha => ?_⟩
    · refine Nat.le_trans ih.1 ?_; rw [h3, Nat.pow_add, ← Nat.mul_assoc]
      exact Nat.mul_le_mul_right _ h2
    · refine ih.2 ?_; have hg : 0 < Nat.gcd a c.length := Nat.gcd_pos_of_pos_left _ ha; have : 1 ≤ a / Nat.gcd a c.length := (Nat.le_div_iff_mul_le hg).2 (by rw [Nat.one_mul]; exact Nat.le_of_dvd ha (Nat.gcd_dvd_left _ _))
      exact Nat.mul_pos this (by omega)
theorem lens_take (v : List (List Int)) (i : Nat) : lens (v.take i) ≤ lens v := by
  have : lens (v.take i ++ v.drop i) = lens (v.take i) + lens (v.drop i) := by simp only [lens, List.map_append, List.sum_append]
  rw [List.take_append_drop] at this
  omega
theorem lcm_small {v : List (List Int)} (h : ∀ c ∈ v, 2 ≤ c.length) (hs : lens v ≤ 64) (i : Nat) : lcmL (v.take i) < 17179869184 ∧ 1 ≤ lcmL (v.take i) := by
  have hb := lcm_bound (v.take i) (fun c hc => h c (List.mem_of_mem_take hc)) 1
  refine ⟨?_, hb.2 (Nat.le_refl _)⟩
  have h1 : (lcmL (v.take i)) ^ 3 ≤ 3 ^ 64 := by
    have := hb.1; rw [Nat.one_pow, Nat.one_mul] at this
    exact Nat.le_trans this (Nat.pow_le_pow_right (by omega) (Nat.le_trans (lens_take v i) hs))
  apply Classical.byContradiction
  intro hc
  have : 17179869184 ^ 3 ≤ (lcmL (v.take i)) ^ 3 := Nat.pow_le_pow_left (by omega) 3
  have h3 : (3 : Nat) ^ 64 < 17179869184 ^ 3 := by decide
  omega
theorem w64n (n : Nat) (h : n ≤ 9223372036854775807) : wrap64 (n : Int) = n := w64 (by omega) (by omega)
theorem tmod_nat (a b : Nat) : Int.tmod (a : Int) (b : Int) = ((a % b : Nat) : Int) := rfl
theorem tdiv_nat (a b : Nat) : Int.tdiv (a : Int) (b : Int) = ((a / b : Nat) : Int) := rfl
theorem gcd_step (a b : Nat) : Nat.gcd b (a % b) = Nat.gcd a b := by rw [Nat.gcd_comm b, ← Nat.gcd_rec, Nat.gcd_comm]
theorem gcd_tells : ∀ (b a : Nat), Tells (fun k => codewrightref03_gcd.l0 k (a : Int) (b : Int)) ((Nat.gcd a b : Nat) : Int)
  | b, a => by
    refine Tells.shift ?_; simp only [codewrightref03_gcd.l0]
    by_cases h : b = 0
    · subst h
      refine Tells.pos rfl (Tells.now' ?_); rw [Nat.gcd_zero_right]
    · refine Tells.neg (by omega) ?_; rw [tmod_nat, ← gcd_step]; have : a % b < b := Nat.mod_lt _ (by omega)
      exact gcd_tells (a % b) b
  termination_by b => b
theorem Gcd_tells (a b : Nat) (ha : a ≤ 2147483647) (hb : b ≤ 2147483647) : Tells (fun k => codewrightref03_Gcd.f k (a : Int) (b : Int)) (((Nat.gcd a b : Nat) : Int), 0) := by
  unfold codewrightref03_Gcd.f
  have sm : ∀ x : Nat, x ≤ 2147483647 → codewrightref03_small.f (x : Int) = some true := by
    intro x hx
    unfold codewrightref03_small.f; rw [if_pos (by omega), decide_eq_true (by omega)]
  have ab : ∀ x : Nat, codewrightref03_abs.f (x : Int) = some (x : Int) := by
    intro x
    unfold codewrightref03_abs.f; rw [if_neg (by omega)]
  rw [sm a ha, sm b hb]
  refine Tells.bind (a := true) Tells.now (Tells.pos rfl (Tells.bind (a := true) Tells.now (Tells.shift ?_)))
  simp only [codewrightref03_Gcd.j0, ab, Option.bind_some, Bool.not_true, Bool.false_eq_true, if_false]
  unfold codewrightref03_gcd.f
  exact Tells.bind (gcd_tells b a) Tells.now
theorem ROrder_loop {v : List (List Int)} (h : ∀ c ∈ v, 2 ≤ c.length) (hs : lens v ≤ 64) (hv : v.length ≤ 4611686018427387904) : ∀ (m i : Nat), i + m = v.length → Tells (fun k => codewrightref30_Order.l0 k v ((lcmL (v.take i) : Nat) : Int) (i : Int)) (((lcmL v : Nat) : Int), 0)
  | 0, i, hi => by
    refine Tells.shift ?_; simp only [codewrightref30_Order.l0]
    refine Tells.neg (by omega) (Tells.now' ?_); rw [List.take_of_length_le (by omega)]
  | m + 1, i, hi => by
    refine Tells.shift ?_; simp only [codewrightref30_Order.l0]; have hb : i < v.length := by omega
    have hc := h _ (List.getElem_mem hb)
    have hl : v[i].length ≤ 64 := by
      have h1 := lens_take v (i + 1); rw [List.take_succ_eq_append_getElem hb, lens_snoc] at h1; omega
    have hsm := lcm_small h hs i; have hsm2 := lcm_small h hs (i + 1); rw [List.take_succ_eq_append_getElem hb, lcmL_snoc] at hsm2; have hg : 0 < Nat.gcd (lcmL (v.take i)) v[i].length := Nat.gcd_pos_of_pos_left _ (by omega); have hge : Nat.gcd (lcmL (v.take i) % v[i].length) v[i].length = Nat.gcd (lcmL (v.take i)) v[i].length := by rw [Nat.gcd_comm, gcd_step]
    have hml : lcmL (v.take i) % v[i].length < v[i].length := Nat.mod_lt _ (by omega); have hdl : lcmL (v.take i) / Nat.gcd (lcmL (v.take i)) v[i].length ≤ lcmL (v.take i) := Nat.div_le_self _ _; rw [rdL1_nat hb, tmod_nat]
    refine Tells.pos (by omega) (Tells.pos (by omega) (Tells.neg (by omega) (Tells.bind (Gcd_tells _ _ (by omega) (by omega)) ?_))); simp only; rw [hge, tdiv_nat, w64n (lcmL (v.take i) / Nat.gcd (lcmL (v.take i)) v[i].length) (by omega)]
    refine Tells.neg (by omega) ?_; rw [show (((lcmL (v.take i) / Nat.gcd (lcmL (v.take i)) v[i].length : Nat) : Int) * (v[i].length : Int)) = ((lcmL (v.take i) / Nat.gcd (lcmL (v.take i)) v[i].length * v[i].length : Nat) : Int) by rw [Int.natCast_mul], w64n _ (by omega), w64 (n := (i : Int) + 1) (by omega) (by omega), ← lcmL_snoc, ← List.take_succ_eq_append_getElem hb]
    exact ROrder_loop h hs hv m (i + 1) (by omega)
theorem POrder_l1 {v : List (List Int)} (c : List Int) (i : Int) (x : Int) (u : Int × Int) : ∀ (b a : Nat), 1 ≤ a ∨ 1 ≤ b →
    Tells (fun k => perm_Order.l0 k (wrap64 ((wrap64 (Int.tdiv x ((Nat.gcd a b : Nat) : Int))) * (c.length : Int))) v (v.length : Int) (wrap64 (i + 1))) u →
    Tells (fun k => perm_Order.l1 k x c (a : Int) (b : Int) v (v.length : Int) i) u
  | b, a, ha, h => by
    refine Tells.shift ?_; simp only [perm_Order.l1]
    by_cases hb : b = 0
    · subst hb; rw [Nat.gcd_zero_right] at h
      exact Tells.neg (by omega) (Tells.neg (by omega) h)
    · have hlt : a % b < b := Nat.mod_lt _ (by omega)
      refine Tells.pos (by omega) (Tells.neg (by omega) ?_); rw [tmod_nat]; rw [← gcd_step] at h
      exact POrder_l1 c i x u (a % b) b (.inl (by omega)) h
  termination_by b => b
theorem POrder_loop {v : List (List Int)} (h : ∀ c ∈ v, 2 ≤ c.length) (hs : lens v ≤ 64) (hv : v.length ≤ 4611686018427387904) : ∀ (m i : Nat), i + m = v.length → Tells (fun k => perm_Order.l0 k ((lcmL (v.take i) : Nat) : Int) v (v.length : Int) (i : Int)) (((lcmL v : Nat) : Int), 0)
  | 0, i, hi => by
    refine Tells.shift ?_; simp only [perm_Order.l0]
    refine Tells.neg (by omega) (Tells.now' ?_); rw [List.take_of_length_le (by omega)]
  | m + 1, i, hi => by
    refine Tells.shift ?_; simp only [perm_Order.l0]; have hb : i < v.length := by omega
    have hc := h _ (List.getElem_mem hb); have hsm := lcm_small h hs i; have hsm2 := lcm_small h hs (i + 1); rw [List.take_succ_eq_append_getElem hb, lcmL_snoc] at hsm2; have hdl : lcmL (v.take i) / Nat.gcd (lcmL (v.take i)) v[i].length ≤ lcmL (v.take i) := Nat.div_le_self _ _; rw [rdL1_nat hb]
    refine Tells.pos (by omega) (Tells.pos (by omega) (Tells.pos (by omega) (POrder_l1 _ _ _ _ v[i].length (lcmL (v.take i)) (.inl (by omega)) ?_))); rw [tdiv_nat, w64n (lcmL (v.take i) / Nat.gcd (lcmL (v.take i)) v[i].length) (by omega), show (((lcmL (v.take i) / Nat.gcd (lcmL (v.take i)) v[i].length : Nat) : Int) * (v[i].length : Int)) = ((lcmL (v.take i) / Nat.gcd (lcmL (v.take i)) v[i].length * v[i].length : Nat) : Int) by rw [Int.natCast_mul], w64n _ (by omega), w64 (n := (i : Int) + 1) (by omega) (by omega), ← lcmL_snoc, ← List.take_succ_eq_append_getElem hb]
    exact POrder_loop h hs hv m (i + 1) (by omega)
theorem CycOf.short {n : Nat} {p : List Int} {v : List (List Int)} (h : CycOf n p v) : v.length ≤ 64 := by
  have : ∀ v : List (List Int), (∀ c ∈ v, 2 ≤ c.length) → v.length ≤ lens v := by
    intro v
    induction v with
    | nil => intro _; simp
    | cons c v ih =>
      intro hv
      have := hv c (by simp); have := ih (fun d hd => hv d (by simp [hd])); simp only [lens, List.map_cons, List.sum_cons, List.length_cons] at *; omega
  have := this v (fun c hc => (h.cyc c hc).1)
  have := h.sum
  omega
theorem CycOrd_tells (p : List Int) : ∃ (v : List (List Int)) (e m : Int), Tells (fun k => perm_Cycles.f k p) (v, e) ∧ Tells (fun k => codewrightref30_Cycles.f k p) (v, e) ∧ Tells (fun k => perm_Order.f k p) (m, e) ∧ Tells (fun k => codewrightref30_Order.f k p) (m, e)
    ∧ v.length ≤ 64 ∧ (∀ c ∈ v, c.length ≤ 64) ∧ (checkL p = 0 → e = 0 ∧ m = ((lcmL v : Nat) : Int) ∧ CycOf p.length p v) := by
  by_cases hc : checkL p = 0
  · have h := checkL_zero.1 hc
    obtain ⟨v, hv, h1, h2⟩ := Cycles_tells h.1 h.2.1 h.2.2; have hvl := hv.short
    refine ⟨v, 0, ((lcmL v : Nat) : Int), h1, h2, ?_, ?_, hvl, ?_, fun _ => ⟨rfl, rfl, hv⟩⟩
    · unfold perm_Order.f
      exact Tells.bind h1 (Tells.pos rfl (POrder_loop (fun c hc => (hv.cyc c hc).1) hv.sum (by omega) v.length 0 (by omega)))
    · unfold codewrightref30_Order.f
      exact Tells.bind h2 (Tells.pos rfl (ROrder_loop (fun c hc => (hv.cyc c hc).1) hv.sum (by omega) v.length 0 (by omega)))
    · intro c hc
      obtain ⟨i, hi, rfl⟩ := List.getElem_of_mem hc; have h1 := lens_take v (i + 1); rw [List.take_succ_eq_append_getElem hi, lens_snoc] at h1; have := hv.sum; omega
  refine ⟨[], checkL p, 0, ?_, ?_, ?_, ?_, by simp, by simp, fun h => absurd h hc⟩
  · unfold perm_Cycles.f
    exact Tells.bind (a := checkL p) Tells.now (Tells.neg hc Tells.now)
  · unfold codewrightref30_Cycles.f
    exact Tells.bind (Check_tells p) (Tells.neg hc Tells.now)
  · unfold perm_Order.f perm_Cycles.f
    exact Tells.bind (Tells.bind (a := checkL p) Tells.now (Tells.neg hc Tells.now)) (Tells.neg hc Tells.now)
  · unfold codewrightref30_Order.f codewrightref30_Cycles.f
    exact Tells.bind (Tells.bind (Check_tells p) (Tells.neg hc Tells.now)) (Tells.neg hc Tells.now)
theorem fold_len : ∀ (l : List (List Int)) (x : List Int), (l.foldl mulL x).length = x.length
  | [], x => rfl
  | p :: l, x => by rw [List.foldl_cons, fold_len l, mul_len]
theorem allL_head {p : List Int} {l : List (List Int)} (h : allL p.length (p :: l) = 0) : p.length ≤ 64 := by
  have := checkL_zero.1 ((allL_zero.1 h p (by simp)).1)
  exact this.2.2
theorem composeL_short (l : List (List Int)) : (composeL l).1.length ≤ 64 := by
  cases l with
  | nil => simp [composeL]
  | cons p l =>
    simp only [composeL]
    split
    · rename_i h
      simp only [prodL, fold_len, idL_len]
      exact allL_head h
    · simp
theorem inverseL_short (p : List Int) : (inverseL p).1.length ≤ 64 := by
  unfold inverseL
  split
  · rename_i h
    rw [inv_len]; exact (checkL_zero.1 h).2.2
  · simp
theorem checks_true (p q : List Int) : ∃ k, codewrightlaw30_PermChecks.f k p q = some true := by
  apply Tells.some
  unfold codewrightlaw30_PermChecks.f
  have aw : Tells (fun _ : Nat => codewrightlaw30_awake.f) true := Tells.now
  refine Tells.bind aw (Tells.pos rfl ?_)
  have big : Tells (fun k => codewrightlaw30_PermChecks.j0 k p q true) true := by
    refine Tells.shift ?_; simp only [codewrightlaw30_PermChecks.j0]
    exact Tells.pos trivial (Tells.bind aw Tells.now)
  by_cases h1 : (p.length : Int) > 100
  · exact Tells.pos h1 big
  refine Tells.neg h1 ?_
  by_cases h2 : (q.length : Int) > 100
  · rw [decide_eq_true h2]; exact big
  rw [decide_eq_false h2]
  refine Tells.shift ?_
  simp only [codewrightlaw30_PermChecks.j0]
  obtain ⟨v, e, m, c1, c2, o1, o2, hv, hvc, _⟩ := CycOrd_tells p
  refine Tells.neg (by simp) (Tells.bind (PCompose_tells _ (by simp)) (Tells.bind (RCompose_tells _ (by simp)) (Tells.pos rfl (Tells.bind (SameInts_tells _ _ (by have := composeL_short [p, q, p]; omega)) (Tells.pos (by simp) (Tells.bind (a := checkL p) Tells.now (Tells.bind (Check_tells p) ?_)))))))
  rw [show (checkL p != checkL p) = false by simp]
  refine Tells.shift ?_
  simp only [codewrightlaw30_PermChecks.j1]
  refine Tells.neg (by simp) (Tells.bind (PInverse_tells p) (Tells.bind (RInverse_tells p) (Tells.bind c1 (Tells.bind c2 (Tells.bind o1 (Tells.bind o2 (Tells.bind (PCompose_tells [] (by simp)) ?_)))))))
  refine Tells.pos rfl (Tells.bind (SameInts_tells _ _ (by have := inverseL_short p; omega)) (Tells.pos (by simp) (Tells.pos rfl (Tells.bind (SameRows_tells _ _ (by show v.length ≤ _; omega) (fun r hr => by have := hvc r hr; omega)) (Tells.pos (by simp) (Tells.pos rfl (Tells.pos rfl (Tells.now' rfl))))))))
end Go.Proofs.Ytjjlhbgpdncpcaa.P.M
end
section
namespace Go.Proofs.Ytjjlhbgpdncpcaa.P
open Go.ChangeShapes Go.WideShapes Go.ChangeAt Go.RowKit Go.Proofs.YtjjlhbgpdncpcaaW.PrintWords Go.Proofs.YtjjlhbgpdncpcaaW.PrintLast Go.Proofs.YtjjlhbgpdncpcaaW.PrintMore
set_option linter.unusedVariables false
section
variable {H : Type} {enc : TypeId × Value → H} {W : World} {v : Value} {d : DataW H} {ps : List MemPlace} {held : Bool}
set_option maxRecDepth 100000 in
theorem open_list {base : Nat} (hv : Value.okWide Try.prog W .any base 22 v) (h : DataW.Trod enc Try.prog W 0 (fun _ => true) held 22 v d ps) :
    ∃ (a : Option Addr) (c : Nat) (l : List Int), v = .slice a l.length c ∧ (Kd.int .i64).C W a l.length l ∧ l.length ≤ c ∧ ∀ x ∈ l, (Lit.int .i64 x).wf = true := by
  obtain ⟨a, len, cap, rfl⟩ := okWide_slice Try.underlying22 hv
  obtain ⟨fuel, hf⟩ := h
  have key : ∃ zs : List Int, (a = none ∧ len = 0 ∧ cap = 0 ∧ zs = []) ∨ ∃ x, a = some x ∧ len ≤ cap ∧ cap ≤ maxLen ∧ zs.length = cap ∧ (∀ i, i < zs.length → W.cell? (x.add i) = some (.int .i64 (zs.getD i 0))) ∧ ∀ n ∈ zs, (Lit.int .i64 n).wf = true := by
    rcases open_ints Try.underlying22 Try.underlying3 (by kernel_rfl) hf with ⟨hcs, _⟩ | ⟨x, l, c, zs, hcs, _, hl, hm, hz, _, hcell, hwz⟩
    · simp [Value.cells] at hcs
      obtain ⟨rfl, rfl, rfl⟩ := hcs
      exact ⟨[], .inl ⟨rfl, rfl, rfl, rfl⟩⟩
    · simp [Value.cells] at hcs
      obtain ⟨rfl, rfl, rfl⟩ := hcs
      exact ⟨zs, .inr ⟨_, rfl, hl, hm, by simpa using hz, hcell, hwz⟩⟩
  obtain ⟨zs, hz⟩ := key
  obtain ⟨l, rfl, hr, hm, hw, hc⟩ := ReadsInt.ofRowC hz
  exact ⟨a, cap, l, rfl, Kd.C_of_reads (d := (0 : Int)) (h1 := fun _ => rfl) hr, hc, hw⟩
theorem V_of_C {l : List Int} {a : Option Addr} {c : Nat} (h : (Kd.int .i64).C W a l.length l) (hc : l.length ≤ c) : Kd.V (Kd.int .i64) 3 W W.heap.size (fun k => k < W.heap.size) (.slice a l.length c) l := Kd.V_mk hc (Kd.C_F (Kd.heap_int .i64) h)
end
end Go.Proofs.Ytjjlhbgpdncpcaa.P
end
section
namespace Go.Proofs.Ytjjlhbgpdncpcaa.permChecks
open Go.ChangeShapes Go.WideShapes Go.ChangeAt Go.RowKit Go.Proofs.YtjjlhbgpdncpcaaW.PrintWords Go.Proofs.YtjjlhbgpdncpcaaW.PrintLast Go.Proofs.YtjjlhbgpdncpcaaW.PrintMore
open Go.ChangeMaps (open_string shut_string)
set_option linter.unusedVariables false
theorem own : ownKnob Try.prog.godebug = none := by kernel_rfl
theorem laidOut : laidOutB Try.prog = true := by kernel_rfl
set_option maxRecDepth 100000 in
theorem lifted (os : Os) (started : os.Started) (H : Type) (enc : TypeId × Value → H) :
    ReturnsInHanded {} Try.checked os 3 .any (Rows.permChecksSpec.pre6 enc Try.prog Try.f3 Rows.permChecksRow.domain false) (Rows.permChecksSpec.post enc Try.prog Try.f3 false true false false) := by
  refine returnsInHanded_of_change_sized (C := Try.checked) own started (by kernel_rfl) Try.func3
    (ChangeSpec.witness6 (enc := enc) (C := Try.checked) false ⟨#[], #[.slice none 0 0, .slice none 0 0], []⟩ 8 (by kernel_rfl) (by kernel_rfl) (by kernel_rfl) (by kernel_rfl)) ?_
  intro W base args ds gs before hval0 hW hcnd hsz0 _
  have hval : ∀ (j : Nat) t v, Try.f3.params[j]? = some t → args[j]? = some v → Value.okWide Try.prog W .any base t v := hval0
  have hW' := hW
  obtain ⟨p, q, hA0, hV, rfl, hfz, hnd⟩ := hW
  have hA : DataW.TrodAll enc Try.prog W 0 (fun _ => true) true Try.f3.params.toList args.toList ds p := hA0
  rw [Try.params3] at hA hval
  obtain ⟨v0, vs0, d0, ds0, p0, q0, hargs, rfl, rfl, h0, r0⟩ := trodAll_cons hA
  obtain ⟨v1, vs1, d1, ds1, p1, q1, rfl, rfl, rfl, h1, r1⟩ := trodAll_cons r0
  obtain ⟨rfl, rfl, rfl⟩ := trodAll_nil r1
  obtain rfl : args = #[v0, v1] := by cases args; simp_all
  obtain ⟨rfl, rfl⟩ := trodVars_none hV
  have k0 := h0
  have lt0 : ∀ x ∈ p0, x.block < W.heap.size := by obtain ⟨m, hm⟩ := k0; exact DataW.trod_lt m _ _ _ hm
  obtain ⟨a0, c0, l0, rfl, hr0, hm0, hw0⟩ := P.open_list (hval 0 22 v0 rfl rfl) h0
  have k1 := h1
  have lt1 : ∀ x ∈ p1, x.block < W.heap.size := by obtain ⟨m, hm⟩ := k1; exact DataW.trod_lt m _ _ _ hm
  obtain ⟨a1, c1, l1, rfl, hr1, hm1, hw1⟩ := P.open_list (hval 1 22 v1 rfl rfl) h1
  clear hA0 hval0 hsz0
  obtain ⟨k, hk⟩ := P.M.checks_true l0 l1
  refine (P.codewrightlaw30_PermChecks.calls k _ _ _ l0 _ _ _ l1 true W (P.V_of_C hr0 hm0) (P.V_of_C hr1 hm1) hk rfl).mono fun e W' ⟨he, bel⟩ => ?_
  subst he
  exact ⟨_, rfl, _, _, _, [], _, [], hW', trodAll_mk1 (shut_bool Try.underlying4 _), (trodAll_cons_mk (Below.trod laidOut (by kernel_rfl) (of_decide_eq_true (by kernel_rfl)) k0 bel lt0) (trodAll_cons_mk (Below.trod laidOut (by kernel_rfl) (of_decide_eq_true (by kernel_rfl)) k1 bel lt1) trodAll_mk0)), rfl, bel.frame _, fun h => by cases h⟩
theorem over : Rows.permChecksRow.holds Try.pinned (OpenSpec.ofChange Rows.permChecksSpec) :=
  OpenClaim.holds_of_wide 3 Try.f3 rfl rfl rfl rfl rfl rfl rfl ⟨rfl, rfl, rfl, rfl, rfl⟩ rfl rfl rfl rfl rfl (by kernel_rfl) Try.func3 (by kernel_rfl)
    (of_decide_eq_true (by kernel_rfl)) (by unfold Func.isWrapper; first | (rw [if_pos (by decide +kernel)]; kernel_rfl) | (rw [if_neg (by decide +kernel)]; exact ⟨rfl, rfl⟩))
    (fun os started H enc _ => lifted os started H enc)
end Go.Proofs.Ytjjlhbgpdncpcaa.permChecks
namespace Go.Proofs.Ytjjlhbgpdncpcaa
theorem permChecks_holds : Rows.PermChecksSaid := permChecks.over
end Go.Proofs.Ytjjlhbgpdncpcaa
end
