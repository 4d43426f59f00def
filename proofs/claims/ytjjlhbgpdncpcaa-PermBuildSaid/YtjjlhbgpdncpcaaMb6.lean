/- The law of the claim, proved for every input: the last of its texts. -/
import Derived.Test.YtjjlhbgpdncpcaaRows
import Derived.Deep.Matrix
import Derived.WalkKit
import Derived.ProofKit
import Derived.OpenShut
import Derived.ShutString
import Derived.ChangeOld
import Derived.Below
import Derived.SizedLaws
import Derived.Carry
import Derived.Test.YtjjlhbgpdncpcaaMb5
import Derived.Test.YtjjlhbgpdncpcaaMb1
import Derived.Test.YtjjlhbgpdncpcaaMb3
import Derived.Test.YtjjlhbgpdncpcaaMb2
import Derived.Test.YtjjlhbgpdncpcaaMb4
section
set_option linter.unusedVariables false
set_option linter.unusedSimpArgs false
namespace Go.Proofs.Ytjjlhbgpdncpcaa.P.M
open Go.RowKit Go.Proofs.YtjjlhbgpdncpcaaW.PrintWords Go.Proofs.YtjjlhbgpdncpcaaW.PrintLast Go.Proofs.YtjjlhbgpdncpcaaW.PrintMore
theorem checkL_zero {p : List Int} : checkL p = 0 ↔ Pm p.length p ∧ 1 ≤ p.length ∧ p.length ≤ 64 := by
  unfold checkL
  by_cases h1 : p.length < 1 ∨ 64 < p.length
  · rw [if_pos h1]; constructor
    · intro h; omega
    · rintro ⟨_, h2, h3⟩; omega
  rw [if_neg h1]
  by_cases h2 : ∃ x ∈ p, x < 0 ∨ (p.length : Int) ≤ x
  · rw [if_pos h2]; constructor
    · intro h; omega
    · rintro ⟨h3, _⟩; obtain ⟨x, hx, hb⟩ := h2; have := h3.2.1 x hx; omega
  rw [if_neg h2]
  by_cases h3 : p.Nodup
  · rw [if_pos h3]
    refine ⟨fun _ => ⟨⟨rfl, fun x hx => ?_, h3⟩, by omega, by omega⟩, fun _ => rfl⟩; have : ¬ (x < 0 ∨ (p.length : Int) ≤ x) := fun k => h2 ⟨x, hx, k⟩
    omega
  rw [if_neg h3]; constructor
  · intro h; omega
  · rintro ⟨h4, _⟩; exact absurd h4.2.2 h3
theorem nodup_iff_ap {p : List Int} : p.Nodup ↔ ∀ i j : Nat, j < i → i < p.length → ap p i ≠ ap p j := by
  rw [List.Nodup, List.pairwise_iff_getElem]
  constructor
  · intro h i j hj hi e
    have := h j i (by omega) hi hj; rw [ap_nat, ap_nat, List.getD_eq_getElem?_getD, List.getD_eq_getElem?_getD, List.getElem?_eq_getElem hi, List.getElem?_eq_getElem (show j < p.length by omega)] at e
    exact this e.symm
  · intro h i j hi hj hij e
    refine h j i hij hj ?_; rw [ap_nat, ap_nat, List.getD_eq_getElem?_getD, List.getD_eq_getElem?_getD, List.getElem?_eq_getElem hi, List.getElem?_eq_getElem hj]
    exact e.symm
theorem rck2 (p : List Int) (hl : p.length ≤ 64) (i : Nat) (hi : i < p.length) (v : Int) (hv : (∀ j : Nat, j < i → ap p i ≠ ap p j) → Tells (fun k => r30_Check.l1 k p (p.length : Int) ((i : Int) + 1)) v) (hd : (∃ j : Nat, j < i ∧ ap p i = ap p j) → v = 18) :
    ∀ (m j : Nat), j + m = i → (∀ a : Nat, a < j → ap p i ≠ ap p a) → Tells (fun k => r30_Check.l2 k p (p.length : Int) (i : Int) (j : Int)) v
  | 0, j, hj, ha => by
    refine Tells.shift ?_; simp only [r30_Check.l2]
    refine Tells.neg (by omega) ?_; rw [w64 (n := (i : Int) + 1) (by omega) (by omega)]
    exact hv (fun b hb => ha b (by omega))
  | m + 1, j, hj, ha => by
    refine Tells.shift ?_; simp only [r30_Check.l2, rd_ap]
    refine Tells.pos (by omega) (Tells.pos (by omega) (Tells.pos (by omega) (Tells.pos (by omega) (Tells.pos (by omega) ?_))))
    by_cases e : ap p i = ap p j
    · exact Tells.pos e (Tells.now' (hd ⟨j, by omega, e⟩).symm)
    · refine Tells.neg e ?_; rw [w64 (n := (j : Int) + 1) (by omega) (by omega)]
      refine rck2 p hl i hi v hv hd m (j + 1) (by omega) (fun a h => ?_)
      by_cases e2 : a = j
      · rw [e2]; exact e
      · exact ha a (by omega)
theorem rck1 (p : List Int) (hl : p.length ≤ 64) : ∀ (m i : Nat), i + m = p.length → (∀ a b : Nat, b < a → a < i → ap p a ≠ ap p b) → Tells (fun k => r30_Check.l1 k p (p.length : Int) (i : Int)) (if p.Nodup then 0 else 18)
  | 0, i, hi, ha => by
    refine Tells.shift ?_; simp only [r30_Check.l1]
    refine Tells.neg (by omega) (Tells.now' ?_); rw [if_pos (nodup_iff_ap.2 (fun a b h1 h2 => ha a b h1 (by omega)))]
  | m + 1, i, hi, ha => by
    refine Tells.shift ?_; simp only [r30_Check.l1]
    refine Tells.pos (by omega) ?_
    refine rck2 p hl i (by omega) _ (fun h => ?_) (fun ⟨j, hj, e⟩ => if_neg (fun h => nodup_iff_ap.1 h i j hj (by omega) e)) i 0 (by omega) (fun a h => by omega)
    have := rck1 p hl m (i + 1) (by omega) (fun a b h1 h2 => by
      by_cases e : a = i
      · rw [e]; exact h b (by omega)
      · exact ha a b h1 (by omega))
    exact this
theorem rck0 (p : List Int) (hl : p.length ≤ 64) : ∀ (m i : Nat), i + m = p.length → (∀ a : Nat, a < i → 0 ≤ ap p a ∧ ap p a < p.length) → Tells (fun k => r30_Check.l0 k p (p.length : Int) (i : Int)) (if ∃ x ∈ p, x < 0 ∨ (p.length : Int) ≤ x then 6 else if p.Nodup then 0 else 18)
  | 0, i, hi, ha => by
    refine Tells.shift ?_; simp only [r30_Check.l0]
    refine Tells.neg (by omega) ?_; rw [if_neg]
    · exact rck1 p hl p.length 0 (by omega) (fun a b h1 h2 => by omega)
    · rintro ⟨x, hx, hb⟩; obtain ⟨j, hj, rfl⟩ := List.getElem_of_mem hx; have := ha j (by omega); rw [ap_nat, List.getD_eq_getElem?_getD, List.getElem?_eq_getElem hj, Option.getD_some] at this; omega
  | m + 1, i, hi, ha => by
    refine Tells.shift ?_; simp only [r30_Check.l0, rd_ap]
    refine Tells.pos (by omega) (Tells.pos (by omega) (Tells.pos (by omega) ?_)); have hm : ap p i ∈ p := ap_mem (by omega) (by omega)
    by_cases e : ap p i < 0
    · refine Tells.pos e (Tells.now' ?_); rw [if_pos ⟨_, hm, .inl e⟩]
    · refine Tells.neg e ?_
      by_cases e2 : ap p i ≥ (p.length : Int)
      · refine Tells.pos e2 (Tells.now' ?_); rw [if_pos ⟨_, hm, .inr e2⟩]
      · refine Tells.neg e2 ?_; rw [w64 (n := (i : Int) + 1) (by omega) (by omega)]
        refine rck0 p hl m (i + 1) (by omega) (fun a h => ?_)
        by_cases e3 : a = i
        · rw [e3]; exact ⟨by omega, by omega⟩
        · exact ha a (by omega)
theorem Check_tells (p : List Int) : Tells (fun k => r30_Check.f k p) (checkL p) := by
  unfold r30_Check.f checkL
  by_cases h1 : (p.length : Int) < 1
  · refine Tells.pos h1 (Tells.shift ?_)
    simp only [r30_Check.j0]
    refine Tells.pos trivial (Tells.now' ?_); rw [if_pos (by omega)]
  refine Tells.neg h1 (Tells.shift ?_)
  simp only [r30_Check.j0]
  by_cases h2 : (p.length : Int) > 64
  · refine Tells.pos (decide_eq_true h2) (Tells.now' ?_)
    rw [if_pos (by omega)]
  refine Tells.neg (by rw [decide_eq_false h2]; decide) ?_
  rw [if_neg (by omega)]
  exact rck0 p (by omega) p.length 0 (by omega) (fun a h => by omega)
theorem rdL1_nat {l : List (List Int)} {i : Nat} (h : i < l.length) : rd_L1 l (i : Int) = l[i] := by simp [rd_L1, h]
def allL (n : Int) (l : List (List Int)) : Int := match (l.map checkL).find? (fun e => e != 0) with
  | some e => e
  | none => if l.any (lenB n) then 10 else 0
theorem find_at {l : List (List Int)} {i : Nat} (h : i < l.length) (ha : ∀ a : Nat, a < i → ∀ k : a < l.length, checkL l[a] = 0) (hb : checkL l[i] ≠ 0) : (l.map checkL).find? (fun e => e != 0) = some (checkL l[i]) := by
  rw [List.find?_eq_some_iff_getElem]
  refine ⟨by simpa using hb, i, by simpa using h, by simp, fun j hj => ?_⟩
  have := ha j hj (by omega)
  simp [this]
theorem find_zero {l : List (List Int)} (ha : ∀ a : Nat, ∀ k : a < l.length, checkL l[a] = 0) : (l.map checkL).find? (fun e => e != 0) = none := by
  rw [List.find?_eq_none]
  intro x hx
  rw [List.mem_map] at hx
  obtain ⟨y, hy, rfl⟩ := hx
  obtain ⟨j, hj, rfl⟩ := List.getElem_of_mem hy
  rw [ha j hj]; simp
theorem all_l1 (n : Int) (l : List (List Int)) (hl : l.length ≤ 4611686018427387904) : ∀ (m i : Nat), i + m = l.length → (∀ a : Nat, a < i → ∀ k : a < l.length, lenB n l[a] = false) → Tells (fun k => r30_all.l1 k n l (i : Int)) (if l.any (lenB n) then 10 else 0)
  | 0, i, hi, ha => by
    refine Tells.shift ?_; simp only [r30_all.l1]
    refine Tells.neg (by omega) (Tells.now' ?_); rw [if_neg]; rw [List.any_eq_true]; rintro ⟨x, hx, hb⟩; obtain ⟨j, hj, rfl⟩ := List.getElem_of_mem hx; rw [ha j (by omega) hj] at hb; cases hb
  | m + 1, i, hi, ha => by
    refine Tells.shift ?_; simp only [r30_all.l1]; have h : i < l.length := by omega
    rw [rdL1_nat h]
    refine Tells.pos (by omega) (Tells.pos (by omega) ?_)
    by_cases e : (l[i].length : Int) = n
    · refine Tells.pos e ?_; rw [w64 (n := (i : Int) + 1) (by omega) (by omega)]
      refine all_l1 n l hl m (i + 1) (by omega) (fun a h1 h2 => ?_)
      by_cases e2 : a = i
      · subst e2; simp [lenB, e]
      · exact ha a (by omega) h2
    · refine Tells.neg e (Tells.now' ?_); rw [if_pos]; rw [List.any_eq_true]
      exact ⟨l[i], List.getElem_mem h, by simpa [lenB] using e⟩
theorem all_l0 (n : Int) (l : List (List Int)) (hl : l.length ≤ 4611686018427387904) : ∀ (m i : Nat), i + m = l.length → (∀ a : Nat, a < i → ∀ k : a < l.length, checkL l[a] = 0) → Tells (fun k => r30_all.l0 k n l (i : Int)) (allL n l)
  | 0, i, hi, ha => by
    refine Tells.shift ?_; simp only [r30_all.l0]
    refine Tells.neg (by omega) ?_; have : allL n l = if l.any (lenB n) then 10 else 0 := by rw [allL, find_zero (fun a k => ha a (by omega) k)]
    rw [this]
    exact all_l1 n l hl l.length 0 (by omega) (fun a h => by omega)
  | m + 1, i, hi, ha => by
    refine Tells.shift ?_; simp only [r30_all.l0]; have h : i < l.length := by omega
    rw [rdL1_nat h]
    refine Tells.pos (by omega) (Tells.pos (by omega) (Tells.bind (Check_tells _) ?_))
    by_cases e : checkL l[i] = 0
    · refine Tells.pos e ?_; rw [w64 (n := (i : Int) + 1) (by omega) (by omega)]
      refine all_l0 n l hl m (i + 1) (by omega) (fun a h1 h2 => ?_)
      by_cases e2 : a = i
      · subst e2; exact e
      · exact ha a (by omega) h2
    · refine Tells.neg e (Tells.now' ?_); rw [allL, find_at h ha e]
theorem all_tells (n : Int) (l : List (List Int)) (hl : l.length ≤ 4611686018427387904) : Tells (fun k => r30_all.f k n l) (allL n l) := by
  unfold r30_all.f
  exact all_l0 n l hl l.length 0 (by omega) (fun a h => by omega)
theorem allL_zero {n : Int} {l : List (List Int)} : allL n l = 0 ↔ ∀ p ∈ l, checkL p = 0 ∧ (p.length : Int) = n := by
  unfold allL
  constructor
  · intro h
    split at h
    · rename_i e he
      have := List.find?_some he; simp [h] at this
    · rename_i he
      rw [List.find?_eq_none] at he; intro p hp
      refine ⟨by simpa using he (checkL p) (List.mem_map.2 ⟨p, hp, rfl⟩), ?_⟩
      apply Classical.byContradiction; intro hc; rw [if_pos (List.any_eq_true.2 ⟨p, hp, by simpa [lenB] using hc⟩)] at h
      cases h
  · intro h
    rw [List.find?_eq_none.2 (fun x hx => by
      rw [List.mem_map] at hx; obtain ⟨y, hy, rfl⟩ := hx; rw [(h y hy).1]; simp)]
    simp only; rw [if_neg]; rw [List.any_eq_true]; rintro ⟨p, hp, hb⟩; have := (h p hp).2; simp [lenB, this] at hb
end Go.Proofs.Ytjjlhbgpdncpcaa.P.M
end
section
set_option linter.unusedVariables false
set_option linter.unusedSimpArgs false
namespace Go.Proofs.Ytjjlhbgpdncpcaa.P.M
open Go.RowKit Go.Proofs.YtjjlhbgpdncpcaaW.PrintWords Go.Proofs.YtjjlhbgpdncpcaaW.PrintLast Go.Proofs.YtjjlhbgpdncpcaaW.PrintMore
open Classical
theorem Lx.asymm {n : Nat} {p q : List Int} (h : Lx n p q) (k : Lx n q p) : False := by
  obtain ⟨i, h0, h1, h2, h3⟩ := h
  obtain ⟨j, k0, k1, k2, k3⟩ := k
  rcases Int.lt_trichotomy i j with e | e | e
  · have := k2 i h0 e; omega
  · subst e; omega
  · have := h2 j k0 e; omega
def LeastAt (n : Nat) (G : List Int → Prop) (b x : Int) (q : List Int) : Prop := G q ∧ Fx b q ∧ ap q b = x ∧ ∀ s, G s → Fx b s → ap s b = x → q = s ∨ Lx n q s
theorem LeastAt.unique {n : Nat} {G : List Int → Prop} {b x : Int} {p q : List Int} (h : LeastAt n G b x p) (k : LeastAt n G b x q) : p = q := by
  rcases h.2.2.2 q k.1 k.2.1 k.2.2.1 with e | e
  · exact e
  · rcases k.2.2.2 p h.1 h.2.1 h.2.2.1 with e2 | e2
    · exact e2.symm
    · exact (e.asymm e2).elim
noncomputable def leastQ (n : Nat) (G : List Int → Prop) (b x : Int) : List Int := if h : ∃ q, LeastAt n G b x q then Classical.choose h else []
theorem leastQ_eq {n : Nat} {G : List Int → Prop} {b x : Int} {q : List Int} (h : LeastAt n G b x q) : leastQ n G b x = q := by
  have h' : ∃ q, LeastAt n G b x q := ⟨q, h⟩
  unfold leastQ
  rw [dif_pos h']
  exact (Classical.choose_spec h').unique h
noncomputable def orbF (n : Nat) (G : List Int → Prop) (b : Int) (x m : Nat) : List Int := ((List.range' x m).map (fun (y : Nat) => (y : Int))).filter (fun y => decide (∃ q, LeastAt n G b y q))
noncomputable def lvP (n : Nat) (G : List Int → Prop) (b : Int) : S74 := ⟨b, orbF n G b 0 n, (orbF n G b 0 n).map (leastQ n G b)⟩
noncomputable def lvsF (n : Nat) (G : List Int → Prop) (b m : Nat) : List S74 := ((List.range' b m).map (fun (c : Nat) => lvP n G (c : Int))).filter (fun l => decide (1 < l.f1.length))
noncomputable def chainP (n : Nat) (G : List Int → Prop) : List S74 := lvsF n G 0 n
theorem orbF_succ (n : Nat) (G : List Int → Prop) (b : Int) (x m : Nat) : orbF n G b x (m + 1) = (if ∃ q, LeastAt n G b (x : Int) q then [(x : Int)] else []) ++ orbF n G b (x + 1) m := by
  unfold orbF
  rw [List.range'_succ, List.map_cons, List.filter_cons]
  by_cases h : ∃ q, LeastAt n G b (x : Int) q
  · rw [if_pos h, if_pos (decide_eq_true h)]; rfl
  rw [if_neg h, if_neg (by rw [decide_eq_false h]; decide)]; rfl
theorem lvsF_succ (n : Nat) (G : List Int → Prop) (b m : Nat) : lvsF n G b (m + 1) = (if 1 < (lvP n G (b : Int)).f1.length then [lvP n G (b : Int)] else []) ++ lvsF n G (b + 1) m := by
  unfold lvsF
  rw [List.range'_succ, List.map_cons, List.filter_cons]
  by_cases h : 1 < (lvP n G (b : Int)).f1.length
  · rw [if_pos h, if_pos (decide_eq_true h)]; rfl
  rw [if_neg h, if_neg (by rw [decide_eq_false h]; decide)]; rfl
theorem inv_id (n : Nat) : invL (idL n) = idL n := (inv_unique (Pm_id n) (Pm_id n) (mul_id (Pm_id n))).symm
theorem stab {n : Nat} {T : Tw} (hok : Ok n T) (hc : Compn n T 0) : ∀ (b : Nat), b ≤ n → ∀ {g : List Int}, Gn n T 0 g → Fx (b : Int) g → Gn n T (b : Int) g
  | 0, hb, g, hg, hf => hg
  | b + 1, hb, g, hg, hf => by
    have ih := stab hok hc b (by omega) hg (fun i h0 h1 => hf i h0 (by omega)); have hgp := hok.gfx (b := (b : Int)) (by omega) (by omega) ih; have hs := (sfI hok (b := (b : Int)) (by omega) (by omega) (fun c k1 k2 => hc c (by omega) k2) hgp.1 hgp.2).2 ih; rw [show (n - (b : Int)).toNat = (n - ((b : Int) + 1)).toNat + 1 by omega, Sf] at hs; have e : ap g (b : Int) = b := hf b (by omega) (by omega); rw [e, hok.id (by omega) (by omega), inv_id, mul_id hgp.1] at hs
    exact (sfI hok (b := (b : Int) + 1) (by omega) (by omega) (fun c k1 k2 => hc c (by omega) k2) hgp.1 (show Fx ((b : Int) + 1) g from hf)).1 hs.2
theorem unstab {n : Nat} {T : Tw} (hok : Ok n T) (hc : Compn n T 0) : ∀ (b : Nat), b ≤ n → ∀ {g : List Int}, Gn n T (b : Int) g → Gn n T 0 g
  | 0, hb, g, hg => hg
  | b + 1, hb, g, hg => unstab hok hc b (by omega) (Gn.sub hok (by omega) (by omega) (fun c k1 k2 => hc c (by omega) k2) hg)
theorem least_of_rep {n : Nat} {T : Tw} (hok : Ok n T) (h64 : n ≤ 64) (hc : Compn n T 0) {b : Nat} (hb : b < n) {x : Int} (h0 : 0 ≤ x) (h1 : x < n) (hr : T.rep (b : Int) x ≠ []) :
    ∃ q, Tells (fun k => canonL k T (T.rep (b : Int) x) ((b : Int) + 1)) q ∧ LeastAt n (Gn n T 0) (b : Int) x q := by
  have hR := hok.rep (b := (b : Int)) (by omega) (by omega) h0 h1 hr
  have hcb : Compn n T (b : Int) := fun c k1 k2 => hc c (by omega) k2
  have hl := hcb (b : Int) (Int.le_refl _) (by omega)
  obtain ⟨q, ht, ⟨s, hs, hq⟩, hmin⟩ := canon_tells hok h64 (n - (b + 1)) ((b : Int) + 1) _ (by omega) (by omega) (fun c k1 k2 => hc c (by omega) k2) hR.1
  have hsp := hok.gfx (b := (b : Int) + 1) (by omega) (by omega) hs
  have hqG : Gn n T (b : Int) q := by
    rw [hq]
    exact Cl.mul' (hok.gpm (by omega) (by omega)) (Gn.sub hok (by omega) (by omega) hcb hs) (hl.reps x h0 h1 hr)
  have hqp := hok.gfx (b := (b : Int)) (by omega) (by omega) hqG
  refine ⟨q, ht, unstab hok hc b (by omega) hqG, hqp.2, ?_, fun s' hs' hf' he' => ?_⟩
  · rw [hq, hsp.1.ap_mul (by omega) (by omega), hsp.2 b (by omega) (by omega), hR.2.2]
  · have hsb := stab hok hc b (by omega) hs' hf'
    have hsp' := hok.gfx (b := (b : Int)) (by omega) (by omega) hsb; have hsf := (sfI hok (b := (b : Int)) (by omega) (by omega) hcb hsp'.1 hsp'.2).2 hsb; rw [show (n - (b : Int)).toNat = (n - ((b : Int) + 1)).toNat + 1 by omega, Sf, he'] at hsf; have hfx := strip_fx (b := (b : Int)) (by omega) (by omega) hsp'.1 hsp'.2 hR.1 hR.2.1 (hR.2.2.trans he'.symm); have hin := (sfI hok (b := (b : Int) + 1) (by omega) (by omega) (fun c k1 k2 => hc c (by omega) k2) hfx.1 hfx.2).1 hsf.2; have := hmin _ hin; rw [mul_inv_cancel hsp'.1 hR.1] at this
    exact this
theorem rep_of_least {n : Nat} {T : Tw} (hok : Ok n T) (hc : Compn n T 0) {b : Nat} (hb : b < n) {x : Int} {q : List Int} (h : LeastAt n (Gn n T 0) (b : Int) x q) : T.rep (b : Int) x ≠ [] := by
  have hsb := stab hok hc b (by omega) h.1 h.2.1
  have hsp := hok.gfx (b := (b : Int)) (by omega) (by omega) hsb
  have hsf := (sfI hok (b := (b : Int)) (by omega) (by omega) (fun c k1 k2 => hc c (by omega) k2) hsp.1 hsp.2).2 hsb
  rw [show (n - (b : Int)).toNat = (n - ((b : Int) + 1)).toNat + 1 by omega, Sf, h.2.2.1] at hsf
  exact hsf.1
theorem level_tells {n : Nat} {T : Tw} (hok : Ok n T) (h64 : n ≤ 64) (hc : Compn n T 0) {b : Nat} (hb : b < n) : ∀ (m x : Nat) (orb : List Int) (reps : List (List Int)), x + m = n →
    Tells (fun k => levelL k T (b : Int) (x : Int) orb reps) (orb ++ orbF n (Gn n T 0) (b : Int) x m, reps ++ (orbF n (Gn n T 0) (b : Int) x m).map (leastQ n (Gn n T 0) (b : Int)))
  | 0, x, orb, reps, hx => by
    have hT := hok.hn
    refine Tells.shift ?_; simp only [levelL]
    exact Tells.neg (by omega) (Tells.now' (by simp [orbF]))
  | m + 1, x, orb, reps, hx => by
    have hT := hok.hn
    refine Tells.shift ?_; simp only [levelL]
    refine Tells.pos (by omega) ?_; rw [orbF_succ]
    by_cases hr : T.rep (b : Int) (x : Int) = []
    · refine Tells.pos hr ?_; rw [if_neg (fun ⟨q, hq⟩ => rep_of_least hok hc hb hq hr), List.nil_append]
      exact level_tells hok h64 hc hb m (x + 1) orb reps (by omega)
    · obtain ⟨q, ht, hq⟩ := least_of_rep hok h64 hc hb (x := (x : Int)) (by omega) (by omega) hr
      refine Tells.neg hr (Tells.bind ht ?_); rw [if_pos ⟨q, hq⟩, List.map_append, List.map_singleton, leastQ_eq hq, ← List.append_assoc, ← List.append_assoc]
      exact level_tells hok h64 hc hb m (x + 1) _ _ (by omega)
theorem chain_tells {n : Nat} {T : Tw} (hok : Ok n T) (h64 : n ≤ 64) (hc : Compn n T 0) : ∀ (m b : Nat) (lv : List S74), b + m = n → Tells (fun k => chainL k T (b : Int) lv) (lv ++ lvsF n (Gn n T 0) b m)
  | 0, b, lv, hb => by
    have hT := hok.hn
    refine Tells.shift ?_; simp only [chainL]
    exact Tells.neg (by omega) (Tells.now' (by simp [lvsF]))
  | m + 1, b, lv, hb => by
    have hT := hok.hn
    refine Tells.shift ?_; simp only [chainL]
    refine Tells.pos (by omega) (Tells.bind (level_tells hok h64 hc (by omega) n 0 [] [] (by omega)) ?_); rw [lvsF_succ]; simp only [List.nil_append]
    have e : ∀ z, (if 1 < (orbF n (Gn n T 0) (b : Int) 0 n).length then lv ++ [lvP n (Gn n T 0) (b : Int)] else lv) ++ z = lv ++ ((if 1 < (lvP n (Gn n T 0) (b : Int)).f1.length then [lvP n (Gn n T 0) (b : Int)] else []) ++ z) := by
      intro z
      by_cases h : 1 < (orbF n (Gn n T 0) (b : Int) 0 n).length
      · rw [if_pos h, if_pos (show 1 < (lvP n (Gn n T 0) (b : Int)).f1.length from h), List.append_assoc]
      · rw [if_neg h, if_neg (show ¬ 1 < (lvP n (Gn n T 0) (b : Int)).f1.length from h)]; rfl
    rw [← e]
    exact chain_tells hok h64 hc m (b + 1) _ (by omega)
def gensE (n : Int) (l : List (List Int)) : Int := if n < 1 ∨ 64 < n then 4 else allL n l
theorem gensL_eq (n : Int) (l : List (List Int)) : gensL n l = gensE n l := rfl
def Gp (n : Nat) (l : List (List Int)) : List Int → Prop := Cl n (fun g => g ∈ l)
noncomputable def buildL (n : Int) (l : List (List Int)) : Int × List S74 × Int := if gensE n l = 0 then (n, chainP n.toNat (Gp n.toNat l), 0) else (0, [], gensE n l)
theorem gensE_zero {n : Int} {l : List (List Int)} (h : gensE n l = 0) : ∃ m : Nat, n = m ∧ 1 ≤ m ∧ m ≤ 64 ∧ ∀ p ∈ l, Pm m p := by
  unfold gensE at h
  split at h
  · cases h
  · refine ⟨n.toNat, by omega, by omega, by omega, fun p hp => ?_⟩
    have := allL_zero.1 h p hp; have h2 := checkL_zero.1 this.1; have : p.length = n.toNat := by omega
    rw [← this]; exact h2.1
theorem PBuild_tells (n : Int) (l : List (List Int)) : Tells (fun k => perm_Build.f k n l) (buildL n l) := by
  unfold perm_Build.f buildL
  refine Tells.bind (a := gensE n l) (Tells.now' (gensL_eq n l)) ?_
  by_cases h : gensE n l = 0
  · obtain ⟨m, rfl, h1, h64, hl⟩ := gensE_zero h
    obtain ⟨T0, T, ht0, ht, hok, hc, hG⟩ := tower_tells h1 h64 l hl; rw [if_pos h]; have hT := hok.hn; have e : Gn m T 0 = Gp m l := funext (fun p => propext (hG p)); have hch := chain_tells hok h64 hc m 0 [] (by omega); rw [e] at hch
    refine Tells.pos h (Tells.pos (by omega) ?_); rw [show ((m : Nat) : Int).toNat = m by omega]
    refine Tells.bind ht0 (Tells.bind ht (Tells.bind hch (Tells.now' ?_))); rw [hT]; rfl
  rw [if_neg h]
  exact Tells.neg h Tells.now
end Go.Proofs.Ytjjlhbgpdncpcaa.P.M
end
section
set_option linter.unusedVariables false
set_option linter.unusedSimpArgs false
namespace Go.Proofs.Ytjjlhbgpdncpcaa.P.M
open Go.RowKit Go.Proofs.YtjjlhbgpdncpcaaW.PrintWords Go.Proofs.YtjjlhbgpdncpcaaW.PrintLast Go.Proofs.YtjjlhbgpdncpcaaW.PrintMore
def cdF (a : Int) (l : List Int) : Int := l.foldl (fun a x => 6 * a + x) a
theorem cdF_inj : ∀ {p q : List Int} {a b : Int}, p.length = q.length → (∀ x ∈ p, 0 ≤ x ∧ x < 6) → (∀ x ∈ q, 0 ≤ x ∧ x < 6) → cdF a p = cdF b q → a = b ∧ p = q
  | [], [], a, b, _, _, _, h => ⟨h, rfl⟩
  | [], _ :: _, _, _, h, _, _, _ => by simp at h
  | _ :: _, [], _, _, h, _, _, _ => by simp at h
  | x :: p, y :: q, a, b, h, hp, hq, e => by
    have ih := cdF_inj (p := p) (q := q) (a := 6 * a + x) (b := 6 * b + y) (by simpa using h) (fun z hz => hp z (by simp [hz])) (fun z hz => hq z (by simp [hz])) e; have h1 := hp x (by simp); have h2 := hq y (by simp); have : x = y := by omega
    subst this
    exact ⟨by omega, by rw [ih.2]⟩
theorem cdF_bound : ∀ {l : List Int} {a : Int}, 0 ≤ a → (∀ x ∈ l, 0 ≤ x ∧ x < 6) → 0 ≤ cdF a l ∧ cdF a l < (a + 1) * 6 ^ l.length
  | [], a, h, _ => by simp [cdF]; omega
  | x :: l, a, h, hl => by
    have hx := hl x (by simp); have ih := cdF_bound (l := l) (a := 6 * a + x) (by omega) (fun z hz => hl z (by simp [hz])); have e : cdF a (x :: l) = cdF (6 * a + x) l := rfl; rw [e]
    refine ⟨ih.1, Int.lt_of_lt_of_le ih.2 ?_⟩; rw [List.length_cons, Int.pow_succ, ← Int.mul_assoc, Int.mul_right_comm]
    exact Int.mul_le_mul_of_nonneg_right (by omega) (Int.le_of_lt (Int.pow_pos (by decide)))
theorem cdF_take (l : List Int) (i : Nat) (h : i < l.length) : cdF 0 (l.take (i + 1)) = 6 * cdF 0 (l.take i) + ap l i := by
  rw [List.take_succ_eq_append_getElem h, cdF, List.foldl_append]
  simp only [List.foldl_cons, List.foldl_nil]
  rw [ap_nat, List.getD_eq_getElem?_getD, List.getElem?_eq_getElem h]; rfl
theorem six_le (n : Nat) (h : n ≤ 6) : (6 : Int) ^ n ≤ 46656 := by
  have : n = 0 ∨ n = 1 ∨ n = 2 ∨ n = 3 ∨ n = 4 ∨ n = 5 ∨ n = 6 := by omega
  rcases this with rfl | rfl | rfl | rfl | rfl | rfl | rfl <;> decide
theorem cd_small {n : Nat} (hn : n ≤ 6) {p : List Int} (hp : Pm n p) : 0 ≤ cdF 0 p ∧ cdF 0 p < 46656 := by
  have := cdF_bound (l := p) (a := 0) (by omega) (fun x hx => by have := hp.2.1 x hx; omega)
  refine ⟨this.1, Int.lt_of_lt_of_le this.2 ?_⟩
  rw [hp.1]
  have := six_le n hn
  omega
theorem cd_inj {n : Nat} (hn : n ≤ 6) {p q : List Int} (hp : Pm n p) (hq : Pm n q) (e : cdF 0 p = cdF 0 q) : p = q :=
  (cdF_inj (by rw [hp.1, hq.1]) (fun x hx => by have := hp.2.1 x hx; omega) (fun x hx => by have := hq.2.1 x hx; omega) e).2
theorem code_loop {n : Nat} (hn : n ≤ 6) {p : List Int} (hp : Pm n p) : ∀ (m i : Nat), i + m = n → Tells (fun k => r30_code.l0 k p (cdF 0 (p.take i)) (i : Int)) (cdF 0 p)
  | 0, i, hi => by
    have hpl := hp.1
    refine Tells.shift ?_; simp only [r30_code.l0]
    refine Tells.neg (by omega) (Tells.now' ?_); rw [List.take_of_length_le (by omega)]
  | m + 1, i, hi => by
    have hpl := hp.1
    refine Tells.shift ?_; simp only [r30_code.l0, rd_ap]
    have hb : ∀ j : Nat, 0 ≤ cdF 0 (p.take j) ∧ cdF 0 (p.take j) < 46656 := by
      intro j; have := cdF_bound (l := p.take j) (a := 0) (by omega) (fun x hx => by have := hp.2.1 x (List.mem_of_mem_take hx); omega)
      refine ⟨this.1, Int.lt_of_lt_of_le this.2 ?_⟩; have h2 := six_le (p.take j).length (by rw [List.length_take]; omega); omega
    have h1 := hb i; have h2 := hb (i + 1); rw [cdF_take p i (by omega)] at h2
    refine Tells.pos (by omega) (Tells.pos (by omega) ?_); rw [w64 (n := 6 * cdF 0 (p.take i)) (by omega) (by omega), w64 (n := 6 * cdF 0 (p.take i) + ap p i) (by omega) (by omega), w64 (n := (i : Int) + 1) (by omega) (by omega), ← cdF_take p i (by omega)]
    exact code_loop hn hp m (i + 1) (by omega)
theorem code_tells {n : Nat} (hn : n ≤ 6) {p : List Int} (hp : Pm n p) : Tells (fun k => r30_code.f k p) (cdF 0 p) := by
  unfold r30_code.f
  exact code_loop hn hp n 0 (by omega)
open Classical in
theorem less_loop {n : Nat} (hn : n ≤ 64) {p q : List Int} (hp : p.length = n) (hq : q.length = n) : ∀ (m i : Nat), i + m = n → (∀ j : Int, 0 ≤ j → j < i → ap p j = ap q j) → Tells (fun k => r30_Less.l0 k p q (i : Int)) (decide (Lx n p q))
  | 0, i, hi, he => by
    refine Tells.shift ?_; simp only [r30_Less.l0]
    refine Tells.neg (by omega) (Tells.now' ?_)
    refine (decide_eq_false ?_).symm; rintro ⟨j, h0, h1, _, h3⟩; have := he j h0 (by omega); omega
  | m + 1, i, hi, he => by
    refine Tells.shift ?_; simp only [r30_Less.l0, rd_ap]
    refine Tells.pos (by omega) (Tells.pos (by omega) (Tells.pos (by omega) ?_))
    by_cases e : ap p i = ap q i
    · refine Tells.pos e ?_; rw [w64 (n := (i : Int) + 1) (by omega) (by omega)]
      refine less_loop hn hp hq m (i + 1) (by omega) (fun j h0 h1 => ?_)
      by_cases e2 : j = i
      · rw [e2]; exact e
      · exact he j h0 (by omega)
    · refine Tells.neg e (Tells.now' ?_)
      by_cases hlt : ap p i < ap q i
      · exact decide_eq_decide.2 ⟨fun _ => ⟨(i : Int), by omega, by omega, he, hlt⟩, fun _ => hlt⟩
      · refine decide_eq_decide.2 ⟨fun h => absurd h hlt, ?_⟩; rintro ⟨j, h0, h1, h2, h3⟩; exfalso
        rcases Int.lt_trichotomy j i with k | k | k
        · have := he j h0 k; omega
        · rw [k] at h3; omega
        · exact e (h2 i (by omega) k)
open Classical in
theorem less_tells {n : Nat} (hn : n ≤ 64) {p q : List Int} (hp : p.length = n) (hq : q.length = n) : Tells (fun k => r30_Less.f k p q) (decide (Lx n p q)) := by
  unfold r30_Less.f
  exact less_loop hn hp hq n 0 (by omega) (fun j h0 h1 => by omega)
theorem Lx.trans {n : Nat} {p q r : List Int} (h : Lx n p q) (k : Lx n q r) : Lx n p r := by
  obtain ⟨i, h0, h1, h2, h3⟩ := h
  obtain ⟨j, k0, k1, k2, k3⟩ := k
  rcases Int.lt_trichotomy i j with e | e | e
  · exact ⟨i, h0, h1, fun a a0 a1 => (h2 a a0 a1).trans (k2 a a0 (by omega)), by have := k2 i h0 e; omega⟩
  · subst e
    exact ⟨i, h0, h1, fun a a0 a1 => (h2 a a0 a1).trans (k2 a a0 a1), by omega⟩
  · exact ⟨j, k0, k1, fun a a0 a1 => (h2 a a0 (by omega)).trans (k2 a a0 a1), by have := h2 j k0 e; omega⟩
theorem Lx.total {n : Nat} {p q : List Int} (hp : p.length = n) (hq : q.length = n) : Lx n p q ∨ p = q ∨ Lx n q p := by
  by_cases h : ∃ i : Nat, i < n ∧ ap p i ≠ ap q i
  · have : ∃ i : Nat, (i < n ∧ ap p i ≠ ap q i) ∧ ∀ j < i, ¬ (j < n ∧ ap p j ≠ ap q j) := by
      obtain ⟨i, hi⟩ := h
      have key : ∀ m : Nat, ∀ i ≤ m, (i < n ∧ ap p i ≠ ap q i) → ∃ i : Nat, (i < n ∧ ap p i ≠ ap q i) ∧ ∀ j < i, ¬ (j < n ∧ ap p j ≠ ap q j) := by
        intro m
        induction m with
        | zero => intro i hi h; exact ⟨i, h, fun j hj => by omega⟩
        | succ m ih =>
          intro i hi h
          by_cases hc : ∃ j < i, (j < n ∧ ap p j ≠ ap q j)
          · obtain ⟨j, hj, hh⟩ := hc
            exact ih j (by omega) hh
          · exact ⟨i, h, fun j hj hh => hc ⟨j, hj, hh⟩⟩
      exact key i i (Nat.le_refl _) hi
    obtain ⟨i, ⟨h1, h2⟩, h3⟩ := this
    have eqs : ∀ j : Int, 0 ≤ j → j < i → ap p j = ap q j := by
      intro j j0 j1; have := h3 j.toNat (by omega)
      apply Classical.byContradiction; intro hc
      exact this ⟨by omega, by rw [show ((j.toNat : Nat) : Int) = j by omega]; exact hc⟩
    rcases Int.lt_trichotomy (ap p i) (ap q i) with e | e | e
    · exact .inl ⟨i, by omega, by omega, eqs, e⟩
    · exact absurd e h2
    · exact .inr (.inr ⟨i, by omega, by omega, fun j j0 j1 => (eqs j j0 j1).symm, e⟩)
  right; left
  refine ap_ext hp hq (fun i h0 h1 => ?_)
  apply Classical.byContradiction
  intro hc
  exact h ⟨i.toNat, by omega, by rw [show ((i.toNat : Nat) : Int) = i by omega]; exact hc⟩
open Classical in
theorem fixes_loop {p : List Int} {b : Int} (hb : b ≤ p.length) (hl : p.length ≤ 64) : ∀ (m i : Nat), (i : Int) + m = b → (∀ j : Int, 0 ≤ j → j < i → ap p j = j) → Tells (fun k => r30_fixes.l0 k p b (i : Int)) (decide (Fx b p))
  | 0, i, hi, he => by
    refine Tells.shift ?_; simp only [r30_fixes.l0]
    refine Tells.neg (by omega) (Tells.now' ?_)
    exact (decide_eq_true (fun j h0 h1 => he j h0 (by omega))).symm
  | m + 1, i, hi, he => by
    refine Tells.shift ?_; simp only [r30_fixes.l0, rd_ap]
    refine Tells.pos (by omega) (Tells.pos (by omega) (Tells.pos (by omega) ?_))
    by_cases e : ap p i = i
    · refine Tells.pos e ?_; rw [w64 (n := (i : Int) + 1) (by omega) (by omega)]
      refine fixes_loop hb hl m (i + 1) (by omega) (fun j h0 h1 => ?_)
      by_cases e2 : j = i
      · rw [e2]; exact e
      · exact he j h0 (by omega)
    · refine Tells.neg e (Tells.now' ?_)
      refine (decide_eq_false (fun h => e (h i (by omega) (by omega)))).symm
open Classical in
theorem fixes_tells {p : List Int} {b : Nat} (hb : b ≤ p.length) (hl : p.length ≤ 64) : Tells (fun k => r30_fixes.f k p (b : Int)) (decide (Fx (b : Int) p)) := by
  unfold r30_fixes.f
  exact fixes_loop (by omega) hl b 0 (by omega) (fun j h0 h1 => by omega)
def at1 (l : List (List Int)) (i : Nat) : List Int := l.getD i []
theorem at1_eq {l : List (List Int)} {i : Nat} (h : i < l.length) : at1 l i = l[i] := by simp [at1, h]
theorem at1_set {l : List (List Int)} {i : Nat} (h : i < l.length) (v : List Int) (j : Nat) : at1 (l.set i v) j = if j = i then v else at1 l j := by
  by_cases e : j = i
  · subst e
    rw [if_pos rfl, at1, List.getD_eq_getElem?_getD, List.getElem?_set_self h]; rfl
  rw [if_neg e, at1, List.getD_eq_getElem?_getD, List.getElem?_set_ne (by omega), ← List.getD_eq_getElem?_getD]; rfl
def Le (n : Nat) (p q : List Int) : Prop := ¬ Lx n q p
theorem Le.trans {n : Nat} {p q r : List Int} (hp : p.length = n) (hq : q.length = n) (hr : r.length = n) (h : Le n p q) (k : Le n q r) : Le n p r := by
  intro c
  rcases Lx.total hp hq with a | a | a
  · rcases Lx.total hq hr with b | b | b
    · exact (a.trans b).asymm c
    · subst b; exact a.asymm c
    · exact k b
  · subst a; exact k c
  · exact h a
theorem swap_perm {l : List (List Int)} {i j : Nat} (hi : i < l.length) (hj : j < l.length) (hne : i ≠ j) : ((l.set i (at1 l j)).set j (at1 l i)).Perm l := by
  rw [at1_eq hi, at1_eq hj]
  exact List.set_set_perm hi hj
structure SortI (n : Nat) (l0 l : List (List Int)) : Prop where
  perm : l.Perm l0
  len : ∀ p ∈ l0, p.length = n
theorem SortI.at {n : Nat} {l0 l : List (List Int)} (h : SortI n l0 l) {i : Nat} (hi : i < l.length) : (at1 l i).length = n := by
  rw [at1_eq hi]
  exact h.len _ (h.perm.mem_iff.1 (List.getElem_mem hi))
theorem rd1_at (l : List (List Int)) (i : Nat) : rd_L1 l (i : Int) = at1 l i := by simp [rd_L1, at1]
open Classical in
theorem sort_l3 {n : Nat} (hn : n ≤ 64) {l0 : List (List Int)} (hl0 : l0.length ≤ 4611686018427387904) (i : Nat) (P : List (List Int) → Prop)
    (cont : ∀ l, SortI n l0 l → (∀ a b : Nat, a < b → b < i + 1 → Le n (at1 l a) (at1 l b)) → ∃ r, P r ∧ Tells (fun k => r30_Group.l2 k l ((i : Int) + 1)) r) :
    ∀ (j : Nat) (l : List (List Int)), j ≤ i → i < l0.length → SortI n l0 l → (∀ a b : Nat, a < b → b ≤ i → a ≠ j → b ≠ j → Le n (at1 l a) (at1 l b)) → (∀ b : Nat, j < b → b ≤ i → Le n (at1 l j) (at1 l b)) →
    ∃ r, P r ∧ Tells (fun k => r30_Group.l3 k l (i : Int) (j : Int)) r
  | 0, l, hj, hi, hs, h1, h2 => by
    obtain ⟨r, hr, ht⟩ := cont l hs (fun a b hab hb => by
      by_cases e : a = 0
      · subst e; exact h2 b hab (by omega)
      · exact h1 a b hab (by omega) e (by omega))
    refine ⟨r, hr, Tells.shift ?_⟩; simp only [r30_Group.l3]
    refine Tells.neg (by omega) ?_; rw [w64 (n := (i : Int) + 1) (by omega) (by omega)]
    exact ht
  | j + 1, l, hj, hi, hs, h1, h2 => by
    have hll := hs.perm.length_eq; have hw : wrap64 (((j + 1 : Nat) : Int) - 1) = (j : Int) := by rw [w64 (by omega) (by omega)]; omega
    have hlt := less_tells hn (hs.at (i := j + 1) (by omega)) (hs.at (i := j) (by omega))
    by_cases hx : Lx n (at1 l (j + 1)) (at1 l j)
    · -- swap
      rw [decide_eq_true hx] at hlt
      have hA : ∀ a : Nat, at1 ((l.set (j + 1) (at1 l j)).set j (at1 l (j + 1))) a = if a = j then at1 l (j + 1) else if a = j + 1 then at1 l j else at1 l a := by
        intro a; rw [at1_set (by rw [List.length_set]; omega)]
        by_cases e : a = j
        · rw [if_pos e, if_pos e]
        · rw [if_neg e, if_neg e, at1_set (by omega)]
      have hs' : SortI n l0 ((l.set (j + 1) (at1 l j)).set j (at1 l (j + 1))) := ⟨(swap_perm (by omega) (by omega) (by omega)).trans hs.perm, hs.len⟩
      obtain ⟨r, hr, ht⟩ := sort_l3 hn hl0 i P cont j _ (by omega) hi hs' (fun a b hab hb ha hbj => by
        rw [hA a, hA b, if_neg ha, if_neg hbj]
        by_cases e1 : a = j + 1
        · rw [if_pos e1, if_neg (by omega)]
          exact h1 j b (by omega) hb (by omega) (by omega)
        · rw [if_neg e1]
          by_cases e2 : b = j + 1
          · rw [if_pos e2]
            exact h1 a j (by omega) (by omega) e1 (by omega)
          · rw [if_neg e2]; exact h1 a b hab hb e1 e2) (fun b hb hbi => by
        rw [hA j, hA b, if_pos rfl, if_neg (by omega)]
        by_cases e2 : b = j + 1
        · rw [if_pos e2]; exact fun c => hx.asymm c
        · rw [if_neg e2]; exact h2 b (by omega) hbi)
      refine ⟨r, hr, Tells.shift ?_⟩; simp only [r30_Group.l3, hw, rd1_at]
      refine Tells.pos (by omega) (Tells.pos (by omega) (Tells.pos (by omega) (Tells.pos (by omega) (Tells.pos (by omega) (Tells.bind hlt (Tells.pos rfl ?_)))))); rw [show (((j + 1 : Nat) : Int)).toNat = j + 1 by omega, show ((j : Nat) : Int).toNat = j by omega]
      exact ht
    · rw [decide_eq_false hx] at hlt
      obtain ⟨r, hr, ht⟩ := cont l hs (fun a b hab hb => by
        by_cases e1 : a = j + 1
        · subst e1; exact h2 b (by omega) (by omega)
        · by_cases e2 : b = j + 1
          · subst e2
            by_cases e3 : a = j
            · subst e3; exact hx
            · exact Le.trans (hs.at (by omega)) (hs.at (by omega)) (hs.at (by omega)) (h1 a j (by omega) (by omega) (by omega) (by omega)) hx
          · exact h1 a b hab (by omega) e1 e2)
      refine ⟨r, hr, Tells.shift ?_⟩; simp only [r30_Group.l3, hw, rd1_at]
      refine Tells.pos (by omega) (Tells.pos (by omega) (Tells.pos (by omega) (Tells.pos (by omega) (Tells.pos (by omega) (Tells.bind hlt (Tells.neg (by simp) ?_)))))); rw [w64 (n := (i : Int) + 1) (by omega) (by omega)]
      exact ht
theorem sort_l2 {n : Nat} (hn : n ≤ 64) {l0 : List (List Int)} (hl0 : l0.length ≤ 4611686018427387904) : ∀ (m i : Nat) (l : List (List Int)), l0.length ≤ i + m → SortI n l0 l → (∀ a b : Nat, a < b → b < i → b < l0.length → Le n (at1 l a) (at1 l b)) →
    ∃ r, (r.Perm l0 ∧ ∀ a b : Nat, a < b → b < l0.length → Le n (at1 r a) (at1 r b)) ∧ Tells (fun k => r30_Group.l2 k l (i : Int)) r
  | m, i, l, hi, hs, h => by
    have hll := hs.perm.length_eq
    by_cases hlt : i < l0.length
    · match m, hi with
      | 0, hi => omega
      | m + 1, hi =>
        obtain ⟨r, hr, ht⟩ := sort_l3 hn hl0 i (fun r => r.Perm l0 ∧ ∀ a b : Nat, a < b → b < l0.length → Le n (at1 r a) (at1 r b)) (fun l' hs' h' => sort_l2 hn hl0 m (i + 1) l' (by omega) hs' (fun a b hab hb _ => h' a b hab hb)) i l (Nat.le_refl _) hlt hs (fun a b hab hb ha hbi => h a b hab (by omega) (by omega)) (fun b hb hbi => by omega)
        refine ⟨r, hr, Tells.shift ?_⟩; simp only [r30_Group.l2]
        exact Tells.pos (by omega) ht
    · refine ⟨l, ⟨hs.perm, fun a b hab hb => h a b hab (by omega) hb⟩, Tells.shift ?_⟩; simp only [r30_Group.l2]
      exact Tells.neg (by omega) Tells.now
theorem sort_tells {n : Nat} (hn : n ≤ 64) (l : List (List Int)) (hl : l.length ≤ 4611686018427387904) (hp : ∀ p ∈ l, p.length = n) (hnd : l.Nodup) : ∃ r, (∀ p, p ∈ r ↔ p ∈ l) ∧ r.length = l.length ∧ r.Pairwise (Lx n) ∧ Tells (fun k => r30_Group.l2 k l 1) r := by
  obtain ⟨r, ⟨h1, h2⟩, ht⟩ := sort_l2 hn hl l.length 1 l (by omega) ⟨List.Perm.refl _, hp⟩ (fun a b hab hb _ => by omega)
  refine ⟨r, fun p => h1.mem_iff, h1.length_eq, ?_, ht⟩
  rw [List.pairwise_iff_getElem]
  intro i j hi hj hij
  have hle := h2 i j hij (by have := h1.length_eq; omega)
  rw [at1_eq hi, at1_eq hj] at hle
  rcases Lx.total (hp _ (h1.mem_iff.1 (List.getElem_mem hi))) (hp _ (h1.mem_iff.1 (List.getElem_mem hj))) with a | a | a
  · exact a
  · have hn' : r.Nodup := h1.nodup_iff.2 hnd
    exact absurd a (List.pairwise_iff_getElem.1 hn' i j hi hj hij)
  · exact absurd a hle
end Go.Proofs.Ytjjlhbgpdncpcaa.P.M
end
namespace Go.Proofs.Ytjjlhbgpdncpcaa.P
open Go.RowKit Go.Proofs.YtjjlhbgpdncpcaaW.PrintWords Go.Proofs.YtjjlhbgpdncpcaaW.PrintLast Go.Proofs.YtjjlhbgpdncpcaaW.PrintMore
set_option linter.unusedVariables false
set_option linter.unusedSimpArgs false
set_option maxHeartbeats 8000000
set_option maxRecDepth 100000
section
attribute [local go_sem] max2_int min2_int max_two min_two max_three min_three max_four min_four

end
section
attribute [local go_sem] max2_int min2_int max_two min_two max_three min_three max_four min_four

end
section
attribute [local go_sem] max2_int min2_int max_two min_two max_three min_three max_four min_four

end
section
attribute [local go_sem] max2_int min2_int max_two min_two max_three min_three max_four min_four

end
section
attribute [local go_sem] max2_int min2_int max_two min_two max_three min_three max_four min_four

end
section
attribute [local go_sem] max2_int min2_int max_two min_two max_three min_three max_four min_four

end
end Go.Proofs.Ytjjlhbgpdncpcaa.P
section
set_option linter.unusedVariables false
set_option linter.unusedSimpArgs false
namespace Go.Proofs.Ytjjlhbgpdncpcaa.P.M
open Go.RowKit Go.Proofs.YtjjlhbgpdncpcaaW.PrintWords Go.Proofs.YtjjlhbgpdncpcaaW.PrintLast Go.Proofs.YtjjlhbgpdncpcaaW.PrintMore
def run (n : Nat) (p : List Int) (x : Int) (t : Nat) : List Int := (List.range t).map (fun s => ap (powL n p s) x)
theorem rdb_set {l : List Bool} {i : Int} (v : Bool) (h0 : 0 ≤ i) (h1 : i < (l.length : Int)) {j : Int} (k0 : 0 ≤ j) : rdOf false (l.set i.toNat v) j = if j = i then v else rdOf false l j := by
  have hi : i.toNat < l.length := by omega
  by_cases e : j = i
  · subst e
    rw [if_pos rfl, rdOf, List.getD_eq_getElem?_getD, List.getElem?_set_self hi]; rfl
  rw [if_neg e, rdOf, List.getD_eq_getElem?_getD, List.getElem?_set_ne (by omega), ← List.getD_eq_getElem?_getD]; rfl
theorem count_set : ∀ {l : List Bool} {i : Nat}, i < l.length → l.getD i false = false → (l.set i true).count true = l.count true + 1
  | [], i, h, _ => by simp at h
  | b :: l, 0, h, e => by
    have : b = false := by simpa using e
    subst this; simp [List.count_cons]
  | b :: l, i + 1, h, e => by
    have := count_set (l := l) (i := i) (by simpa using h) (by simpa using e); simp only [List.set_cons_succ, List.count_cons, this]; omega
theorem rdb_lt {l : List Bool} {i : Int} (h0 : 0 ≤ i) (h1 : i < (l.length : Int)) (e : rdOf false l i = false) : (l.set i.toNat true).count true = l.count true + 1 := count_set (by omega) e
end Go.Proofs.Ytjjlhbgpdncpcaa.P.M
end
section
set_option linter.unusedVariables false
set_option linter.unusedSimpArgs false
namespace Go.Proofs.Ytjjlhbgpdncpcaa.P.M
open Go.RowKit Go.Proofs.YtjjlhbgpdncpcaaW.PrintWords Go.Proofs.YtjjlhbgpdncpcaaW.PrintLast Go.Proofs.YtjjlhbgpdncpcaaW.PrintMore
structure GI (n : Nat) (gens : List (List Int)) (seen : List Bool) (out : List (List Int)) : Prop where
  len : seen.length = 46656
  el : ∀ p ∈ out, Gp n gens p
  one : idL n ∈ out
  nd : out.Nodup
  mem : ∀ p, Pm n p → (rdOf false seen (cdF 0 p) = true ↔ p ∈ out)
  cnt : out.length = seen.count true
theorem GI.short {n : Nat} {gens : List (List Int)} {seen : List Bool} {out : List (List Int)} (h : GI n gens seen out) : out.length ≤ 46656 := by
  have h1 := h.cnt
  have h2 : seen.count true ≤ seen.length := List.count_le_length
  have := h.len
  omega
structure Elems (n : Nat) (G : List Int → Prop) (r : List (List Int)) : Prop where
  mem : ∀ p, p ∈ r ↔ G p
  asc : r.Pairwise (Lx n)
  short : r.length ≤ 46656
theorem at1_snoc {l : List (List Int)} {i : Nat} (h : i < l.length) (p : List Int) : at1 (l ++ [p]) i = at1 l i := by
  simp [at1, List.getD_eq_getElem?_getD, List.getElem?_append_left h]
theorem GI.next {n : Nat} (hn : n ≤ 6) {gens : List (List Int)} (hg : ∀ p ∈ gens, Pm n p) {seen : List Bool} {out : List (List Int)} (h : GI n gens seen out) {p : List Int} (hp : Gp n gens p) (hs : rdOf false seen (cdF 0 p) = false) : GI n gens (seen.set (cdF 0 p).toNat true) (out ++ [p]) := by
  have hpm := hp.pm hg
  have hc := cd_small hn hpm
  have hl := h.len
  refine ⟨by rw [List.length_set]; exact hl, fun q hq => ?_, List.mem_append_left _ h.one, ?_, fun q hq => ?_, ?_⟩
  · rw [List.mem_append, List.mem_singleton] at hq
    rcases hq with hq | rfl
    · exact h.el q hq
    · exact hp
  · rw [List.nodup_append]
    refine ⟨h.nd, by simp, fun a ha b hb e => ?_⟩; rw [List.mem_singleton] at hb; subst hb; rw [e] at ha; rw [(h.mem _ hpm).2 ha] at hs; cases hs
  · have hcq := cd_small hn hq
    rw [rdb_set true hc.1 (by omega) hcq.1, List.mem_append, List.mem_singleton]
    by_cases e : cdF 0 q = cdF 0 p
    · rw [if_pos e]; simp [cd_inj hn hq hpm e]
    rw [if_neg e, h.mem q hq]
    constructor
    · exact fun k => .inl k
    · rintro (k | rfl)
      · exact k
      · exact absurd rfl e
  · rw [rdb_lt hc.1 (by omega) hs, List.length_append, h.cnt]; rfl
theorem grp_l1 {n : Nat} (h1 : 1 ≤ n) (hn : n ≤ 6) {gens : List (List Int)} (hg : ∀ p ∈ gens, Pm n p) (hgl : gens.length ≤ 4611686018427387904) (seen : List Bool) (out : List (List Int)) (i j : Nat)
    (h : GI n gens seen out) (hi : i < out.length) (hj : j ≤ gens.length) (hpr : ∀ a : Nat, a < i → ∀ g ∈ gens, mulL (at1 out a) g ∈ out) (hpj : ∀ c : Nat, c < j → ∀ hc : c < gens.length, mulL (at1 out i) gens[c] ∈ out) :
    ∃ r, Elems n (Gp n gens) r ∧ Tells (fun k => r30_Group.l1 k gens seen out (i : Int) (j : Int)) r := by
  have hsh := h.short
  by_cases hjl : j < gens.length
  · have hel := h.el _ (List.getElem_mem hi)
    have hpm := hel.pm hg; have hgm := hg _ (List.getElem_mem hjl); have hpl := hpm.1; have hgml := hgm.1; have hG : Gp n gens (mulL out[i] gens[j]) := Cl.mul hel (List.getElem_mem hjl); have hP := hG.pm hg; have hc := cd_small hn hP; have hsl := h.len; have ea : at1 out i = out[i] := at1_eq hi; have tl := Then_tells out[i] gens[j] (by omega) (by rw [hgml]; exact hpm.rg); have tc := code_tells hn hP
    by_cases hs : rdOf false seen (cdF 0 (mulL out[i] gens[j])) = true
    · obtain ⟨r, hr, ht⟩ := grp_l1 h1 hn hg hgl seen out i (j + 1) h hi (by omega) hpr (fun c hcj hcl => by
        by_cases e : c = j
        · subst e; rw [ea]; exact (h.mem _ hP).1 hs
        · exact hpj c (by omega) hcl)
      refine ⟨r, hr, Tells.shift ?_⟩; simp only [r30_Group.l1, rd1_at, ea, at1_eq hjl]
      refine Tells.pos (by omega) (Tells.pos (by omega) (Tells.pos (by omega) (Tells.pos (by omega) (Tells.bind tl (Tells.bind tc (Tells.pos hc.1 (Tells.pos (by omega) (Tells.pos hs ?_)))))))); rw [w64 (n := (j : Int) + 1) (by omega) (by omega)]
      exact ht
    · have hs' : rdOf false seen (cdF 0 (mulL out[i] gens[j])) = false := by simpa using hs
      have hnx := h.next hn hg hG hs'
      have hnl := hnx.short; rw [List.length_append, List.length_singleton] at hnl
      obtain ⟨r, hr, ht⟩ := grp_l1 h1 hn hg hgl _ _ i (j + 1) hnx (by rw [List.length_append]; omega) (by omega) (fun a ha g hgg => by
        rw [at1_snoc (by omega)]
        exact List.mem_append_left _ (hpr a ha g hgg)) (fun c hcj hcl => by
        rw [at1_snoc hi]
        by_cases e : c = j
        · subst e; rw [ea]; exact List.mem_append_right _ (List.mem_singleton.2 rfl)
        · exact List.mem_append_left _ (hpj c (by omega) hcl))
      refine ⟨r, hr, Tells.shift ?_⟩; simp only [r30_Group.l1, rd1_at, ea, at1_eq hjl]
      refine Tells.pos (by omega) (Tells.pos (by omega) (Tells.pos (by omega) (Tells.pos (by omega) (Tells.bind tl (Tells.bind tc (Tells.pos hc.1 (Tells.pos (by omega) (Tells.neg (by rw [hs']; decide) (Tells.bind tc (Tells.pos hc.1 (Tells.pos (by omega) (Tells.pos (by omega) ?_)))))))))))); rw [w64 (n := (j : Int) + 1) (by omega) (by omega)]
      exact ht
  · -- the element's products are done
    have hall : ∀ a : Nat, a < i + 1 → ∀ g ∈ gens, mulL (at1 out a) g ∈ out := by
      intro a ha g hgg
      by_cases e : a = i
      · subst e; obtain ⟨c, hc, rfl⟩ := List.getElem_of_mem hgg
        exact hpj c (by omega) hc
      · exact hpr a (by omega) g hgg
    by_cases hnx : i + 1 < out.length
    · obtain ⟨r, hr, ht⟩ := grp_l1 h1 hn hg hgl seen out (i + 1) 0 h hnx (by omega) hall (fun c hc => by omega)
      refine ⟨r, hr, Tells.shift ?_⟩; simp only [r30_Group.l1]
      refine Tells.neg (by omega) ?_; rw [w64 (n := (i : Int) + 1) (by omega) (by omega)]
      refine Tells.shift ?_; simp only [r30_Group.l0]
      exact Tells.pos (by omega) ht
    · have hlen : ∀ p ∈ out, p.length = n := fun p hp => ((h.el p hp).pm hg).1
      obtain ⟨r, hr, hrl, hasc, ht⟩ := sort_tells (show n ≤ 64 by omega) out (by omega) hlen h.nd
      refine ⟨r, ⟨fun p => ?_, hasc, by omega⟩, Tells.shift ?_⟩
      · rw [hr p]
        refine ⟨h.el p, fun hp => ?_⟩
        refine Cl.least (H := fun p => p ∈ out) h.one (fun p g hp hgg => ?_) hp; obtain ⟨a, ha, rfl⟩ := List.getElem_of_mem hp; have := hall a (by omega) g hgg
        rwa [at1_eq ha] at this
      · simp only [r30_Group.l1]
        refine Tells.neg (by omega) ?_; rw [w64 (n := (i : Int) + 1) (by omega) (by omega)]
        refine Tells.shift ?_; simp only [r30_Group.l0]
        exact Tells.neg (by omega) ht
  termination_by (46656 - out.length, out.length - i, gens.length - j)
  decreasing_by
    · apply Prod.Lex.right; apply Prod.Lex.right; omega
    · apply Prod.Lex.left; simp only [List.length_append, List.length_singleton] at *; omega
    · apply Prod.Lex.right; apply Prod.Lex.left; omega
theorem Group_tells {n : Nat} (h1 : 1 ≤ n) (hn : n ≤ 6) {gens : List (List Int)} (hg : ∀ p ∈ gens, Pm n p) (hgl : gens.length ≤ 4611686018427387904) : ∃ r, Elems n (Gp n gens) r ∧ Tells (fun k => r30_Group.f k (n : Int) gens) r := by
  have hc := cd_small hn (Pm_id n)
  have hz : ∀ y : Int, rdOf false (List.replicate 46656 false) y = false := by
    intro y; simp only [rdOf, List.getD_eq_getElem?_getD, List.getElem?_replicate]
    split <;> rfl
  have h : GI n gens ((List.replicate 46656 false).set (cdF 0 (idL n)).toNat true) [idL n] := by
    refine ⟨by rw [List.length_set, List.length_replicate], fun p hp => ?_, by simp, by simp, fun p hp => ?_, ?_⟩
    · rw [List.mem_singleton] at hp; rw [hp]; exact .one
    · have hcp := cd_small hn hp; rw [rdb_set true hc.1 zz116 hcp.1, List.mem_singleton]
      by_cases e : cdF 0 p = cdF 0 (idL n)
      · rw [if_pos e]; simp [cd_inj hn hp (Pm_id n) e]
      · rw [if_neg e, hz]
        constructor
        · intro k; cases k
        · rintro rfl; exact absurd rfl e
    · rw [rdb_lt hc.1 zz116 (hz _), List.count_replicate]; rfl
  obtain ⟨r, hr, ht⟩ := grp_l1 h1 hn hg hgl _ _ 0 0 h (by simp) (by omega) (fun a ha => by omega) (fun c hc => by omega)
  refine ⟨r, hr, ?_⟩
  unfold r30_Group.f
  refine Tells.pos (by decide) (Tells.bind Tells.now (Tells.bind (Unit_tells n (by omega)) (Tells.bind Tells.now (Tells.pos (by simp) ?_))))
  have e0 : rd_L1 [idL n] 0 = idL n := rfl
  rw [e0]
  refine Tells.bind (code_tells hn (Pm_id n)) (Tells.pos hc.1 (Tells.pos zz116 ?_))
  refine Tells.shift ?_
  simp only [r30_Group.l0]
  exact Tells.pos (by simp) ht
theorem least_found {n : Nat} {G : List Int → Prop} {l : List (List Int)} (he : Elems n G l) {b y : Int} {i : Nat} (hi : i < l.length) (hf : Fx b l[i]) (hv : ap l[i] b = y) (hno : ∀ a : Nat, a < i → ∀ ha : a < l.length, ¬ (Fx b l[a] ∧ ap l[a] b = y)) : LeastAt n G b y l[i] := by
  refine ⟨(he.mem _).1 (List.getElem_mem hi), hf, hv, fun s hs hsf hsv => ?_⟩
  obtain ⟨c, hc, rfl⟩ := List.getElem_of_mem ((he.mem s).2 hs)
  by_cases h : c < i
  · exact absurd ⟨hsf, hsv⟩ (hno c h hc)
  by_cases e : c = i
  · subst e; exact .inl rfl
  exact .inr (List.pairwise_iff_getElem.1 he.asc i c hi hc (by omega))
open Classical in
theorem of_l2 {n : Nat} (hn : n ≤ 64) {G : List Int → Prop} (hG : ∀ p, G p → Pm n p) {l : List (List Int)} (he : Elems n G l) {b y : Nat} (hb : b < n) (hy : y ≤ n) (d : Int) (lv : List S74) {orb : List Int} {reps : List (List Int)} (ho : orb.length ≤ y) (hr : reps.length ≤ y) (v : Int × List S74)
    (cont : Tells (fun k => r30_Of.l1 k (n : Int) l (b : Int) ((y : Int) + 1) d lv (b : Int) (orb ++ (if ∃ q, LeastAt n G (b : Int) (y : Int) q then [(y : Int)] else [])) (reps ++ (if ∃ q, LeastAt n G (b : Int) (y : Int) q then [leastQ n G (b : Int) (y : Int)] else []))) v) :
    ∀ (m i : Nat), i + m = l.length → (∀ a : Nat, a < i → ∀ ha : a < l.length, ¬ (Fx (b : Int) l[a] ∧ ap l[a] (b : Int) = y)) → Tells (fun k => r30_Of.l2 k (n : Int) l (b : Int) (y : Int) (i : Int) d lv (b : Int) orb reps) v
  | 0, i, hi, hno => by
    have hsh := he.short
    refine Tells.shift ?_; simp only [r30_Of.l2]
    refine Tells.neg (by omega) ?_; rw [w64 (n := (y : Int) + 1) (by omega) (by omega)]
    have hne : ¬ ∃ q, LeastAt n G (b : Int) (y : Int) q := by
      rintro ⟨q, hq⟩; obtain ⟨c, hc, rfl⟩ := List.getElem_of_mem ((he.mem q).2 hq.1)
      exact hno c (by omega) hc ⟨hq.2.1, hq.2.2.1⟩
    rw [if_neg hne, if_neg hne, List.append_nil, List.append_nil] at cont
    exact cont
  | m + 1, i, hi, hno => by
    have hsh := he.short; have hil : i < l.length := by omega
    have hp := hG _ ((he.mem _).1 (List.getElem_mem hil)); have hpl := hp.1; have hfx := fixes_tells (p := l[i]) (b := b) (by omega) (by omega)
    refine Tells.shift ?_; simp only [r30_Of.l2, rd1_at, at1_eq hil, rd_ap]
    refine Tells.pos (by omega) (Tells.pos (by omega) (Tells.bind hfx ?_))
    have next : ¬ (Fx (b : Int) l[i] ∧ ap l[i] (b : Int) = y) → Tells (fun k => r30_Of.l2 k (n : Int) l (b : Int) (y : Int) (wrap64 ((i : Int) + 1)) d lv (b : Int) orb reps) v := by
      intro hnot; rw [w64 (n := (i : Int) + 1) (by omega) (by omega)]
      refine of_l2 hn hG he hb hy d lv ho hr v cont m (i + 1) (by omega) (fun a h1 h2 => ?_)
      by_cases e : a = i
      · subst e; exact hnot
      · exact hno a (by omega) h2
    by_cases hf : Fx (b : Int) l[i]
    · refine Tells.pos (decide_eq_true hf) (Tells.pos (by omega) (Tells.pos (by omega) ?_))
      by_cases hv : ap l[i] (b : Int) = y
      · refine Tells.pos hv (Tells.pos (by omega) (Tells.pos (by omega) ?_)); rw [w64 (n := (y : Int) + 1) (by omega) (by omega)]; have hq := least_found he hil hf hv hno; have hex : ∃ q, LeastAt n G (b : Int) (y : Int) q := ⟨_, hq⟩; rw [if_pos hex, if_pos hex, leastQ_eq hq] at cont
        exact cont
      · exact Tells.neg hv (next (fun h => hv h.2))
    · exact Tells.neg (by rw [decide_eq_false hf]; decide) (next (fun h => hf h.1))
theorem orbF_len (n : Nat) (G : List Int → Prop) (b : Int) (x m : Nat) : (orbF n G b x m).length ≤ m := by
  unfold orbF
  have := List.length_filter_le (p := fun y => @decide (∃ q, LeastAt n G b y q) (Classical.propDecidable _)) ((List.range' x m).map (fun (y : Nat) => (y : Int)))
  rw [List.length_map, List.length_range'] at this
  exact this
open Classical in
theorem of_l1 {n : Nat} (hn : n ≤ 64) {G : List Int → Prop} (hG : ∀ p, G p → Pm n p) {l : List (List Int)} (he : Elems n G l) {b : Nat} (hb : b < n) (d : Int) (lv : List S74) (hlv : lv.length ≤ 64) (v : Int × List S74) :
    ∀ (m y : Nat) (orb : List Int) (reps : List (List Int)), y + m = n → orb.length ≤ y → reps.length ≤ y →
    Tells (fun k => r30_Of.l0 k (n : Int) l ((b : Int) + 1) d (if 1 < (orb ++ orbF n G (b : Int) y m).length then lv ++ [⟨(b : Int), orb ++ orbF n G (b : Int) y m, reps ++ (orbF n G (b : Int) y m).map (leastQ n G (b : Int))⟩] else lv)) v →
    Tells (fun k => r30_Of.l1 k (n : Int) l (b : Int) (y : Int) d lv (b : Int) orb reps) v
  | 0, y, orb, reps, hy, ho, hr, cont => by
    refine Tells.shift ?_; simp only [r30_Of.l1]
    refine Tells.neg (by omega) ?_; have e : orbF n G (b : Int) y 0 = [] := rfl; rw [e, List.append_nil, List.map_nil, List.append_nil] at cont; rw [w64 (n := (b : Int) + 1) (by omega) (by omega)]
    by_cases h : 1 < orb.length
    · rw [if_pos h] at cont
      exact Tells.pos (by omega) (Tells.pos (by omega) cont)
    · rw [if_neg h] at cont
      exact Tells.neg (by omega) cont
  | m + 1, y, orb, reps, hy, ho, hr, cont => by
    refine Tells.shift ?_; simp only [r30_Of.l1]
    refine Tells.pos (by omega) ?_
    refine of_l2 hn hG he hb (by omega) d lv ho hr v ?_ l.length 0 (by omega) (fun a ha => by omega); rw [orbF_succ] at cont
    refine of_l1 hn hG he hb d lv hlv v m (y + 1) _ _ (by omega) ?_ ?_ ?_
    · rw [List.length_append]; split <;> simp <;> omega
    · rw [List.length_append]; split <;> simp <;> omega
    · rw [List.append_assoc, List.append_assoc]
      have : ∀ z, (if ∃ q, LeastAt n G (b : Int) (y : Int) q then [leastQ n G (b : Int) (y : Int)] else []) ++ z = ((if ∃ q, LeastAt n G (b : Int) (y : Int) q then [(y : Int)] else []).map (leastQ n G (b : Int))) ++ z := by
        intro z
        split <;> rfl
      rw [this, ← List.map_append]
      exact cont
theorem orbF_low {n : Nat} {G : List Int → Prop} (hG : ∀ p, G p → Pm n p) {b : Nat} (hb : b < n) : ∀ (j : Nat), j ≤ b → orbF n G (b : Int) 0 n = orbF n G (b : Int) j (n - j)
  | 0, _ => rfl
  | j + 1, hj => by
    rw [orbF_low hG hb j (by omega), show n - j = (n - (j + 1)) + 1 by omega, orbF_succ, if_neg]
    · rfl
    · rintro ⟨q, hq⟩; have := hq.2.1.ge (hG q hq.1) (by omega) (by omega); rw [hq.2.2.1] at this; omega
theorem of_l0 {n : Nat} (hn : n ≤ 64) {G : List Int → Prop} (hG : ∀ p, G p → Pm n p) {l : List (List Int)} (he : Elems n G l) (d : Int) : ∀ (m b : Nat) (lv : List S74), b + m = n → lv.length ≤ b → Tells (fun k => r30_Of.l0 k (n : Int) l (b : Int) d lv) (d, lv ++ lvsF n G b m)
  | 0, b, lv, hb, hl => by
    refine Tells.shift ?_; simp only [r30_Of.l0]
    exact Tells.neg (by omega) (Tells.now' (by simp [lvsF]))
  | m + 1, b, lv, hb, hl => by
    refine Tells.shift ?_; simp only [r30_Of.l0]
    refine Tells.pos (by omega) ?_
    refine of_l1 hn hG he (by omega) d lv (by omega) _ (n - b) b [] [] (by omega) (by simp) (by simp) ?_; rw [List.nil_append, List.nil_append, ← orbF_low hG (by omega) b (Nat.le_refl _), lvsF_succ]; have ih := of_l0 hn hG he d m (b + 1) (if 1 < (orbF n G (b : Int) 0 n).length then lv ++ [⟨(b : Int), orbF n G (b : Int) 0 n, (orbF n G (b : Int) 0 n).map (leastQ n G (b : Int))⟩] else lv) (by omega) (by split; (rw [List.length_append]; simp; omega); omega)
    have e : ∀ z, (if 1 < (orbF n G (b : Int) 0 n).length then lv ++ [lvP n G (b : Int)] else lv) ++ z = lv ++ ((if 1 < (lvP n G (b : Int)).f1.length then [lvP n G (b : Int)] else []) ++ z) := by
      intro z
      by_cases h : 1 < (orbF n G (b : Int) 0 n).length
      · rw [if_pos h, if_pos (show 1 < (lvP n G (b : Int)).f1.length from h), List.append_assoc]
      · rw [if_neg h, if_neg (show ¬ 1 < (lvP n G (b : Int)).f1.length from h)]; rfl
    rw [← e]
    exact ih
theorem Of_tells {n : Nat} (hn : n ≤ 64) {G : List Int → Prop} (hG : ∀ p, G p → Pm n p) {l : List (List Int)} (he : Elems n G l) : Tells (fun k => r30_Of.f k (n : Int) l) ((n : Int), chainP n G) := by
  unfold r30_Of.f
  have := of_l0 hn hG he (n : Int) n 0 [] (by omega) (by simp)
  rw [List.nil_append] at this
  exact this
theorem group_tells (n : Int) (l : List (List Int)) (hl : l.length ≤ 4611686018427387904) : Tells (fun k => r30_group.f k n l) (gensE n l) := by
  unfold r30_group.f gensE
  by_cases h1 : n < 1
  · refine Tells.pos h1 (Tells.now' ?_)
    rw [if_pos (.inl h1)]
  refine Tells.neg h1 ?_
  by_cases h2 : n > 64
  · refine Tells.pos h2 (Tells.now' ?_)
    rw [if_pos (.inr h2)]
  refine Tells.neg h2 ?_
  rw [if_neg (by omega)]
  exact Tells.bind (all_tells n l hl) Tells.now
theorem RBuild_tells (n : Int) (l : List (List Int)) (hn : n ≤ 6 ∨ 64 < n) (hl : l.length ≤ 4611686018427387904) : Tells (fun k => r30_Build.f k n l) (buildL n l) := by
  unfold r30_Build.f buildL
  refine Tells.bind (group_tells n l hl) ?_
  by_cases h : gensE n l = 0
  · obtain ⟨m, rfl, h1, h64, hg⟩ := gensE_zero h
    rw [if_pos h]; obtain ⟨r, hr, ht⟩ := Group_tells h1 (by omega) hg hl
    refine Tells.pos h (Tells.bind ht (Tells.bind (Of_tells h64 (fun p hp => hp.pm hg) hr) Tells.now))
  rw [if_neg h]
  exact Tells.neg h Tells.now
end Go.Proofs.Ytjjlhbgpdncpcaa.P.M
end
section
set_option linter.unusedVariables false
set_option linter.unusedSimpArgs false
namespace Go.Proofs.Ytjjlhbgpdncpcaa.P.M
open Go.RowKit Go.Proofs.YtjjlhbgpdncpcaaW.PrintWords Go.Proofs.YtjjlhbgpdncpcaaW.PrintLast Go.Proofs.YtjjlhbgpdncpcaaW.PrintMore
instance : DecidableEq S74 := fun x y =>
  if h : x.f0 = y.f0 ∧ x.f1 = y.f1 ∧ x.f2 = y.f2 then isTrue (by cases x; cases y; simp at h; simp [h]) else isFalse (fun e => h (by rw [e]; exact ⟨rfl, rfl, rfl⟩))
theorem s74_ext {x y : S74} (h0 : x.f0 = y.f0) (h1 : x.f1 = y.f1) (h2 : x.f2 = y.f2) : x = y := by
  cases x; cases y; simp at h0 h1 h2; simp [h0, h1, h2]
theorem rd74_at {l : List S74} {i : Nat} (h : i < l.length) : rd_T74 l (i : Int) = l[i] := by simp [rd_T74, h]
def Bg : Nat := 4611686018427387904
def Fine (l : List S74) : Prop := l.length ≤ Bg ∧ ∀ x ∈ l, x.f1.length ≤ Bg ∧ x.f2.length ≤ Bg ∧ ∀ r ∈ x.f2, r.length ≤ Bg
theorem same_l0 (n1 n2 : Int) (x y : List S74) (hxy : x.length = y.length) (hf : Fine x) : ∀ (m i : Nat), i + m = x.length → x.take i = y.take i → Tells (fun k => r30_Same.l0 k (i : Int) n1 x n2 y) (decide (x = y))
  | 0, i, hi, ht => by
    refine Tells.shift ?_; simp only [r30_Same.l0]
    refine Tells.neg (by omega) (Tells.now' ?_); rw [List.take_of_length_le (by omega), List.take_of_length_le (by omega)] at ht
    exact (decide_eq_true ht).symm
  | m + 1, i, hi, ht => by
    have hx : i < x.length := by omega
    have hy : i < y.length := by omega
    have hb := hf.2 _ (List.getElem_mem hx); have hl := hf.1; unfold Bg at hb hl; have bad : x[i] ≠ y[i] → false = decide (x = y) := fun h => (decide_eq_false (fun e => h (by simp only [e]))).symm
    refine Tells.shift ?_; simp only [r30_Same.l0, rd74_at hx, rd74_at hy]
    refine Tells.pos (by omega) (Tells.pos (by omega) (Tells.pos (by omega) ?_))
    have fin : x[i] ≠ y[i] → Tells (fun k => r30_Same.j2 k (i : Int) true n1 x n2 y) (decide (x = y)) := by
      intro h
      refine Tells.shift ?_; simp only [r30_Same.j2]
      exact Tells.pos trivial (Tells.now' (bad h))
    by_cases e0 : x[i].f0 = y[i].f0
    · refine Tells.pos e0 (Tells.bind (SameInts_tells _ _ hb.1) ?_)
      by_cases e1 : x[i].f1 = y[i].f1
      · refine Tells.pos (decide_eq_true e1) (Tells.bind (SameRows_tells _ _ hb.2.1 hb.2.2) (Tells.shift ?_)); simp only [r30_Same.j2]
        by_cases e2 : x[i].f2 = y[i].f2
        · rw [decide_eq_true e2]
          refine Tells.neg (by simp) ?_; rw [w64 (n := (i : Int) + 1) (by omega) (by omega)]
          refine same_l0 n1 n2 x y hxy hf m (i + 1) (by omega) ?_; rw [List.take_succ_eq_append_getElem hx, List.take_succ_eq_append_getElem hy, ht, s74_ext e0 e1 e2]
        · rw [decide_eq_false e2]
          exact Tells.pos rfl (Tells.now' (bad (fun h => e2 (by rw [h]))))
      · exact Tells.neg (by rw [decide_eq_false e1]; decide) (fin (fun h => e1 (by rw [h])))
    · exact Tells.neg e0 (fin (fun h => e0 (by rw [h])))
theorem Same_tells (n1 n2 : Int) (x y : List S74) (hf : Fine x) : Tells (fun k => r30_Same.f k n1 x n2 y) (decide (n1 = n2 ∧ x = y)) := by
  unfold r30_Same.f
  by_cases h0 : n1 = n2
  · refine Tells.pos h0 (Tells.shift ?_)
    simp only [r30_Same.j0]
    by_cases hl : x.length = y.length
    · refine Tells.neg (by simp [hl]) ?_
      exact (same_l0 n1 n2 x y hl hf x.length 0 (by omega) rfl).eq (by simp [h0])
    refine Tells.pos (by simp; omega) (Tells.now' ?_)
    exact (decide_eq_false (fun h => hl (by rw [h.2]))).symm
  refine Tells.neg h0 (Tells.shift ?_)
  simp only [r30_Same.j0]
  refine Tells.pos trivial (Tells.now' ?_)
  exact (decide_eq_false (fun h => h0 h.1)).symm
theorem leastQ_len {n : Nat} {G : List Int → Prop} (hG : ∀ p, G p → Pm n p) (b x : Int) : (leastQ n G b x).length ≤ n := by
  unfold leastQ
  split
  · rename_i h
    exact Nat.le_of_eq (hG _ (Classical.choose_spec h).1).1
  · simp
theorem lvsF_len (n : Nat) (G : List Int → Prop) (b m : Nat) : (lvsF n G b m).length ≤ m := by
  unfold lvsF
  have := List.length_filter_le (p := fun l : S74 => decide (1 < l.f1.length)) ((List.range' b m).map (fun (c : Nat) => lvP n G (c : Int)))
  rw [List.length_map, List.length_range'] at this
  exact this
theorem chainP_mem {n : Nat} {G : List Int → Prop} {x : S74} (h : x ∈ chainP n G) : ∃ c : Nat, c < n ∧ x = lvP n G (c : Int) ∧ 1 < x.f1.length := by
  unfold chainP lvsF at h
  rw [List.mem_filter, List.mem_map] at h
  obtain ⟨⟨c, hc, rfl⟩, h2⟩ := h
  rw [List.mem_range'] at hc
  obtain ⟨i, hi, rfl⟩ := hc
  exact ⟨_, by omega, rfl, by simpa using h2⟩
theorem chainP_small {n : Nat} {G : List Int → Prop} (hG : ∀ p, G p → Pm n p) : (chainP n G).length ≤ n ∧ ∀ x ∈ chainP n G, x.f1.length ≤ n ∧ x.f2.length = x.f1.length ∧ ∀ r ∈ x.f2, r.length ≤ n := by
  refine ⟨lvsF_len n G 0 n, fun x hx => ?_⟩
  obtain ⟨c, hc, rfl, _⟩ := chainP_mem hx
  refine ⟨orbF_len n G (c : Int) 0 n, by simp [lvP], fun r hr => ?_⟩
  simp only [lvP, List.mem_map] at hr
  obtain ⟨y, _, rfl⟩ := hr
  exact leastQ_len hG _ _
theorem buildL_fine (n : Int) (l : List (List Int)) : Fine (buildL n l).2.1 := by
  unfold buildL
  by_cases h : gensE n l = 0
  · obtain ⟨m, rfl, h1, h64, hg⟩ := gensE_zero h
    rw [if_pos h]; have hs := chainP_small (n := m) (G := Gp m l) (fun p hp => hp.pm hg)
    show Fine (chainP m (Gp m l))
    refine ⟨by unfold Bg; omega, fun x hx => ?_⟩; have := hs.2 x hx
    refine ⟨by unfold Bg; omega, by unfold Bg; omega, fun r hr => ?_⟩; have := this.2.2 r hr; unfold Bg; omega
  rw [if_neg h]
  exact ⟨by simp [Bg], fun x hx => by simp at hx⟩
theorem few_l0 (n : Int) (l : List (List Int)) (hl : l.length ≤ 1000) : ∀ (m i : Nat) (x : Int), i + m = l.length → 0 ≤ x → x ≤ 1000 → (∀ a : Nat, a < i → ∀ ha : a < l.length, l[a].length ≤ 1000) → ∃ b, Tells (fun k => r09_Few.l0 k x (i : Int) n l) b ∧ (b = true → ∀ r ∈ l, r.length ≤ 1000)
  | 0, i, x, hi, h0, h1, ha => by
    refine ⟨true, Tells.shift ?_, fun _ r hr => ?_⟩
    · simp only [r09_Few.l0]
      exact Tells.neg (by omega) Tells.now
    · obtain ⟨a, h, rfl⟩ := List.getElem_of_mem hr
      exact ha a (by omega) h
  | m + 1, i, x, hi, h0, h1, ha => by
    have hil : i < l.length := by omega
    by_cases h : (l[i].length : Int) > x
    · refine ⟨false, Tells.shift ?_, fun h => by cases h⟩; simp only [r09_Few.l0, rd1_at, at1_eq hil]
      exact Tells.pos (by omega) (Tells.pos (by omega) (Tells.pos h Tells.now))
    · obtain ⟨b, ht, hb⟩ := few_l0 n l hl m (i + 1) (x - l[i].length) (by omega) (by omega) (by omega) (fun a h1 h2 => by
        by_cases e : a = i
        · subst e; omega
        · exact ha a (by omega) h2)
      refine ⟨b, Tells.shift ?_, hb⟩; simp only [r09_Few.l0, rd1_at, at1_eq hil]
      refine Tells.pos (by omega) (Tells.pos (by omega) (Tells.neg h ?_)); rw [w64 (n := x - (l[i].length : Int)) (by omega) (by omega), w64 (n := (i : Int) + 1) (by omega) (by omega)]
      exact ht
theorem Few_tells (l : List (List Int)) (a : Int) (h0 : 0 ≤ a) (h1 : a ≤ 1000) : ∃ b, Tells (fun k => r09_Few.f k 0 l a) b ∧ (b = true → l.length ≤ 1000 ∧ ∀ r ∈ l, r.length ≤ 1000) := by
  by_cases h : (l.length : Int) > a
  · refine ⟨false, ?_, fun h => by cases h⟩
    unfold r09_Few.f
    refine Tells.neg (by omega) (Tells.shift ?_); simp only [r09_Few.j0]
    exact Tells.pos (decide_eq_true h) Tells.now
  obtain ⟨b, ht, hb⟩ := few_l0 0 l (by omega) l.length 0 (a - l.length) (by omega) (by omega) (by omega) (fun a h => by omega)
  refine ⟨b, ?_, fun hb' => ⟨by omega, hb hb'⟩⟩
  unfold r09_Few.f
  refine Tells.neg (by omega) (Tells.shift ?_)
  simp only [r09_Few.j0]
  refine Tells.neg (by rw [decide_eq_false h]; decide) ?_
  rw [w64 (n := a - (l.length : Int)) (by omega) (by omega)]
  exact ht
end Go.Proofs.Ytjjlhbgpdncpcaa.P.M
end
section
set_option linter.unusedVariables false
namespace Go.Proofs.Ytjjlhbgpdncpcaa.P.M
open Go.RowKit Go.Proofs.YtjjlhbgpdncpcaaW.PrintWords Go.Proofs.YtjjlhbgpdncpcaaW.PrintLast Go.Proofs.YtjjlhbgpdncpcaaW.PrintMore
theorem aw_tells : Tells (fun _ : Nat => l30_awake.f) true := Tells.now
theorem build_true (n : Int) (l : List (List Int)) (w : (Lit.int .i64 n).wf = true) : ∃ k, l30_PermBuild.f k n l = some true := by
  apply Tells.some
  unfold l30_PermBuild.f
  refine Tells.bind aw_tells (Tells.pos rfl ?_)
  obtain ⟨b, hb, hbl⟩ := Few_tells l 100 (by omega) (by omega)
  refine Tells.bind hb ?_
  have big : Tells (fun k => l30_PermBuild.j0 k n l true) true := by
    refine Tells.shift ?_; simp only [l30_PermBuild.j0]
    exact Tells.pos trivial (Tells.bind aw_tells Tells.now)
  cases b with
  | false => exact Tells.neg (by decide) big
  | true =>
    have hl := hbl rfl
    have main : (n ≤ 6 ∨ 64 < n) → Tells (fun k => l30_PermBuild.j0 k n l false) true := by
      intro hn
      refine Tells.shift ?_; simp only [l30_PermBuild.j0]
      refine Tells.neg (by simp) (Tells.bind (PBuild_tells n l) (Tells.bind (RBuild_tells n l hn (by omega)) (Tells.pos rfl (Tells.bind (Same_tells _ _ _ _ (buildL_fine n l)) (Tells.now' (by simp))))))
    refine Tells.pos rfl ?_
    by_cases h6 : n > 6
    · refine Tells.pos h6 ?_
      by_cases h64 : n ≤ 64
      · rw [decide_eq_true h64]; exact big
      rw [decide_eq_false h64]; exact main (by omega)
    exact Tells.neg h6 (main (by omega))
end Go.Proofs.Ytjjlhbgpdncpcaa.P.M
end
section
namespace Go.Proofs.Ytjjlhbgpdncpcaa.P
open Go.ChangeShapes Go.WideShapes Go.ChangeAt Go.RowKit Go.Proofs.YtjjlhbgpdncpcaaW.PrintWords Go.Proofs.YtjjlhbgpdncpcaaW.PrintLast Go.Proofs.YtjjlhbgpdncpcaaW.PrintMore
set_option linter.unusedVariables false
section
variable {H : Type} {enc : TypeId × Value → H} {W : World} {v : Value} {d : DataW H} {ps : List MemPlace} {held : Bool}
theorem list_of_cells {A : Option Addr} {L C : Nat} {Z : List Int} (hl : L ≤ C) (hm : C ≤ maxLen) (hz : Z.length = C) (hn : A = none → C = 0) (hc : ∀ a', A = some a' → ∀ c, c < C → W.cell? (a'.add c) = some (.int .i64 (Z.getD c 0))) (hw : ∀ n ∈ Z, (Lit.int .i64 n).wf = true) :
    (Kd.slice 3 (Kd.int .i64)).K W (Z.take L) [.slice A L C] := by
  have key : (A = none ∧ L = 0 ∧ C = 0 ∧ Z = []) ∨ ∃ x, A = some x ∧ L ≤ C ∧ C ≤ maxLen ∧ Z.length = C ∧ (∀ i, i < Z.length → W.cell? (x.add i) = some (.int .i64 (Z.getD i 0))) ∧ ∀ n ∈ Z, (Lit.int .i64 n).wf = true := by
    cases A with
    | none =>
      have h0 := hn rfl; subst h0
      exact .inl ⟨rfl, by omega, rfl, List.eq_nil_of_length_eq_zero hz⟩
    | some x => exact .inr ⟨x, rfl, hl, hm, hz, fun i hi => hc x rfl i (by omega), hw⟩
  have hlen : (Z.take L).length = L := by rw [List.length_take]; omega
  refine ⟨A, C, by rw [hlen], by omega, ?_⟩
  rw [hlen]
  refine ⟨hlen, Nat.le_trans (Nat.le_trans hl hm) (by decide), fun h0 => ?_⟩
  rcases key with ⟨_, h2, _⟩ | ⟨x, rfl, _⟩
  · omega
  · refine ⟨x, rfl, fun j p hj => ⟨[.int .i64 p], rfl, rfl, fun i u hu => ?_⟩⟩
    have hi : i = 0 ∧ u = .int .i64 p := by
      cases i with
      | zero => simp at hu; exact ⟨rfl, hu.symm⟩
      | succ i => simp at hu
    obtain ⟨rfl, rfl⟩ := hi
    have hj' : j < L := by
      have := (List.getElem?_eq_some_iff.1 hj).1; omega
    have hg : Z.getD j 0 = p := by
      rw [List.getElem?_take_of_lt hj'] at hj; rw [List.getD_eq_getElem?_getD, hj]; rfl
    have := hc x rfl j (by omega); rw [hg] at this
    show W.cell? (x.add (j * 1 + 0)) = _
    rw [Nat.mul_one, Nat.add_zero]
    exact this
set_option maxRecDepth 100000 in
theorem open_rows {base : Nat} (hv : Value.okWide Try.prog W .any base 28 v) (h : DataW.Trod enc Try.prog W 0 (fun _ => true) held 28 v d ps) :
    ∃ (a : Option Addr) (c : Nat) (l : List (List Int)), v = .slice a l.length c ∧ (Kd.slice 3 (Kd.int .i64)).C W a l.length l ∧ l.length ≤ c := by
  obtain ⟨a, len, cap, rfl⟩ := okWide_slice Try.underlying28 hv
  obtain ⟨fuel, hf⟩ := h
  rcases Go.Deep.open_int_rows Try.underlying28 Try.underlying22 Try.underlying3 (by kernel_rfl) (by kernel_rfl) hf with ⟨hcs, _⟩ | ⟨x, l, c, A, L, C, Z, hcs, _, hl, hm, _, hr⟩
  · simp [Value.cells] at hcs
    obtain ⟨rfl, rfl, rfl⟩ := hcs
    exact ⟨none, 0, [], rfl, Kd.C_nil _ _, Nat.le_refl _⟩
  · simp [Value.cells] at hcs
    obtain ⟨rfl, rfl, rfl⟩ := hcs
    refine ⟨some x, cap, (List.range len).map (fun r => (Z r).take (L r)), by simp, ?_, by simp; exact hl⟩; rw [List.length_map, List.length_range]
    refine ⟨by simp, Nat.le_trans (Nat.le_trans hl hm) (by decide), fun h0 => ⟨x, rfl, fun j p hj => ?_⟩⟩
    have hj' : j < len := by
      have := (List.getElem?_eq_some_iff.1 hj).1
      simpa using this
    have hp : p = (Z j).take (L j) := by
      have := (List.getElem?_eq_some_iff.1 hj).2
      simpa using this.symm
    subst hp; obtain ⟨h1, h2, h3, h4, h5, h6, h7⟩ := hr j (by omega)
    refine ⟨_, rfl, list_of_cells h2 h3 h4 h6 (fun a' e c hc => (h7 a' e).2 c hc) h5, fun i u hu => ?_⟩
    have hi : i = 0 ∧ u = .slice (A j) (L j) (C j) := by
      cases i with
      | zero => simp at hu; exact ⟨rfl, hu.symm⟩
      | succ i => simp at hu
    obtain ⟨rfl, rfl⟩ := hi
    show W.cell? (x.add (j * 1 + 0)) = _
    rw [Nat.mul_one, Nat.add_zero]
    exact h1
end
end Go.Proofs.Ytjjlhbgpdncpcaa.P
end
section
namespace Go.Proofs.Ytjjlhbgpdncpcaa.permBuild
open Go.ChangeShapes Go.WideShapes Go.ChangeAt Go.RowKit Go.Proofs.YtjjlhbgpdncpcaaW.PrintWords Go.Proofs.YtjjlhbgpdncpcaaW.PrintLast Go.Proofs.YtjjlhbgpdncpcaaW.PrintMore
open Go.ChangeMaps (open_string shut_string)
set_option linter.unusedVariables false
theorem own : ownKnob Try.prog.godebug = none := by kernel_rfl
theorem laidOut : laidOutB Try.prog = true := by kernel_rfl
set_option maxRecDepth 100000 in
theorem lifted (os : Os) (started : os.Started) (H : Type) (enc : TypeId × Value → H) :
    ReturnsInHanded {} Try.checked os 6 .any (Rows.permBuildSpec.pre6 enc Try.prog Try.f6 Rows.permBuildRow.domain false) (Rows.permBuildSpec.post enc Try.prog Try.f6 false true false false) := by
  refine returnsInHanded_of_change_sized (C := Try.checked) own started (by kernel_rfl) Try.func6
    (ChangeSpec.witness6 (enc := enc) (C := Try.checked) false ⟨#[], #[.int .i64 0, .slice none 0 0], []⟩ 8 (by kernel_rfl) (by kernel_rfl) (by kernel_rfl) (by kernel_rfl)) ?_
  intro W base args ds gs before hval0 hW hcnd hsz0 _
  have hval : ∀ (j : Nat) t v, Try.f6.params[j]? = some t → args[j]? = some v → Value.okWide Try.prog W .any base t v := hval0
  have hW' := hW
  obtain ⟨p, q, hA0, hV, rfl, hfz, hnd⟩ := hW
  have hA : DataW.TrodAll enc Try.prog W 0 (fun _ => true) true Try.f6.params.toList args.toList ds p := hA0
  rw [Try.params6] at hA hval
  obtain ⟨v0, vs0, d0, ds0, p0, q0, hargs, rfl, rfl, h0, r0⟩ := trodAll_cons hA
  obtain ⟨v1, vs1, d1, ds1, p1, q1, rfl, rfl, rfl, h1, r1⟩ := trodAll_cons r0
  obtain ⟨rfl, rfl, rfl⟩ := trodAll_nil r1
  obtain rfl : args = #[v0, v1] := by cases args; simp_all
  obtain ⟨rfl, rfl⟩ := trodVars_none hV
  obtain ⟨a0, rfl, rfl, rfl, w0⟩ := open_int Try.underlying3 (hval 0 3 v0 rfl rfl) h0
  have k1 := h1
  have lt1 : ∀ x ∈ p1, x.block < W.heap.size := by obtain ⟨m, hm⟩ := k1; exact DataW.trod_lt m _ _ _ hm
  obtain ⟨a1, c1, l1, rfl, hr1, hm1⟩ := P.open_rows (hval 1 28 v1 rfl rfl) h1
  clear hA0 hval0 hsz0
  obtain ⟨k, hk⟩ := P.M.build_true a0 l1 w0
  refine (P.l30_PermBuild.callsz k a0 _ _ l1 true W hr1 hm1 hk rfl).mono fun e W' ⟨he, bel⟩ => ?_
  subst he
  exact ⟨_, rfl, _, _, _, [], _, [], hW', trodAll_mk1 (shut_bool Try.underlying4 _), (trodAll_cons_mk (shut_int Try.underlying3 w0) (trodAll_cons_mk (Below.trod laidOut (by kernel_rfl) (of_decide_eq_true (by kernel_rfl)) k1 bel lt1) trodAll_mk0)), rfl, bel.frame _, fun h => by cases h⟩
theorem over : Rows.permBuildRow.holds Try.pinned (OpenSpec.ofChange Rows.permBuildSpec) :=
  OpenClaim.holds_of_wide 6 Try.f6 rfl rfl rfl rfl rfl rfl rfl ⟨rfl, rfl, rfl, rfl, rfl⟩ rfl rfl rfl rfl rfl (by kernel_rfl) Try.func6 (by kernel_rfl)
    (of_decide_eq_true (by kernel_rfl)) (by unfold Func.isWrapper; first | (rw [if_pos (by decide +kernel)]; kernel_rfl) | (rw [if_neg (by decide +kernel)]; exact ⟨rfl, rfl⟩))
    (fun os started H enc _ => lifted os started H enc)
end Go.Proofs.Ytjjlhbgpdncpcaa.permBuild
namespace Go.Proofs.Ytjjlhbgpdncpcaa
theorem permBuild_holds : Rows.PermBuildSaid := permBuild.over
end Go.Proofs.Ytjjlhbgpdncpcaa
end
