/- The law of the claim, proved for every input: the last of its texts. -/
import Derived.Test.YtjjlhbgpdncpcaaRows
import Derived.Deep.Matrix
import Derived.WalkKit
import Derived.ProofKit
import Derived.OpenShut
import Derived.ShutString
import Derived.ChangeOld
import Derived.Below
import Derived.SizedLaws
import Derived.Carry
import Derived.Test.YtjjlhbgpdncpcaaMs5
import Derived.Test.YtjjlhbgpdncpcaaMs2
import Derived.Test.YtjjlhbgpdncpcaaMs1
import Derived.Test.YtjjlhbgpdncpcaaMs4
section
set_option linter.unusedVariables false
set_option linter.unusedSimpArgs false
namespace Go.Proofs.Ytjjlhbgpdncpcaa.P.M
open Go.RowKit Go.Proofs.YtjjlhbgpdncpcaaW.PrintWords Go.Proofs.YtjjlhbgpdncpcaaW.PrintLast Go.Proofs.YtjjlhbgpdncpcaaW.PrintMore
def gensOf (l : List S74) : List (List Int) := (l.map (fun x => x.f2)).flatten
theorem gensOf_take (l : List S74) (i : Nat) (h : i < l.length) : gensOf (l.take (i + 1)) = gensOf (l.take i) ++ l[i].f2 := by
  rw [List.take_succ_eq_append_getElem h]
  simp only [gensOf, List.map_append, List.flatten_append, List.map_cons, List.map_nil, List.flatten_cons, List.flatten_nil, List.append_nil]
theorem mem_gensOf {l : List S74} {g : List Int} : g ∈ gensOf l ↔ ∃ x ∈ l, g ∈ x.f2 := by
  simp only [gensOf, List.mem_flatten, List.mem_map]
  constructor
  · rintro ⟨_, ⟨x, hx, rfl⟩, hg⟩; exact ⟨x, hx, hg⟩
  · rintro ⟨x, hx, hg⟩; exact ⟨_, ⟨x, hx, rfl⟩, hg⟩
theorem orbF_mem {n : Nat} {G : List Int → Prop} {b : Int} {y : Int} : y ∈ orbF n G b 0 n ↔ 0 ≤ y ∧ y < n ∧ ∃ q, LeastAt n G b y q := by
  unfold orbF
  rw [List.mem_filter, List.mem_map]
  constructor
  · rintro ⟨⟨x, hx, rfl⟩, h⟩
    rw [List.mem_range'] at hx; obtain ⟨i, hi, rfl⟩ := hx
    exact ⟨by omega, by omega, by simpa using h⟩
  · rintro ⟨h0, h1, h⟩
    refine ⟨⟨y.toNat, ?_, by omega⟩, by simpa using h⟩; rw [List.mem_range']
    exact ⟨y.toNat, by omega, by omega⟩
theorem orbF_nodup (n : Nat) (G : List Int → Prop) (b : Int) : (orbF n G b 0 n).Nodup := by
  unfold orbF
  refine List.Pairwise.filter _ ?_
  exact map_nodup List.nodup_range' (fun x _ y _ e => by omega)
structure IsG (n : Nat) (G : List Int → Prop) : Prop where
  n1 : 1 ≤ n
  n64 : n ≤ 64
  ex : ∃ l : List (List Int), (∀ p ∈ l, Pm n p) ∧ G = Gp n l
theorem IsG.pm {n : Nat} {G : List Int → Prop} (h : IsG n G) {p : List Int} (hp : G p) : Pm n p := by
  obtain ⟨l, hl, rfl⟩ := h.ex; exact hp.pm hl
theorem IsG.one {n : Nat} {G : List Int → Prop} (h : IsG n G) : G (idL n) := by
  obtain ⟨l, hl, rfl⟩ := h.ex; exact .one
theorem IsG.mul {n : Nat} {G : List Int → Prop} (h : IsG n G) {p q : List Int} (hp : G p) (hq : G q) : G (mulL p q) := by
  obtain ⟨l, hl, rfl⟩ := h.ex; exact Cl.mul' hl hp hq
theorem IsG.inv {n : Nat} {G : List Int → Prop} (h : IsG n G) {p : List Int} (hp : G p) : G (invL p) := by
  obtain ⟨l, hl, rfl⟩ := h.ex; exact Cl.inv hl hp
theorem IsG.least {n : Nat} {G : List Int → Prop} (h : IsG n G) {b : Nat} (hb : b < n) {g : List Int} (hg : G g) (hf : Fx (b : Int) g) : ∃ q, LeastAt n G (b : Int) (ap g (b : Int)) q := by
  obtain ⟨l, hl, e⟩ := h.ex
  obtain ⟨T0, T, _, _, hok, hc, hG⟩ := tower_tells h.n1 h.n64 l hl
  have eG : Gn n T 0 = G := by rw [e]; exact funext (fun p => propext (hG p))
  have hgp := h.pm hg
  have hsb := stab hok hc b (by omega) (by rw [eG]; exact hg) hf
  have hsf := (sfI hok (b := (b : Int)) (by omega) (by omega) (fun c k1 k2 => hc c (by omega) k2) hgp hf).2 hsb
  rw [show (n - (b : Int)).toNat = (n - ((b : Int) + 1)).toNat + 1 by omega, Sf] at hsf
  have hx := hgp.rng (i := (b : Int)) (by omega) (by omega)
  obtain ⟨q, _, hq⟩ := least_of_rep hok h.n64 hc hb hx.1 hx.2 hsf.1
  rw [eG] at hq
  exact ⟨q, hq⟩
theorem IsG.self {n : Nat} {G : List Int → Prop} (h : IsG n G) {b : Nat} (hb : b < n) : ∃ q, LeastAt n G (b : Int) (b : Int) q := by
  have := h.least hb h.one (Fx.id n (by omega))
  rwa [ap_id (by omega) (by omega)] at this
theorem IsG.level {n : Nat} {G : List Int → Prop} (h : IsG n G) {b : Nat} (hb : b < n) {g : List Int} (hg : G g) (hf : Fx (b : Int) g) (hne : ap g (b : Int) ≠ b) : lvP n G (b : Int) ∈ chainP n G ∧ ap g (b : Int) ∈ (lvP n G (b : Int)).f1 := by
  have hx := (h.pm hg).rng (i := (b : Int)) (by omega) (by omega)
  have m1 : ap g (b : Int) ∈ orbF n G (b : Int) 0 n := orbF_mem.2 ⟨hx.1, hx.2, h.least hb hg hf⟩
  have m2 : (b : Int) ∈ orbF n G (b : Int) 0 n := orbF_mem.2 ⟨by omega, by omega, h.self hb⟩
  refine ⟨?_, m1⟩
  have hlen : 1 < (orbF n G (b : Int) 0 n).length := by
    have := sub_len (l1 := [ap g (b : Int), (b : Int)]) (l2 := orbF n G (b : Int) 0 n) (by simp [hne]) (fun x hx => by
      simp only [List.mem_cons, List.not_mem_nil, or_false] at hx
      rcases hx with rfl | rfl
      · exact m1
      · exact m2)
    exact this
  unfold chainP lvsF
  rw [List.mem_filter, List.mem_map]
  refine ⟨⟨b, ?_, rfl⟩, decide_eq_true hlen⟩
  rw [List.mem_range']
  exact ⟨b, by omega, by omega⟩
theorem lvP_reps {n : Nat} {G : List Int → Prop} {b x : Int} (hx : x ∈ (lvP n G b).f1) : leastQ n G b x ∈ (lvP n G b).f2 := List.mem_map.2 ⟨x, hx, rfl⟩
theorem gens_pm {n : Nat} {G : List Int → Prop} (h : IsG n G) : ∀ g ∈ gensOf (chainP n G), G g := by
  intro g hg
  obtain ⟨x, hx, hgx⟩ := mem_gensOf.1 hg
  obtain ⟨c, hc, rfl, _⟩ := chainP_mem hx
  simp only [lvP, List.mem_map] at hgx
  obtain ⟨y, hy, rfl⟩ := hgx
  obtain ⟨_, _, q, hq⟩ := orbF_mem.1 hy
  rw [leastQ_eq hq]; exact hq.1
theorem gens_all {n : Nat} {G : List Int → Prop} (h : IsG n G) : ∀ (m b : Nat) (g : List Int), b + m = n → G g → Fx (b : Int) g → Gp n (gensOf (chainP n G)) g
  | 0, b, g, hb, hg, hf => by
    have : (b : Int) = n := by omega
    rw [this] at hf; rw [hf.all (h.pm hg)]
    exact .one
  | m + 1, b, g, hb, hg, hf => by
    have hp := h.pm hg
    by_cases e : ap g (b : Int) = b
    · exact gens_all h m (b + 1) g (by omega) hg (show Fx ((b : Int) + 1) g from hf.up e)
    · have hl := h.level (by omega) hg hf e; obtain ⟨_, _, q, hq⟩ := orbF_mem.1 hl.2; have hqp := h.pm hq.1; have hs := strip_fx (b := (b : Int)) (by omega) (by omega) hp hf hqp hq.2.1 hq.2.2.1; have ih := gens_all h m (b + 1) _ (by omega) (h.mul hg (h.inv hq.1)) (show Fx ((b : Int) + 1) _ from hs.2); have hin : q ∈ gensOf (chainP n G) := mem_gensOf.2 ⟨_, hl.1, by have := lvP_reps hl.2; rwa [leastQ_eq hq] at this⟩; have := Cl.mul ih hin
      rwa [mul_inv_cancel hp hqp] at this
theorem gens_eq {n : Nat} {G : List Int → Prop} (h : IsG n G) : Gp n (gensOf (chainP n G)) = G := by
  refine funext (fun p => propext ⟨fun hp => ?_, fun hp => gens_all h n 0 p (by omega) hp (fun j h0 h1 => by omega)⟩)
  exact Cl.least (H := G) h.one (fun p g hp hg => h.mul hp (gens_pm h g hg)) hp
theorem IsG.of {n : Nat} (h1 : 1 ≤ n) (h64 : n ≤ 64) {l : List (List Int)} (hl : ∀ p ∈ l, Pm n p) : IsG n (Gp n l) := ⟨h1, h64, l, hl, rfl⟩
theorem gensE_ok {n : Nat} (h1 : 1 ≤ n) (h64 : n ≤ 64) {l : List (List Int)} (hl : ∀ p ∈ l, Pm n p) : gensE (n : Int) l = 0 := by
  unfold gensE
  rw [if_neg (by omega)]
  exact allL_zero.2 (fun p hp => ⟨checkL_zero.2 ⟨by rw [(hl p hp).1]; exact hl p hp, by have := (hl p hp).1; omega, by have := (hl p hp).1; omega⟩, by rw [(hl p hp).1]⟩)
theorem buildL_ok {n : Nat} (h1 : 1 ≤ n) (h64 : n ≤ 64) {l : List (List Int)} (hl : ∀ p ∈ l, Pm n p) : buildL (n : Int) l = ((n : Int), chainP n (Gp n l), 0) := by
  unfold buildL
  rw [if_pos (gensE_ok h1 h64 hl)]; rfl
theorem buildL_canon {n : Nat} {G : List Int → Prop} (h : IsG n G) : buildL (n : Int) (gensOf (chainP n G)) = ((n : Int), chainP n G, 0) := by
  rw [buildL_ok h.n1 h.n64 (fun p hp => h.pm (gens_pm h p hp)), gens_eq h]
noncomputable def ccL (n : Int) (l : List S74) : Int := if n < 1 ∨ 64 < n then 4 else if (buildL n (gensOf l)).2.2 = 0 ∧ n = (buildL n (gensOf l)).1 ∧ l = (buildL n (gensOf l)).2.1 then 0 else 5
theorem ccL_zero {n : Int} {l : List S74} (h : ccL n l = 0) : ∃ (m : Nat) (G : List Int → Prop), n = m ∧ IsG m G ∧ l = chainP m G := by
  unfold ccL at h
  split at h
  · cases h
  · split at h
    · rename_i h2
      obtain ⟨h3, h4, h5⟩ := h2
      have he : gensE n (gensOf l) = 0 := by
        apply Classical.byContradiction; intro hc; unfold buildL at h3; rw [if_neg hc] at h3
        exact hc h3
      obtain ⟨m, rfl, h1, h64, hg⟩ := gensE_zero he
      refine ⟨m, Gp m (gensOf l), rfl, IsG.of h1 h64 hg, ?_⟩; rw [buildL_ok h1 h64 hg] at h5
      exact h5
    · cases h
theorem ccL_canon {n : Nat} {G : List Int → Prop} (h : IsG n G) : ccL (n : Int) (chainP n G) = 0 := by
  unfold ccL
  have := h.n1
  have := h.n64
  rw [if_neg (by omega), buildL_canon h, if_pos ⟨rfl, rfl, rfl⟩]
theorem ccL_form {n : Int} {l : List S74} (h1 : ¬ (n < 1 ∨ 64 < n)) (h : (n < l.length) ∨ ∃ x ∈ l, n < x.f1.length ∨ x.f2.length ≠ x.f1.length) : ccL n l = 5 := by
  have hne : ccL n l ≠ 0 := by
    intro hz; obtain ⟨m, G, rfl, hG, rfl⟩ := ccL_zero hz; have hs := chainP_small (n := m) (G := G) (fun p hp => hG.pm hp)
    rcases h with h | ⟨x, hx, h⟩
    · have := hs.1; omega
    · have := hs.2 x hx
      rcases h with h | h
      · omega
      · exact h this.2.1
  unfold ccL at hne ⊢
  rw [if_neg h1] at hne ⊢
  split
  · rename_i h2
    rw [if_pos h2] at hne; exact absurd rfl hne
  · rfl
def SmallC (l : List S74) : Prop := l.length ≤ 70 ∧ ∀ x ∈ l, x.f1.length ≤ 100 ∧ x.f2.length ≤ 1000 ∧ ∀ r ∈ x.f2, r.length ≤ 1000
theorem SmallC.fine {l : List S74} (h : SmallC l) : Fine l := ⟨by have := h.1; unfold Bg; omega, fun x hx => by
  have := h.2 x hx
  exact ⟨by unfold Bg; omega, by unfold Bg; omega, fun r hr => by have := this.2.2 r hr; unfold Bg; omega⟩⟩
theorem SmallC.gens {l : List S74} (h : SmallC l) : ∀ i : Nat, i ≤ l.length → (gensOf (l.take i)).length ≤ 1000 * i
  | 0, _ => by simp [gensOf]
  | i + 1, hi => by
    rw [gensOf_take l i (by omega), List.length_append]; have := SmallC.gens h i (by omega); have := (h.2 _ (List.getElem_mem (show i < l.length by omega))).2.1; omega
theorem SmallC.total {l : List S74} (h : SmallC l) : (gensOf l).length ≤ 70000 := by
  have := h.gens l.length (Nat.le_refl _)
  rw [List.take_of_length_le (Nat.le_refl _)] at this
  have := h.1
  omega
theorem Equal_tells (x y : List Int) (hb : x.length ≤ 9223372036854775807) : Tells (fun k => slEq.f k x y) (decide (x = y)) := by
  obtain ⟨k, hk⟩ := Equal_is x y hb
  exact Tells.mono (fun k => slEq.mono x y k) hk
theorem pcc_l1 (n : Int) (x y : List S74) (hxy : x.length = y.length) (hf : Fine x) : ∀ (m i : Nat), i + m = x.length → x.take i = y.take i → Tells (fun k => perm_CheckChain.l1 k x (x.length : Int) (i : Int) n y) (if x = y then 0 else 5)
  | 0, i, hi, ht => by
    refine Tells.shift ?_; simp only [perm_CheckChain.l1]
    refine Tells.neg (by omega) (Tells.now' ?_); rw [List.take_of_length_le (by omega), List.take_of_length_le (by omega)] at ht; rw [if_pos ht]
  | m + 1, i, hi, ht => by
    have hx : i < x.length := by omega
    have hy : i < y.length := by omega
    have hb := hf.2 _ (List.getElem_mem hx); have hl := hf.1; unfold Bg at hb hl; have bad : x[i] ≠ y[i] → (5 : Int) = if x = y then 0 else 5 := fun h => by rw [if_neg (fun e => h (by simp only [e]))]
    refine Tells.shift ?_; simp only [perm_CheckChain.l1, rd74_at hx, rd74_at hy]
    refine Tells.pos (by omega) (Tells.pos (by omega) (Tells.pos (by omega) (Tells.pos (by omega) ?_)))
    by_cases e0 : x[i].f0 = y[i].f0
    · refine Tells.pos e0 (Tells.bind (Equal_tells _ _ (by omega)) ?_)
      by_cases e1 : x[i].f1 = y[i].f1
      · refine Tells.pos (decide_eq_true e1) (Tells.bind (a := decide (x[i].f2 = y[i].f2)) Tells.now ?_)
        by_cases e2 : x[i].f2 = y[i].f2
        · refine Tells.pos (decide_eq_true e2) ?_; rw [w64 (n := (i : Int) + 1) (by omega) (by omega)]
          refine pcc_l1 n x y hxy hf m (i + 1) (by omega) ?_; rw [List.take_succ_eq_append_getElem hx, List.take_succ_eq_append_getElem hy, ht, s74_ext e0 e1 e2]
        · exact Tells.neg (by rw [decide_eq_false e2]; decide) (Tells.now' (bad (fun h => e2 (by rw [h]))))
      · exact Tells.neg (by rw [decide_eq_false e1]; decide) (Tells.now' (bad (fun h => e1 (by rw [h]))))
    · exact Tells.neg e0 (Tells.now' (bad (fun h => e0 (by rw [h]))))
theorem pcc_l0 (n : Int) {l : List S74} (h : SmallC l) (h1 : 1 ≤ n) (h64 : n ≤ 64) : ∀ (m i : Nat), i + m = l.length → Tells (fun k => perm_CheckChain.l0 k (gensOf (l.take i)) l (l.length : Int) (i : Int) n l) (ccL n l)
  | 0, i, hi => by
    refine Tells.shift ?_; simp only [perm_CheckChain.l0]; rw [List.take_of_length_le (by omega)]
    refine Tells.neg (by omega) (Tells.bind (PBuild_tells n (gensOf l)) ?_)
    have hcc : ccL n l = if (buildL n (gensOf l)).2.2 = 0 ∧ n = (buildL n (gensOf l)).1 ∧ l = (buildL n (gensOf l)).2.1 then 0 else 5 := by
      unfold ccL; rw [if_neg (by omega)]
    rw [hcc]
    have bad : ¬ ((buildL n (gensOf l)).2.2 = 0 ∧ n = (buildL n (gensOf l)).1 ∧ l = (buildL n (gensOf l)).2.1) → Tells (fun k => perm_CheckChain.j1 k true n l (buildL n (gensOf l)).1 (buildL n (gensOf l)).2.1) (if (buildL n (gensOf l)).2.2 = 0 ∧ n = (buildL n (gensOf l)).1 ∧ l = (buildL n (gensOf l)).2.1 then 0 else 5) := by
      intro hb
      refine Tells.shift ?_; simp only [perm_CheckChain.j1]
      refine Tells.pos trivial (Tells.now' ?_); rw [if_neg hb]
    by_cases he : (buildL n (gensOf l)).2.2 = 0
    · refine Tells.pos he ?_
      have hdeg : (buildL n (gensOf l)).1 = n := by
        unfold buildL at he ⊢
        split
        · rfl
        · rename_i hc; rw [if_neg hc] at he; exact absurd he hc
      by_cases hl : (buildL n (gensOf l)).2.1.length = l.length
      · rw [show (((buildL n (gensOf l)).2.1.length : Int) != (l.length : Int)) = false by simp [hl]]
        refine Tells.shift ?_; simp only [perm_CheckChain.j1]
        refine Tells.neg (by simp) ?_
        refine (pcc_l1 _ l _ hl.symm h.fine l.length 0 (by omega) rfl).eq ?_
        by_cases hs : l = (buildL n (gensOf l)).2.1
        · rw [if_pos hs, if_pos ⟨he, hdeg.symm, hs⟩]
        · rw [if_neg hs, if_neg (fun k => hs k.2.2)]
      · rw [show (((buildL n (gensOf l)).2.1.length : Int) != (l.length : Int)) = true by simp; omega]
        exact bad (fun k => hl (congrArg List.length k.2.2).symm)
    · exact Tells.neg he (bad (fun k => he k.1))
  | m + 1, i, hi => by
    have hil : i < l.length := by omega
    have hg1 := h.gens i (by omega); have hg2 := (h.2 _ (List.getElem_mem hil)).2.1; have hg3 := h.1
    refine Tells.shift ?_; simp only [perm_CheckChain.l0, rd74_at hil]
    refine Tells.pos (by omega) (Tells.pos (by omega) (Tells.pos (by omega) ?_))
    by_cases e1 : (l[i].f1.length : Int) > n
    · exact Tells.pos e1 (Tells.now' (ccL_form (by omega) (.inr ⟨_, List.getElem_mem hil, .inl e1⟩)).symm)
    · refine Tells.neg e1 ?_
      by_cases e2 : (l[i].f2.length : Int) = (l[i].f1.length : Int)
      · refine Tells.pos e2 (Tells.pos (by omega) ?_); rw [w64 (n := (i : Int) + 1) (by omega) (by omega), ← gensOf_take l i hil]
        exact pcc_l0 n h h1 h64 m (i + 1) (by omega)
      · exact Tells.neg e2 (Tells.now' (ccL_form (by omega) (.inr ⟨_, List.getElem_mem hil, .inr (by omega)⟩)).symm)
theorem PCheck_tells (n : Int) {l : List S74} (h : SmallC l) : Tells (fun k => perm_CheckChain.f k n l) (ccL n l) := by
  unfold perm_CheckChain.f
  by_cases hn : n < 1 ∨ 64 < n
  · rw [degree_bad n hn]
    refine Tells.bind (a := 4) Tells.now (Tells.neg (by decide) (Tells.now' ?_)); unfold ccL; rw [if_pos hn]
  rw [degree_ok n (by omega) (by omega)]
  refine Tells.bind (a := 0) Tells.now (Tells.pos rfl ?_)
  by_cases hl : (l.length : Int) > n
  · exact Tells.pos hl (Tells.now' (ccL_form hn (.inl hl)).symm)
  exact Tells.neg hl (pcc_l0 n h (by omega) (by omega) l.length 0 (by omega))
end Go.Proofs.Ytjjlhbgpdncpcaa.P.M
end
section
set_option linter.unusedVariables false
set_option linter.unusedSimpArgs false
namespace Go.Proofs.Ytjjlhbgpdncpcaa.P.M
open Go.RowKit Go.Proofs.YtjjlhbgpdncpcaaW.PrintWords Go.Proofs.YtjjlhbgpdncpcaaW.PrintLast Go.Proofs.YtjjlhbgpdncpcaaW.PrintMore
def StG (G : List Int → Prop) (b : Int) : List Int → Prop := fun p => G p ∧ Fx b p
theorem Fx.le {b c : Int} {p : List Int} (h : Fx c p) (hb : b ≤ c) : Fx b p := fun i h0 h1 => h i h0 (by omega)
theorem lvsF_mem {n : Nat} {G : List Int → Prop} {b m : Nat} {x : S74} (h : x ∈ lvsF n G b m) : ∃ c : Nat, b ≤ c ∧ c < b + m ∧ x = lvP n G (c : Int) ∧ 1 < x.f1.length := by
  unfold lvsF at h
  rw [List.mem_filter, List.mem_map] at h
  obtain ⟨⟨c, hc, rfl⟩, h2⟩ := h
  rw [List.mem_range'] at hc
  obtain ⟨i, hi, rfl⟩ := hc
  exact ⟨_, by omega, by omega, rfl, by simpa using h2⟩
theorem mem_lvsF {n : Nat} {G : List Int → Prop} {b m c : Nat} (h1 : b ≤ c) (h2 : c < b + m) (h : 1 < (lvP n G (c : Int)).f1.length) : lvP n G (c : Int) ∈ lvsF n G b m := by
  unfold lvsF
  rw [List.mem_filter, List.mem_map]
  refine ⟨⟨c, ?_, rfl⟩, decide_eq_true h⟩
  rw [List.mem_range']
  exact ⟨c - b, by omega, by omega⟩
theorem IsG.level_len {n : Nat} {G : List Int → Prop} (h : IsG n G) {b : Nat} (hb : b < n) {g : List Int} (hg : G g) (hf : Fx (b : Int) g) (hne : ap g (b : Int) ≠ b) : 1 < (lvP n G (b : Int)).f1.length := by
  obtain ⟨_, _, e, h1⟩ := chainP_mem (h.level hb hg hf hne).1
  exact h1
theorem gens_from_pm {n : Nat} {G : List Int → Prop} {b m : Nat} : ∀ g ∈ gensOf (lvsF n G b m), StG G (b : Int) g := by
  intro g hg
  obtain ⟨x, hx, hgx⟩ := mem_gensOf.1 hg
  obtain ⟨c, hc, _, rfl, _⟩ := lvsF_mem hx
  simp only [lvP, List.mem_map] at hgx
  obtain ⟨y, hy, rfl⟩ := hgx
  obtain ⟨_, _, q, hq⟩ := orbF_mem.1 hy
  rw [leastQ_eq hq]; exact ⟨hq.1, hq.2.1.le (by omega)⟩
theorem gens_from {n : Nat} {G : List Int → Prop} (h : IsG n G) (b0 : Nat) : ∀ (m b : Nat) (g : List Int), b + m = n → b0 ≤ b → G g → Fx (b : Int) g → Gp n (gensOf (lvsF n G b0 (n - b0))) g
  | 0, b, g, hb, hb0, hg, hf => by
    have : (b : Int) = n := by omega
    rw [this] at hf; rw [hf.all (h.pm hg)]
    exact .one
  | m + 1, b, g, hb, hb0, hg, hf => by
    have hp := h.pm hg
    by_cases e : ap g (b : Int) = b
    · exact gens_from h b0 m (b + 1) g (by omega) (by omega) hg (show Fx ((b : Int) + 1) g from hf.up e)
    · have hl := h.level (by omega) hg hf e; obtain ⟨_, _, q, hq⟩ := orbF_mem.1 hl.2; have hqp := h.pm hq.1; have hs := strip_fx (b := (b : Int)) (by omega) (by omega) hp hf hqp hq.2.1 hq.2.2.1; have ih := gens_from h b0 m (b + 1) _ (by omega) (by omega) (h.mul hg (h.inv hq.1)) (show Fx ((b : Int) + 1) _ from hs.2); have hin : q ∈ gensOf (lvsF n G b0 (n - b0)) := mem_gensOf.2 ⟨_, mem_lvsF hb0 (by omega) (h.level_len (by omega) hg hf e), by have := lvP_reps hl.2; rwa [leastQ_eq hq] at this⟩; have := Cl.mul ih hin
      rwa [mul_inv_cancel hp hqp] at this
theorem StG.isG {n : Nat} {G : List Int → Prop} (h : IsG n G) {b : Nat} (hb : b ≤ n) : IsG n (StG G (b : Int)) := by
  refine ⟨h.n1, h.n64, gensOf (lvsF n G b (n - b)), fun p hp => h.pm (gens_from_pm p hp).1, funext (fun p => propext ⟨fun hp => ?_, fun hp => ?_⟩)⟩
  · exact gens_from h b (n - b) b p (by omega) (Nat.le_refl _) hp.1 hp.2
  · exact Cl.least (H := StG G (b : Int)) ⟨h.one, Fx.id n (by omega)⟩ (fun p g hp hg => ⟨h.mul hp.1 (gens_from_pm g hg).1, hp.2.mul (h.pm hp.1) (h.pm (gens_from_pm g hg).1) (by omega) (gens_from_pm g hg).2⟩) hp
theorem least_st {n : Nat} {G : List Int → Prop} {b c : Int} (hc : b ≤ c) : LeastAt n (StG G b) c = LeastAt n G c := by
  refine funext (fun x => funext (fun q => propext ⟨?_, ?_⟩))
  · rintro ⟨⟨h1, _⟩, h2, h3, h4⟩
    exact ⟨h1, h2, h3, fun s k1 k2 k3 => h4 s ⟨k1, k2.le hc⟩ k2 k3⟩
  · rintro ⟨h1, h2, h3, h4⟩
    exact ⟨⟨h1, h2.le hc⟩, h2, h3, fun s k1 k2 k3 => h4 s k1.1 k2 k3⟩
theorem lvP_st {n : Nat} {G : List Int → Prop} {b c : Int} (hc : b ≤ c) : lvP n (StG G b) c = lvP n G c := by
  have e := least_st (n := n) (G := G) hc
  have e2 : leastQ n (StG G b) c = leastQ n G c := by
    refine funext (fun x => ?_); unfold leastQ; rw [e]
  unfold lvP orbF
  rw [e, e2]
theorem lvsF_st {n : Nat} {G : List Int → Prop} {b : Int} : ∀ (m c : Nat), b ≤ (c : Int) → lvsF n (StG G b) c m = lvsF n G c m
  | 0, c, hc => rfl
  | m + 1, c, hc => by rw [lvsF_succ, lvsF_succ, lvP_st hc, lvsF_st m (c + 1) (by omega)]
theorem one_len {l : List Int} (hnd : l.Nodup) {c : Int} (h : ∀ y ∈ l, y = c) : l.length ≤ 1 := by
  have := sub_len hnd (l2 := [c]) (fun y hy => by rw [h y hy]; simp)
  simpa using this
theorem lvP_one {n : Nat} {H : List Int → Prop} {c : Int} (h : ∀ p, H p → ap p c = c) : ¬ 1 < (lvP n H c).f1.length := by
  have := one_len (orbF_nodup n H c) (c := c) (fun y hy => by
    obtain ⟨_, _, q, hq⟩ := orbF_mem.1 hy; rw [← hq.2.2.1]; exact h q hq.1)
  show ¬ 1 < (orbF n H c 0 n).length
  omega
theorem lvsF_skip {n : Nat} {H : List Int → Prop} {b : Nat} (h : ∀ p, H p → Fx (b : Int) p) (m : Nat) : ∀ (k a : Nat), a + k = b → lvsF n H a (k + m) = lvsF n H b m
  | 0, a, ha => by rw [show a = b by omega, Nat.zero_add]
  | k + 1, a, ha => by
    rw [show k + 1 + m = (k + m) + 1 by omega, lvsF_succ, if_neg (lvP_one (fun p hp => h p hp _ (by omega) (by omega))), List.nil_append]
    exact lvsF_skip h m k (a + 1) (by omega)
theorem chain_st {n : Nat} {G : List Int → Prop} {b : Nat} (hb : b ≤ n) : chainP n (StG G (b : Int)) = lvsF n G b (n - b) := by
  unfold chainP
  have := lvsF_skip (n := n) (H := StG G (b : Int)) (b := b) (fun p hp => hp.2) (n - b) b 0 (by omega)
  rw [show b + (n - b) = n by omega] at this
  rw [this, lvsF_st _ _ (Int.le_refl _)]
theorem chain_first {n : Nat} {G : List Int → Prop} : ∀ (m a : Nat), a + m = n → (lvsF n G a m = [] ∧ ∀ c : Nat, a ≤ c → c < n → ¬ 1 < (lvP n G (c : Int)).f1.length) ∨ ∃ b : Nat, a ≤ b ∧ b < n ∧ (∀ c : Nat, a ≤ c → c < b → ¬ 1 < (lvP n G (c : Int)).f1.length) ∧ 1 < (lvP n G (b : Int)).f1.length ∧ lvsF n G a m = lvP n G (b : Int) :: lvsF n G (b + 1) (n - (b + 1))
  | 0, a, ha => .inl ⟨rfl, fun c h1 h2 => by omega⟩
  | m + 1, a, ha => by
    rw [lvsF_succ]
    by_cases h : 1 < (lvP n G (a : Int)).f1.length
    · rw [if_pos h]
      exact .inr ⟨a, Nat.le_refl _, by omega, fun c h1 h2 => by omega, h, by rw [show n - (a + 1) = m by omega]; rfl⟩
    · rw [if_neg h, List.nil_append]; have hh : ∀ c : Nat, a ≤ c → c < a + 1 → ¬ 1 < (lvP n G (c : Int)).f1.length := fun c h1 h2 => by rw [show c = a by omega]; exact h
      rcases chain_first (n := n) (G := G) m (a + 1) (by omega) with ⟨e, k⟩ | ⟨b, h1, h2, h3, h4, e⟩
      · exact .inl ⟨e, fun c k1 k2 => by
          by_cases q : c < a + 1
          · exact hh c k1 q
          · exact k c (by omega) k2⟩
      · exact .inr ⟨b, by omega, h2, fun c k1 k2 => by
          by_cases q : c < a + 1
          · exact hh c k1 q
          · exact h3 c (by omega) k2, h4, e⟩
theorem all_fix {n : Nat} {G : List Int → Prop} (h : IsG n G) : ∀ (b : Nat), b ≤ n → (∀ c : Nat, 0 ≤ c → c < b → ¬ 1 < (lvP n G (c : Int)).f1.length) → ∀ g, G g → Fx (b : Int) g
  | 0, hb, hc, g, hg => fun i h0 h1 => by omega
  | b + 1, hb, hc, g, hg => by
    have ih := all_fix h b (by omega) (fun c h0 h1 => hc c h0 (by omega)) g hg
    refine ih.up (Classical.byContradiction (fun e => hc b (by omega) (by omega) (h.level_len (by omega) hg ih e)))
open Classical in
theorem cls_orbF {n : Nat} (h1 : 1 ≤ n) (h64 : n ≤ 64) {l : List (List Int)} (hl : ∀ p ∈ l, Pm n p) {b : Nat} (hb : b < n) (hf : ∀ g, Gp n l g → Fx (b : Int) g) : clsL n l (b : Int) = orbF n (Gp n l) (b : Int) 0 n := by
  unfold clsL orbF
  rw [List.range_eq_range']
  refine List.filter_congr (fun y hy => ?_)
  refine decide_eq_decide.2 ⟨fun h => ?_, fun h => ?_⟩
  · obtain ⟨p, hp, rfl⟩ := h
    exact (IsG.of h1 h64 hl).least hb hp (hf p hp)
  · obtain ⟨q, hq⟩ := h
    exact ⟨q, hq.1, hq.2.2.1⟩
theorem cls_nodup (n : Nat) (l : List (List Int)) (i : Int) : (clsL n l i).Nodup := (cls_sorted n l i).imp (fun h => by omega)
theorem cls_fixed {n : Nat} {l : List (List Int)} {i : Int} (h : ∀ g, Gp n l g → ap g i = i) : (clsL n l i).length ≤ 1 :=
  one_len (cls_nodup n l i) (c := i) (fun y hy => by
    obtain ⟨_, _, p, hp, rfl⟩ := mem_cls.1 hy
    exact h p hp)
theorem mem_orbsF {n : Nat} {l : List (List Int)} {o : List Int} : o ∈ orbsF n l 0 n ↔ ∃ i : Nat, i < n ∧ MinP n l (i : Int) ∧ o = clsL n l (i : Int) := by
  unfold orbsF
  rw [List.mem_map]
  constructor
  · rintro ⟨y, hy, rfl⟩
    rw [List.mem_filter, List.mem_map] at hy; obtain ⟨⟨c, hc, rfl⟩, h2⟩ := hy; rw [List.mem_range'] at hc; obtain ⟨i, hi, rfl⟩ := hc
    exact ⟨_, by omega, by simpa using h2, rfl⟩
  · rintro ⟨i, hi, hm, rfl⟩
    refine ⟨(i : Int), ?_, rfl⟩; rw [List.mem_filter, List.mem_map]
    refine ⟨⟨i, ?_, rfl⟩, by simpa using hm⟩; rw [List.mem_range']
    exact ⟨i, by omega, by omega⟩
theorem cls_ge {n : Nat} {l : List (List Int)} (hl : ∀ p ∈ l, Pm n p) {i : Nat} (hi : i < n) (hm : MinP n l (i : Int)) {y : Int} (hy : y ∈ clsL n l (i : Int)) : (i : Int) ≤ y := by
  obtain ⟨h0, h1, h2⟩ := mem_cls.1 hy
  apply Classical.byContradiction
  intro hc
  exact hm y h0 (by omega) (h2.symm hl (by omega) (by omega))
theorem cls_self {n : Nat} {l : List (List Int)} {i : Nat} (hi : i < n) : (i : Int) ∈ clsL n l (i : Int) := mem_cls.2 ⟨by omega, by omega, OrbE.refl (by omega) (by omega)⟩
theorem sorted_first {l : List Int} (h : l.Pairwise (· < ·)) {x : Int} (hx : x ∈ l) (h0 : 0 < l.length) : ap l 0 ≤ x := by
  cases l with
  | nil => simp at h0
  | cons a t =>
    have : ap (a :: t) 0 = a := rfl; rw [this]
    rcases List.mem_cons.1 hx with e | e
    · omega
    · have := (List.pairwise_cons.1 h).1 x e; omega
theorem cls_first {n : Nat} {l : List (List Int)} (hl : ∀ p ∈ l, Pm n p) {i : Nat} (hi : i < n) (hm : MinP n l (i : Int)) : 0 < (clsL n l (i : Int)).length ∧ ap (clsL n l (i : Int)) 0 = i := by
  have hs := cls_self (l := l) hi
  have h0 : 0 < (clsL n l (i : Int)).length := List.length_pos_of_mem hs
  refine ⟨h0, ?_⟩
  have h1 := sorted_first (cls_sorted n l (i : Int)) hs h0
  have h2 := cls_ge hl hi hm (ap_mem (l := clsL n l (i : Int)) (i := 0) (by omega) (by omega))
  omega
theorem minP_fix {n : Nat} {l : List (List Int)} {b : Nat} (hf : ∀ g, Gp n l g → Fx (b : Int) g) : MinP n l (b : Int) := by
  rintro j h0 h1 ⟨p, hp, e⟩
  rw [hf p hp j h0 h1] at e
  omega
theorem orbsF_all {n : Nat} {l : List (List Int)} (hf : ∀ g, Gp n l g → Fx (n : Int) g) : ∀ (m i : Nat), i + m = n → (orbsF n l i m).length = m
  | 0, i, hi => rfl
  | m + 1, i, hi => by
    rw [orbsF_succ, if_pos (minP_fix (fun g hg => (hf g hg).le (by omega)))]; rw [List.length_append, orbsF_all hf m (i + 1) (by omega), List.length_singleton]; omega
end Go.Proofs.Ytjjlhbgpdncpcaa.P.M
end
namespace Go.Proofs.Ytjjlhbgpdncpcaa.P
open Go.RowKit Go.Proofs.YtjjlhbgpdncpcaaW.PrintWords Go.Proofs.YtjjlhbgpdncpcaaW.PrintLast Go.Proofs.YtjjlhbgpdncpcaaW.PrintMore
set_option linter.unusedVariables false
set_option linter.unusedSimpArgs false
set_option maxHeartbeats 8000000
set_option maxRecDepth 100000
section
attribute [local go_sem] max2_int min2_int max_two min_two max_three min_three max_four min_four

end
section

end
section
attribute [local go_sem] max2_int min2_int max_two min_two max_three min_three max_four min_four

end
section
attribute [local go_sem] max2_int min2_int max_two min_two max_three min_three max_four min_four

end
section
attribute [local go_sem] max2_int min2_int max_two min_two max_three min_three max_four min_four

end
section
attribute [local go_sem] max2_int min2_int max_two min_two max_three min_three max_four min_four

end
end Go.Proofs.Ytjjlhbgpdncpcaa.P
section
set_option linter.unusedVariables false
set_option linter.unusedSimpArgs false
namespace Go.Proofs.Ytjjlhbgpdncpcaa.P.M
open Go.RowKit Go.Proofs.YtjjlhbgpdncpcaaW.PrintWords Go.Proofs.YtjjlhbgpdncpcaaW.PrintLast Go.Proofs.YtjjlhbgpdncpcaaW.PrintMore
theorem u64w (n : Nat) (h : n < 18446744073709551616) : IntKind.u64.wrap (n : Int) = n := by
  simp only [IntKind.wrap, IntKind.bits, IntKind.signed, Bool.false_and, Bool.false_eq_true, if_false]; omega
theorem short1 (a : Nat) (h : 1 ≤ a) : shortL [(a : Int)] = [(a : Int)] := by
  have : ((a : Int) == 0) = false := beq_eq_false_iff_ne.2 (by omega)
  simp [shortL, this]
theorem short2 (a : Nat) (h : 1 ≤ a) : shortL [(a : Int), 0] = [(a : Int)] := by
  have : ((a : Int) == 0) = false := beq_eq_false_iff_ne.2 (by omega)
  simp [shortL, this]
theorem times1 (a b : Nat) (ha : 1 ≤ a) (hb : 1 ≤ b) (ha2 : a < 4294967296) (hb2 : b < 4294967296) (h : a * b < 4294967296) : Tells (fun k => nat_times.f k [(a : Int)] [(b : Int)]) [((a * b : Nat) : Int)] := by
  have hpos : 1 ≤ a * b := Nat.mul_pos ha hb
  have w2 : wrap64 (((([(a : Int)] : List Int).length : Nat) : Int) + ((([(b : Int)] : List Int).length : Nat) : Int)) = 2 := by simp [wrap64]
  have w0 : wrap64 ((0 : Int) + 0) = 0 := by simp [wrap64]
  have w1 : wrap64 ((0 : Int) + 1) = 1 := by simp [wrap64]
  have wl : wrap64 ((0 : Int) + ((([(b : Int)] : List Int).length : Nat) : Int)) = 1 := by simp [wrap64]
  have v : IntKind.u64.wrap (IntKind.u64.wrap (IntKind.u64.wrap (IntKind.u64.wrap (a : Int) * IntKind.u64.wrap (b : Int)) + IntKind.u64.wrap (0 : Int)) + 0) = ((a * b : Nat) : Int) := by
    have z : IntKind.u64.wrap (0 : Int) = 0 := by decide
    rw [u64w a (by omega), u64w b (by omega), z, ← Int.natCast_mul, u64w (a * b) (by omega)]; simp only [Int.add_zero]; rw [u64w (a * b) (by omega), u64w (a * b) (by omega)]
  unfold nat_times.f
  rw [w2]
  refine Tells.pos (by decide) (Tells.pos (by decide) ?_)
  have r2 : List.replicate (2 : Int).toNat (0 : Int) = [0, 0] := rfl
  rw [r2]
  refine Tells.shift ?_
  simp only [nat_times.l0]
  refine Tells.pos (by simp) (Tells.pos (by decide) (Tells.pos (by simp) ?_))
  have ra : rd [(a : Int)] 0 = a := rfl
  have rb : rd [(b : Int)] 0 = b := rfl
  have rz : rd [(0 : Int), 0] 0 = 0 := rfl
  rw [ra]
  refine Tells.shift ?_
  simp only [nat_times.l1, w0, rb, rz, v]
  refine Tells.pos (by simp) (Tells.pos (by decide) (Tells.pos (by simp) (Tells.pos (by decide) (Tells.pos (by simp) ?_))))
  have e1 : (((a * b : Nat) : Int)) % 4294967296 = ((a * b : Nat) : Int) := by omega
  have e2 : (((a * b : Nat) : Int)) / 4294967296 = 0 := by omega
  rw [e1, e2, w1]
  have s1 : ([(0 : Int), 0]).set (0 : Int).toNat ((a * b : Nat) : Int) = [((a * b : Nat) : Int), 0] := rfl
  rw [s1]
  refine Tells.shift ?_
  simp only [nat_times.l1, wl]
  refine Tells.neg (by simp) (Tells.pos (by decide) (Tells.pos (by simp) ?_))
  have s2 : ([((a * b : Nat) : Int), 0]).set (1 : Int).toNat ((0 : Int) % 4294967296) = [((a * b : Nat) : Int), 0] := rfl
  rw [s2, w1]
  refine Tells.shift ?_
  simp only [nat_times.l0]
  refine Tells.neg (by simp) (Tells.bind (a := [((a * b : Nat) : Int)]) ⟨0, fun _ _ => ?_⟩ Tells.now)
  unfold nat_short.f
  rw [short2 _ hpos]
theorem natof1 (a : Nat) (h : 1 ≤ a) (h2 : a < 4294967296) : nat_Of.f (IntKind.u64.wrap (a : Int)) = some [(a : Int)] := by
  rw [u64w a (by omega)]
  unfold nat_Of.f nat_Trim.f
  rw [show (a : Int) % 4294967296 = a by omega, show (a : Int) / 4294967296 % 4294967296 = 0 by omega, if_pos (by simp), short2 a h]; rfl
theorem natmul1 (a b : Nat) (ha : 1 ≤ a) (hb : 1 ≤ b) (ha2 : a < 4294967296) (hb2 : b < 4294967296) (h : a * b < 4294967296) : Tells (fun k => nat_Mul.f k [[(a : Int)], [(b : Int)]]) [((a * b : Nat) : Int)] := by
  have hpos : 1 ≤ a * b := Nat.mul_pos ha hb
  have t1 := times1 1 a (by omega) ha (by omega) ha2 (by omega)
  rw [Nat.one_mul] at t1
  have w1 : wrap64 ((0 : Int) + 1) = 1 := by simp [wrap64]
  have w2 : wrap64 ((1 : Int) + 1) = 2 := by simp [wrap64]
  unfold nat_Mul.f
  refine Tells.shift ?_
  simp only [nat_Mul.l0]
  have r0 : rd_L8 [[(a : Int)], [(b : Int)]] 0 = [(a : Int)] := rfl
  have r1 : rd_L8 [[(a : Int)], [(b : Int)]] 1 = [(b : Int)] := rfl
  have sh : ∀ c : Nat, 1 ≤ c → nat_short.f [(c : Int)] = some [(c : Int)] := fun c hc => by unfold nat_short.f; rw [short1 c hc]
  rw [r0, w1]
  refine Tells.pos (by simp) (Tells.pos (by decide) (Tells.pos (by simp) (Tells.bind (a := [(a : Int)]) ⟨0, fun _ _ => sh a ha⟩ (Tells.bind t1 (Tells.shift ?_)))))
  simp only [nat_Mul.l0]
  rw [r1, w2]
  refine Tells.pos (by simp) (Tells.pos (by decide) (Tells.pos (by simp) (Tells.bind (a := [(b : Int)]) ⟨0, fun _ _ => sh b hb⟩ (Tells.bind (times1 a b ha hb ha2 hb2 h) (Tells.shift ?_)))))
  simp only [nat_Mul.l0]
  refine Tells.neg (by simp) (Tells.bind (a := [((a * b : Nat) : Int)]) ⟨0, fun _ _ => ?_⟩ Tells.now)
  unfold nat_Trim.f
  rw [if_pos (by simp), short1 _ hpos]
def prodS (l : List S74) : Nat := (l.map (fun x => x.f1.length)).foldl (· * ·) 1
theorem prodS_take (l : List S74) (i : Nat) (h : i < l.length) : prodS (l.take (i + 1)) = prodS (l.take i) * l[i].f1.length := by
  rw [List.take_succ_eq_append_getElem h]; simp only [prodS, List.map_append, List.foldl_append, List.map_cons, List.map_nil, List.foldl_cons, List.foldl_nil]
end Go.Proofs.Ytjjlhbgpdncpcaa.P.M
end
namespace Go.Proofs.Ytjjlhbgpdncpcaa.P
open Go.RowKit Go.Proofs.YtjjlhbgpdncpcaaW.PrintWords Go.Proofs.YtjjlhbgpdncpcaaW.PrintLast Go.Proofs.YtjjlhbgpdncpcaaW.PrintMore
set_option linter.unusedVariables false
set_option linter.unusedSimpArgs false
set_option maxHeartbeats 8000000
set_option maxRecDepth 100000
section
attribute [local go_sem] max2_int min2_int max_two min_two max_three min_three max_four min_four

end
section
attribute [local go_sem] max2_int min2_int max_two min_two max_three min_three max_four min_four

end
end Go.Proofs.Ytjjlhbgpdncpcaa.P
section
set_option linter.unusedVariables false
set_option linter.unusedSimpArgs false
namespace Go.Proofs.Ytjjlhbgpdncpcaa.P.M
open Go.RowKit Go.Proofs.YtjjlhbgpdncpcaaW.PrintWords Go.Proofs.YtjjlhbgpdncpcaaW.PrintLast Go.Proofs.YtjjlhbgpdncpcaaW.PrintMore
theorem tmod_nat' (a b : Nat) : Int.tmod (a : Int) (b : Int) = ((a % b : Nat) : Int) := rfl
structure GoodL (n : Nat) (x : S74) : Prop where
  p0 : 0 ≤ x.f0
  p1 : x.f0 < n
  nd : x.f1.Nodup
  len : x.f2.length = x.f1.length
  short : x.f1.length ≤ 64
  pm : ∀ r ∈ x.f2, Pm n r
theorem GoodL.of {n : Nat} {G : List Int → Prop} (h : IsG n G) {x : S74} (hx : x ∈ chainP n G) : GoodL n x := by
  have hs := (chainP_small (n := n) (G := G) (fun p hp => h.pm hp)).2 x hx
  have h64 := h.n64
  have hg := gens_pm h
  have hin : ∀ r ∈ x.f2, Pm n r := fun r hr => h.pm (hg r (mem_gensOf.2 ⟨x, hx, hr⟩))
  obtain ⟨c, hc, rfl, _⟩ := chainP_mem hx
  exact ⟨by show (0 : Int) ≤ (c : Int); omega, by show (c : Int) < n; omega, orbF_nodup n G (c : Int), hs.2.1, by omega, hin⟩
theorem SmallC.canon {n : Nat} {G : List Int → Prop} (h : IsG n G) : SmallC (chainP n G) := by
  have hs := chainP_small (n := n) (G := G) (fun p hp => h.pm hp)
  have := h.n64
  refine ⟨by omega, fun x hx => ?_⟩
  have h2 := hs.2 x hx
  refine ⟨by omega, by omega, fun r hr => ?_⟩
  have := h2.2.2 r hr
  omega
end Go.Proofs.Ytjjlhbgpdncpcaa.P.M
end
namespace Go.Proofs.Ytjjlhbgpdncpcaa.P
open Go.RowKit Go.Proofs.YtjjlhbgpdncpcaaW.PrintWords Go.Proofs.YtjjlhbgpdncpcaaW.PrintLast Go.Proofs.YtjjlhbgpdncpcaaW.PrintMore
set_option linter.unusedVariables false
set_option linter.unusedSimpArgs false
set_option maxHeartbeats 8000000
set_option maxRecDepth 100000
section
attribute [local go_sem] max2_int min2_int max_two min_two max_three min_three max_four min_four

end
end Go.Proofs.Ytjjlhbgpdncpcaa.P
section
set_option linter.unusedVariables false
namespace Go.Proofs.Ytjjlhbgpdncpcaa.P.M
open Go.RowKit Go.Proofs.YtjjlhbgpdncpcaaW.PrintWords Go.Proofs.YtjjlhbgpdncpcaaW.PrintLast Go.Proofs.YtjjlhbgpdncpcaaW.PrintMore
theorem valid_loop (d : Int) (l : List (List Int)) (hl : l.length ≤ 1000000) : ∀ (m i : Nat), i + m = l.length → (∀ a : Nat, a < i → ∀ h : a < l.length, checkL l[a] = 0 ∧ (l[a].length : Int) = d) → ∃ b, Tells (fun k => l30_valid.l0 k d l (l.length : Int) (i : Int)) b ∧ (b = true → ∀ p ∈ l, checkL p = 0 ∧ (p.length : Int) = d)
  | 0, i, hi, ha => by
    refine ⟨true, Tells.shift ?_, fun _ p hp => ?_⟩
    · simp only [l30_valid.l0]
      exact Tells.neg (by omega) Tells.now
    · obtain ⟨a, h, rfl⟩ := List.getElem_of_mem hp
      exact ha a (by omega) h
  | m + 1, i, hi, ha => by
    have hil : i < l.length := by omega
    by_cases h1 : checkL l[i] = 0
    · by_cases h2 : (l[i].length : Int) = d
      · obtain ⟨b, ht, hb⟩ := valid_loop d l hl m (i + 1) (by omega) (fun a k1 k2 => by
          by_cases e : a = i
          · subst e; exact ⟨h1, h2⟩
          · exact ha a (by omega) k2)
        refine ⟨b, Tells.shift ?_, hb⟩; simp only [l30_valid.l0, rd1_at, at1_eq hil]
        refine Tells.pos (by omega) (Tells.pos (by omega) (Tells.pos (by omega) (Tells.bind (Check_tells _) (Tells.pos h1 (Tells.pos h2 ?_))))); rw [w64 (n := (i : Int) + 1) (by omega) (by omega)]
        exact ht
      · refine ⟨false, Tells.shift ?_, fun h => by cases h⟩; simp only [l30_valid.l0, rd1_at, at1_eq hil]
        exact Tells.pos (by omega) (Tells.pos (by omega) (Tells.pos (by omega) (Tells.bind (Check_tells _) (Tells.pos h1 (Tells.neg h2 Tells.now)))))
    · refine ⟨false, Tells.shift ?_, fun h => by cases h⟩; simp only [l30_valid.l0, rd1_at, at1_eq hil]
      exact Tells.pos (by omega) (Tells.pos (by omega) (Tells.pos (by omega) (Tells.bind (Check_tells _) (Tells.neg h1 Tells.now))))
theorem valid_tells (d : Int) (l : List (List Int)) (hl : l.length ≤ 1000000) : ∃ b, Tells (fun k => l30_valid.f k d l) b ∧ (b = true → ∀ p ∈ l, checkL p = 0 ∧ (p.length : Int) = d) := by
  unfold l30_valid.f
  exact valid_loop d l hl l.length 0 (by omega) (fun a h => by omega)
theorem u8_rng {x : Int} (h : (Lit.int .u8 x).wf = true) : 0 ≤ x ∧ x < 256 := by
  simp [Lit.wf, IntKind.min, IntKind.max, IntKind.bits, IntKind.signed] at h
  omega
theorem deg_of {a : Int} (h : 0 ≤ a ∧ a < 256) (q : Nat) (hq : 1 ≤ q) (hq2 : q ≤ 10) : ∃ d : Nat, wrap64 (1 + Int.tmod (wrap64 a) (q : Int)) = d ∧ 1 ≤ d ∧ d ≤ q := by
  obtain ⟨m, rfl⟩ : ∃ m : Nat, a = m := ⟨a.toNat, by omega⟩
  rw [w64 (n := (m : Int)) (by omega) (by omega), tmod_nat']
  have := Nat.mod_lt m (show 0 < q by omega)
  refine ⟨1 + m % q, ?_, by omega, by omega⟩
  rw [w64 (by omega) (by omega)]; omega
end Go.Proofs.Ytjjlhbgpdncpcaa.P.M
end
section
set_option linter.unusedVariables false
set_option linter.unusedSimpArgs false
namespace Go.Proofs.Ytjjlhbgpdncpcaa.P.M
open Go.RowKit Go.Proofs.YtjjlhbgpdncpcaaW.PrintWords Go.Proofs.YtjjlhbgpdncpcaaW.PrintLast Go.Proofs.YtjjlhbgpdncpcaaW.PrintMore
theorem awt7 : Tells (fun _ : Nat => l30_awake.f) true := Tells.now
theorem prodS_le8 {l : List S74} (h : ∀ x ∈ l, 1 ≤ x.f1.length ∧ x.f1.length ≤ 8) : ∀ i : Nat, i ≤ l.length → 1 ≤ prodS (l.take i) ∧ prodS (l.take i) ≤ 8 ^ i
  | 0, _ => by simp [prodS]
  | i + 1, hi => by
    have ih := prodS_le8 h i (by omega); have hx := h _ (List.getElem_mem (show i < l.length by omega)); rw [prodS_take l i (by omega)]
    exact ⟨Nat.mul_pos ih.1 hx.1, by rw [Nat.pow_succ]; exact Nat.mul_le_mul ih.2 hx.2⟩
theorem prodS_small8 {l : List S74} (h : ∀ x ∈ l, 1 ≤ x.f1.length ∧ x.f1.length ≤ 8) (hl : l.length ≤ 8) (i : Nat) (hi : i ≤ l.length) : 1 ≤ prodS (l.take i) ∧ prodS (l.take i) ≤ 16777216 := by
  have := prodS_le8 h i hi
  refine ⟨this.1, Nat.le_trans this.2 ?_⟩
  have : 8 ^ i ≤ 8 ^ 8 := Nat.pow_le_pow_right (by decide) (by omega)
  have e : (8 : Nat) ^ 8 = 16777216 := by decide
  omega
theorem psize_loop8 {l : List S74} (h : ∀ x ∈ l, 1 ≤ x.f1.length ∧ x.f1.length ≤ 8) (hl : l.length ≤ 8) : ∀ (m i : Nat), i + m = l.length → Tells (fun k => perm_Size.l0 k [((prodS (l.take i) : Nat) : Int)] l (l.length : Int) (i : Int)) ([((prodS l : Nat) : Int)], 0)
  | 0, i, hi => by
    refine Tells.shift ?_; simp only [perm_Size.l0]
    refine Tells.neg (by omega) (Tells.now' ?_); rw [List.take_of_length_le (by omega)]
  | m + 1, i, hi => by
    have hil : i < l.length := by omega
    have hx := h _ (List.getElem_mem hil); have hp := prodS_small8 h hl i (by omega); have hp2 := prodS_small8 h hl (i + 1) (by omega); rw [prodS_take l i hil] at hp2
    refine Tells.shift ?_; simp only [perm_Size.l0, rd74_at hil]
    refine Tells.pos (by omega) (Tells.pos (by omega) (Tells.pos (by omega) (Tells.bind (a := [(l[i].f1.length : Int)]) ⟨0, fun _ _ => natof1 _ hx.1 (by omega)⟩ (Tells.bind (natmul1 _ _ hp.1 hx.1 (by omega) (by omega) (by omega)) ?_)))); rw [w64 (n := (i : Int) + 1) (by omega) (by omega), ← prodS_take l i hil]
    exact psize_loop8 h hl m (i + 1) (by omega)
theorem chain_b8 {n : Nat} {G : List Int → Prop} (hG : IsG n G) (h8 : n ≤ 8) : (∀ x ∈ chainP n G, 1 ≤ x.f1.length ∧ x.f1.length ≤ 8) ∧ (chainP n G).length ≤ 8 := by
  have hcs := chainP_small (n := n) (G := G) (fun p hp => hG.pm hp)
  refine ⟨fun x hx => ?_, by omega⟩
  have h1 := hcs.2 x hx
  obtain ⟨c, _, _, h2⟩ := chainP_mem hx
  omega
theorem PSize8 {n : Nat} {G : List Int → Prop} (hG : IsG n G) (h8 : n ≤ 8) : Tells (fun k => perm_Size.f k (n : Int) (chainP n G)) ([((prodS (chainP n G) : Nat) : Int)], 0) := by
  have w1 : (1 : Int) = IntKind.u64.wrap ((1 : Nat) : Int) := by decide
  obtain ⟨hb, hl8⟩ := chain_b8 hG h8
  have e0 : ((prodS ((chainP n G).take 0) : Nat) : Int) = 1 := by simp [prodS]
  unfold perm_Size.f
  have hck := PCheck_tells (n : Int) (SmallC.canon hG)
  rw [ccL_canon hG] at hck
  refine Tells.bind hck (Tells.pos rfl (Tells.bind (a := [(1 : Int)]) ⟨0, fun _ _ => ?_⟩ ?_))
  · have := natof1 1 (by omega) (by omega)
    rwa [← w1] at this
  · have := psize_loop8 hb hl8 (chainP n G).length 0 (by omega)
    rw [e0] at this
    exact this
theorem cmp1 (a : Nat) (ha : a < 4294967296) : Tells (fun k => r01_Cmp.f k [(a : Int)] [(a : Int)]) 0 := by
  have r : ∀ k : Nat, r01_limb.f [(a : Int)] 0 = some (a : Int) := fun _ => by
    unfold r01_limb.f; rw [if_pos (by simp), if_pos (by decide)]
    exact congrArg some (u64w a (by omega))
  have e0 : wrap64 (mx (([(a : Int)] : List Int).length : Int) (([(a : Int)] : List Int).length : Int) - 1) = 0 := by
    unfold mx; simp [wrap64]
  have e1 : wrap64 ((0 : Int) - 1) = -1 := by simp [wrap64]
  unfold r01_Cmp.f
  rw [e0]
  refine Tells.shift ?_
  simp only [r01_Cmp.l0]
  refine Tells.pos (by decide) (Tells.bind ⟨0, fun k _ => r k⟩ (Tells.bind ⟨0, fun k _ => r k⟩ (Tells.neg (by omega) (Tells.bind ⟨0, fun k _ => r k⟩ (Tells.bind ⟨0, fun k _ => r k⟩ (Tells.neg (by omega) ?_))))))
  rw [e1]
  refine Tells.shift ?_
  simp only [r01_Cmp.l0]
  exact Tells.neg (by decide) Tells.now
theorem prodS_cons (x : S74) (l : List S74) : prodS (x :: l) = prodS l * x.f1.length := by
  have : ∀ (l : List Nat) (a b : Nat), l.foldl (· * ·) (a * b) = l.foldl (· * ·) a * b := by
    intro l
    induction l with
    | nil => intro a b; rfl
    | cons c l ih => intro a b; simp only [List.foldl_cons]; rw [show a * b * c = (a * c) * b by rw [Nat.mul_assoc, Nat.mul_comm b c, ← Nat.mul_assoc], ih]
  simp only [prodS, List.map_cons, List.foldl_cons]
  rw [this]
theorem stabilizers_true (a : Int) (l : List (List Int)) (w0 : (Lit.int .u8 a).wf = true) : ∃ k, l30_PermStabilizers.f k a l = some true := by
  apply Tells.some
  unfold l30_PermStabilizers.f
  obtain ⟨d, hd, hd1, hd2⟩ := deg_of (u8_rng w0) 8 (by omega) (by omega)
  have hd' : wrap64 (1 + Int.tmod (wrap64 a) 8) = (d : Int) := hd
  rw [hd']
  refine Tells.bind awt7 (Tells.pos rfl ?_)
  have big : Tells (fun k => l30_PermStabilizers.j0 k l (d : Int) true) true := by
    refine Tells.shift ?_; simp only [l30_PermStabilizers.j0]
    exact Tells.pos trivial (Tells.bind awt7 Tells.now)
  by_cases h4 : (l.length : Int) > 4
  · exact Tells.pos h4 big
  refine Tells.neg h4 ?_
  obtain ⟨b, hb, hbv⟩ := valid_tells (d : Int) l (by omega)
  refine Tells.bind hb ?_
  cases b with
  | false => exact big
  | true =>
    have hv := hbv rfl
    have hpm : ∀ p ∈ l, Pm d p := fun p hp => by
      have := hv p hp; have h2 := checkL_zero.1 this.1; have : p.length = d := by omega
      rw [← this]; exact h2.1
    have h64 : d ≤ 64 := by omega
    have hG := IsG.of hd1 h64 hpm; have hbl := PBuild_tells (d : Int) l; rw [buildL_ok hd1 h64 hpm] at hbl; have hor := POrbits_tells (d : Int) l (by omega); unfold orbitsL at hor; rw [if_pos (gensE_ok hd1 h64 hpm), show ((d : Int)).toNat = d by omega] at hor; have hsz := PSize8 hG hd2
    refine Tells.shift ?_; simp only [l30_PermStabilizers.j0]
    refine Tells.neg (by simp) (Tells.bind hbl (Tells.bind hor (Tells.bind hsz (Tells.pos rfl (Tells.pos rfl ?_))))); rw [show ((0 : Int) != 0) = false by decide]
    refine Tells.shift ?_; simp only [l30_PermStabilizers.j1]
    refine Tells.neg (by simp) ?_; have hbd := chain_b8 hG hd2
    rcases chain_first (n := d) (G := Gp d l) d 0 (by omega) with ⟨e, hno⟩ | ⟨b, _, hb, hno, hlen, e⟩
    · -- the group is trivial
      have e : chainP d (Gp d l) = [] := e; have hfx := all_fix hG d (Nat.le_refl _) (fun c h0 h1 => hno c h0 h1); rw [e]
      refine Tells.pos (by simp) (Tells.pos (by rw [orbsF_all hfx d 0 (by omega)]) (Tells.bind (cmp1 1 (by omega)) (Tells.now' (by decide))))
    · have e : chainP d (Gp d l) = lvP d (Gp d l) (b : Int) :: lvsF d (Gp d l) (b + 1) (d - (b + 1)) := e; have hfx := all_fix hG b (by omega) hno; have hcls : (lvP d (Gp d l) (b : Int)).f1 = clsL d l (b : Int) := (cls_orbF hd1 h64 hpm hb hfx).symm; have hmin : MinP d l (b : Int) := minP_fix hfx; have hH := StG.isG hG (show b + 1 ≤ d by omega); have hrest : chainP d (StG (Gp d l) ((b + 1 : Nat) : Int)) = lvsF d (Gp d l) (b + 1) (d - (b + 1)) := chain_st (by omega); have hsz2 := PSize8 hH hd2; rw [hrest] at hsz2; have hp0 : (lvP d (Gp d l) (b : Int)).f0 = (b : Int) := rfl; have hcl1 : 1 < (clsL d l (b : Int)).length := by rw [← hcls]; exact hlen
      have hcl8 : (clsL d l (b : Int)).length ≤ 8 := by have := cls_len d l (b : Int); omega
      have hprod : prodS (chainP d (Gp d l)) = prodS (lvsF d (Gp d l) (b + 1) (d - (b + 1))) * (clsL d l (b : Int)).length := by rw [e, prodS_cons, hcls]
      have hsm := prodS_small8 hbd.1 hbd.2 (chainP d (Gp d l)).length (Nat.le_refl _); rw [List.take_length] at hsm; have hsm2 := prodS_small8 (chain_b8 hH hd2).1 (chain_b8 hH hd2).2 (chainP d (StG (Gp d l) ((b + 1 : Nat) : Int))).length (Nat.le_refl _); rw [List.take_length, hrest] at hsm2
      have hol : (orbsF d l 0 d).length ≤ 4611686018427387904 := by
        have : (orbsF d l 0 d).length ≤ d := by
          unfold orbsF; rw [List.length_map]; have := List.length_filter_le (p := fun y => @decide (MinP d l y) (Classical.propDecidable _)) ((List.range' 0 d).map (fun (y : Nat) => (y : Int))); rw [List.length_map, List.length_range'] at this
          exact this
        omega
      rw [e] at hprod ⊢; have r0 : rd_T74 (lvP d (Gp d l) (b : Int) :: lvsF d (Gp d l) (b + 1) (d - (b + 1))) 0 = lvP d (Gp d l) (b : Int) := rfl
      refine Tells.neg zz139 (Tells.pos zz139 ?_); rw [r0, hp0, hcls]
      have fin : ∀ (i : Int), i = ((orbsF d l 0 d).length : Int) → Tells (fun k => l30_PermStabilizers.l0 k (d : Int) [((prodS (lvP d (Gp d l) (b : Int) :: lvsF d (Gp d l) (b + 1) (d - (b + 1))) : Nat) : Int)] true (orbsF d l 0 d) ((orbsF d l 0 d).length : Int) i (d : Int) (lvP d (Gp d l) (b : Int) :: lvsF d (Gp d l) (b + 1) (d - (b + 1))) (b : Int) (clsL d l (b : Int)) (lvP d (Gp d l) (b : Int)).f2) true := by
        intro i hi
        refine Tells.shift ?_; simp only [l30_PermStabilizers.l0, List.drop_one, List.tail_cons]
        refine Tells.neg (by omega) (Tells.pos zz139 (Tells.bind hsz2 (Tells.pos trivial (Tells.pos rfl (Tells.bind (a := [((clsL d l (b : Int)).length : Int)]) ⟨0, fun _ _ => natof1 _ (by omega) (by omega)⟩ (Tells.bind (natmul1 _ _ hsm2.1 (by omega) (by omega) (by omega) (by rw [← hprod]; rw [e] at hsm; omega)) ?_)))))); rw [← hprod]; rw [e] at hsm
        exact Tells.bind (cmp1 _ (by omega)) (Tells.now' (by decide))
      have loop : ∀ (m i : Nat) (f : Bool), i + m = (orbsF d l 0 d).length → (f = false → ∀ c : Nat, c < i → ∀ hc : c < (orbsF d l 0 d).length, (orbsF d l 0 d)[c] ≠ clsL d l (b : Int)) → Tells (fun k => l30_PermStabilizers.l0 k (d : Int) [((prodS (lvP d (Gp d l) (b : Int) :: lvsF d (Gp d l) (b + 1) (d - (b + 1))) : Nat) : Int)] f (orbsF d l 0 d) ((orbsF d l 0 d).length : Int) (i : Int) (d : Int) (lvP d (Gp d l) (b : Int) :: lvsF d (Gp d l) (b + 1) (d - (b + 1))) (b : Int) (clsL d l (b : Int)) (lvP d (Gp d l) (b : Int)).f2) true := by
        intro m
        induction m with
        | zero =>
          intro i f hi hf
          cases f with
          | true => exact fin _ (by omega)
          | false =>
            have hmem : clsL d l (b : Int) ∈ orbsF d l 0 d := mem_orbsF.2 ⟨b, hb, hmin, rfl⟩; obtain ⟨c, hc, hce⟩ := List.getElem_of_mem hmem
            exact absurd hce (hf rfl c (by omega) hc)
        | succ m ih =>
          intro i f hi hf; have hil : i < (orbsF d l 0 d).length := by omega
          obtain ⟨j, hj, hjm, hje⟩ := mem_orbsF.1 (List.getElem_mem hil); have hcf := cls_first hpm hj hjm; rw [← hje] at hcf
          have hge : ((orbsF d l 0 d)[i].length : Int) > 1 → ¬ ap (orbsF d l 0 d)[i] 0 < (b : Int) := by
            intro h1; rw [hcf.2]; intro h2; rw [hje] at h1; have := cls_fixed (n := d) (l := l) (i := (j : Int)) (fun g hg => hfx g hg _ (by omega) (by omega)); omega
          have hnx : ∀ f' : Bool, (f' = false → (orbsF d l 0 d)[i] ≠ clsL d l (b : Int)) → (f' = false → f = false) → Tells (fun k => l30_PermStabilizers.l0 k (d : Int) [((prodS (lvP d (Gp d l) (b : Int) :: lvsF d (Gp d l) (b + 1) (d - (b + 1))) : Nat) : Int)] f' (orbsF d l 0 d) ((orbsF d l 0 d).length : Int) (wrap64 ((i : Int) + 1)) (d : Int) (lvP d (Gp d l) (b : Int) :: lvsF d (Gp d l) (b + 1) (d - (b + 1))) (b : Int) (clsL d l (b : Int)) (lvP d (Gp d l) (b : Int)).f2) true := by
            intro f' h1 h2; rw [w64 (n := (i : Int) + 1) (by omega) (by omega)]
            refine ih (i + 1) f' (by omega) (fun h c hc hcl => ?_)
            by_cases q : c = i
            · subst q; exact h1 h
            · exact hf (h2 h) c (by omega) hcl
          refine Tells.shift ?_; simp only [l30_PermStabilizers.l0, rd1_at, at1_eq hil, rd_ap]
          refine Tells.pos (by omega) (Tells.pos (by omega) (Tells.pos (by omega) ?_))
          cases f with
          | true =>
            refine Tells.pos rfl ?_
            by_cases h1 : ((orbsF d l 0 d)[i].length : Int) > 1
            · exact Tells.pos h1 (Tells.pos (by omega) (Tells.neg (hge h1) (hnx true (by simp) (by simp))))
            · exact Tells.neg h1 (hnx true (by simp) (by simp))
          | false =>
            refine Tells.neg (by simp) ?_
            by_cases h1 : ((orbsF d l 0 d)[i].length : Int) > 1
            · refine Tells.pos h1 (Tells.pos (by omega) ?_)
              by_cases h2 : ap (orbsF d l 0 d)[i] 0 = (b : Int)
              · have hsame := SameInts_tells (orbsF d l 0 d)[i] (clsL d l (b : Int)) (by rw [hje]; have := cls_len d l (j : Int); omega)
                refine Tells.pos h2 (Tells.bind hsame (Tells.neg (hge h1) (hnx _ (fun h => of_decide_eq_false h) (fun _ => rfl))))
              · refine Tells.neg h2 (Tells.neg (hge h1) (hnx false (fun _ h => h2 ?_) (fun _ => rfl))); rw [h]; exact (cls_first hpm hb hmin).2
            · refine Tells.neg h1 (hnx false (fun _ h => h1 ?_) (fun _ => rfl)); rw [h]; omega
      exact loop (orbsF d l 0 d).length 0 false (by omega) (fun _ c hc => by omega)
end Go.Proofs.Ytjjlhbgpdncpcaa.P.M
end
section
namespace Go.Proofs.Ytjjlhbgpdncpcaa.P
open Go.ChangeShapes Go.WideShapes Go.ChangeAt Go.RowKit Go.Proofs.YtjjlhbgpdncpcaaW.PrintWords Go.Proofs.YtjjlhbgpdncpcaaW.PrintLast Go.Proofs.YtjjlhbgpdncpcaaW.PrintMore
set_option linter.unusedVariables false
section
variable {H : Type} {enc : TypeId × Value → H} {W : World} {v : Value} {d : DataW H} {ps : List MemPlace} {held : Bool}
theorem list_of_cells {A : Option Addr} {L C : Nat} {Z : List Int} (hl : L ≤ C) (hm : C ≤ maxLen) (hz : Z.length = C) (hn : A = none → C = 0) (hc : ∀ a', A = some a' → ∀ c, c < C → W.cell? (a'.add c) = some (.int .i64 (Z.getD c 0))) (hw : ∀ n ∈ Z, (Lit.int .i64 n).wf = true) :
    (Kd.slice 3 (Kd.int .i64)).K W (Z.take L) [.slice A L C] := by
  have key : (A = none ∧ L = 0 ∧ C = 0 ∧ Z = []) ∨ ∃ x, A = some x ∧ L ≤ C ∧ C ≤ maxLen ∧ Z.length = C ∧ (∀ i, i < Z.length → W.cell? (x.add i) = some (.int .i64 (Z.getD i 0))) ∧ ∀ n ∈ Z, (Lit.int .i64 n).wf = true := by
    cases A with
    | none =>
      have h0 := hn rfl; subst h0
      exact .inl ⟨rfl, by omega, rfl, List.eq_nil_of_length_eq_zero hz⟩
    | some x => exact .inr ⟨x, rfl, hl, hm, hz, fun i hi => hc x rfl i (by omega), hw⟩
  have hlen : (Z.take L).length = L := by rw [List.length_take]; omega
  refine ⟨A, C, by rw [hlen], by omega, ?_⟩
  rw [hlen]
  refine ⟨hlen, Nat.le_trans (Nat.le_trans hl hm) (by decide), fun h0 => ?_⟩
  rcases key with ⟨_, h2, _⟩ | ⟨x, rfl, _⟩
  · omega
  · refine ⟨x, rfl, fun j p hj => ⟨[.int .i64 p], rfl, rfl, fun i u hu => ?_⟩⟩
    have hi : i = 0 ∧ u = .int .i64 p := by
      cases i with
      | zero => simp at hu; exact ⟨rfl, hu.symm⟩
      | succ i => simp at hu
    obtain ⟨rfl, rfl⟩ := hi
    have hj' : j < L := by
      have := (List.getElem?_eq_some_iff.1 hj).1; omega
    have hg : Z.getD j 0 = p := by
      rw [List.getElem?_take_of_lt hj'] at hj; rw [List.getD_eq_getElem?_getD, hj]; rfl
    have := hc x rfl j (by omega); rw [hg] at this
    show W.cell? (x.add (j * 1 + 0)) = _
    rw [Nat.mul_one, Nat.add_zero]
    exact this
set_option maxRecDepth 100000 in
theorem open_rows {base : Nat} (hv : Value.okWide Try.prog W .any base 28 v) (h : DataW.Trod enc Try.prog W 0 (fun _ => true) held 28 v d ps) :
    ∃ (a : Option Addr) (c : Nat) (l : List (List Int)), v = .slice a l.length c ∧ (Kd.slice 3 (Kd.int .i64)).C W a l.length l ∧ l.length ≤ c := by
  obtain ⟨a, len, cap, rfl⟩ := okWide_slice Try.underlying28 hv
  obtain ⟨fuel, hf⟩ := h
  rcases Go.Deep.open_int_rows Try.underlying28 Try.underlying22 Try.underlying3 (by kernel_rfl) (by kernel_rfl) hf with ⟨hcs, _⟩ | ⟨x, l, c, A, L, C, Z, hcs, _, hl, hm, _, hr⟩
  · simp [Value.cells] at hcs
    obtain ⟨rfl, rfl, rfl⟩ := hcs
    exact ⟨none, 0, [], rfl, Kd.C_nil _ _, Nat.le_refl _⟩
  · simp [Value.cells] at hcs
    obtain ⟨rfl, rfl, rfl⟩ := hcs
    refine ⟨some x, cap, (List.range len).map (fun r => (Z r).take (L r)), by simp, ?_, by simp; exact hl⟩; rw [List.length_map, List.length_range]
    refine ⟨by simp, Nat.le_trans (Nat.le_trans hl hm) (by decide), fun h0 => ⟨x, rfl, fun j p hj => ?_⟩⟩
    have hj' : j < len := by
      have := (List.getElem?_eq_some_iff.1 hj).1
      simpa using this
    have hp : p = (Z j).take (L j) := by
      have := (List.getElem?_eq_some_iff.1 hj).2
      simpa using this.symm
    subst hp; obtain ⟨h1, h2, h3, h4, h5, h6, h7⟩ := hr j (by omega)
    refine ⟨_, rfl, list_of_cells h2 h3 h4 h6 (fun a' e c hc => (h7 a' e).2 c hc) h5, fun i u hu => ?_⟩
    have hi : i = 0 ∧ u = .slice (A j) (L j) (C j) := by
      cases i with
      | zero => simp at hu; exact ⟨rfl, hu.symm⟩
      | succ i => simp at hu
    obtain ⟨rfl, rfl⟩ := hi
    show W.cell? (x.add (j * 1 + 0)) = _
    rw [Nat.mul_one, Nat.add_zero]
    exact h1
end
end Go.Proofs.Ytjjlhbgpdncpcaa.P
end
section
namespace Go.Proofs.Ytjjlhbgpdncpcaa.permStabilizers
open Go.ChangeShapes Go.WideShapes Go.ChangeAt Go.RowKit Go.Proofs.YtjjlhbgpdncpcaaW.PrintWords Go.Proofs.YtjjlhbgpdncpcaaW.PrintLast Go.Proofs.YtjjlhbgpdncpcaaW.PrintMore
open Go.ChangeMaps (open_string shut_string)
set_option linter.unusedVariables false
theorem own : ownKnob Try.prog.godebug = none := by kernel_rfl
theorem laidOut : laidOutB Try.prog = true := by kernel_rfl
set_option maxRecDepth 100000 in
theorem lifted (os : Os) (started : os.Started) (H : Type) (enc : TypeId × Value → H) :
    ReturnsInHanded {} Try.checked os 11 .any (Rows.permStabilizersSpec.pre6 enc Try.prog Try.f11 Rows.permStabilizersRow.domain false) (Rows.permStabilizersSpec.post enc Try.prog Try.f11 false true false false) := by
  refine returnsInHanded_of_change_sized (C := Try.checked) own started (by kernel_rfl) Try.func11
    (ChangeSpec.witness6 (enc := enc) (C := Try.checked) false ⟨#[], #[.int .u8 0, .slice none 0 0], []⟩ 8 (by kernel_rfl) (by kernel_rfl) (by kernel_rfl) (by kernel_rfl)) ?_
  intro W base args ds gs before hval0 hW hcnd hsz0 _
  have hval : ∀ (j : Nat) t v, Try.f11.params[j]? = some t → args[j]? = some v → Value.okWide Try.prog W .any base t v := hval0
  have hW' := hW
  obtain ⟨p, q, hA0, hV, rfl, hfz, hnd⟩ := hW
  have hA : DataW.TrodAll enc Try.prog W 0 (fun _ => true) true Try.f11.params.toList args.toList ds p := hA0
  rw [Try.params11] at hA hval
  obtain ⟨v0, vs0, d0, ds0, p0, q0, hargs, rfl, rfl, h0, r0⟩ := trodAll_cons hA
  obtain ⟨v1, vs1, d1, ds1, p1, q1, rfl, rfl, rfl, h1, r1⟩ := trodAll_cons r0
  obtain ⟨rfl, rfl, rfl⟩ := trodAll_nil r1
  obtain rfl : args = #[v0, v1] := by cases args; simp_all
  obtain ⟨rfl, rfl⟩ := trodVars_none hV
  obtain ⟨a0, rfl, rfl, rfl, w0⟩ := open_int Try.underlying5 (hval 0 5 v0 rfl rfl) h0
  have k1 := h1
  have lt1 : ∀ x ∈ p1, x.block < W.heap.size := by obtain ⟨m, hm⟩ := k1; exact DataW.trod_lt m _ _ _ hm
  obtain ⟨a1, c1, l1, rfl, hr1, hm1⟩ := P.open_rows (hval 1 28 v1 rfl rfl) h1
  clear hA0 hval0 hsz0
  obtain ⟨k, hk⟩ := P.M.stabilizers_true a0 l1 w0
  refine (P.l30_PermStabilizers.calls k a0 _ _ l1 true W hr1 hm1 hk rfl).mono fun e W' ⟨he, bel⟩ => ?_
  subst he
  exact ⟨_, rfl, _, _, _, [], _, [], hW', trodAll_mk1 (shut_bool Try.underlying4 _), (trodAll_cons_mk (shut_int Try.underlying5 w0) (trodAll_cons_mk (Below.trod laidOut (by kernel_rfl) (of_decide_eq_true (by kernel_rfl)) k1 bel lt1) trodAll_mk0)), rfl, bel.frame _, fun h => by cases h⟩
theorem over : Rows.permStabilizersRow.holds Try.pinned (OpenSpec.ofChange Rows.permStabilizersSpec) :=
  OpenClaim.holds_of_wide 11 Try.f11 rfl rfl rfl rfl rfl rfl rfl ⟨rfl, rfl, rfl, rfl, rfl⟩ rfl rfl rfl rfl rfl (by kernel_rfl) Try.func11 (by kernel_rfl)
    (of_decide_eq_true (by kernel_rfl)) (by unfold Func.isWrapper; first | (rw [if_pos (by decide +kernel)]; kernel_rfl) | (rw [if_neg (by decide +kernel)]; exact ⟨rfl, rfl⟩))
    (fun os started H enc _ => lifted os started H enc)
end Go.Proofs.Ytjjlhbgpdncpcaa.permStabilizers
namespace Go.Proofs.Ytjjlhbgpdncpcaa
theorem permStabilizers_holds : Rows.PermStabilizersSaid := permStabilizers.over
end Go.Proofs.Ytjjlhbgpdncpcaa
end
