/- The law of the claim, proved for every input: the last of its texts. -/
import Derived.Test.YtjjlhbgpdncpcaaRows
import Derived.Deep.Matrix
import Derived.WalkKit
import Derived.ProofKit
import Derived.OpenShut
import Derived.ShutString
import Derived.ChangeOld
import Derived.Below
import Derived.SizedLaws
import Derived.Carry
import Derived.Test.YtjjlhbgpdncpcaaMc5
import Derived.Test.YtjjlhbgpdncpcaaMc3
import Derived.Test.YtjjlhbgpdncpcaaMc1
import Derived.Test.YtjjlhbgpdncpcaaMc4
section
set_option linter.unusedVariables false
set_option linter.unusedSimpArgs false
namespace Go.Proofs.Ytjjlhbgpdncpcaa.P.M
open Go.RowKit Go.Proofs.YtjjlhbgpdncpcaaW.PrintWords Go.Proofs.YtjjlhbgpdncpcaaW.PrintLast Go.Proofs.YtjjlhbgpdncpcaaW.PrintMore
def gensOf (l : List S74) : List (List Int) := (l.map (fun x => x.f2)).flatten
theorem gensOf_take (l : List S74) (i : Nat) (h : i < l.length) : gensOf (l.take (i + 1)) = gensOf (l.take i) ++ l[i].f2 := by
  rw [List.take_succ_eq_append_getElem h]
  simp only [gensOf, List.map_append, List.flatten_append, List.map_cons, List.map_nil, List.flatten_cons, List.flatten_nil, List.append_nil]
theorem mem_gensOf {l : List S74} {g : List Int} : g ∈ gensOf l ↔ ∃ x ∈ l, g ∈ x.f2 := by
  simp only [gensOf, List.mem_flatten, List.mem_map]
  constructor
  · rintro ⟨_, ⟨x, hx, rfl⟩, hg⟩; exact ⟨x, hx, hg⟩
  · rintro ⟨x, hx, hg⟩; exact ⟨_, ⟨x, hx, rfl⟩, hg⟩
theorem orbF_mem {n : Nat} {G : List Int → Prop} {b : Int} {y : Int} : y ∈ orbF n G b 0 n ↔ 0 ≤ y ∧ y < n ∧ ∃ q, LeastAt n G b y q := by
  unfold orbF
  rw [List.mem_filter, List.mem_map]
  constructor
  · rintro ⟨⟨x, hx, rfl⟩, h⟩
    rw [List.mem_range'] at hx; obtain ⟨i, hi, rfl⟩ := hx
    exact ⟨by omega, by omega, by simpa using h⟩
  · rintro ⟨h0, h1, h⟩
    refine ⟨⟨y.toNat, ?_, by omega⟩, by simpa using h⟩; rw [List.mem_range']
    exact ⟨y.toNat, by omega, by omega⟩
theorem orbF_nodup (n : Nat) (G : List Int → Prop) (b : Int) : (orbF n G b 0 n).Nodup := by
  unfold orbF
  refine List.Pairwise.filter _ ?_
  exact map_nodup List.nodup_range' (fun x _ y _ e => by omega)
structure IsG (n : Nat) (G : List Int → Prop) : Prop where
  n1 : 1 ≤ n
  n64 : n ≤ 64
  ex : ∃ l : List (List Int), (∀ p ∈ l, Pm n p) ∧ G = Gp n l
theorem IsG.pm {n : Nat} {G : List Int → Prop} (h : IsG n G) {p : List Int} (hp : G p) : Pm n p := by
  obtain ⟨l, hl, rfl⟩ := h.ex; exact hp.pm hl
theorem IsG.one {n : Nat} {G : List Int → Prop} (h : IsG n G) : G (idL n) := by
  obtain ⟨l, hl, rfl⟩ := h.ex; exact .one
theorem IsG.mul {n : Nat} {G : List Int → Prop} (h : IsG n G) {p q : List Int} (hp : G p) (hq : G q) : G (mulL p q) := by
  obtain ⟨l, hl, rfl⟩ := h.ex; exact Cl.mul' hl hp hq
theorem IsG.inv {n : Nat} {G : List Int → Prop} (h : IsG n G) {p : List Int} (hp : G p) : G (invL p) := by
  obtain ⟨l, hl, rfl⟩ := h.ex; exact Cl.inv hl hp
theorem IsG.least {n : Nat} {G : List Int → Prop} (h : IsG n G) {b : Nat} (hb : b < n) {g : List Int} (hg : G g) (hf : Fx (b : Int) g) : ∃ q, LeastAt n G (b : Int) (ap g (b : Int)) q := by
  obtain ⟨l, hl, e⟩ := h.ex
  obtain ⟨T0, T, _, _, hok, hc, hG⟩ := tower_tells h.n1 h.n64 l hl
  have eG : Gn n T 0 = G := by rw [e]; exact funext (fun p => propext (hG p))
  have hgp := h.pm hg
  have hsb := stab hok hc b (by omega) (by rw [eG]; exact hg) hf
  have hsf := (sfI hok (b := (b : Int)) (by omega) (by omega) (fun c k1 k2 => hc c (by omega) k2) hgp hf).2 hsb
  rw [show (n - (b : Int)).toNat = (n - ((b : Int) + 1)).toNat + 1 by omega, Sf] at hsf
  have hx := hgp.rng (i := (b : Int)) (by omega) (by omega)
  obtain ⟨q, _, hq⟩ := least_of_rep hok h.n64 hc hb hx.1 hx.2 hsf.1
  rw [eG] at hq
  exact ⟨q, hq⟩
theorem IsG.self {n : Nat} {G : List Int → Prop} (h : IsG n G) {b : Nat} (hb : b < n) : ∃ q, LeastAt n G (b : Int) (b : Int) q := by
  have := h.least hb h.one (Fx.id n (by omega))
  rwa [ap_id (by omega) (by omega)] at this
theorem IsG.level {n : Nat} {G : List Int → Prop} (h : IsG n G) {b : Nat} (hb : b < n) {g : List Int} (hg : G g) (hf : Fx (b : Int) g) (hne : ap g (b : Int) ≠ b) : lvP n G (b : Int) ∈ chainP n G ∧ ap g (b : Int) ∈ (lvP n G (b : Int)).f1 := by
  have hx := (h.pm hg).rng (i := (b : Int)) (by omega) (by omega)
  have m1 : ap g (b : Int) ∈ orbF n G (b : Int) 0 n := orbF_mem.2 ⟨hx.1, hx.2, h.least hb hg hf⟩
  have m2 : (b : Int) ∈ orbF n G (b : Int) 0 n := orbF_mem.2 ⟨by omega, by omega, h.self hb⟩
  refine ⟨?_, m1⟩
  have hlen : 1 < (orbF n G (b : Int) 0 n).length := by
    have := sub_len (l1 := [ap g (b : Int), (b : Int)]) (l2 := orbF n G (b : Int) 0 n) (by simp [hne]) (fun x hx => by
      simp only [List.mem_cons, List.not_mem_nil, or_false] at hx
      rcases hx with rfl | rfl
      · exact m1
      · exact m2)
    exact this
  unfold chainP lvsF
  rw [List.mem_filter, List.mem_map]
  refine ⟨⟨b, ?_, rfl⟩, decide_eq_true hlen⟩
  rw [List.mem_range']
  exact ⟨b, by omega, by omega⟩
theorem lvP_reps {n : Nat} {G : List Int → Prop} {b x : Int} (hx : x ∈ (lvP n G b).f1) : leastQ n G b x ∈ (lvP n G b).f2 := List.mem_map.2 ⟨x, hx, rfl⟩
theorem gens_pm {n : Nat} {G : List Int → Prop} (h : IsG n G) : ∀ g ∈ gensOf (chainP n G), G g := by
  intro g hg
  obtain ⟨x, hx, hgx⟩ := mem_gensOf.1 hg
  obtain ⟨c, hc, rfl, _⟩ := chainP_mem hx
  simp only [lvP, List.mem_map] at hgx
  obtain ⟨y, hy, rfl⟩ := hgx
  obtain ⟨_, _, q, hq⟩ := orbF_mem.1 hy
  rw [leastQ_eq hq]; exact hq.1
theorem gens_all {n : Nat} {G : List Int → Prop} (h : IsG n G) : ∀ (m b : Nat) (g : List Int), b + m = n → G g → Fx (b : Int) g → Gp n (gensOf (chainP n G)) g
  | 0, b, g, hb, hg, hf => by
    have : (b : Int) = n := by omega
    rw [this] at hf; rw [hf.all (h.pm hg)]
    exact .one
  | m + 1, b, g, hb, hg, hf => by
    have hp := h.pm hg
    by_cases e : ap g (b : Int) = b
    · exact gens_all h m (b + 1) g (by omega) hg (show Fx ((b : Int) + 1) g from hf.up e)
    · have hl := h.level (by omega) hg hf e; obtain ⟨_, _, q, hq⟩ := orbF_mem.1 hl.2; have hqp := h.pm hq.1; have hs := strip_fx (b := (b : Int)) (by omega) (by omega) hp hf hqp hq.2.1 hq.2.2.1; have ih := gens_all h m (b + 1) _ (by omega) (h.mul hg (h.inv hq.1)) (show Fx ((b : Int) + 1) _ from hs.2); have hin : q ∈ gensOf (chainP n G) := mem_gensOf.2 ⟨_, hl.1, by have := lvP_reps hl.2; rwa [leastQ_eq hq] at this⟩; have := Cl.mul ih hin
      rwa [mul_inv_cancel hp hqp] at this
theorem gens_eq {n : Nat} {G : List Int → Prop} (h : IsG n G) : Gp n (gensOf (chainP n G)) = G := by
  refine funext (fun p => propext ⟨fun hp => ?_, fun hp => gens_all h n 0 p (by omega) hp (fun j h0 h1 => by omega)⟩)
  exact Cl.least (H := G) h.one (fun p g hp hg => h.mul hp (gens_pm h g hg)) hp
theorem IsG.of {n : Nat} (h1 : 1 ≤ n) (h64 : n ≤ 64) {l : List (List Int)} (hl : ∀ p ∈ l, Pm n p) : IsG n (Gp n l) := ⟨h1, h64, l, hl, rfl⟩
theorem gensE_ok {n : Nat} (h1 : 1 ≤ n) (h64 : n ≤ 64) {l : List (List Int)} (hl : ∀ p ∈ l, Pm n p) : gensE (n : Int) l = 0 := by
  unfold gensE
  rw [if_neg (by omega)]
  exact allL_zero.2 (fun p hp => ⟨checkL_zero.2 ⟨by rw [(hl p hp).1]; exact hl p hp, by have := (hl p hp).1; omega, by have := (hl p hp).1; omega⟩, by rw [(hl p hp).1]⟩)
theorem buildL_ok {n : Nat} (h1 : 1 ≤ n) (h64 : n ≤ 64) {l : List (List Int)} (hl : ∀ p ∈ l, Pm n p) : buildL (n : Int) l = ((n : Int), chainP n (Gp n l), 0) := by
  unfold buildL
  rw [if_pos (gensE_ok h1 h64 hl)]; rfl
theorem buildL_canon {n : Nat} {G : List Int → Prop} (h : IsG n G) : buildL (n : Int) (gensOf (chainP n G)) = ((n : Int), chainP n G, 0) := by
  rw [buildL_ok h.n1 h.n64 (fun p hp => h.pm (gens_pm h p hp)), gens_eq h]
noncomputable def ccL (n : Int) (l : List S74) : Int := if n < 1 ∨ 64 < n then 4 else if (buildL n (gensOf l)).2.2 = 0 ∧ n = (buildL n (gensOf l)).1 ∧ l = (buildL n (gensOf l)).2.1 then 0 else 5
theorem ccL_zero {n : Int} {l : List S74} (h : ccL n l = 0) : ∃ (m : Nat) (G : List Int → Prop), n = m ∧ IsG m G ∧ l = chainP m G := by
  unfold ccL at h
  split at h
  · cases h
  · split at h
    · rename_i h2
      obtain ⟨h3, h4, h5⟩ := h2
      have he : gensE n (gensOf l) = 0 := by
        apply Classical.byContradiction
        intro hc
        unfold buildL at h3; rw [if_neg hc] at h3
        exact hc h3
      obtain ⟨m, rfl, h1, h64, hg⟩ := gensE_zero he
      refine ⟨m, Gp m (gensOf l), rfl, IsG.of h1 h64 hg, ?_⟩; rw [buildL_ok h1 h64 hg] at h5
      exact h5
    · cases h
theorem ccL_canon {n : Nat} {G : List Int → Prop} (h : IsG n G) : ccL (n : Int) (chainP n G) = 0 := by
  unfold ccL
  have := h.n1
  have := h.n64
  rw [if_neg (by omega), buildL_canon h, if_pos ⟨rfl, rfl, rfl⟩]
theorem ccL_form {n : Int} {l : List S74} (h1 : ¬ (n < 1 ∨ 64 < n)) (h : (n < l.length) ∨ ∃ x ∈ l, n < x.f1.length ∨ x.f2.length ≠ x.f1.length) : ccL n l = 5 := by
  have hne : ccL n l ≠ 0 := by
    intro hz
    obtain ⟨m, G, rfl, hG, rfl⟩ := ccL_zero hz; have hs := chainP_small (n := m) (G := G) (fun p hp => hG.pm hp)
    rcases h with h | ⟨x, hx, h⟩
    · have := hs.1; omega
    · have := hs.2 x hx
      rcases h with h | h
      · omega
      · exact h this.2.1
  unfold ccL at hne ⊢
  rw [if_neg h1] at hne ⊢
  split
  · rename_i h2
    rw [if_pos h2] at hne; exact absurd rfl hne
  · rfl
def SmallC (l : List S74) : Prop := l.length ≤ 70 ∧ ∀ x ∈ l, x.f1.length ≤ 100 ∧ x.f2.length ≤ 1000 ∧ ∀ r ∈ x.f2, r.length ≤ 1000
theorem SmallC.fine {l : List S74} (h : SmallC l) : Fine l := ⟨by have := h.1; unfold Bg; omega, fun x hx => by
  have := h.2 x hx
  exact ⟨by unfold Bg; omega, by unfold Bg; omega, fun r hr => by have := this.2.2 r hr; unfold Bg; omega⟩⟩
theorem SmallC.gens {l : List S74} (h : SmallC l) : ∀ i : Nat, i ≤ l.length → (gensOf (l.take i)).length ≤ 1000 * i
  | 0, _ => by simp [gensOf]
  | i + 1, hi => by
    rw [gensOf_take l i (by omega), List.length_append]; have := SmallC.gens h i (by omega); have := (h.2 _ (List.getElem_mem (show i < l.length by omega))).2.1; omega
theorem Gens_loop (n : Int) {l : List S74} (h : SmallC l) : ∀ (m i : Nat), i + m = l.length → Tells (fun k => codewrightref30_Gens.l0 k (gensOf (l.take i)) (i : Int) n l) (gensOf l)
  | 0, i, hi => by
    refine Tells.shift ?_; simp only [codewrightref30_Gens.l0]
    refine Tells.neg (by omega) (Tells.now' ?_); rw [List.take_of_length_le (by omega)]
  | m + 1, i, hi => by
    have hil : i < l.length := by omega
    have h1 := h.gens i (by omega); have h2 := (h.2 _ (List.getElem_mem hil)).2.1; have h3 := h.1
    refine Tells.shift ?_; simp only [codewrightref30_Gens.l0, rd74_at hil]
    refine Tells.pos (by omega) (Tells.pos (by omega) (Tells.pos (by omega) ?_)); rw [w64 (n := (i : Int) + 1) (by omega) (by omega), ← gensOf_take l i hil]
    exact Gens_loop n h m (i + 1) (by omega)
theorem Gens_tells (n : Int) {l : List S74} (h : SmallC l) : Tells (fun k => codewrightref30_Gens.f k n l) (gensOf l) := by
  unfold codewrightref30_Gens.f
  exact Gens_loop n h l.length 0 (by omega)
theorem SmallC.total {l : List S74} (h : SmallC l) : (gensOf l).length ≤ 70000 := by
  have := h.gens l.length (Nat.le_refl _)
  rw [List.take_of_length_le (Nat.le_refl _)] at this
  have := h.1
  omega
theorem Equal_tells (x y : List Int) (hb : x.length ≤ 9223372036854775807) : Tells (fun k => slices_Equal_int_int.f k x y) (decide (x = y)) := by
  obtain ⟨k, hk⟩ := Equal_is x y hb
  exact Tells.mono (fun k => slices_Equal_int_int.mono x y k) hk
theorem pcc_l1 (n : Int) (x y : List S74) (hxy : x.length = y.length) (hf : Fine x) : ∀ (m i : Nat), i + m = x.length → x.take i = y.take i → Tells (fun k => perm_CheckChain.l1 k x (x.length : Int) (i : Int) n y) (if x = y then 0 else 5)
  | 0, i, hi, ht => by
    refine Tells.shift ?_; simp only [perm_CheckChain.l1]
    refine Tells.neg (by omega) (Tells.now' ?_); rw [List.take_of_length_le (by omega), List.take_of_length_le (by omega)] at ht; rw [if_pos ht]
  | m + 1, i, hi, ht => by
    have hx : i < x.length := by omega
    have hy : i < y.length := by omega
    have hb := hf.2 _ (List.getElem_mem hx); have hl := hf.1; unfold Bg at hb hl; have bad : x[i] ≠ y[i] → (5 : Int) = if x = y then 0 else 5 := fun h => by rw [if_neg (fun e => h (by simp only [e]))]
    refine Tells.shift ?_; simp only [perm_CheckChain.l1, rd74_at hx, rd74_at hy]
    refine Tells.pos (by omega) (Tells.pos (by omega) (Tells.pos (by omega) (Tells.pos (by omega) ?_)))
    by_cases e0 : x[i].f0 = y[i].f0
    · refine Tells.pos e0 (Tells.bind (Equal_tells _ _ (by omega)) ?_)
      by_cases e1 : x[i].f1 = y[i].f1
      · refine Tells.pos (decide_eq_true e1) (Tells.bind (a := decide (x[i].f2 = y[i].f2)) Tells.now ?_)
        by_cases e2 : x[i].f2 = y[i].f2
        · refine Tells.pos (decide_eq_true e2) ?_; rw [w64 (n := (i : Int) + 1) (by omega) (by omega)]
          refine pcc_l1 n x y hxy hf m (i + 1) (by omega) ?_; rw [List.take_succ_eq_append_getElem hx, List.take_succ_eq_append_getElem hy, ht, s74_ext e0 e1 e2]
        · exact Tells.neg (by rw [decide_eq_false e2]; decide) (Tells.now' (bad (fun h => e2 (by rw [h]))))
      · exact Tells.neg (by rw [decide_eq_false e1]; decide) (Tells.now' (bad (fun h => e1 (by rw [h]))))
    · exact Tells.neg e0 (Tells.now' (bad (fun h => e0 (by rw [h]))))
theorem pcc_l0 (n : Int) {l : List S74} (h : SmallC l) (h1 : 1 ≤ n) (h64 : n ≤ 64) : ∀ (m i : Nat), i + m = l.length → Tells (fun k => perm_CheckChain.l0 k (gensOf (l.take i)) l (l.length : Int) (i : Int) n l) (ccL n l)
  | 0, i, hi => by
    refine Tells.shift ?_; simp only [perm_CheckChain.l0]; rw [List.take_of_length_le (by omega)]
    refine Tells.neg (by omega) (Tells.bind (PBuild_tells n (gensOf l)) ?_)
    have hcc : ccL n l = if (buildL n (gensOf l)).2.2 = 0 ∧ n = (buildL n (gensOf l)).1 ∧ l = (buildL n (gensOf l)).2.1 then 0 else 5 := by
      unfold ccL; rw [if_neg (by omega)]
    rw [hcc]
    have bad : ¬ ((buildL n (gensOf l)).2.2 = 0 ∧ n = (buildL n (gensOf l)).1 ∧ l = (buildL n (gensOf l)).2.1) → Tells (fun k => perm_CheckChain.j1 k true n l (buildL n (gensOf l)).1 (buildL n (gensOf l)).2.1) (if (buildL n (gensOf l)).2.2 = 0 ∧ n = (buildL n (gensOf l)).1 ∧ l = (buildL n (gensOf l)).2.1 then 0 else 5) := by
      intro hb
      refine Tells.shift ?_; simp only [perm_CheckChain.j1]
      refine Tells.pos trivial (Tells.now' ?_); rw [if_neg hb]
    by_cases he : (buildL n (gensOf l)).2.2 = 0
    · refine Tells.pos he ?_
      have hdeg : (buildL n (gensOf l)).1 = n := by
        unfold buildL at he ⊢
        split
        · rfl
        · rename_i hc; rw [if_neg hc] at he; exact absurd he hc
      by_cases hl : (buildL n (gensOf l)).2.1.length = l.length
      · rw [show (((buildL n (gensOf l)).2.1.length : Int) != (l.length : Int)) = false by simp [hl]]
        refine Tells.shift ?_; simp only [perm_CheckChain.j1]
        refine Tells.neg (by simp) ?_
        refine (pcc_l1 _ l _ hl.symm h.fine l.length 0 (by omega) rfl).eq ?_
        by_cases hs : l = (buildL n (gensOf l)).2.1
        · rw [if_pos hs, if_pos ⟨he, hdeg.symm, hs⟩]
        · rw [if_neg hs, if_neg (fun k => hs k.2.2)]
      · rw [show (((buildL n (gensOf l)).2.1.length : Int) != (l.length : Int)) = true by simp; omega]
        exact bad (fun k => hl (congrArg List.length k.2.2).symm)
    · exact Tells.neg he (bad (fun k => he k.1))
  | m + 1, i, hi => by
    have hil : i < l.length := by omega
    have hg1 := h.gens i (by omega); have hg2 := (h.2 _ (List.getElem_mem hil)).2.1; have hg3 := h.1
    refine Tells.shift ?_; simp only [perm_CheckChain.l0, rd74_at hil]
    refine Tells.pos (by omega) (Tells.pos (by omega) (Tells.pos (by omega) ?_))
    by_cases e1 : (l[i].f1.length : Int) > n
    · exact Tells.pos e1 (Tells.now' (ccL_form (by omega) (.inr ⟨_, List.getElem_mem hil, .inl e1⟩)).symm)
    · refine Tells.neg e1 ?_
      by_cases e2 : (l[i].f2.length : Int) = (l[i].f1.length : Int)
      · refine Tells.pos e2 (Tells.pos (by omega) ?_); rw [w64 (n := (i : Int) + 1) (by omega) (by omega), ← gensOf_take l i hil]
        exact pcc_l0 n h h1 h64 m (i + 1) (by omega)
      · exact Tells.neg e2 (Tells.now' (ccL_form (by omega) (.inr ⟨_, List.getElem_mem hil, .inr (by omega)⟩)).symm)
theorem PCheck_tells (n : Int) {l : List S74} (h : SmallC l) : Tells (fun k => perm_CheckChain.f k n l) (ccL n l) := by
  unfold perm_CheckChain.f
  by_cases hn : n < 1 ∨ 64 < n
  · rw [degree_bad n hn]
    refine Tells.bind (a := 4) Tells.now (Tells.neg (by decide) (Tells.now' ?_)); unfold ccL; rw [if_pos hn]
  rw [degree_ok n (by omega) (by omega)]
  refine Tells.bind (a := 0) Tells.now (Tells.pos rfl ?_)
  by_cases hl : (l.length : Int) > n
  · exact Tells.pos hl (Tells.now' (ccL_form hn (.inl hl)).symm)
  exact Tells.neg hl (pcc_l0 n h (by omega) (by omega) l.length 0 (by omega))
end Go.Proofs.Ytjjlhbgpdncpcaa.P.M
end
namespace Go.Proofs.Ytjjlhbgpdncpcaa.P
open Go.RowKit Go.Proofs.YtjjlhbgpdncpcaaW.PrintWords Go.Proofs.YtjjlhbgpdncpcaaW.PrintLast Go.Proofs.YtjjlhbgpdncpcaaW.PrintMore
set_option linter.unusedVariables false
set_option linter.unusedSimpArgs false
set_option maxHeartbeats 8000000
set_option maxRecDepth 100000
section
attribute [local go_sem] max2_int min2_int max_two min_two max_three min_three max_four min_four

end
section
attribute [local go_sem] max2_int min2_int max_two min_two max_three min_three max_four min_four

end
end Go.Proofs.Ytjjlhbgpdncpcaa.P
section
set_option linter.unusedVariables false
set_option linter.unusedSimpArgs false
namespace Go.Proofs.Ytjjlhbgpdncpcaa.P.M
open Go.RowKit Go.Proofs.YtjjlhbgpdncpcaaW.PrintWords Go.Proofs.YtjjlhbgpdncpcaaW.PrintLast Go.Proofs.YtjjlhbgpdncpcaaW.PrintMore
theorem tmod_nat' (a b : Nat) : Int.tmod (a : Int) (b : Int) = ((a % b : Nat) : Int) := rfl
structure GoodL (n : Nat) (x : S74) : Prop where
  p0 : 0 ≤ x.f0
  p1 : x.f0 < n
  nd : x.f1.Nodup
  len : x.f2.length = x.f1.length
  short : x.f1.length ≤ 64
  pm : ∀ r ∈ x.f2, Pm n r
theorem GoodL.of {n : Nat} {G : List Int → Prop} (h : IsG n G) {x : S74} (hx : x ∈ chainP n G) : GoodL n x := by
  have hs := (chainP_small (n := n) (G := G) (fun p hp => h.pm hp)).2 x hx
  have h64 := h.n64
  have hg := gens_pm h
  have hin : ∀ r ∈ x.f2, Pm n r := fun r hr => h.pm (hg r (mem_gensOf.2 ⟨x, hx, hr⟩))
  obtain ⟨c, hc, rfl, _⟩ := chainP_mem hx
  exact ⟨by show (0 : Int) ≤ (c : Int); omega, by show (c : Int) < n; omega, orbF_nodup n G (c : Int), hs.2.1, by omega, hin⟩
theorem SmallC.canon {n : Nat} {G : List Int → Prop} (h : IsG n G) : SmallC (chainP n G) := by
  have hs := chainP_small (n := n) (G := G) (fun p hp => h.pm hp)
  have := h.n64
  refine ⟨by omega, fun x hx => ?_⟩
  have h2 := hs.2 x hx
  refine ⟨by omega, by omega, fun r hr => ?_⟩
  have := h2.2.2 r hr
  omega
end Go.Proofs.Ytjjlhbgpdncpcaa.P.M
end
namespace Go.Proofs.Ytjjlhbgpdncpcaa.P
open Go.RowKit Go.Proofs.YtjjlhbgpdncpcaaW.PrintWords Go.Proofs.YtjjlhbgpdncpcaaW.PrintLast Go.Proofs.YtjjlhbgpdncpcaaW.PrintMore
set_option linter.unusedVariables false
set_option linter.unusedSimpArgs false
set_option maxHeartbeats 8000000
set_option maxRecDepth 100000
section
attribute [local go_sem] max2_int min2_int max_two min_two max_three min_three max_four min_four

end
end Go.Proofs.Ytjjlhbgpdncpcaa.P
section
set_option linter.unusedVariables false
namespace Go.Proofs.Ytjjlhbgpdncpcaa.P.M
open Go.RowKit Go.Proofs.YtjjlhbgpdncpcaaW.PrintWords Go.Proofs.YtjjlhbgpdncpcaaW.PrintLast Go.Proofs.YtjjlhbgpdncpcaaW.PrintMore
theorem awt2 : Tells (fun _ : Nat => codewrightlaw30_awake.f) true := Tells.now
theorem valid_loop (d : Int) (l : List (List Int)) (hl : l.length ≤ 1000000) : ∀ (m i : Nat), i + m = l.length → (∀ a : Nat, a < i → ∀ h : a < l.length, checkL l[a] = 0 ∧ (l[a].length : Int) = d) → ∃ b, Tells (fun k => codewrightlaw30_valid.l0 k d l (l.length : Int) (i : Int)) b ∧ (b = true → ∀ p ∈ l, checkL p = 0 ∧ (p.length : Int) = d)
  | 0, i, hi, ha => by
    refine ⟨true, Tells.shift ?_, fun _ p hp => ?_⟩
    · simp only [codewrightlaw30_valid.l0]
      exact Tells.neg (by omega) Tells.now
    · obtain ⟨a, h, rfl⟩ := List.getElem_of_mem hp
      exact ha a (by omega) h
  | m + 1, i, hi, ha => by
    have hil : i < l.length := by omega
    by_cases h1 : checkL l[i] = 0
    · by_cases h2 : (l[i].length : Int) = d
      · obtain ⟨b, ht, hb⟩ := valid_loop d l hl m (i + 1) (by omega) (fun a k1 k2 => by
          by_cases e : a = i
          · subst e; exact ⟨h1, h2⟩
          · exact ha a (by omega) k2)
        refine ⟨b, Tells.shift ?_, hb⟩; simp only [codewrightlaw30_valid.l0, rd1_at, at1_eq hil]
        refine Tells.pos (by omega) (Tells.pos (by omega) (Tells.pos (by omega) (Tells.bind (Check_tells _) (Tells.pos h1 (Tells.pos h2 ?_))))); rw [w64 (n := (i : Int) + 1) (by omega) (by omega)]
        exact ht
      · refine ⟨false, Tells.shift ?_, fun h => by cases h⟩; simp only [codewrightlaw30_valid.l0, rd1_at, at1_eq hil]
        exact Tells.pos (by omega) (Tells.pos (by omega) (Tells.pos (by omega) (Tells.bind (Check_tells _) (Tells.pos h1 (Tells.neg h2 Tells.now)))))
    · refine ⟨false, Tells.shift ?_, fun h => by cases h⟩; simp only [codewrightlaw30_valid.l0, rd1_at, at1_eq hil]
      exact Tells.pos (by omega) (Tells.pos (by omega) (Tells.pos (by omega) (Tells.bind (Check_tells _) (Tells.neg h1 Tells.now))))
theorem valid_tells (d : Int) (l : List (List Int)) (hl : l.length ≤ 1000000) : ∃ b, Tells (fun k => codewrightlaw30_valid.f k d l) b ∧ (b = true → ∀ p ∈ l, checkL p = 0 ∧ (p.length : Int) = d) := by
  unfold codewrightlaw30_valid.f
  exact valid_loop d l hl l.length 0 (by omega) (fun a h => by omega)
theorem u8_rng {x : Int} (h : (Lit.int .u8 x).wf = true) : 0 ≤ x ∧ x < 256 := by
  simp [Lit.wf, IntKind.min, IntKind.max, IntKind.bits, IntKind.signed] at h
  omega
theorem deg_of {a : Int} (h : 0 ≤ a ∧ a < 256) (q : Nat) (hq : 1 ≤ q) (hq2 : q ≤ 10) : ∃ d : Nat, wrap64 (1 + Int.tmod (wrap64 a) (q : Int)) = d ∧ 1 ≤ d ∧ d ≤ q := by
  obtain ⟨m, rfl⟩ : ∃ m : Nat, a = m := ⟨a.toNat, by omega⟩
  rw [w64 (n := (m : Int)) (by omega) (by omega), tmod_nat']
  have := Nat.mod_lt m (show 0 < q by omega)
  refine ⟨1 + m % q, ?_, by omega, by omega⟩
  rw [w64 (by omega) (by omega)]; omega
end Go.Proofs.Ytjjlhbgpdncpcaa.P.M
end
section
set_option linter.unusedVariables false
namespace Go.Proofs.Ytjjlhbgpdncpcaa.P.M
open Go.RowKit Go.Proofs.YtjjlhbgpdncpcaaW.PrintWords Go.Proofs.YtjjlhbgpdncpcaaW.PrintLast Go.Proofs.YtjjlhbgpdncpcaaW.PrintMore
theorem Gp_more {n : Nat} {l l' : List (List Int)} (h1 : ∀ g ∈ l', Gp n l g) (h2 : ∀ g ∈ l, g ∈ l') (hl : ∀ p ∈ l, Pm n p) : Gp n l' = Gp n l := by
  have hl' : ∀ p ∈ l', Pm n p := fun p hp => (h1 p hp).pm hl
  exact funext (fun p => propext ⟨fun h => Cl.sub hl h1 h, fun h => Cl.sub hl' (fun g hg => Cl.gen hl' (h2 g hg)) h⟩)
theorem canonical_true (a : Int) (l : List (List Int)) (u : List Int) (w0 : (Lit.int .u8 a).wf = true) (w2 : ∀ x ∈ u, (Lit.int .u8 x).wf = true) : ∃ k, codewrightlaw30_PermCanonical.f k a l u = some true := by
  apply Tells.some
  unfold codewrightlaw30_PermCanonical.f
  obtain ⟨d, hd, hd1, hd2⟩ := deg_of (u8_rng w0) 8 (by omega) (by omega)
  have hd' : wrap64 (1 + Int.tmod (wrap64 a) 8) = (d : Int) := hd
  rw [hd']
  refine Tells.bind awt2 (Tells.pos rfl ?_)
  have big : Tells (fun k => codewrightlaw30_PermCanonical.j0 k l u (d : Int) true) true := by
    refine Tells.shift ?_; simp only [codewrightlaw30_PermCanonical.j0]
    exact Tells.pos trivial (Tells.bind awt2 Tells.now)
  by_cases h0 : (l.length : Int) = 0
  · exact Tells.pos h0 big
  refine Tells.neg h0 ?_
  by_cases h5 : (l.length : Int) > 4
  · exact Tells.pos h5 big
  refine Tells.neg h5 ?_
  by_cases h20 : (u.length : Int) > 20
  · exact Tells.pos h20 big
  refine Tells.neg h20 ?_
  obtain ⟨b, hb, hbv⟩ := valid_tells (d : Int) l (by omega)
  refine Tells.bind hb ?_
  cases b with
  | false => exact big
  | true =>
    have hv := hbv rfl
    have hpm : ∀ p ∈ l, Pm d p := fun p hp => by
      have := hv p hp; have h2 := checkL_zero.1 this.1; have : p.length = d := by omega
      rw [← this]; exact h2.1
    have hG := IsG.of hd1 (show d ≤ 64 by omega) hpm; have hbl := PBuild_tells (d : Int) l; rw [buildL_ok hd1 (by omega) hpm] at hbl; have hcc := PCheck_tells (d : Int) (SmallC.canon hG); rw [ccL_canon hG] at hcc; have hfine := (SmallC.canon hG).fine; have hsame : Tells (fun k => codewrightref30_Same.f k (d : Int) (chainP d (Gp d l)) (d : Int) (chainP d (Gp d l))) true := (Same_tells (d : Int) (d : Int) _ _ hfine).eq (by simp)
    refine Tells.shift ?_; simp only [codewrightlaw30_PermCanonical.j0]
    refine Tells.neg (by simp) (Tells.bind hbl (Tells.pos rfl (Tells.bind hcc ?_)))
    refine Tells.shift ?_; simp only [codewrightlaw30_PermCanonical.j1]
    refine Tells.neg (by simp) (Tells.bind (Unit_tells d (by omega)) ?_)
    -- the generators the other way round
    have l1 : ∀ (m : Nat) (i : Int) (x : List (List Int)), i + 1 = m → (m : Int) ≤ l.length → x.length + m ≤ l.length + 1 → (∀ g ∈ x, Gp d l g) → (∀ c : Nat, m ≤ c → ∀ hc : c < l.length, l[c] ∈ x) → Tells (fun k => codewrightlaw30_PermCanonical.l1 k l (d : Int) x i (d : Int) (chainP d (Gp d l))) true := by
      intro m
      induction m with
      | zero =>
        intro i x hi hm hx hg hc
        have hxpm : ∀ p ∈ x, Pm d p := fun p hp => hG.pm (hg p hp)
        have hb2 := PBuild_tells (d : Int) x
        have hin : ∀ g ∈ l, g ∈ x := fun g hgl => by
          obtain ⟨c, h, rfl⟩ := List.getElem_of_mem hgl
          exact hc c (by omega) h
        rw [buildL_ok hd1 (by omega) hxpm, Gp_more hg hin hpm] at hb2; have hb3 := PBuild_tells (d : Int) (gensOf (chainP d (Gp d l))); rw [buildL_canon hG] at hb3
        refine Tells.shift ?_; simp only [codewrightlaw30_PermCanonical.l1]
        exact Tells.neg (by omega) (Tells.bind hb2 (Tells.bind (Gens_tells (d : Int) (SmallC.canon hG)) (Tells.bind hb3 (Tells.pos rfl (Tells.pos rfl (Tells.bind hsame (Tells.pos rfl (Tells.bind hsame Tells.now))))))))
      | succ m ih =>
        intro i x hi hm hx hg hc
        have hil : m < l.length := by omega
        have ei : i = (m : Int) := by omega
        subst ei
        refine Tells.shift ?_; simp only [codewrightlaw30_PermCanonical.l1, rd1_at, at1_eq hil]
        refine Tells.pos (by omega) (Tells.pos (by omega) (Tells.pos (by omega) (Tells.pos (by omega) ?_))); rw [w64 (n := (m : Int) - 1) (by omega) (by omega)]
        refine ih ((m : Int) - 1) _ (by omega) (by omega) (by rw [List.length_append, List.length_singleton]; omega) (fun g hgx => ?_) (fun c h1 h2 => ?_)
        · rw [List.mem_append, List.mem_singleton] at hgx
          rcases hgx with h | rfl
          · exact hg g h
          · exact Cl.gen hpm (List.getElem_mem hil)
        · by_cases e : c = m
          · subst e; exact List.mem_append_right _ (List.mem_singleton.2 rfl)
          · exact List.mem_append_left _ (hc c (by omega) h2)
    have loop : ∀ (m i : Nat) (p : List Int), i + m = u.length → Gp d l p → Tells (fun k => codewrightlaw30_PermCanonical.l0 k l (d : Int) p u (u.length : Int) (i : Int) (d : Int) (chainP d (Gp d l))) true := by
      intro m
      induction m with
      | zero =>
        intro i p hi hp
        refine Tells.shift ?_; simp only [codewrightlaw30_PermCanonical.l0]
        refine Tells.neg (by omega) ?_; rw [w64 (n := (l.length : Int) - 1) (by omega) (by omega)]
        exact l1 l.length ((l.length : Int) - 1) [p] (by omega) (by omega) (by simp; omega) (fun g hg => by rw [List.mem_singleton] at hg; rw [hg]; exact hp) (fun c h1 h2 => by omega)
      | succ m ih =>
        intro i p hi hp
        have hpp := hG.pm hp; have hil : i < u.length := by omega
        have e0 : ap u (i : Int) = u[i] := by rw [ap_nat, List.getD_eq_getElem?_getD, List.getElem?_eq_getElem hil]; rfl
        have hu := u8_rng (w2 _ (List.getElem_mem hil)); obtain ⟨x, hx⟩ : ∃ x : Nat, u[i] = (x : Int) := ⟨u[i].toNat, by omega⟩; have hml := Nat.mod_lt x (show 0 < l.length by omega); have hgm := hpm _ (List.getElem_mem hml); have hpl := hpp.1; have hgl := hgm.1
        refine Tells.shift ?_; simp only [codewrightlaw30_PermCanonical.l0, rd_ap, e0, hx]; rw [w64 (n := (x : Int)) (by omega) (by omega), tmod_nat', rd1_at, at1_eq hml]
        refine Tells.pos (by omega) (Tells.pos (by omega) (Tells.pos (by omega) (Tells.neg h0 (Tells.pos (by omega) (Tells.pos (by omega) (Tells.bind (Then_tells _ _ (by omega) (by rw [hgl]; exact hpp.rg)) ?_)))))); rw [w64 (n := (i : Int) + 1) (by omega) (by omega)]
        exact ih (i + 1) _ (by omega) (Cl.mul hp (List.getElem_mem hml))
    exact loop u.length 0 (idL d) (by omega) .one
end Go.Proofs.Ytjjlhbgpdncpcaa.P.M
end
section
namespace Go.Proofs.Ytjjlhbgpdncpcaa.P
open Go.ChangeShapes Go.WideShapes Go.ChangeAt Go.RowKit Go.Proofs.YtjjlhbgpdncpcaaW.PrintWords Go.Proofs.YtjjlhbgpdncpcaaW.PrintLast Go.Proofs.YtjjlhbgpdncpcaaW.PrintMore
set_option linter.unusedVariables false
section
variable {H : Type} {enc : TypeId × Value → H} {W : World} {v : Value} {d : DataW H} {ps : List MemPlace} {held : Bool}
set_option maxRecDepth 100000 in
theorem open_list_u8 {base : Nat} (hv : Value.okWide Try.prog W .any base 66 v) (h : DataW.Trod enc Try.prog W 0 (fun _ => true) held 66 v d ps) :
    ∃ (a : Option Addr) (c : Nat) (l : List Int), v = .slice a l.length c ∧ (Kd.int .u8).C W a l.length l ∧ l.length ≤ c ∧ ∀ x ∈ l, (Lit.int .u8 x).wf = true := by
  obtain ⟨a, len, cap, rfl⟩ := okWide_slice Try.underlying66 hv
  obtain ⟨fuel, hf⟩ := h
  have key : ∃ zs : List Int, (a = none ∧ len = 0 ∧ cap = 0 ∧ zs = []) ∨ ∃ x, a = some x ∧ len ≤ cap ∧ cap ≤ maxLen ∧ zs.length = cap ∧ (∀ i, i < zs.length → W.cell? (x.add i) = some (.int .u8 (zs.getD i 0))) ∧ ∀ n ∈ zs, (Lit.int .u8 n).wf = true := by
    rcases open_ints Try.underlying66 Try.underlying5 (by kernel_rfl) hf with ⟨hcs, _⟩ | ⟨x, l, c, zs, hcs, _, hl, hm, hz, _, hcell, hwz⟩
    · simp [Value.cells] at hcs
      obtain ⟨rfl, rfl, rfl⟩ := hcs
      exact ⟨[], .inl ⟨rfl, rfl, rfl, rfl⟩⟩
    · simp [Value.cells] at hcs
      obtain ⟨rfl, rfl, rfl⟩ := hcs
      exact ⟨zs, .inr ⟨_, rfl, hl, hm, by simpa using hz, hcell, hwz⟩⟩
  obtain ⟨zs, hz⟩ := key
  obtain ⟨l, rfl, hr, hm, hw, hc⟩ := ReadsInt.ofRowC hz
  exact ⟨a, cap, l, rfl, Kd.C_of_reads (d := (0 : Int)) (h1 := fun _ => rfl) hr, hc, hw⟩
theorem V_rows_of_C {l : List (List Int)} {a : Option Addr} {c : Nat} (h : (Kd.slice 3 (Kd.int .i64)).C W a l.length l) (hc : l.length ≤ c) : Kd.V (Kd.slice 3 (Kd.int .i64)) 22 W W.heap.size (fun k => k < W.heap.size) (.slice a l.length c) l := Kd.V_mk hc (Kd.C_F (Kd.heap_slice 3 (Kd.heap_int .i64)) h)
theorem list_of_cells {A : Option Addr} {L C : Nat} {Z : List Int} (hl : L ≤ C) (hm : C ≤ maxLen) (hz : Z.length = C) (hn : A = none → C = 0) (hc : ∀ a', A = some a' → ∀ c, c < C → W.cell? (a'.add c) = some (.int .i64 (Z.getD c 0))) (hw : ∀ n ∈ Z, (Lit.int .i64 n).wf = true) :
    (Kd.slice 3 (Kd.int .i64)).K W (Z.take L) [.slice A L C] := by
  have key : (A = none ∧ L = 0 ∧ C = 0 ∧ Z = []) ∨ ∃ x, A = some x ∧ L ≤ C ∧ C ≤ maxLen ∧ Z.length = C ∧ (∀ i, i < Z.length → W.cell? (x.add i) = some (.int .i64 (Z.getD i 0))) ∧ ∀ n ∈ Z, (Lit.int .i64 n).wf = true := by
    cases A with
    | none =>
      have h0 := hn rfl; subst h0
      exact .inl ⟨rfl, by omega, rfl, List.eq_nil_of_length_eq_zero hz⟩
    | some x => exact .inr ⟨x, rfl, hl, hm, hz, fun i hi => hc x rfl i (by omega), hw⟩
  have hlen : (Z.take L).length = L := by rw [List.length_take]; omega
  refine ⟨A, C, by rw [hlen], by omega, ?_⟩
  rw [hlen]
  refine ⟨hlen, Nat.le_trans (Nat.le_trans hl hm) (by decide), fun h0 => ?_⟩
  rcases key with ⟨_, h2, _⟩ | ⟨x, rfl, _⟩
  · omega
  · refine ⟨x, rfl, fun j p hj => ⟨[.int .i64 p], rfl, rfl, fun i u hu => ?_⟩⟩
    have hi : i = 0 ∧ u = .int .i64 p := by
      cases i with
      | zero => simp at hu; exact ⟨rfl, hu.symm⟩
      | succ i => simp at hu
    obtain ⟨rfl, rfl⟩ := hi
    have hj' : j < L := by
      have := (List.getElem?_eq_some_iff.1 hj).1; omega
    have hg : Z.getD j 0 = p := by
      rw [List.getElem?_take_of_lt hj'] at hj; rw [List.getD_eq_getElem?_getD, hj]; rfl
    have := hc x rfl j (by omega); rw [hg] at this
    show W.cell? (x.add (j * 1 + 0)) = _
    rw [Nat.mul_one, Nat.add_zero]
    exact this
set_option maxRecDepth 100000 in
theorem open_rows {base : Nat} (hv : Value.okWide Try.prog W .any base 28 v) (h : DataW.Trod enc Try.prog W 0 (fun _ => true) held 28 v d ps) :
    ∃ (a : Option Addr) (c : Nat) (l : List (List Int)), v = .slice a l.length c ∧ (Kd.slice 3 (Kd.int .i64)).C W a l.length l ∧ l.length ≤ c := by
  obtain ⟨a, len, cap, rfl⟩ := okWide_slice Try.underlying28 hv
  obtain ⟨fuel, hf⟩ := h
  rcases Go.Deep.open_int_rows Try.underlying28 Try.underlying22 Try.underlying3 (by kernel_rfl) (by kernel_rfl) hf with ⟨hcs, _⟩ | ⟨x, l, c, A, L, C, Z, hcs, _, hl, hm, _, hr⟩
  · simp [Value.cells] at hcs
    obtain ⟨rfl, rfl, rfl⟩ := hcs
    exact ⟨none, 0, [], rfl, Kd.C_nil _ _, Nat.le_refl _⟩
  · simp [Value.cells] at hcs
    obtain ⟨rfl, rfl, rfl⟩ := hcs
    refine ⟨some x, cap, (List.range len).map (fun r => (Z r).take (L r)), by simp, ?_, by simp; exact hl⟩; rw [List.length_map, List.length_range]
    refine ⟨by simp, Nat.le_trans (Nat.le_trans hl hm) (by decide), fun h0 => ⟨x, rfl, fun j p hj => ?_⟩⟩
    have hj' : j < len := by
      have := (List.getElem?_eq_some_iff.1 hj).1
      simpa using this
    have hp : p = (Z j).take (L j) := by
      have := (List.getElem?_eq_some_iff.1 hj).2
      simpa using this.symm
    subst hp; obtain ⟨h1, h2, h3, h4, h5, h6, h7⟩ := hr j (by omega)
    refine ⟨_, rfl, list_of_cells h2 h3 h4 h6 (fun a' e c hc => (h7 a' e).2 c hc) h5, fun i u hu => ?_⟩
    have hi : i = 0 ∧ u = .slice (A j) (L j) (C j) := by
      cases i with
      | zero => simp at hu; exact ⟨rfl, hu.symm⟩
      | succ i => simp at hu
    obtain ⟨rfl, rfl⟩ := hi
    show W.cell? (x.add (j * 1 + 0)) = _
    rw [Nat.mul_one, Nat.add_zero]
    exact h1
end
end Go.Proofs.Ytjjlhbgpdncpcaa.P
end
section
namespace Go.Proofs.Ytjjlhbgpdncpcaa.permCanonical
open Go.ChangeShapes Go.WideShapes Go.ChangeAt Go.RowKit Go.Proofs.YtjjlhbgpdncpcaaW.PrintWords Go.Proofs.YtjjlhbgpdncpcaaW.PrintLast Go.Proofs.YtjjlhbgpdncpcaaW.PrintMore
open Go.ChangeMaps (open_string shut_string)
set_option linter.unusedVariables false
theorem own : ownKnob Try.prog.godebug = none := by kernel_rfl
theorem laidOut : laidOutB Try.prog = true := by kernel_rfl
set_option maxRecDepth 100000 in
theorem lifted (os : Os) (started : os.Started) (H : Type) (enc : TypeId × Value → H) :
    ReturnsInHanded {} Try.checked os 10 .any (Rows.permCanonicalSpec.pre6 enc Try.prog Try.f10 Rows.permCanonicalRow.domain false) (Rows.permCanonicalSpec.post enc Try.prog Try.f10 false true false false) := by
  refine returnsInHanded_of_change_sized (C := Try.checked) own started (by kernel_rfl) Try.func10
    (ChangeSpec.witness6 (enc := enc) (C := Try.checked) false ⟨#[], #[.int .u8 0, .slice none 0 0, .slice none 0 0], []⟩ 8 (by kernel_rfl) (by kernel_rfl) (by kernel_rfl) (by kernel_rfl)) ?_
  intro W base args ds gs before hval0 hW hcnd hsz0 _
  have hval : ∀ (j : Nat) t v, Try.f10.params[j]? = some t → args[j]? = some v → Value.okWide Try.prog W .any base t v := hval0
  have hW' := hW
  obtain ⟨p, q, hA0, hV, rfl, hfz, hnd⟩ := hW
  have hA : DataW.TrodAll enc Try.prog W 0 (fun _ => true) true Try.f10.params.toList args.toList ds p := hA0
  rw [Try.params10] at hA hval
  obtain ⟨v0, vs0, d0, ds0, p0, q0, hargs, rfl, rfl, h0, r0⟩ := trodAll_cons hA
  obtain ⟨v1, vs1, d1, ds1, p1, q1, rfl, rfl, rfl, h1, r1⟩ := trodAll_cons r0
  obtain ⟨v2, vs2, d2, ds2, p2, q2, rfl, rfl, rfl, h2, r2⟩ := trodAll_cons r1
  obtain ⟨rfl, rfl, rfl⟩ := trodAll_nil r2
  obtain rfl : args = #[v0, v1, v2] := by cases args; simp_all
  obtain ⟨rfl, rfl⟩ := trodVars_none hV
  obtain ⟨a0, rfl, rfl, rfl, w0⟩ := open_int Try.underlying5 (hval 0 5 v0 rfl rfl) h0
  have k1 := h1
  have lt1 : ∀ x ∈ p1, x.block < W.heap.size := by obtain ⟨m, hm⟩ := k1; exact DataW.trod_lt m _ _ _ hm
  obtain ⟨a1, c1, l1, rfl, hr1, hm1⟩ := P.open_rows (hval 1 28 v1 rfl rfl) h1
  have k2 := h2
  have lt2 : ∀ x ∈ p2, x.block < W.heap.size := by obtain ⟨m, hm⟩ := k2; exact DataW.trod_lt m _ _ _ hm
  obtain ⟨a2, c2, l2, rfl, hr2, hm2, hw2⟩ := P.open_list_u8 (hval 2 66 v2 rfl rfl) h2
  clear hA0 hval0 hsz0
  obtain ⟨k, hk⟩ := P.M.canonical_true a0 l1 l2 w0 hw2
  refine (P.codewrightlaw30_PermCanonical.calls k a0 _ _ _ l1 _ _ l2 true W (P.V_rows_of_C hr1 hm1) hr2 hm2 hk).mono fun e W' ⟨he, bel⟩ => ?_
  subst he
  exact ⟨_, rfl, _, _, _, [], _, [], hW', trodAll_mk1 (shut_bool Try.underlying4 _), (trodAll_cons_mk (shut_int Try.underlying5 w0) (trodAll_cons_mk (Below.trod laidOut (by kernel_rfl) (of_decide_eq_true (by kernel_rfl)) k1 bel lt1) (trodAll_cons_mk (Below.trod laidOut (by kernel_rfl) (of_decide_eq_true (by kernel_rfl)) k2 bel lt2) trodAll_mk0))), rfl, bel.frame _, fun h => by cases h⟩
theorem over : Rows.permCanonicalRow.holds Try.pinned (OpenSpec.ofChange Rows.permCanonicalSpec) :=
  OpenClaim.holds_of_wide 10 Try.f10 rfl rfl rfl rfl rfl rfl rfl ⟨rfl, rfl, rfl, rfl, rfl⟩ rfl rfl rfl rfl rfl (by kernel_rfl) Try.func10 (by kernel_rfl)
    (of_decide_eq_true (by kernel_rfl)) (by unfold Func.isWrapper; first | (rw [if_pos (by decide +kernel)]; kernel_rfl) | (rw [if_neg (by decide +kernel)]; exact ⟨rfl, rfl⟩))
    (fun os started H enc _ => lifted os started H enc)
end Go.Proofs.Ytjjlhbgpdncpcaa.permCanonical
namespace Go.Proofs.Ytjjlhbgpdncpcaa
theorem permCanonical_holds : Rows.PermCanonicalSaid := permCanonical.over
end Go.Proofs.Ytjjlhbgpdncpcaa
end
