/- The law of the claim, proved for every input: the last of its texts. -/
import Derived.Test.YtjjlhbgpdncpcaaRows
import Derived.Deep.Matrix
import Derived.WalkKit
import Derived.ProofKit
import Derived.OpenShut
import Derived.ShutString
import Derived.ChangeOld
import Derived.Below
import Derived.SizedLaws
import Derived.Carry
import Derived.Test.YtjjlhbgpdncpcaaMo4
import Derived.Test.YtjjlhbgpdncpcaaMo3
import Derived.Test.YtjjlhbgpdncpcaaMo1
section
set_option linter.unusedVariables false
set_option linter.unusedSimpArgs false
namespace Go.Proofs.Ytjjlhbgpdncpcaa.P.M
open Go.RowKit Go.Proofs.YtjjlhbgpdncpcaaW.PrintWords Go.Proofs.YtjjlhbgpdncpcaaW.PrintLast Go.Proofs.YtjjlhbgpdncpcaaW.PrintMore
def run (n : Nat) (p : List Int) (x : Int) (t : Nat) : List Int := (List.range t).map (fun s => ap (powL n p s) x)
theorem rdb_set {l : List Bool} {i : Int} (v : Bool) (h0 : 0 ≤ i) (h1 : i < (l.length : Int)) {j : Int} (k0 : 0 ≤ j) : rdOf false (l.set i.toNat v) j = if j = i then v else rdOf false l j := by
  have hi : i.toNat < l.length := by omega
  by_cases e : j = i
  · subst e
    rw [if_pos rfl, rdOf, List.getD_eq_getElem?_getD, List.getElem?_set_self hi]; rfl
  rw [if_neg e, rdOf, List.getD_eq_getElem?_getD, List.getElem?_set_ne (by omega), ← List.getD_eq_getElem?_getD]; rfl
theorem count_set : ∀ {l : List Bool} {i : Nat}, i < l.length → l.getD i false = false → (l.set i true).count true = l.count true + 1
  | [], i, h, _ => by simp at h
  | b :: l, 0, h, e => by
    have : b = false := by simpa using e
    subst this; simp [List.count_cons]
  | b :: l, i + 1, h, e => by
    have := count_set (l := l) (i := i) (by simpa using h) (by simpa using e); simp only [List.set_cons_succ, List.count_cons, this]; omega
theorem rdb_lt {l : List Bool} {i : Int} (h0 : 0 ≤ i) (h1 : i < (l.length : Int)) (e : rdOf false l i = false) : (l.set i.toNat true).count true = l.count true + 1 := count_set (by omega) e
end Go.Proofs.Ytjjlhbgpdncpcaa.P.M
end
namespace Go.Proofs.Ytjjlhbgpdncpcaa.P
open Go.RowKit Go.Proofs.YtjjlhbgpdncpcaaW.PrintWords Go.Proofs.YtjjlhbgpdncpcaaW.PrintLast Go.Proofs.YtjjlhbgpdncpcaaW.PrintMore
set_option linter.unusedVariables false
set_option linter.unusedSimpArgs false
set_option maxHeartbeats 8000000
set_option maxRecDepth 100000
section
attribute [local go_sem] max2_int min2_int max_two min_two max_three min_three max_four min_four

end
section
attribute [local go_sem] max2_int min2_int max_two min_two max_three min_three max_four min_four

end
end Go.Proofs.Ytjjlhbgpdncpcaa.P
section
set_option linter.unusedVariables false
set_option linter.unusedSimpArgs false
namespace Go.Proofs.Ytjjlhbgpdncpcaa.P.M
open Go.RowKit Go.Proofs.YtjjlhbgpdncpcaaW.PrintWords Go.Proofs.YtjjlhbgpdncpcaaW.PrintLast Go.Proofs.YtjjlhbgpdncpcaaW.PrintMore
structure GI (n : Nat) (gens : List (List Int)) (seen : List Bool) (out : List (List Int)) : Prop where
  len : seen.length = 46656
  el : ∀ p ∈ out, Gp n gens p
  one : idL n ∈ out
  nd : out.Nodup
  mem : ∀ p, Pm n p → (rdOf false seen (cdF 0 p) = true ↔ p ∈ out)
  cnt : out.length = seen.count true
theorem GI.short {n : Nat} {gens : List (List Int)} {seen : List Bool} {out : List (List Int)} (h : GI n gens seen out) : out.length ≤ 46656 := by
  have h1 := h.cnt
  have h2 : seen.count true ≤ seen.length := List.count_le_length
  have := h.len
  omega
theorem GI.next {n : Nat} (hn : n ≤ 6) {gens : List (List Int)} (hg : ∀ p ∈ gens, Pm n p) {seen : List Bool} {out : List (List Int)} (h : GI n gens seen out) {p : List Int} (hp : Gp n gens p) (hs : rdOf false seen (cdF 0 p) = false) : GI n gens (seen.set (cdF 0 p).toNat true) (out ++ [p]) := by
  have hpm := hp.pm hg
  have hc := cd_small hn hpm
  have hl := h.len
  refine ⟨by rw [List.length_set]; exact hl, fun q hq => ?_, List.mem_append_left _ h.one, ?_, fun q hq => ?_, ?_⟩
  · rw [List.mem_append, List.mem_singleton] at hq
    rcases hq with hq | rfl
    · exact h.el q hq
    · exact hp
  · rw [List.nodup_append]
    refine ⟨h.nd, by simp, fun a ha b hb e => ?_⟩; rw [List.mem_singleton] at hb; subst hb; rw [e] at ha; rw [(h.mem _ hpm).2 ha] at hs; cases hs
  · have hcq := cd_small hn hq
    rw [rdb_set true hc.1 (by omega) hcq.1, List.mem_append, List.mem_singleton]
    by_cases e : cdF 0 q = cdF 0 p
    · rw [if_pos e]; simp [cd_inj hn hq hpm e]
    rw [if_neg e, h.mem q hq]
    constructor
    · exact fun k => .inl k
    · rintro (k | rfl)
      · exact k
      · exact absurd rfl e
  · rw [rdb_lt hc.1 (by omega) hs, List.length_append, h.cnt]; rfl
theorem group_tells (n : Int) (l : List (List Int)) (hl : l.length ≤ 4611686018427387904) : Tells (fun k => r30_group.f k n l) (gensE n l) := by
  unfold r30_group.f gensE
  by_cases h1 : n < 1
  · refine Tells.pos h1 (Tells.now' ?_)
    rw [if_pos (.inl h1)]
  refine Tells.neg h1 ?_
  by_cases h2 : n > 64
  · refine Tells.pos h2 (Tells.now' ?_)
    rw [if_pos (.inr h2)]
  refine Tells.neg h2 ?_
  rw [if_neg (by omega)]
  exact Tells.bind (all_tells n l hl) Tells.now
end Go.Proofs.Ytjjlhbgpdncpcaa.P.M
end
section
set_option linter.unusedVariables false
set_option linter.unusedSimpArgs false
namespace Go.Proofs.Ytjjlhbgpdncpcaa.P.M
open Go.RowKit Go.Proofs.YtjjlhbgpdncpcaaW.PrintWords Go.Proofs.YtjjlhbgpdncpcaaW.PrintLast Go.Proofs.YtjjlhbgpdncpcaaW.PrintMore
instance : DecidableEq S74 := fun x y =>
  if h : x.f0 = y.f0 ∧ x.f1 = y.f1 ∧ x.f2 = y.f2 then isTrue (by cases x; cases y; simp at h; simp [h]) else isFalse (fun e => h (by rw [e]; exact ⟨rfl, rfl, rfl⟩))
theorem few_l0 (n : Int) (l : List (List Int)) (hl : l.length ≤ 1000) : ∀ (m i : Nat) (x : Int), i + m = l.length → 0 ≤ x → x ≤ 1000 → (∀ a : Nat, a < i → ∀ ha : a < l.length, l[a].length ≤ 1000) → ∃ b, Tells (fun k => r09_Few.l0 k x (i : Int) n l) b ∧ (b = true → ∀ r ∈ l, r.length ≤ 1000)
  | 0, i, x, hi, h0, h1, ha => by
    refine ⟨true, Tells.shift ?_, fun _ r hr => ?_⟩
    · simp only [r09_Few.l0]
      exact Tells.neg (by omega) Tells.now
    · obtain ⟨a, h, rfl⟩ := List.getElem_of_mem hr
      exact ha a (by omega) h
  | m + 1, i, x, hi, h0, h1, ha => by
    have hil : i < l.length := by omega
    by_cases h : (l[i].length : Int) > x
    · refine ⟨false, Tells.shift ?_, fun h => by cases h⟩; simp only [r09_Few.l0, rd1_at, at1_eq hil]
      exact Tells.pos (by omega) (Tells.pos (by omega) (Tells.pos h Tells.now))
    · obtain ⟨b, ht, hb⟩ := few_l0 n l hl m (i + 1) (x - l[i].length) (by omega) (by omega) (by omega) (fun a h1 h2 => by
        by_cases e : a = i
        · subst e; omega
        · exact ha a (by omega) h2)
      refine ⟨b, Tells.shift ?_, hb⟩; simp only [r09_Few.l0, rd1_at, at1_eq hil]
      refine Tells.pos (by omega) (Tells.pos (by omega) (Tells.neg h ?_)); rw [w64 (n := x - (l[i].length : Int)) (by omega) (by omega), w64 (n := (i : Int) + 1) (by omega) (by omega)]
      exact ht
theorem Few_tells (l : List (List Int)) (a : Int) (h0 : 0 ≤ a) (h1 : a ≤ 1000) : ∃ b, Tells (fun k => r09_Few.f k 0 l a) b ∧ (b = true → l.length ≤ 1000 ∧ ∀ r ∈ l, r.length ≤ 1000) := by
  by_cases h : (l.length : Int) > a
  · refine ⟨false, ?_, fun h => by cases h⟩
    unfold r09_Few.f
    refine Tells.neg (by omega) (Tells.shift ?_); simp only [r09_Few.j0]
    exact Tells.pos (decide_eq_true h) Tells.now
  obtain ⟨b, ht, hb⟩ := few_l0 0 l (by omega) l.length 0 (a - l.length) (by omega) (by omega) (by omega) (fun a h => by omega)
  refine ⟨b, ?_, fun hb' => ⟨by omega, hb hb'⟩⟩
  unfold r09_Few.f
  refine Tells.neg (by omega) (Tells.shift ?_)
  simp only [r09_Few.j0]
  refine Tells.neg (by rw [decide_eq_false h]; decide) ?_
  rw [w64 (n := a - (l.length : Int)) (by omega) (by omega)]
  exact ht
end Go.Proofs.Ytjjlhbgpdncpcaa.P.M
end
section
set_option linter.unusedVariables false
set_option linter.unusedSimpArgs false
namespace Go.Proofs.Ytjjlhbgpdncpcaa.P.M
open Go.RowKit Go.Proofs.YtjjlhbgpdncpcaaW.PrintWords Go.Proofs.YtjjlhbgpdncpcaaW.PrintLast Go.Proofs.YtjjlhbgpdncpcaaW.PrintMore
def OrbE (n : Nat) (l : List (List Int)) (x y : Int) : Prop := ∃ p, Gp n l p ∧ ap p x = y
section
variable {n : Nat} {l : List (List Int)}
theorem OrbE.refl {x : Int} (h0 : 0 ≤ x) (h1 : x < n) : OrbE n l x x := ⟨idL n, .one, ap_id h0 h1⟩
theorem OrbE.rng (hl : ∀ p ∈ l, Pm n p) {x y : Int} (h0 : 0 ≤ x) (h1 : x < n) (h : OrbE n l x y) : 0 ≤ y ∧ y < n := by
  obtain ⟨p, hp, rfl⟩ := h
  exact (hp.pm hl).rng h0 h1
theorem OrbE.symm (hl : ∀ p ∈ l, Pm n p) {x y : Int} (h0 : 0 ≤ x) (h1 : x < n) (h : OrbE n l x y) : OrbE n l y x := by
  obtain ⟨p, hp, rfl⟩ := h
  refine ⟨invL p, Cl.inv hl hp, ?_⟩
  have hpp := hp.pm hl
  have : ap (mulL p (invL p)) x = x := by rw [mul_inv hpp, ap_id h0 h1]
  rwa [hpp.ap_mul h0 h1] at this
theorem OrbE.trans (hl : ∀ p ∈ l, Pm n p) {x y z : Int} (h0 : 0 ≤ x) (h1 : x < n) (h : OrbE n l x y) (k : OrbE n l y z) : OrbE n l x z := by
  obtain ⟨p, hp, rfl⟩ := h
  obtain ⟨q, hq, rfl⟩ := k
  exact ⟨mulL p q, Cl.mul' hl hp hq, (hp.pm hl).ap_mul h0 h1⟩
theorem OrbE.step (hl : ∀ p ∈ l, Pm n p) {x : Int} (h0 : 0 ≤ x) (h1 : x < n) {g : List Int} (hg : g ∈ l) : OrbE n l x (ap g x) := ⟨g, Cl.gen hl hg, rfl⟩
end
open Classical in
noncomputable def clsL (n : Nat) (l : List (List Int)) (i : Int) : List Int := ((List.range n).map (fun (y : Nat) => (y : Int))).filter (fun y => decide (OrbE n l i y))
def MinP (n : Nat) (l : List (List Int)) (i : Int) : Prop := ∀ j : Int, 0 ≤ j → j < i → ¬ OrbE n l j i
open Classical in
noncomputable def orbsF (n : Nat) (l : List (List Int)) (i m : Nat) : List (List Int) := (((List.range' i m).map (fun (y : Nat) => (y : Int))).filter (fun y => decide (MinP n l y))).map (clsL n l)
open Classical in
theorem orbsF_succ (n : Nat) (l : List (List Int)) (i m : Nat) : orbsF n l i (m + 1) = (if MinP n l (i : Int) then [clsL n l (i : Int)] else []) ++ orbsF n l (i + 1) m := by
  unfold orbsF
  rw [List.range'_succ, List.map_cons, List.filter_cons]
  by_cases h : MinP n l (i : Int)
  · rw [if_pos h, if_pos (decide_eq_true h)]; rfl
  rw [if_neg h, if_neg (by rw [decide_eq_false h]; decide)]; rfl
theorem mem_cls {n : Nat} {l : List (List Int)} {i y : Int} : y ∈ clsL n l i ↔ 0 ≤ y ∧ y < n ∧ OrbE n l i y := by
  unfold clsL
  rw [List.mem_filter, List.mem_map]
  constructor
  · rintro ⟨⟨x, hx, rfl⟩, h⟩
    rw [List.mem_range] at hx
    exact ⟨by omega, by omega, by simpa using h⟩
  · rintro ⟨h0, h1, h⟩
    exact ⟨⟨y.toNat, List.mem_range.2 (by omega), by omega⟩, by simpa using h⟩
theorem cls_sorted (n : Nat) (l : List (List Int)) (i : Int) : (clsL n l i).Pairwise (· < ·) := by
  unfold clsL
  refine List.Pairwise.filter _ ?_
  rw [List.pairwise_map]
  refine List.Pairwise.imp (fun h => ?_) List.pairwise_lt_range
  omega
theorem cls_len (n : Nat) (l : List (List Int)) (i : Int) : (clsL n l i).length ≤ n := by
  unfold clsL
  have := List.length_filter_le (p := fun y => @decide (OrbE n l i y) (Classical.propDecidable _)) ((List.range n).map (fun (y : Nat) => (y : Int)))
  rw [List.length_map, List.length_range] at this
  exact this
theorem nodup_perm {a b : List Int} (ha : a.Nodup) (hb : b.Nodup) (h : ∀ x, x ∈ a ↔ x ∈ b) : a.Perm b := (List.perm_ext_iff_of_nodup ha hb).2 h
theorem sort_cls {n : Nat} {l : List (List Int)} {i : Int} {o : List Int} (hnd : o.Nodup) (h : ∀ y, y ∈ o ↔ y ∈ clsL n l i) : insL o = clsL n l i := by
  rw [insL_eq]
  have hs := cls_sorted n l i
  have hnd2 : (clsL n l i).Nodup := hs.imp (fun h => by omega)
  exact (sortL_unique (nodup_perm hnd2 hnd (fun y => (h y).symm)) (hs.imp (fun h => by omega))).symm
structure BI (n : Nat) (l : List (List Int)) (i : Int) (old seen : List Bool) (orb : List Int) : Prop where
  len : seen.length = n
  mem : ∀ y : Int, 0 ≤ y → y < n → (rdOf false seen y = true ↔ rdOf false old y = true ∨ y ∈ orb)
  nd : orb.Nodup
  el : ∀ y ∈ orb, 0 ≤ y ∧ y < n ∧ OrbE n l i y
  one : i ∈ orb
theorem BI.short {n : Nat} {l : List (List Int)} {i : Int} {old seen : List Bool} {orb : List Int} (h : BI n l i old seen orb) : orb.length ≤ n := by
  have := sub_len h.nd (l2 := idL n) (fun x hx => mem_idL.2 ⟨(h.el x hx).1, (h.el x hx).2.1⟩)
  rwa [idL_len] at this
theorem orb_l2 {n : Nat} (hn : n ≤ 64) {l : List (List Int)} (hl : ∀ p ∈ l, Pm n p) (hll : l.length ≤ 1000) {i : Nat} (hi : i < n) {old : List Bool} (hmin : ∀ y : Int, 0 ≤ y → y < n → OrbE n l (i : Int) y → rdOf false old y = false) {out : List (List Int)} (ho : out.length ≤ 64) (v : List (List Int) × Int)
    (cont : ∀ seen, seen.length = n → (∀ y : Int, 0 ≤ y → y < n → (rdOf false seen y = true ↔ rdOf false old y = true ∨ OrbE n l (i : Int) y)) → Tells (fun k => perm_Orbits.l0 k l seen (out ++ [clsL n l (i : Int)]) (n : Int) ((i : Int) + 1)) v)
    (seen : List Bool) (orb : List Int) (kk j : Nat) (h : BI n l (i : Int) old seen orb) (hk : kk < orb.length) (hj : j ≤ l.length)
    (hpr : ∀ a : Nat, a < kk → ∀ g ∈ l, ap g (ap orb (a : Int)) ∈ orb) (hpj : ∀ c : Nat, c < j → ∀ hc : c < l.length, ap l[c] (ap orb (kk : Int)) ∈ orb) :
    Tells (fun k => perm_Orbits.l2 k l seen out orb (kk : Int) (n : Int) (i : Int) l (l.length : Int) (j : Int)) v := by
  have hsh := h.short
  have hsl := h.len
  by_cases hjl : j < l.length
  · have hg := hl _ (List.getElem_mem hjl)
    have hel := h.el (ap orb (kk : Int)) (ap_mem (by omega) (by omega)); have hx := hg.rng hel.1 hel.2.1; have hox : OrbE n l (i : Int) (ap l[j] (ap orb (kk : Int))) := OrbE.trans hl (by omega) (by omega) hel.2.2 (OrbE.step hl hel.1 hel.2.1 (List.getElem_mem hjl)); have hgl := hg.1
    refine Tells.shift ?_; simp only [perm_Orbits.l2, rd1_at, at1_eq hjl, rd_ap]
    refine Tells.pos (by omega) (Tells.pos (by omega) (Tells.pos (by omega) (Tells.pos (by omega) (Tells.pos (by omega) (Tells.pos hel.1 (Tells.pos (by omega) (Tells.pos hx.1 (Tells.pos (by omega) ?_))))))))
    by_cases hs : rdOf false seen (ap l[j] (ap orb (kk : Int))) = true
    · have hin : ap l[j] (ap orb (kk : Int)) ∈ orb := by
        rcases (h.mem _ hx.1 hx.2).1 hs with k | k
        · rw [hmin _ hx.1 hx.2 hox] at k; cases k
        · exact k
      refine Tells.pos hs ?_; rw [w64 (n := (j : Int) + 1) (by omega) (by omega)]
      exact orb_l2 hn hl hll hi hmin ho v cont seen orb kk (j + 1) h hk (by omega) hpr (fun c hcj hcl => by
        by_cases e : c = j
        · subst e; exact hin
        · exact hpj c (by omega) hcl)
    · have hs' : rdOf false seen (ap l[j] (ap orb (kk : Int))) = false := by simpa using hs
      have hnot : ap l[j] (ap orb (kk : Int)) ∉ orb := fun k => hs ((h.mem _ hx.1 hx.2).2 (.inr k))
      have hap : ∀ a : Nat, a < orb.length → ap (orb ++ [ap l[j] (ap orb (kk : Int))]) (a : Int) = ap orb (a : Int) := by
        intro a ha; rw [ap_nat, List.getD_eq_getElem?_getD, List.getElem?_append_left ha, ← List.getD_eq_getElem?_getD]
        exact (ap_nat orb a).symm
      have hnx : BI n l (i : Int) old (seen.set (ap l[j] (ap orb (kk : Int))).toNat true) (orb ++ [ap l[j] (ap orb (kk : Int))]) := by
        refine ⟨by rw [List.length_set]; exact hsl, fun y k0 k1 => ?_, ?_, fun y hy => ?_, List.mem_append_left _ h.one⟩
        · have hset : rdOf false (seen.set (ap l[j] (ap orb (kk : Int))).toNat true) y = if y = ap l[j] (ap orb (kk : Int)) then true else rdOf false seen y := by
            have hb : (ap l[j] (ap orb (kk : Int))).toNat < seen.length := by omega
            by_cases e : y = ap l[j] (ap orb (kk : Int))
            · rw [if_pos e, e, rdOf, List.getD_eq_getElem?_getD, List.getElem?_set_self hb]; rfl
            · rw [if_neg e, rdOf, List.getD_eq_getElem?_getD, List.getElem?_set_ne (by omega), ← List.getD_eq_getElem?_getD]; rfl
          rw [hset, List.mem_append, List.mem_singleton]
          by_cases e : y = ap l[j] (ap orb (kk : Int))
          · rw [if_pos e]; simp [e]
          · rw [if_neg e, h.mem y k0 k1]; simp [e]
        · rw [List.nodup_append]
          refine ⟨h.nd, by simp, fun a ha b hb e => ?_⟩; rw [List.mem_singleton] at hb; subst hb; rw [e] at ha; exact hnot ha
        · rw [List.mem_append, List.mem_singleton] at hy
          rcases hy with hy | rfl
          · exact h.el y hy
          · exact ⟨hx.1, hx.2, hox⟩
      have hnl := hnx.short; rw [List.length_append, List.length_singleton] at hnl
      refine Tells.neg (by rw [hs']; decide) (Tells.pos (by omega) ?_); rw [w64 (n := (j : Int) + 1) (by omega) (by omega)]
      exact orb_l2 hn hl hll hi hmin ho v cont _ _ kk (j + 1) hnx (by rw [List.length_append]; omega) (by omega) (fun a ha g hgg => by
        rw [hap a (by omega)]
        exact List.mem_append_left _ (hpr a ha g hgg)) (fun c hcj hcl => by
        rw [hap kk hk]
        by_cases e : c = j
        · subst e; exact List.mem_append_right _ (List.mem_singleton.2 rfl)
        · exact List.mem_append_left _ (hpj c (by omega) hcl))
  · have hall : ∀ a : Nat, a < kk + 1 → ∀ g ∈ l, ap g (ap orb (a : Int)) ∈ orb := by
      intro a ha g hgg
      by_cases e : a = kk
      · subst e; obtain ⟨c, hc, rfl⟩ := List.getElem_of_mem hgg
        exact hpj c (by omega) hc
      · exact hpr a (by omega) g hgg
    refine Tells.shift ?_; simp only [perm_Orbits.l2]
    refine Tells.neg (by omega) ?_; rw [w64 (n := (kk : Int) + 1) (by omega) (by omega)]
    refine Tells.shift ?_; simp only [perm_Orbits.l1]
    by_cases hnx : kk + 1 < orb.length
    · refine Tells.pos (by omega) ?_
      exact orb_l2 hn hl hll hi hmin ho v cont seen orb (kk + 1) 0 h hnx (by omega) hall (fun c hc => by omega)
    · have hcls : ∀ y, y ∈ orb ↔ y ∈ clsL n l (i : Int) := by
        intro y; rw [mem_cls]
        refine ⟨h.el y, ?_⟩; rintro ⟨h0, h1, p, hp, rfl⟩
        have : Pm n p ∧ ap p (i : Int) ∈ orb := by
          refine Cl.least (H := fun p => Pm n p ∧ ap p (i : Int) ∈ orb) ⟨Pm_id n, by rw [ap_id (by omega) (by omega)]; exact h.one⟩ ?_ hp; rintro p g ⟨hpp, hin⟩ hgg
          refine ⟨hpp.mul (hl g hgg), ?_⟩; rw [hpp.ap_mul (by omega) (by omega)]; obtain ⟨a, ha, e⟩ := List.getElem_of_mem hin; have := hall a (by omega) g hgg
          rwa [ap_nat, List.getD_eq_getElem?_getD, List.getElem?_eq_getElem ha, Option.getD_some, e] at this
        exact this.2
      refine Tells.neg (by omega) ?_
      have hsort : slSort.f orb = some (clsL n l (i : Int)) := by
        unfold slSort.f; rw [if_pos (by omega), sort_cls h.nd hcls]
      refine Tells.bind (a := clsL n l (i : Int)) ⟨0, fun _ _ => hsort⟩ (Tells.pos (by omega) ?_); rw [w64 (n := (i : Int) + 1) (by omega) (by omega)]
      refine cont seen hsl (fun y k0 k1 => ?_); rw [h.mem y k0 k1, hcls y, mem_cls]
      constructor
      · rintro (k | k)
        · exact .inl k
        · exact .inr k.2.2
      · rintro (k | k)
        · exact .inl k
        · exact .inr ⟨k0, k1, k⟩
  termination_by (n - orb.length, orb.length - kk, l.length - j)
  decreasing_by
    · apply Prod.Lex.right; apply Prod.Lex.right; omega
    · apply Prod.Lex.left; simp only [List.length_append, List.length_singleton] at *; omega
    · apply Prod.Lex.right; apply Prod.Lex.left; omega
open Classical in
theorem orb_l0 {n : Nat} (hn : n ≤ 64) {l : List (List Int)} (hl : ∀ p ∈ l, Pm n p) (hll : l.length ≤ 1000) : ∀ (m i : Nat) (seen : List Bool) (out : List (List Int)), i + m = n → seen.length = n → out.length ≤ i → (∀ y : Int, 0 ≤ y → y < n → (rdOf false seen y = true ↔ ∃ j : Int, 0 ≤ j ∧ j < i ∧ OrbE n l j y)) →
    Tells (fun k => perm_Orbits.l0 k l seen out (n : Int) (i : Int)) (out ++ orbsF n l i m, 0)
  | 0, i, seen, out, hi, hsl, ho, hs => by
    refine Tells.shift ?_; simp only [perm_Orbits.l0]
    exact Tells.neg (by omega) (Tells.now' (by simp [orbsF]))
  | m + 1, i, seen, out, hi, hsl, ho, hs => by
    refine Tells.shift ?_; simp only [perm_Orbits.l0]
    refine Tells.pos (by omega) (Tells.pos (by omega) (Tells.pos (by omega) ?_)); rw [orbsF_succ]
    by_cases hsi : rdOf false seen (i : Int) = true
    · refine Tells.pos hsi ?_; obtain ⟨j, h0, h1, hj⟩ := (hs (i : Int) (by omega) (by omega)).1 hsi; rw [w64 (n := (i : Int) + 1) (by omega) (by omega), if_neg (fun h => h j h0 h1 hj), List.nil_append]
      refine orb_l0 hn hl hll m (i + 1) seen out (by omega) hsl (by omega) (fun y k0 k1 => ?_); rw [hs y k0 k1]
      constructor
      · rintro ⟨a, a0, a1, ha⟩; exact ⟨a, a0, by omega, ha⟩
      · rintro ⟨a, a0, a1, ha⟩
        by_cases e : a = i
        · subst e; exact ⟨j, h0, h1, OrbE.trans hl h0 (by omega) hj ha⟩
        · exact ⟨a, a0, by omega, ha⟩
    · have hsi' : rdOf false seen (i : Int) = false := by simpa using hsi
      have hmin : MinP n l (i : Int) := fun j h0 h1 hj => hsi ((hs (i : Int) (by omega) (by omega)).2 ⟨j, h0, h1, hj⟩)
      refine Tells.neg (by rw [hsi']; decide) ?_; rw [if_pos hmin, ← List.append_assoc]
      have hold : ∀ y : Int, 0 ≤ y → y < n → OrbE n l (i : Int) y → rdOf false seen y = false := by
        intro y k0 k1 hy
        cases hc : rdOf false seen y with
        | false => rfl
        | true =>
          obtain ⟨j, h0, h1, hj⟩ := (hs y k0 k1).1 hc
          exact absurd (OrbE.trans hl h0 (by omega) hj (OrbE.symm hl (by omega) (by omega) hy)) (hmin j h0 h1)
      have hset : ∀ y : Int, 0 ≤ y → rdOf false (seen.set (i : Int).toNat true) y = if y = i then true else rdOf false seen y := by
        intro y k0; have hb : ((i : Int)).toNat < seen.length := by omega
        by_cases e : y = i
        · rw [if_pos e, e, rdOf, List.getD_eq_getElem?_getD, List.getElem?_set_self hb]; rfl
        · rw [if_neg e, rdOf, List.getD_eq_getElem?_getD, List.getElem?_set_ne (by omega), ← List.getD_eq_getElem?_getD]; rfl
      refine Tells.shift ?_; simp only [perm_Orbits.l1]
      refine Tells.pos (by simp) ?_
      refine orb_l2 hn hl hll (by omega) hold (by omega) _ (fun seen' hl' hs' => ?_) (seen.set (i : Int).toNat true) [(i : Int)] 0 0 ⟨by rw [List.length_set]; exact hsl, fun y k0 k1 => ?_, by simp, fun y hy => ?_, by simp⟩ (by simp) (by omega) (fun a ha => by omega) (fun c hc => by omega)
      · refine orb_l0 hn hl hll m (i + 1) seen' _ (by omega) hl' (by rw [List.length_append, List.length_singleton]; omega) (fun y k0 k1 => ?_); rw [hs' y k0 k1, hs y k0 k1]
        constructor
        · rintro (⟨a, a0, a1, ha⟩ | h)
          · exact ⟨a, a0, by omega, ha⟩
          · exact ⟨(i : Int), by omega, by omega, h⟩
        · rintro ⟨a, a0, a1, ha⟩
          by_cases e : a = i
          · subst e; exact .inr ha
          · exact .inl ⟨a, a0, by omega, ha⟩
      · rw [hset y k0, List.mem_singleton]
        by_cases e : y = i
        · rw [if_pos e]; simp [e]
        · rw [if_neg e]; simp [e]
      · rw [List.mem_singleton] at hy; subst hy
        exact ⟨by omega, by omega, OrbE.refl (by omega) (by omega)⟩
noncomputable def orbitsL (n : Int) (l : List (List Int)) : List (List Int) × Int := if gensE n l = 0 then (orbsF n.toNat l 0 n.toNat, 0) else ([], gensE n l)
theorem POrbits_tells (n : Int) (l : List (List Int)) (hll : l.length ≤ 1000) : Tells (fun k => perm_Orbits.f k n l) (orbitsL n l) := by
  unfold perm_Orbits.f orbitsL
  refine Tells.bind (a := gensE n l) (Tells.now' (gensL_eq n l)) ?_
  by_cases h : gensE n l = 0
  · obtain ⟨m, rfl, h1, h64, hg⟩ := gensE_zero h
    rw [if_pos h]
    refine Tells.pos h (Tells.pos (by omega) (Tells.pos (by omega) ?_)); rw [show ((m : Nat) : Int).toNat = m by omega]
    have hz : ∀ y : Int, rdOf false (List.replicate m false) y = false := by
      intro y; simp only [rdOf, List.getD_eq_getElem?_getD, List.getElem?_replicate]
      split <;> rfl
    have := orb_l0 h64 hg hll m 0 (List.replicate m false) [] (by omega) (by simp) (by simp) (fun y k0 k1 => by
      rw [hz]
      constructor
      · intro h; cases h
      · rintro ⟨j, h0, h1, _⟩; omega)
    rw [List.nil_append] at this
    exact this
  rw [if_neg h]
  exact Tells.neg h Tells.now
def lsum (l : List Int) : Nat := (l.map Int.toNat).sum
theorem lsum_set : ∀ {l : List Int} {i : Nat} (v : Int), i < l.length → lsum (l.set i v) + (l.getD i 0).toNat = lsum l + v.toNat
  | [], i, v, h => by simp at h
  | a :: l, 0, v, h => by simp [lsum]; omega
  | a :: l, i + 1, v, h => by
    have := lsum_set (l := l) (i := i) v (by simpa using h); simp only [lsum, List.set_cons_succ, List.map_cons, List.sum_cons, List.getD_cons_succ] at *; omega
structure LI (n : Nat) (l : List (List Int)) (lab : List Int) : Prop where
  len : lab.length = n
  le : ∀ x : Int, 0 ≤ x → x < n → 0 ≤ ap lab x ∧ ap lab x ≤ x ∧ OrbE n l (ap lab x) x
def Stab (n : Nat) (l : List (List Int)) (lab : List Int) : Prop := ∀ g ∈ l, ∀ x : Int, 0 ≤ x → x < n → ap lab x = ap lab (ap g x)
theorem ap_set2 {l : List Int} {i : Int} (v : Int) (h0 : 0 ≤ i) (h1 : i < (l.length : Int)) {j : Int} (k0 : 0 ≤ j) : ap (l.set i.toNat v) j = if j = i then v else ap l j := ap_set v h0 h1 k0
theorem lab_l2 {n : Nat} (hn : n ≤ 64) {l : List (List Int)} (hl : ∀ p ∈ l, Pm n p) (hll : l.length ≤ 1000) (v : List (List Int) × Int) (S0 : Nat) (kk : Nat) (hk : kk < l.length)
    (next : ∀ (lab : List Int) (ch : Bool), LI n l lab → lsum lab ≤ S0 → (ch = true → lsum lab < S0) → (ch = false → ∀ x : Int, 0 ≤ x → x < n → ap lab x = ap lab (ap l[kk] x)) → (ch = false → ∀ c : Nat, c < kk → ∀ hc : c < l.length, ∀ x : Int, 0 ≤ x → x < n → ap lab x = ap lab (ap l[c] x)) → Tells (fun k => r30_Orbits.l1 k (n : Int) l lab ch ((kk : Int) + 1)) v) :
    ∀ (m i : Nat) (lab : List Int) (ch : Bool), i + m = n → LI n l lab → lsum lab ≤ S0 → (ch = true → lsum lab < S0) → (ch = false → ∀ x : Int, 0 ≤ x → x < i → ap lab x = ap lab (ap l[kk] x)) → (ch = false → ∀ c : Nat, c < kk → ∀ hc : c < l.length, ∀ x : Int, 0 ≤ x → x < n → ap lab x = ap lab (ap l[c] x)) →
    Tells (fun k => r30_Orbits.l2 k (n : Int) l lab ch (kk : Int) (i : Int)) v
  | 0, i, lab, ch, hi, hL, hS, hch, hd, hp => by
    refine Tells.shift ?_; simp only [r30_Orbits.l2]
    refine Tells.neg (by omega) ?_; rw [w64 (n := (kk : Int) + 1) (by omega) (by omega)]
    exact next lab ch hL hS hch (fun h x k0 k1 => hd h x k0 (by omega)) hp
  | m + 1, i, lab, ch, hi, hL, hS, hch, hd, hp => by
    have hg := hl _ (List.getElem_mem hk); have hgl := hg.1; have hll2 := hL.len; have hx := hg.rng (i := (i : Int)) (by omega) (by omega)
    refine Tells.shift ?_; simp only [r30_Orbits.l2, rd1_at, at1_eq hk, rd_ap]
    refine Tells.pos (by omega) (Tells.pos (by omega) (Tells.pos (by omega) (Tells.pos (by omega) (Tells.pos (by omega) (Tells.pos (by omega) (Tells.pos hx.1 (Tells.pos (by omega) ?_))))))); rw [w64 (n := (i : Int) + 1) (by omega) (by omega)]
    by_cases e : ap lab (i : Int) = ap lab (ap l[kk] (i : Int))
    · refine Tells.pos e ?_
      refine lab_l2 hn hl hll v S0 kk hk next m (i + 1) lab ch (by omega) hL hS hch (fun h x k0 k1 => ?_) hp
      by_cases e2 : x = i
      · rw [e2]; exact e
      · exact hd h x k0 (by omega)
    · refine Tells.neg e ?_; have a1 := hL.le (i : Int) (by omega) (by omega); have a2 := hL.le _ hx.1 hx.2; have hne : ap l[kk] (i : Int) ≠ i := fun h => e (by rw [h])
      obtain ⟨mm, hmm⟩ : ∃ mm, mn (ap lab (i : Int)) (ap lab (ap l[kk] (i : Int))) = mm := ⟨_, rfl⟩; rw [hmm]
      have hm2 : (mm = ap lab (i : Int) ∧ mm < ap lab (ap l[kk] (i : Int))) ∨ (mm = ap lab (ap l[kk] (i : Int)) ∧ mm < ap lab (i : Int)) := by
        unfold mn at hmm
        split at hmm <;> omega
      have hst := OrbE.step (n := n) hl (x := (i : Int)) (by omega) (by omega) (List.getElem_mem hk); have hst' := OrbE.symm hl (by omega) (by omega) hst
      have hA : ∀ y : Int, 0 ≤ y → ap ((lab.set (i : Int).toNat mm).set (ap l[kk] (i : Int)).toNat mm) y = if y = ap l[kk] (i : Int) then mm else if y = i then mm else ap lab y := by
        intro y k0; rw [ap_set2 mm hx.1 (by rw [List.length_set]; omega) k0]
        by_cases e1 : y = ap l[kk] (i : Int)
        · rw [if_pos e1, if_pos e1]
        · rw [if_neg e1, if_neg e1, ap_set2 mm (by omega) (by omega) k0]
      have hL' : LI n l ((lab.set (i : Int).toNat mm).set (ap l[kk] (i : Int)).toNat mm) := by
        refine ⟨by rw [List.length_set, List.length_set]; exact hll2, fun y k0 k1 => ?_⟩; rw [hA y k0]
        by_cases e1 : y = ap l[kk] (i : Int)
        · rw [if_pos e1, e1]
          rcases hm2 with ⟨h1, h2⟩ | ⟨h1, h2⟩
          · exact ⟨by omega, by omega, by rw [h1]; exact OrbE.trans hl a1.1 (by omega) a1.2.2 hst⟩
          · exact ⟨by omega, by omega, by rw [h1]; exact a2.2.2⟩
        · rw [if_neg e1]
          by_cases e2 : y = i
          · rw [if_pos e2, e2]
            rcases hm2 with ⟨h1, h2⟩ | ⟨h1, h2⟩
            · exact ⟨by omega, by omega, by rw [h1]; exact a1.2.2⟩
            · exact ⟨by omega, by omega, by rw [h1]; exact OrbE.trans hl a2.1 (by omega) a2.2.2 hst'⟩
          · rw [if_neg e2]; exact hL.le y k0 k1
      have hdec : lsum ((lab.set (i : Int).toNat mm).set (ap l[kk] (i : Int)).toNat mm) < lsum lab := by
        have s1 := lsum_set (l := lab) (i := (i : Int).toNat) mm (by omega); have s2 := lsum_set (l := lab.set (i : Int).toNat mm) (i := (ap l[kk] (i : Int)).toNat) mm (by rw [List.length_set]; omega); have g1 : lab.getD (i : Int).toNat 0 = ap lab (i : Int) := rfl
        have g2 : (lab.set (i : Int).toNat mm).getD (ap l[kk] (i : Int)).toNat 0 = ap lab (ap l[kk] (i : Int)) := by
          have := ap_set2 (l := lab) mm (i := (i : Int)) (by omega) (by omega) hx.1; rw [if_neg hne] at this
          exact this
        rw [g1] at s1; rw [g2] at s2; omega
      exact lab_l2 hn hl hll v S0 kk hk next m (i + 1) _ true (by omega) hL' (by omega) (fun _ => by omega) (fun h => by cases h) (fun h => by cases h)
theorem lab_l1 {n : Nat} (hn : n ≤ 64) {l : List (List Int)} (hl : ∀ p ∈ l, Pm n p) (hll : l.length ≤ 1000) (v : List (List Int) × Int) (S0 : Nat)
    (ih : ∀ lab, LI n l lab → lsum lab < S0 → Tells (fun k => r30_Orbits.l0 k (n : Int) l lab true) v) (fin : ∀ lab, LI n l lab → Stab n l lab → Tells (fun k => r30_Orbits.l0 k (n : Int) l lab false) v) :
    ∀ (m kk : Nat) (lab : List Int) (ch : Bool), kk + m = l.length → LI n l lab → lsum lab ≤ S0 → (ch = true → lsum lab < S0) → (ch = false → ∀ c : Nat, c < kk → ∀ hc : c < l.length, ∀ x : Int, 0 ≤ x → x < n → ap lab x = ap lab (ap l[c] x)) → Tells (fun k => r30_Orbits.l1 k (n : Int) l lab ch (kk : Int)) v
  | 0, kk, lab, ch, hk, hL, hS, hch, hd => by
    refine Tells.shift ?_; simp only [r30_Orbits.l1]
    refine Tells.neg (by omega) ?_
    cases ch with
    | true => exact ih lab hL (hch rfl)
    | false =>
      refine fin lab hL (fun g hg x k0 k1 => ?_); obtain ⟨c, hc, rfl⟩ := List.getElem_of_mem hg
      exact hd rfl c (by omega) hc x k0 k1
  | m + 1, kk, lab, ch, hk, hL, hS, hch, hd => by
    refine Tells.shift ?_; simp only [r30_Orbits.l1]
    refine Tells.pos (by omega) ?_; have hkl : kk < l.length := by omega
    refine lab_l2 hn hl hll v S0 kk hkl (fun lab' ch' hL' hS' hch' hdone hprev => ?_) n 0 lab ch (by omega) hL hS hch (fun _ x k0 k1 => by omega) hd
    refine lab_l1 hn hl hll v S0 ih fin m (kk + 1) lab' ch' (by omega) hL' hS' hch' (fun h c hc hcl x k0 k1 => ?_)
    by_cases e : c = kk
    · subst e; exact hdone h x k0 k1
    · exact hprev h c (by omega) hcl x k0 k1
theorem lab_l0 {n : Nat} (hn : n ≤ 64) {l : List (List Int)} (hl : ∀ p ∈ l, Pm n p) (hll : l.length ≤ 1000) (v : List (List Int) × Int) (fin : ∀ lab, LI n l lab → Stab n l lab → Tells (fun k => r30_Orbits.l0 k (n : Int) l lab false) v) :
    ∀ (N : Nat) (lab : List Int), lsum lab < N → LI n l lab → Tells (fun k => r30_Orbits.l0 k (n : Int) l lab true) v
  | 0, lab, hN, _ => by omega
  | N + 1, lab, hN, hL => by
    refine Tells.shift ?_; simp only [r30_Orbits.l0]
    refine Tells.pos trivial ?_
    exact lab_l1 hn hl hll v (lsum lab) (fun lab' hL' hlt => lab_l0 hn hl hll v fin N lab' (by omega) hL') fin l.length 0 lab false (by omega) hL (Nat.le_refl _) (fun h => by cases h) (fun _ c hc => by omega)
theorem stab_const {n : Nat} {l : List (List Int)} (hl : ∀ p ∈ l, Pm n p) {lab : List Int} (hs : Stab n l lab) {x y : Int} (h0 : 0 ≤ x) (h1 : x < n) (h : OrbE n l x y) : ap lab x = ap lab y := by
  obtain ⟨p, hp, rfl⟩ := h
  have : Pm n p ∧ ap lab x = ap lab (ap p x) := by
    refine Cl.least (H := fun p => Pm n p ∧ ap lab x = ap lab (ap p x)) ⟨Pm_id n, by rw [ap_id h0 h1]⟩ ?_ hp; rintro p g ⟨hpp, e⟩ hg; have hr := hpp.rng h0 h1
    exact ⟨hpp.mul (hl g hg), by rw [hpp.ap_mul h0 h1, e, hs g hg _ hr.1 hr.2]⟩
  exact this.2
open Classical in
theorem lab_class {n : Nat} {l : List (List Int)} (hl : ∀ p ∈ l, Pm n p) {lab : List Int} (hL : LI n l lab) (hs : Stab n l lab) {i j : Int} (i0 : 0 ≤ i) (i1 : i < n) (j0 : 0 ≤ j) (j1 : j < n) : ap lab j = i ↔ MinP n l i ∧ OrbE n l i j := by
  constructor
  · intro e
    have hj := hL.le j j0 j1; rw [e] at hj
    refine ⟨fun a a0 a1 ha => ?_, hj.2.2⟩; have h1 := stab_const hl hs a0 (by omega) ha; have h2 := stab_const hl hs i0 i1 hj.2.2; have h3 := hL.le a a0 (by omega); omega
  · rintro ⟨hm, ho⟩
    have h1 := stab_const hl hs i0 i1 ho; have h2 := hL.le i i0 i1
    have : ap lab i = i := by
      apply Classical.byContradiction; intro hne
      exact hm (ap lab i) h2.1 (by omega) h2.2.2
    omega
open Classical in
theorem ro_l4 {n : Nat} (hn : n ≤ 64) {l : List (List Int)} {lab : List Int} (hL : LI n l lab) (i : Nat) (out : List (List Int)) (v : List (List Int) × Int)
    (cont : Tells (fun k => r30_Orbits.l4 k (n : Int) lab out (i : Int) (((List.range n).map (fun (y : Nat) => (y : Int))).filter (fun y => decide (ap lab y = (i : Int)))) (n : Int)) v) :
    ∀ (m j : Nat), j + m = n → Tells (fun k => r30_Orbits.l4 k (n : Int) lab out (i : Int) (((List.range j).map (fun (y : Nat) => (y : Int))).filter (fun y => decide (ap lab y = (i : Int)))) (j : Int)) v
  | 0, j, hj => by
    have : j = n := by omega
    subst this
    exact cont
  | m + 1, j, hj => by
    have hl := hL.len
    have hfl : (((List.range j).map (fun (y : Nat) => (y : Int))).filter (fun y => decide (ap lab y = (i : Int)))).length ≤ j := by
      have := List.length_filter_le (p := fun y => decide (ap lab y = (i : Int))) ((List.range j).map (fun (y : Nat) => (y : Int))); rw [List.length_map, List.length_range] at this
      exact this
    have ih := ro_l4 hn hL i out v cont m (j + 1) (by omega); rw [List.range_succ, List.map_append, List.filter_append] at ih
    refine Tells.shift ?_; simp only [r30_Orbits.l4, rd_ap]
    refine Tells.pos (by omega) (Tells.pos (by omega) (Tells.pos (by omega) ?_))
    by_cases e : ap lab (j : Int) = i
    · refine Tells.pos e (Tells.pos (by omega) ?_); rw [w64 (n := (j : Int) + 1) (by omega) (by omega)]; have e2 : ([j].map (fun (y : Nat) => (y : Int))).filter (fun y => decide (ap lab y = (i : Int))) = [(j : Int)] := by simp [e]
      rw [e2] at ih
      exact ih
    · refine Tells.neg e ?_; rw [w64 (n := (j : Int) + 1) (by omega) (by omega)]; have e2 : ([j].map (fun (y : Nat) => (y : Int))).filter (fun y => decide (ap lab y = (i : Int))) = [] := by simp [e]
      rw [e2, List.append_nil] at ih
      exact ih
open Classical in
theorem ro_l3 {n : Nat} (hn : n ≤ 64) {l : List (List Int)} (hl : ∀ p ∈ l, Pm n p) {lab : List Int} (hL : LI n l lab) (hs : Stab n l lab) : ∀ (m i : Nat) (out : List (List Int)), i + m = n → out.length ≤ i → Tells (fun k => r30_Orbits.l3 k (n : Int) lab out (i : Int)) (out ++ orbsF n l i m, 0)
  | 0, i, out, hi, ho => by
    refine Tells.shift ?_; simp only [r30_Orbits.l3]
    exact Tells.neg (by omega) (Tells.now' (by simp [orbsF]))
  | m + 1, i, out, hi, ho => by
    refine Tells.shift ?_; simp only [r30_Orbits.l3]
    refine Tells.pos (by omega) ?_; rw [orbsF_succ]; have start := ro_l4 hn hL i out (out ++ ((if MinP n l (i : Int) then [clsL n l (i : Int)] else []) ++ orbsF n l (i + 1) m), 0) ?_ n 0 (by omega)
    · exact start
    · have hf : ((List.range n).map (fun (y : Nat) => (y : Int))).filter (fun y => decide (ap lab y = (i : Int))) = if MinP n l (i : Int) then clsL n l (i : Int) else [] := by
        have key : ∀ y ∈ (List.range n).map (fun (y : Nat) => (y : Int)), (ap lab y = (i : Int) ↔ MinP n l (i : Int) ∧ OrbE n l (i : Int) y) := by
          intro y hy; rw [List.mem_map] at hy; obtain ⟨x, hx, rfl⟩ := hy; rw [List.mem_range] at hx
          exact lab_class hl hL hs (by omega) (by omega) (by omega) (by omega)
        by_cases h : MinP n l (i : Int)
        · rw [if_pos h]; unfold clsL
          refine List.filter_congr (fun y hy => ?_)
          exact decide_eq_decide.2 ((key y hy).trans ⟨fun k => k.2, fun k => ⟨h, k⟩⟩)
        · rw [if_neg h, List.filter_eq_nil_iff]; intro y hy; rw [decide_eq_true_iff, key y hy]
          exact fun k => h k.1
      rw [hf]
      refine Tells.shift ?_; simp only [r30_Orbits.l4]
      refine Tells.neg (by omega) ?_; rw [w64 (n := (i : Int) + 1) (by omega) (by omega)]
      by_cases h : MinP n l (i : Int)
      · rw [if_pos h, if_pos h, ← List.append_assoc]; have hne : 0 < (clsL n l (i : Int)).length := List.length_pos_of_mem (mem_cls.2 ⟨by omega, by omega, OrbE.refl (by omega) (by omega)⟩)
        exact Tells.pos (by omega) (Tells.pos (by omega) (ro_l3 hn hl hL hs m (i + 1) _ (by omega) (by rw [List.length_append, List.length_singleton]; omega)))
      · rw [if_neg h, if_neg h, List.nil_append]
        exact Tells.neg (by simp) (ro_l3 hn hl hL hs m (i + 1) out (by omega) (by omega))
theorem ROrbits_tells (n : Int) (l : List (List Int)) (hll : l.length ≤ 1000) : Tells (fun k => r30_Orbits.f k n l) (orbitsL n l) := by
  unfold r30_Orbits.f orbitsL
  refine Tells.bind (group_tells n l (by omega)) ?_
  by_cases h : gensE n l = 0
  · obtain ⟨m, rfl, h1, h64, hg⟩ := gensE_zero h
    rw [if_pos h]
    refine Tells.pos h (Tells.bind (Unit_tells m (by omega)) ?_); have hL : LI m l (idL m) := ⟨idL_len m, fun x h0 h1 => by rw [ap_id h0 h1]; exact ⟨h0, Int.le_refl _, OrbE.refl h0 h1⟩⟩
    refine lab_l0 h64 hg hll _ (fun lab hL' hs => ?_) (lsum (idL m) + 1) (idL m) (by omega) hL
    refine Tells.shift ?_; simp only [r30_Orbits.l0]
    refine Tells.neg (by simp) ?_; have := ro_l3 h64 hg hL' hs m 0 [] (by omega) (by simp); rw [List.nil_append] at this
    exact this
  rw [if_neg h]
  exact Tells.neg h Tells.now
theorem awt3 : Tells (fun _ : Nat => l30_awake.f) true := Tells.now
theorem orbits_true (n : Int) (l : List (List Int)) (w : (Lit.int .i64 n).wf = true) : ∃ k, l30_PermOrbits.f k n l = some true := by
  apply Tells.some
  unfold l30_PermOrbits.f
  refine Tells.bind awt3 (Tells.pos rfl ?_)
  obtain ⟨b, hb, hbl⟩ := Few_tells l 400 (by omega) (by omega)
  refine Tells.bind hb (Tells.shift ?_)
  simp only [l30_PermOrbits.j0]
  cases b with
  | false => exact Tells.pos rfl (Tells.bind awt3 Tells.now)
  | true =>
    have hl := hbl rfl
    have hsz : (orbitsL n l).1.length ≤ 4611686018427387904 ∧ ∀ r ∈ (orbitsL n l).1, r.length ≤ 4611686018427387904 := by
      unfold orbitsL
      by_cases h : gensE n l = 0
      · obtain ⟨m, rfl, h1, h64, hg⟩ := gensE_zero h; rw [if_pos h]
        show (orbsF m l 0 m).length ≤ _ ∧ ∀ r ∈ orbsF m l 0 m, _
        unfold orbsF
        constructor
        · rw [List.length_map]; have := List.length_filter_le (p := fun y => @decide (MinP m l y) (Classical.propDecidable _)) ((List.range' 0 m).map (fun (y : Nat) => (y : Int))); rw [List.length_map, List.length_range'] at this; omega
        · intro r hr; rw [List.mem_map] at hr; obtain ⟨y, _, rfl⟩ := hr; have := cls_len m l y; omega
      · rw [if_neg h]; exact ⟨by simp, by simp⟩
    refine Tells.neg (by simp) (Tells.bind (POrbits_tells n l hl.1) (Tells.bind (ROrbits_tells n l hl.1) (Tells.pos rfl (Tells.bind (SameRows_tells _ _ hsz.1 hsz.2) (Tells.now' (by simp))))))
end Go.Proofs.Ytjjlhbgpdncpcaa.P.M
end
section
namespace Go.Proofs.Ytjjlhbgpdncpcaa.P
open Go.ChangeShapes Go.WideShapes Go.ChangeAt Go.RowKit Go.Proofs.YtjjlhbgpdncpcaaW.PrintWords Go.Proofs.YtjjlhbgpdncpcaaW.PrintLast Go.Proofs.YtjjlhbgpdncpcaaW.PrintMore
set_option linter.unusedVariables false
section
variable {H : Type} {enc : TypeId × Value → H} {W : World} {v : Value} {d : DataW H} {ps : List MemPlace} {held : Bool}
theorem list_of_cells {A : Option Addr} {L C : Nat} {Z : List Int} (hl : L ≤ C) (hm : C ≤ maxLen) (hz : Z.length = C) (hn : A = none → C = 0) (hc : ∀ a', A = some a' → ∀ c, c < C → W.cell? (a'.add c) = some (.int .i64 (Z.getD c 0))) (hw : ∀ n ∈ Z, (Lit.int .i64 n).wf = true) :
    (Kd.slice 3 (Kd.int .i64)).K W (Z.take L) [.slice A L C] := by
  have key : (A = none ∧ L = 0 ∧ C = 0 ∧ Z = []) ∨ ∃ x, A = some x ∧ L ≤ C ∧ C ≤ maxLen ∧ Z.length = C ∧ (∀ i, i < Z.length → W.cell? (x.add i) = some (.int .i64 (Z.getD i 0))) ∧ ∀ n ∈ Z, (Lit.int .i64 n).wf = true := by
    cases A with
    | none =>
      have h0 := hn rfl; subst h0
      exact .inl ⟨rfl, by omega, rfl, List.eq_nil_of_length_eq_zero hz⟩
    | some x => exact .inr ⟨x, rfl, hl, hm, hz, fun i hi => hc x rfl i (by omega), hw⟩
  have hlen : (Z.take L).length = L := by rw [List.length_take]; omega
  refine ⟨A, C, by rw [hlen], by omega, ?_⟩
  rw [hlen]
  refine ⟨hlen, Nat.le_trans (Nat.le_trans hl hm) (by decide), fun h0 => ?_⟩
  rcases key with ⟨_, h2, _⟩ | ⟨x, rfl, _⟩
  · omega
  · refine ⟨x, rfl, fun j p hj => ⟨[.int .i64 p], rfl, rfl, fun i u hu => ?_⟩⟩
    have hi : i = 0 ∧ u = .int .i64 p := by
      cases i with
      | zero => simp at hu; exact ⟨rfl, hu.symm⟩
      | succ i => simp at hu
    obtain ⟨rfl, rfl⟩ := hi
    have hj' : j < L := by
      have := (List.getElem?_eq_some_iff.1 hj).1; omega
    have hg : Z.getD j 0 = p := by
      rw [List.getElem?_take_of_lt hj'] at hj; rw [List.getD_eq_getElem?_getD, hj]; rfl
    have := hc x rfl j (by omega); rw [hg] at this
    show W.cell? (x.add (j * 1 + 0)) = _
    rw [Nat.mul_one, Nat.add_zero]
    exact this
set_option maxRecDepth 100000 in
theorem open_rows {base : Nat} (hv : Value.okWide Try.prog W .any base 28 v) (h : DataW.Trod enc Try.prog W 0 (fun _ => true) held 28 v d ps) :
    ∃ (a : Option Addr) (c : Nat) (l : List (List Int)), v = .slice a l.length c ∧ (Kd.slice 3 (Kd.int .i64)).C W a l.length l ∧ l.length ≤ c := by
  obtain ⟨a, len, cap, rfl⟩ := okWide_slice Try.underlying28 hv
  obtain ⟨fuel, hf⟩ := h
  rcases Go.Deep.open_int_rows Try.underlying28 Try.underlying22 Try.underlying3 (by kernel_rfl) (by kernel_rfl) hf with ⟨hcs, _⟩ | ⟨x, l, c, A, L, C, Z, hcs, _, hl, hm, _, hr⟩
  · simp [Value.cells] at hcs
    obtain ⟨rfl, rfl, rfl⟩ := hcs
    exact ⟨none, 0, [], rfl, Kd.C_nil _ _, Nat.le_refl _⟩
  · simp [Value.cells] at hcs
    obtain ⟨rfl, rfl, rfl⟩ := hcs
    refine ⟨some x, cap, (List.range len).map (fun r => (Z r).take (L r)), by simp, ?_, by simp; exact hl⟩; rw [List.length_map, List.length_range]
    refine ⟨by simp, Nat.le_trans (Nat.le_trans hl hm) (by decide), fun h0 => ⟨x, rfl, fun j p hj => ?_⟩⟩
    have hj' : j < len := by
      have := (List.getElem?_eq_some_iff.1 hj).1
      simpa using this
    have hp : p = (Z j).take (L j) := by
      have := (List.getElem?_eq_some_iff.1 hj).2
      simpa using this.symm
    subst hp; obtain ⟨h1, h2, h3, h4, h5, h6, h7⟩ := hr j (by omega)
    refine ⟨_, rfl, list_of_cells h2 h3 h4 h6 (fun a' e c hc => (h7 a' e).2 c hc) h5, fun i u hu => ?_⟩
    have hi : i = 0 ∧ u = .slice (A j) (L j) (C j) := by
      cases i with
      | zero => simp at hu; exact ⟨rfl, hu.symm⟩
      | succ i => simp at hu
    obtain ⟨rfl, rfl⟩ := hi
    show W.cell? (x.add (j * 1 + 0)) = _
    rw [Nat.mul_one, Nat.add_zero]
    exact h1
end
end Go.Proofs.Ytjjlhbgpdncpcaa.P
end
section
namespace Go.Proofs.Ytjjlhbgpdncpcaa.permOrbits
open Go.ChangeShapes Go.WideShapes Go.ChangeAt Go.RowKit Go.Proofs.YtjjlhbgpdncpcaaW.PrintWords Go.Proofs.YtjjlhbgpdncpcaaW.PrintLast Go.Proofs.YtjjlhbgpdncpcaaW.PrintMore
open Go.ChangeMaps (open_string shut_string)
set_option linter.unusedVariables false
theorem own : ownKnob Try.prog.godebug = none := by kernel_rfl
theorem laidOut : laidOutB Try.prog = true := by kernel_rfl
set_option maxRecDepth 100000 in
theorem lifted (os : Os) (started : os.Started) (H : Type) (enc : TypeId × Value → H) :
    ReturnsInHanded {} Try.checked os 5 .any (Rows.permOrbitsSpec.pre6 enc Try.prog Try.f5 Rows.permOrbitsRow.domain false) (Rows.permOrbitsSpec.post enc Try.prog Try.f5 false true false false) := by
  refine returnsInHanded_of_change_sized (C := Try.checked) own started (by kernel_rfl) Try.func5
    (ChangeSpec.witness6 (enc := enc) (C := Try.checked) false ⟨#[], #[.int .i64 0, .slice none 0 0], []⟩ 8 (by kernel_rfl) (by kernel_rfl) (by kernel_rfl) (by kernel_rfl)) ?_
  intro W base args ds gs before hval0 hW hcnd hsz0 _
  have hval : ∀ (j : Nat) t v, Try.f5.params[j]? = some t → args[j]? = some v → Value.okWide Try.prog W .any base t v := hval0
  have hW' := hW
  obtain ⟨p, q, hA0, hV, rfl, hfz, hnd⟩ := hW
  have hA : DataW.TrodAll enc Try.prog W 0 (fun _ => true) true Try.f5.params.toList args.toList ds p := hA0
  rw [Try.params5] at hA hval
  obtain ⟨v0, vs0, d0, ds0, p0, q0, hargs, rfl, rfl, h0, r0⟩ := trodAll_cons hA
  obtain ⟨v1, vs1, d1, ds1, p1, q1, rfl, rfl, rfl, h1, r1⟩ := trodAll_cons r0
  obtain ⟨rfl, rfl, rfl⟩ := trodAll_nil r1
  obtain rfl : args = #[v0, v1] := by cases args; simp_all
  obtain ⟨rfl, rfl⟩ := trodVars_none hV
  obtain ⟨a0, rfl, rfl, rfl, w0⟩ := open_int Try.underlying3 (hval 0 3 v0 rfl rfl) h0
  have k1 := h1
  have lt1 : ∀ x ∈ p1, x.block < W.heap.size := by obtain ⟨m, hm⟩ := k1; exact DataW.trod_lt m _ _ _ hm
  obtain ⟨a1, c1, l1, rfl, hr1, hm1⟩ := P.open_rows (hval 1 28 v1 rfl rfl) h1
  clear hA0 hval0 hsz0
  obtain ⟨k, hk⟩ := P.M.orbits_true a0 l1 w0
  refine (P.l30_PermOrbits.calls k a0 _ _ l1 true W hr1 hm1 hk).mono fun e W' ⟨he, bel⟩ => ?_
  subst he
  exact ⟨_, rfl, _, _, _, [], _, [], hW', trodAll_mk1 (shut_bool Try.underlying4 _), (trodAll_cons_mk (shut_int Try.underlying3 w0) (trodAll_cons_mk (Below.trod laidOut (by kernel_rfl) (of_decide_eq_true (by kernel_rfl)) k1 bel lt1) trodAll_mk0)), rfl, bel.frame _, fun h => by cases h⟩
theorem over : Rows.permOrbitsRow.holds Try.pinned (OpenSpec.ofChange Rows.permOrbitsSpec) :=
  OpenClaim.holds_of_wide 5 Try.f5 rfl rfl rfl rfl rfl rfl rfl ⟨rfl, rfl, rfl, rfl, rfl⟩ rfl rfl rfl rfl rfl (by kernel_rfl) Try.func5 (by kernel_rfl)
    (of_decide_eq_true (by kernel_rfl)) (by unfold Func.isWrapper; first | (rw [if_pos (by decide +kernel)]; kernel_rfl) | (rw [if_neg (by decide +kernel)]; exact ⟨rfl, rfl⟩))
    (fun os started H enc _ => lifted os started H enc)
end Go.Proofs.Ytjjlhbgpdncpcaa.permOrbits
namespace Go.Proofs.Ytjjlhbgpdncpcaa
theorem permOrbits_holds : Rows.PermOrbitsSaid := permOrbits.over
end Go.Proofs.Ytjjlhbgpdncpcaa
end
