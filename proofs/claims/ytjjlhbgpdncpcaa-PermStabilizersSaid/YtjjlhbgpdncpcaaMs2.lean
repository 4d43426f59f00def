/- What the claim's theorem is built on, part 2: words, walks of the code, and what they tell. -/
import Derived.Deep.RegionLaw
import Derived.Test.YtjjlhbgpdncpcaaMs1
namespace Go.Proofs.Ytjjlhbgpdncpcaa.P
open Go.RowKit Go.Proofs.YtjjlhbgpdncpcaaW.PrintWords Go.Proofs.YtjjlhbgpdncpcaaW.PrintLast Go.Proofs.YtjjlhbgpdncpcaaW.PrintMore
set_option linter.unusedVariables false
set_option linter.unusedSimpArgs false
set_option maxHeartbeats 8000000
set_option maxRecDepth 100000
section
def levelL : Nat → Tw → Int → Int → List Int → List (List Int) → Option (List Int × List (List Int))
  | 0, _, _, _, _, _ => none
  | k + 1, T, b, x, orb, reps => if x < T.n then (if T.rep b x = [] then levelL k T b (x + 1) orb reps else (canonL k T (T.rep b x) (b + 1)).bind fun q => levelL k T b (x + 1) (orb ++ [x]) (reps ++ [q])) else some (orb, reps)
def chainL : Nat → Tw → Int → List S74 → Option (List S74)
  | 0, _, _, _ => none
  | k + 1, T, b, lv => if b < T.n then (levelL k T b 0 [] []).bind fun z => chainL k T (b + 1) (if 1 < z.1.length then lv ++ [⟨b, z.1, z.2⟩] else lv) else some lv
def ChainPost (base : Nat) (w : World) (n : Nat) (r : List S74) (e : Ending) (w' : World) : Prop := ∃ v, e = .returned (.agg #[.int .i64 n, v]) ∧ Kd.N k74 74 w' w.heap.size (fun k => base ≤ k) v r ∧ Below w.heap.size w w'
structure ChO (base : Nat) (w W : World) (gres gout n : Nat) (vL : Value) (lv : List S74) : Prop where
  lt1 : w.heap.size ≤ gres
  lt2 : gres < gout
  bres : W.heap[gres]? = some (Obj.cells #[.int .i64 0, .slice none 0 0] 46 (0, 0))
  bout : W.heap[gout]? = some (Obj.cells #[.int .i64 n, vL] 46 (0, 0))
  hN : Kd.N k74 74 W w.heap.size (fun k => base ≤ k ∧ k ≠ gres ∧ k ≠ gout) vL lv
  hb : Below w.heap.size w W
structure ChI (base ws : Nat) (W0 W : World) (gl : Nat) (b : Int) (vO vR : Value) (orb : List Int) (reps : List (List Int)) : Prop where
  lt : W0.heap.size ≤ gl
  lw : ws ≤ gl
  bl : W.heap[gl]? = some (Obj.cells #[.int .i64 b, vO, vR] 74 (0, 0))
  hO : Kd.R (Kd.int .i64) 3 W (gl + 1) (fun _ => True) vO orb
  hR : Kd.N (Kd.slice 3 (Kd.int .i64)) 22 W (gl + 1) (fun k => (base ≤ k ∧ (k < ws ∨ gl < k)) ∧ some k ≠ vO.ownBlock) vR reps
  hb : Below W0.heap.size W0 W
theorem ChI.start {base ws : Nat} {W0 W1 : World} {gl : Nat} {b : Int} (hg : gl = W0.heap.size) (hbox : W1.heap[gl]? = some (Obj.cells #[.int .i64 0, .slice none 0 0, .slice none 0 0] 74 (0, 0))) (hb : Below W0.heap.size W0 W1) (hw : ws ≤ W0.heap.size) :
    ChI base ws W0 (((W1.setCell ⟨gl, 0, none⟩ (.int .i64 b)).setCell ⟨gl, 1, none⟩ (.slice none 0 0)).setCell ⟨gl, 2, none⟩ (.slice none 0 0)) gl b (.slice none 0 0) (.slice none 0 0) [] [] :=
  have hge : W0.heap.size ≤ gl := by omega
  ⟨hge, by omega, blk_put (blk_put (blk_put hbox 0 _ rfl) 1 _ rfl) 2 _ rfl, Kd.R_nil _ _ _ _ _, Kd.N_nil _ _ _ _ _, ((hb.setCell hge _).setCell hge _).setCell hge _⟩
theorem R_other {w w1 : World} {b t : Nat} {ok : Nat → Prop} {v : Value} {xs : List Int} {row : Option Nat} (h : Kd.R (Kd.int .i64) 3 w b ok v xs) (ht : ∀ k, row = some k → ∃ cells, w.heap[k]? = some (Obj.cells cells t (0, 0))) (hne : t ≠ 3) (hg : w.grownBy w1 row) : Kd.R (Kd.int .i64) 3 w1 b ok v xs := by
  refine Kd.R_mono (Kd.R_step (Kd.R_bound h) (fun k hk hlt => hg.block k hlt (fun e => ?_))) (fun k hk => hk.1)
  obtain ⟨_, _, _, q, hq, cells, hc⟩ := hk
  obtain ⟨cells', hc'⟩ := ht k e.symm
  have : q = 3 := by
    rcases List.mem_cons.1 hq with h1 | h1
    · exact h1
    · exact absurd h1 zz142
  subst this
  exact ne_of_types hc hc' (Ne.symm hne) rfl
theorem R_set_other {w : World} {b t g j : Nat} {ok : Nat → Prop} {v u : Value} {xs : List Int} {cells : Array Value} (h : Kd.R (Kd.int .i64) 3 w b ok v xs) (hb : w.heap[g]? = some (Obj.cells cells t (0, 0))) (hne : t ≠ 3) : Kd.R (Kd.int .i64) 3 (w.setCell ⟨g, j, none⟩ u) b ok v xs :=
  Kd.R_set h hb (fun q hq => by
    rcases List.mem_cons.1 hq with h1 | h1
    · exact fun e => hne (e.symm.trans h1)
    · exact absurd h1 zz142) j u
theorem ChI.pushO {base ws : Nat} {W0 W w1 : World} {gl : Nat} {b x : Int} {vO vR v1 : Value} {orb : List Int} {reps : List (List Int)} (h : ChI base ws W0 W gl b vO vR orb reps)
    (ho : Kd.R (Kd.int .i64) 3 w1 (gl + 1) (fun _ => True) v1 (orb ++ [x])) (hg : W.grownBy w1 vO.ownBlock) (hat : v1.ownBlock = vO.ownBlock ∨ ∃ g, v1.ownBlock = some g ∧ W.heap.size ≤ g) :
    ChI base ws W0 (w1.setCell ⟨gl, 1, none⟩ v1) gl b v1 vR (orb ++ [x]) reps := by
  have hty : ∀ k, vO.ownBlock = some k → ∃ cells, W.heap[k]? = some (Obj.cells cells 3 (0, 0)) := fun k hk => Kd.R_typed h.hO k hk
  have hbl1 : w1.heap[gl]? = some (Obj.cells #[.int .i64 b, vO, vR] 74 (0, 0)) := (hg.block gl (lt_of_some h.bl) (fun e => by
    obtain ⟨cs, hc⟩ := hty gl e.symm
    exact ne_of_types h.bl hc (by decide) rfl)).trans h.bl
  refine ⟨h.lt, h.lw, blk_put hbl1 1 _ rfl, R_set_other ho hbl1 (by decide), ?_, ?_⟩
  · exact Kd.N_far (Kd.N_after h.hR hg hat) (p := ⟨gl, 1, none⟩) (fun k hk => by
      show k ≠ gl
      have := h.lw; have h2 := hk.1.2; omega) _
  · refine Below.setCell ?_ h.lt _
    exact h.hb.trans ⟨hg.os, hg.tape, hg.output, hg.size, fun k hk => hg.block k (Nat.lt_of_lt_of_le hk h.hb.size) (fun e => by
      have := Kd.R_base h.hO k e.symm; have := h.lt; omega)⟩
theorem ChI.below {base ws : Nat} {W0 W W1 : World} {gl : Nat} {b : Int} {vO vR : Value} {orb : List Int} {reps : List (List Int)} (h : ChI base ws W0 W gl b vO vR orb reps) (hb : Below W.heap.size W W1) : ChI base ws W0 W1 gl b vO vR orb reps :=
  ⟨h.lt, h.lw, blk_below h.bl hb, Kd.R_below h.hO hb, Kd.N_below h.hR hb, below_then h.hb h.hb.size hb⟩
theorem N_slice_form {α : Type} {d : Kd α} {e base : Nat} {w : World} {ok : Nat → Prop} {v : Value} {xs : List α} (h : Kd.N d e w base ok v xs) : ∃ A c, v = .slice A xs.length c := by
  obtain ⟨_, rows, hl, hR, _⟩ := h
  obtain ⟨A, c, e, _⟩ := Kd.R_reads hR
  exact ⟨A, c, by rw [e, hl]⟩
theorem ChI.okp_ok {base ws : Nat} {W0 W : World} {gl : Nat} {b : Int} {vO vR : Value} {orb : List Int} {reps : List (List Int)} (h : ChI base ws W0 W gl b vO vR orb reps) (hb : base ≤ ws) (k : Nat)
    (hk : (base ≤ k ∧ k < ws) ∨ W.heap.size ≤ k) : ((base ≤ k ∧ (k < ws ∨ gl < k)) ∧ some k ≠ vO.ownBlock) ∧ some k ≠ vR.ownBlock := by
  have h1 := h.lw
  have h2 := lt_of_some h.bl
  have e1 : ∀ j, vO.ownBlock = some j → gl + 1 ≤ j ∧ j < W.heap.size := fun j hj => ⟨Kd.R_base h.hO j hj, Kd.R_lt h.hO j hj⟩
  have e2 : ∀ j, vR.ownBlock = some j → gl + 1 ≤ j ∧ j < W.heap.size := fun j hj => ⟨Kd.N_base h.hR j hj, Kd.N_lt h.hR j hj⟩
  refine ⟨⟨⟨by omega, by omega⟩, fun e => ?_⟩, fun e => ?_⟩
  · have := e1 k e.symm; omega
  · have := e2 k e.symm; omega
theorem ChI.pushR {base ws : Nat} {W0 W w1 : World} {gl : Nat} {b : Int} {vO vR v1 : Value} {orb : List Int} {reps : List (List Int)} {q : List Int} (h : ChI base ws W0 W gl b vO vR orb reps)
    (ho : Kd.N (Kd.slice 3 (Kd.int .i64)) 22 w1 (gl + 1) (fun k => (base ≤ k ∧ (k < ws ∨ gl < k)) ∧ some k ≠ vO.ownBlock) v1 (reps ++ [q])) (hg : W.grownBy w1 vR.ownBlock) :
    ChI base ws W0 (w1.setCell ⟨gl, 2, none⟩ v1) gl b vO v1 orb (reps ++ [q]) := by
  have hty : ∀ k, vR.ownBlock = some k → ∃ cells, W.heap[k]? = some (Obj.cells cells 22 (0, 0)) := fun k hk => Kd.N_typed h.hR k hk
  have hbl1 : w1.heap[gl]? = some (Obj.cells #[.int .i64 b, vO, vR] 74 (0, 0)) := (hg.block gl (lt_of_some h.bl) (fun e => by
    obtain ⟨cs, hc⟩ := hty gl e.symm
    exact ne_of_types h.bl hc (by decide) rfl)).trans h.bl
  refine ⟨h.lt, h.lw, blk_put hbl1 2 _ rfl, R_set_other (R_other h.hO hty (by decide) hg) hbl1 (by decide), ?_, ?_⟩
  · exact Kd.N_far ho (p := ⟨gl, 2, none⟩) (fun k hk => by
      show k ≠ gl
      have := h.lw; have h2 := hk.1.2; omega) _
  · refine Below.setCell ?_ h.lt _
    exact h.hb.trans ⟨hg.os, hg.tape, hg.output, hg.size, fun k hk => hg.block k (Nat.lt_of_lt_of_le hk h.hb.size) (fun e => by
      have := Kd.N_base h.hR k e.symm; have := h.lt; omega)⟩
theorem ChI.level {base ws : Nat} {W0 W : World} {gl : Nat} {b : Int} {vO vR : Value} {orb : List Int} {reps : List (List Int)} (hb : base ≤ ws) (h : ChI base ws W0 W gl b vO vR orb reps) :
    Kd.FK k74 W (fun k => base ≤ k ∧ (k < ws ∨ gl < k)) ⟨b, orb, reps⟩ [.int .i64 b, vO, vR] := by
  obtain ⟨A1, c1, rfl, l1, _⟩ := Kd.R_reads h.hO
  obtain ⟨A2, c2, rfl⟩ : ∃ A c, vR = .slice A reps.length c := by
    obtain ⟨_, rows, hl, hR, _⟩ := h.hR; obtain ⟨A, c, e, _⟩ := Kd.R_reads hR
    exact ⟨A, c, by rw [e, hl]⟩
  have l2 := (Kd.N_reads' h.hR).2.1
  have f1 : Kd.F (Kd.int .i64) W (fun k => base ≤ k ∧ (k < ws ∨ gl < k)) A1 orb.length orb := Kd.F_mono (Kd.R_F (Kd.R_bound h.hO)) (fun k hk => by have := hk.2.1; have := h.lw; exact ⟨by omega, by omega⟩)
  have f2 : Kd.F (Kd.slice 3 (Kd.int .i64)) W (fun k => base ≤ k ∧ (k < ws ∨ gl < k)) A2 reps.length reps := Kd.F_mono (Kd.N_F h.hR) (fun k hk => hk.1)
  exact k74_mkF W _ ⟨b, orb, reps⟩ l1 f1 l2 f2
theorem ChO.keep {base : Nat} {w W W1 : World} {gres gout n : Nat} {vL : Value} {lv : List S74} (h : ChO base w W gres gout n vL lv) (hb : Below W.heap.size W W1) : ChO base w W1 gres gout n vL lv :=
  ⟨h.lt1, h.lt2, blk_below h.bres hb, blk_below h.bout hb, Kd.N_below h.hN hb, below_then h.hb h.hb.size hb⟩
theorem ChO.push {base : Nat} {w W w1 : World} {gres gout n : Nat} {vL v1 : Value} {lv : List S74} {x : S74} (h : ChO base w W gres gout n vL lv)
    (ho : Kd.N k74 74 w1 w.heap.size (fun k => base ≤ k ∧ k ≠ gres ∧ k ≠ gout) v1 (lv ++ [x])) (hg : W.grownBy w1 vL.ownBlock) :
    ChO base w (w1.setCell ⟨gout, 1, none⟩ v1) gres gout n v1 (lv ++ [x]) := by
  have hne : ∀ k, k = gres ∨ k = gout → some k ≠ vL.ownBlock := fun k hk e => by
    have := h.hN.1 k e.symm
    rcases hk with rfl | rfl
    · exact this.2.1 rfl
    · exact this.2.2 rfl
  have e1 := (hg.block gres (lt_of_some h.bres) (hne _ (.inl rfl))).trans h.bres
  have e2 := (hg.block gout (lt_of_some h.bout) (hne _ (.inr rfl))).trans h.bout
  refine ⟨h.lt1, h.lt2, blk_far e1 (p := ⟨gout, 1, none⟩) (by have := h.lt2; show gres ≠ gout; omega) _, blk_put e2 1 _ rfl, Kd.N_far ho (p := ⟨gout, 1, none⟩) (fun k hk => hk.2.2) _, ?_⟩
  refine Below.setCell ?_ (by have := h.lt1; have := h.lt2; show w.heap.size ≤ gout; omega) _
  exact h.hb.trans ⟨hg.os, hg.tape, hg.output, hg.size, fun k hk => hg.block k (Nat.lt_of_lt_of_le hk h.hb.size) (fun e => by have := Kd.N_base h.hN k e.symm; omega)⟩
theorem chain_calls {base : Nat} {bt bR bG : Nat} {rb : Nat → Nat} {vr : Nat → Nat → Value} {vg : Nat → Value} {T : Tw} (k : Nat) (r : List S74) (w : World)
    (hT : TwAt base w bt bR bG rb vr vg T) (h : chainL k T 0 [] = some r) :
    Calls Try.prog 62 #[.pointer (some ⟨bt, 0, none⟩)] w (ChainPost base w T.n r) := by
  have HT := aM hT
  have H' := aM h
  have hn64 := hT.n64
  have hx0 := hT.cell0
  clear hT h
  go_enter Try.func62, Try.ntmps62
  go_wp2_with (first
    | ((with_reducible refine gate_dst (N := 2) rfl ?_); refine box_event ?hg (N := 2) ?hd (cs := #[.int .i64 0, .slice none 0 0]) (t := 46) ?hr ?_; (case hd => rfl); (case hg => rfl); (case hr => first | (go_simp; done) | (go_simp; rfl)); intro gres hgr w3 hbox3 hb3; have hx03 := (HT.out.below hb3).cell0; have HGR := aM hgr; have HB3 := aM hb3; have HBX3 := aM hbox3; clear hgr hb3 hbox3)
    | ((with_reducible refine gate_dst (N := 3) rfl ?_); refine box_event ?hg (N := 3) ?hd (cs := #[.int .i64 0, .slice none 0 0]) (t := 46) ?hr ?_; (case hd => rfl); (case hg => rfl); (case hr => first | (go_simp; done) | (go_simp; rfl)); intro gout hgo w4 hbox4 hb4; have hz0 : w4.cell? ⟨gout, 0, none⟩ = some (.int .i64 0) := (blk_cell hbox4 0).trans rfl; have hz1 : w4.cell? ⟨gout, 1, none⟩ = some (.slice none 0 0) := (blk_cell hbox4 1).trans rfl; have hf0 := blk_frozen hbox4 0; have hf1 := blk_frozen hbox4 1; have HT4 := aM (HT.out.below (below_step HB3.out hb4)); have hx04 := HT4.out.cell0; have hyx : ∀ (u v : Value), ((w4.setCell ⟨gout, 0, none⟩ u).setCell ⟨gout, 1, none⟩ v).cell? ⟨bt, 0, none⟩ = some (.int .i64 T.n) := (fun u v => (World.cell?_of_block (a := ⟨bt, 0, none⟩) ((Below.heap_setCell _ ⟨gout, 1, none⟩ v bt zz118).trans (Below.heap_setCell w4 ⟨gout, 0, none⟩ u bt zz118))).trans hx04); have HGO := aM hgo; have HB4 := aM hb4; have HBX4 := aM hbox4; clear hgo hb4 hbox4))
  have hO0 : ChO base w ((w4.setCell ⟨gout, 0, none⟩ (.int .i64 T.n)).setCell ⟨gout, 1, none⟩ (.slice none 0 0)) gres gout T.n (.slice none 0 0) [] := by
    have h1_ := HGR.out; have h2_ := HGO.out; have h3_ := HB3.out.size; have h4_ := lt_of_some HBX3.out
    refine ⟨by omega, by omega, ?_, blk_put (blk_put HBX4.out 0 _ rfl) 1 _ rfl, Kd.N_nil _ _ _ _ _, ?_⟩
    · exact blk_far (blk_far (blk_below HBX3.out HB4.out) (p := ⟨gout, 0, none⟩) (by show gres ≠ gout; omega) _) (p := ⟨gout, 1, none⟩) (by show gres ≠ gout; omega) _
    · exact ((below_step HB3.out HB4.out).setCell (by show w.heap.size ≤ gout; omega) _).setCell (by show w.heap.size ≤ gout; omega) _
  have HO0 := aM hO0
  clear hO0 hz0 hz1 hf0 hf1 hx04 hyx hx0 hx03 HT4 HB4 HBX4 HBX3 HB3 HGO HGR
  go_loopg [17] k (fun kq v17 w' => ∃ (b : Int) (lv : List S74) (vL : Value), v17 = .int .i64 b ∧ Aside0 (0 ≤ b) ∧ Aside0 (chainL kq T b lv = some r) ∧ Aside0 (kq ≤ k) ∧ Aside0 (ChO base w w' gres gout T.n vL lv) ∧ Aside0 ((lv.length : Int) ≤ b))
  case atStart => exact ⟨0, [], _, rfl, ⟨by omega⟩, H', ⟨Nat.le_refl _⟩, HO0, ⟨by simp⟩⟩
  case round =>
    clear H' HO0; obtain ⟨b, lv, vL, rfl, HB0, HA, HK1, HCO, HLV⟩ := hrel; obtain ⟨wo, rfl⟩ : ∃ wo : World, wo = wr := ⟨_, rfl⟩
    cases gk with
    | zero => exact absurd HA.out (by simp [chainL])
    | succ k1 =>
      have H := HA.out; clear HA; simp only [chainL] at H; have b0 := HB0.out
      by_cases d1 : b < (T.n : Int)
      · rw [if_pos d1] at H; have d1b : decide (b < (T.n : Int)) = true := decide_eq_true d1; have p0 := eq_true b0; have p1 := eq_true d1; replace H := Option.bind_eq_some_iff.mp H; obtain ⟨z, hz, H⟩ := H; have HH := aM H; have HZ := aM hz; clear H hz; have HTo := aM (HT.out.below HCO.out.hb); have hn1 := HTo.out.n1
        go_wp2_with (first
          | ((with_reducible refine gate_dst (N := 5) rfl ?_); refine box_event ?hg (N := 5) ?hd (cs := #[.int .i64 0, .slice none 0 0, .slice none 0 0]) (t := 74) ?hr ?_; (case hd => rfl); (case hg => rfl); (case hr => first | (go_simp; done) | (go_simp; rfl)); intro gl hgl w5 hbox5 hb5; have HI := aM (ChI.start (base := base) (ws := w.heap.size) (b := b) hgl hbox5 hb5 HCO.out.hb.size); have hz0 : w5.cell? ⟨gl, 0, none⟩ = some (.int .i64 0) := (blk_cell hbox5 0).trans rfl; have hz1 : w5.cell? ⟨gl, 1, none⟩ = some (.slice none 0 0) := (blk_cell hbox5 1).trans rfl; have hz2 : w5.cell? ⟨gl, 2, none⟩ = some (.slice none 0 0) := (blk_cell hbox5 2).trans rfl; have hf0 := blk_frozen hbox5 0; have hf1 := blk_frozen hbox5 1; have hf2 := blk_frozen hbox5 2; have HT5 := aM (HTo.out.below HI.out.hb); have hy1 := HT5.out.cell1; have hy2 := HT5.out.cellR b0 d1; clear hgl hbox5 hb5))
        clear hz0 hz1 hz2 hf0 hf1 hf2 hy1 hy2 HT5; generalize ((w5.setCell ⟨gl, 0, none⟩ (.int .i64 b)).setCell ⟨gl, 1, none⟩ (.slice none 0 0)).setCell ⟨gl, 2, none⟩ (.slice none 0 0) = w6 at HI ⊢
        go_loopg [30] k1 (fun kq v30 w' => ∃ (x : Int) (orb : List Int) (reps : List (List Int)) (vO vR : Value), v30 = .int .i64 x ∧ Aside0 (0 ≤ x) ∧ Aside0 (levelL kq T b x orb reps = some z) ∧ Aside0 (kq ≤ k1) ∧ Aside0 (ChI base w.heap.size wo w' gl b vO vR orb reps) ∧ Aside0 ((orb.length : Int) ≤ x ∧ (reps.length : Int) ≤ x))
        case atStart => exact ⟨0, [], [], _, _, rfl, ⟨by omega⟩, HZ, ⟨Nat.le_refl _⟩, HI, ⟨by simp⟩⟩
        case round =>
          clear HZ HI; obtain ⟨x, orb, reps, vO, vR, rfl, HX0, HA, HK2, HI, HLN⟩ := hrel
          cases gk with
          | zero => exact absurd HA.out (by simp [levelL])
          | succ k2 =>
            have H := HA.out; clear HA; simp only [levelL] at H; have x0 := HX0.out; have HTw := aM (HTo.out.below HI.out.hb)
            by_cases e1 : x < (T.n : Int)
            · rw [if_pos e1] at H; have e1b : decide (x < (T.n : Int)) = true := decide_eq_true e1; have q0 := eq_true x0; have q1 := eq_true e1; have hy3 := HTw.out.cellr b0 d1 x0 e1
              by_cases e2 : T.rep b x = []
              · rw [if_pos e2] at H; obtain ⟨A2, c2', hv, hl2, hf2, hnil⟩ := HTw.out.leaf b.toNat x.toNat (by omega) (by omega); have hv0 := hnil e2; rw [hv0] at hy3; have hq := fun W => run_neq_nil W none 0 0
                have H' := aM H; clear hv hv0 hnil hf2 hl2 e2 H; go_wp2
                go_roundg k2
                case measure => omega
                case rel => exact ⟨x + 1, orb, reps, vO, vR, rfl, ⟨by have := HX0.out; omega⟩, H', ⟨by have := HK2.out; omega⟩, HI, ⟨by have := HLN.out; omega⟩⟩
              · rw [if_neg e2] at H; have hLN : LeafOk (fun k => base ≤ k ∧ k < w.heap.size) w (vr b.toNat x.toNat) (T.rep b x) := (HT.out.leaf b.toNat x.toNat (by omega) (by omega)).ok; have hLw := hLN.below (below_then HCO.out.hb HCO.out.hb.size HI.out.hb); replace H := Option.bind_eq_some_iff.mp H; obtain ⟨q, hq1, H⟩ := H; have hLw2 := hLw; obtain ⟨A2, c2', hv, hl2, hF2⟩ := hLw2; obtain ⟨ad2, rfl⟩ := C_some (Kd.F_now hF2) e2; rw [hv] at hy3 hLN; have HLN0 := aM hLN; have hqn := fun W => run_neq_nil W (some ad2) (T.rep b x).length c2'
                have H' := aM H; have Hq1 := aM hq1; clear hv hl2 hF2 e2 H hq1 hLN hLw; have hz1 : wr.cell? ⟨gl, 1, none⟩ = some vO := (blk_cell HI.out.bl 1).trans rfl; have hzl := lt_of_some HI.out.bl
                go_wp2_with (first
                  | ((with_reducible refine gate_builtin (b := .append) (xs := #[.tmp 38, .tmp 40]) rfl ?_); at_builtin; refine Kd.R_append (Kd.int .i64) (w0 := wr) (gl + 1) rfl (.tmp 38) (.tmp 40) 22 3 (.int .i64 0) 8 rfl Try.underlying22 info3 rfl (by decide) (by omega) vO orb x [.int .i64 x] (fun _ => True) (fun _ => False) rfl rfl ?hp (fun _ h => h.elim) (fun _ _ => trivial) HI.out.hO (Below.refl _ _) hzl ?hl ?_; (case hp => exact rfl); (case hl => have h_ := HLN.out; omega); intro v1 w7 ho7 hb7 hg7 hat7; obtain ⟨A7, c7, rfl⟩ := Kd.R_slice ho7; rw [show (orb ++ [x]).length = orb.length + 1 by simp] at ho7 hat7; have HI7 := aM (HI.out.pushO ho7 hg7 hat7); have hw1 := (hb7.cell (p := ⟨gl, 1, none⟩) (Nat.lt_succ_self gl)).trans hz1; have hwf := (hb7.frozen (p := ⟨gl, 1, none⟩) (Nat.lt_succ_self gl)).trans (blk_frozen HI.out.bl 1); clear ho7 hb7 hg7 hat7))
                generalize w7.setCell ⟨gl, 1, none⟩ (.slice A7 (orb.length + 1) c7) = w8 at HI7 ⊢; clear hw1 hwf hz1 hzl hqn hy3; have HT8 := aM (HT.out.below (below_drew (below_then HCO.out.hb HCO.out.hb.size HI7.out.hb))); have HL8 := aM (HLN0.out.below (below_drew (below_then HCO.out.hb HCO.out.hb.size HI7.out.hb))); have hz2 : w8.cell? ⟨gl, 2, none⟩ = some vR := (blk_cell HI7.out.bl 2).trans rfl; have hlt := lt_of_some HI7.out.bl
                have hne : vR.ownBlock ≠ some gl := fun e => by
                  have := Kd.N_base HI7.out.hR gl e; omega
                have HNE := aM hne; clear hne; have hzf := blk_frozen HI7.out.bl 2
                go_region_law (first
                  | (refine goes_ (f := 86) Try.func86 ?zhn_ rfl #[.pointer (some ⟨bt, 0, none⟩), .slice (some ad2) (T.rep b x).length c2', .int .i64 b] ?zhw_ rfl rfl ?zha_ ?_; (case zhn_ => rfl); (case zhw_ => simp [Region.wanted]); (case zha_ => (try simp only [List.map_toArray, List.map_cons, List.map_nil]); first | done | rfl); refine (canon_calls k2 _ _ (T.rep b x) b q _ (fun k => base ≤ k ∧ k < w.heap.size) HT8.out HL8.out b0 d1 Hq1.out).mono ?_; rintro e w9 ⟨v9, rfl, hl9, hb9⟩; obtain ⟨A9, c9, rfl, hl9', hF9⟩ := hl9; have HF9 := aM (And.intro hl9' (And.intro hF9 hb9)); have hk2 := (hb9.cell (p := ⟨gl, 2, none⟩) hlt).trans hz2; have hkf := (hb9.frozen (p := ⟨gl, 2, none⟩) hlt).trans hzf; have hkz : ∀ o : Obj, (w9.alloc o).cell? ⟨gl, 2, none⟩ = some vR := (fun o => (((Below.refl w9.heap.size w9).alloc (Nat.le_refl _) o).cell (p := ⟨gl, 2, none⟩) (Nat.lt_of_lt_of_le hlt hb9.size)).trans hk2); have hkzf : ∀ o : Obj, (w9.alloc o).frozen? ⟨gl, 2, none⟩ = false := (fun o => (((Below.refl w9.heap.size w9).alloc (Nat.le_refl _) o).frozen (p := ⟨gl, 2, none⟩) (Nat.lt_of_lt_of_le hlt hb9.size)).trans hkf); clear hl9' hF9 hb9; refine ⟨_, rfl, ?_⟩)
                  | (refine Kd.N_append_step (Kd.slice 3 (Kd.int .i64)) (w0 := w9) (gl + 1) ?hw_ (.tmp 44) (.tmp 49) 28 22 (.slice none 0 0) 24 rfl Try.underlying28 info22 rfl ?hs_ ?hby_ vR reps q [.slice A9 q.length c9] (fun k => (base ≤ k ∧ (k < w.heap.size ∨ gl < k)) ∧ some k ≠ (Value.slice A7 (orb.length + 1) c7).ownBlock) (fun k => (base ≤ k ∧ k < w.heap.size) ∨ w8.drew.heap.size ≤ k) rfl rfl ?hp_ ?hokp_ ?hfr_ ?hO_ (Below.refl _ _) ?hba_ ?hl_ ?_; (case hw_ => simp [Region.wanted]); (case hs_ => decide); (case hby_ => omega); (case hp_ => exact Kd.FK_slice_mk HF9.out.1 HF9.out.2.1); (case hokp_ => exact fun k hk => HI7.out.okp_ok HT.out.base_le k hk); (case hfr_ => exact fun k hk => (HI7.out.okp_ok HT.out.base_le k (.inr (Nat.le_trans HF9.out.2.2.size hk))).1); (case hO_ => exact Kd.N_below (Kd.N_drew HI7.out.hR) HF9.out.2.2); (case hba_ => exact Nat.le_trans hlt HF9.out.2.2.size); (case hl_ => have h_ := HLN.out; omega); intro v10 w10 ho10 hb10 hg10 hat10; obtain ⟨A10, c10, rfl⟩ := N_slice_form ho10; rw [show (reps ++ [q]).length = reps.length + 1 by simp] at ho10 hat10; have HIZ := aM ((HI7.out.below (below_step (below_drew (Below.refl _ _)) HF9.out.2.2)).pushR ho10 hg10); have hm1 := (hg10.cell_far ⟨gl, 2, none⟩ (Nat.lt_of_lt_of_le hlt HF9.out.2.2.size) (Ne.symm HNE.out)).trans hk2; have hmf := (hg10.frozen_far ⟨gl, 2, none⟩ (Nat.lt_of_lt_of_le hlt HF9.out.2.2.size) (Ne.symm HNE.out)).trans hkf; clear ho10 hb10 hg10 hat10))
                all_goals
                  clear hk2 hkf hkz hkzf hm1 hmf hz2 hzf hlt HNE HF9 HT8 HL8; go_wp2
                  go_roundg k2
                  case measure => omega
                  case rel => exact ⟨x + 1, orb ++ [x], reps ++ [q], _, _, rfl, ⟨by have := HX0.out; omega⟩, H', ⟨by have := HK2.out; omega⟩, HIZ, ⟨by have h_ := HLN.out; rw [List.length_append, List.length_append, List.length_singleton, List.length_singleton]; omega⟩⟩
            · rw [if_neg e1] at H; obtain rfl := Option.some.inj H; have e1b : decide (x < (T.n : Int)) = false := decide_eq_false e1; have HH1 := HH.out
              by_cases f1 : 1 < orb.length
              · rw [if_pos f1] at HH1; have H' := aM HH1; clear HH1; have f1b : decide (1 < orb.length) = true := decide_eq_true f1; obtain ⟨A7, c7, hvO⟩ := Kd.R_slice HI.out.hO; subst hvO; have HCw := aM (HCO.out.keep HI.out.hb); have hz1 : wr.cell? ⟨gl, 1, none⟩ = some (.slice A7 orb.length c7) := (blk_cell HI.out.bl 1).trans rfl; have hz0 : wr.cell? ⟨gl, 0, none⟩ = some (.int .i64 b) := (blk_cell HI.out.bl 0).trans rfl; have hz2 : wr.cell? ⟨gl, 2, none⟩ = some vR := (blk_cell HI.out.bl 2).trans rfl; have hu1 : wr.cell? ⟨gout, 1, none⟩ = some vL := (blk_cell HCw.out.bout 1).trans rfl; have huf := blk_frozen HCw.out.bout 1; have hlo := lt_of_some HCw.out.bout; have hne : vL.ownBlock ≠ some gout := fun e => (HCw.out.hN.1 gout e).2.2 rfl
                have HNE := aM hne; clear hne
                have HLV2 := aM (show ∀ k, (base ≤ k ∧ (k < w.heap.size ∨ gl < k)) → (base ≤ k ∧ k ≠ gres ∧ k ≠ gout) ∧ some k ≠ vL.ownBlock from fun k hk => by
                  have h1 := HCO.out.lt1; have h2 := HCO.out.lt2; have h3 := lt_of_some HCO.out.bout; have h4 := HI.out.lt
                  refine ⟨⟨hk.1, by omega, by omega⟩, fun e => ?_⟩; have h5 := Kd.N_base HCO.out.hN k e.symm; have h6 := Kd.N_lt HCO.out.hN k e.symm; omega)
                go_wp2_with (first
                  | ((with_reducible refine gate_builtin (b := .append) (xs := #[.tmp 58, .tmp 60]) rfl ?_); at_builtin; refine Kd.N_append k74 (w0 := wr) w.heap.size rfl (.tmp 58) (.tmp 60) 44 74 (.agg #[(.int .i64 0), (.slice none 0 0), (.slice none 0 0)]) 56 rfl Try.underlying44 info74 rfl (by decide) (by omega) vL lv (⟨b, orb, reps⟩ : S74) [.int .i64 b, .slice A7 orb.length c7, vR] (fun k => base ≤ k ∧ k ≠ gres ∧ k ≠ gout) (fun k => base ≤ k ∧ (k < w.heap.size ∨ gl < k)) rfl rfl (HI.out.level HT.out.base_le) HLV2.out ?yF HCw.out.hN (Below.refl _ _ |>.trans ⟨rfl, rfl, rfl, Nat.le_refl _, fun _ _ => rfl⟩) HCw.out.hb.size ?yL ?_; (case yF => exact fun k hk => ⟨by have h1_ := HT.out.base_le; have h2_ := HCw.out.hb.size; omega, by have h1_ := HCw.out.lt2; omega, by omega⟩); (case yL => have h_ := HLV.out; omega); intro v10 w10 ho10 hb10 hg10 hat10; obtain ⟨A10, c10, rfl⟩ := N_slice_form ho10; rw [show (lv ++ [(⟨b, orb, reps⟩ : S74)]).length = lv.length + 1 by simp] at ho10; have HCZ := aM (HCw.out.push ho10 hg10); have hm1 := (hg10.cell_far ⟨gout, 1, none⟩ hlo (Ne.symm HNE.out)).trans hu1; have hmf := (hg10.frozen_far ⟨gout, 1, none⟩ hlo (Ne.symm HNE.out)).trans huf; clear ho10 hb10 hg10 hat10))
                clear hz1 hz0 hz2 hu1 huf hlo hm1 hmf
                go_roundg k1
                case measure => omega
                case rel => exact ⟨b + 1, _, _, rfl, ⟨by have := HB0.out; omega⟩, H', ⟨by have := HK1.out; omega⟩, HCZ, ⟨by have h_ := HLV.out; rw [List.length_append, List.length_singleton]; omega⟩⟩
              · rw [if_neg f1] at HH1; have H' := aM HH1; clear HH1; have f1b : decide (1 < orb.length) = false := decide_eq_false f1; obtain ⟨A7, c7, hvO⟩ := Kd.R_slice HI.out.hO; subst hvO; have HCw := aM (HCO.out.keep HI.out.hb); have hz1 : wr.cell? ⟨gl, 1, none⟩ = some (.slice A7 orb.length c7) := (blk_cell HI.out.bl 1).trans rfl; go_wp2
                go_roundg k1
                case measure => omega
                case rel => exact ⟨b + 1, _, _, rfl, ⟨by have := HB0.out; omega⟩, H', ⟨by have := HK1.out; omega⟩, HCw, ⟨by have h_ := HLV.out; omega⟩⟩
      · rw [if_neg d1] at H; obtain rfl := Option.some.inj H; have d1b : decide (b < (T.n : Int)) = false := decide_eq_false d1; obtain ⟨A7, c7, hvL⟩ := N_slice_form HCO.out.hN; subst hvL; have hz0 : wo.cell? ⟨gout, 0, none⟩ = some (.int .i64 T.n) := (blk_cell HCO.out.bout 0).trans rfl; have hz1 : wo.cell? ⟨gout, 1, none⟩ = some (.slice A7 lv.length c7) := (blk_cell HCO.out.bout 1).trans rfl; have hr0 : wo.cell? ⟨gres, 0, none⟩ = some (.int .i64 0) := (blk_cell HCO.out.bres 0).trans rfl; have hr1 : wo.cell? ⟨gres, 1, none⟩ = some (.slice none 0 0) := (blk_cell HCO.out.bres 1).trans rfl; have hrf0 := blk_frozen HCO.out.bres 0; have hrf1 := blk_frozen HCO.out.bres 1; go_wp2; clear hz0 hz1 hr0 hr1 hrf0 hrf1
        refine bodyPost_ret (results_cell_row rfl _ _ gres 46 #[.int .i64 T.n, .slice A7 lv.length c7] (0, 0) _ rfl (blk_put (blk_put HCO.out.bres 0 _ rfl) 1 _ rfl) Try.underlying46 rfl (by kernel_rfl)) rfl ?_
        refine ⟨_, rfl, ?_, (HCO.out.hb.setCell HCO.out.lt1 _).setCell HCO.out.lt1 _⟩
        exact Kd.N_mono (Kd.N_far (Kd.N_far HCO.out.hN (p := ⟨gres, 0, none⟩) (fun k hk => hk.2.1) _) (p := ⟨gres, 1, none⟩) (fun k hk => hk.2.1) _) (fun k hk => hk.1)
end
section
theorem TwAt.not_own {base : Nat} {w : World} {bt bR bG : Nat} {rb : Nat → Nat} {vr : Nat → Nat → Value} {vg : Nat → Value} {T : Tw} (h : TwAt base w bt bR bG rb vr vg T) {g : Nat} (hg : w.heap.size ≤ g) : ¬ Own T.n rb bG vg g := by
  rintro (⟨i, hi, rfl⟩ | rfl | ⟨i, hi, ho⟩)
  · have := lt_of_some (h.hr i hi); omega
  · have := lt_of_some h.hG; omega
  · obtain ⟨inner, h2, _⟩ := h.hg i hi
    have := own_lt h2 g ho; omega
theorem grown_undrew {w w1 : World} {row : Option Nat} (h : w.drew.grownBy w1 row) : w.grownBy w1 row := ⟨h.os, h.tape, h.output, h.size, h.block⟩
theorem add_close {base : Nat} {w w3 w4 : World} {bt bR bG : Nat} {rb : Nat → Nat} {vr : Nat → Nat → Value} {vg : Nat → Value} {T : Tw} {A0 : Option Addr} {c0 : Nat} {p : List Int} {b : Int} {inner : List Value} {gg cap : Nat}
    (hT : TwAt base w3 bt bR bG rb vr vg T) (c2 : 0 ≤ b) (c3 : b < T.n) (hP : Leaf base w3 (.slice A0 p.length c0) p) (hK : Keep base w w3) (hF : TwFr T.n rb bG vg w vg w3)
    (hin : ∀ (j : Nat) (l : List Int), (T.gen b)[j]? = some l → ∃ v, inner[j]? = some v ∧ Leaf base w3 v l) (ho : w3.ownsRow base 22 1 (vg b.toNat) (T.gen b).length inner)
    (hown4 : w4.ownsRow base 22 1 (.slice (some ⟨gg, 0, none⟩) ((T.gen b).length + 1) cap) ((T.gen b).length + 1) (inner ++ [.slice A0 p.length c0]))
    (hgrow : (w3.alloc (.cells #[.slice A0 p.length c0] 22)).drew.grownBy w4 (vg b.toNat).ownBlock) (hat : (vg b.toNat).ownBlock = some gg ∨ gg = w3.heap.size + 1) :
    ∃ (vr1 : Nat → Nat → Value) (vg1 : Nat → Value), Aside0 (TwAt base (w4.setCell ⟨bG, b.toNat, none⟩ (.slice (some ⟨gg, 0, none⟩) ((T.gen b).length + 1) cap)) bt bR bG rb vr1 vg1 (T.addGen b p)) ∧ Aside0 (Keep base w (w4.setCell ⟨bG, b.toNat, none⟩ (.slice (some ⟨gg, 0, none⟩) ((T.gen b).length + 1) cap))) ∧ Aside0 (TwFr T.n rb bG vg w vg1 (w4.setCell ⟨bG, b.toNat, none⟩ (.slice (some ⟨gg, 0, none⟩) ((T.gen b).length + 1) cap))) := by
  have ha := hT.add_gen (w1 := w4) (v1 := .slice (some ⟨gg, 0, none⟩) ((T.gen b).length + 1) cap) (inner := inner) c2 c3 hP hin (by have := ho.1; simpa using this) hown4 (World.grownBy.trans (World.grownBy_alloc w3 _ _) (grown_undrew hgrow)) (by rcases hat with hat | hat; exact .inl hat.symm; exact .inr ⟨gg, rfl, by omega⟩)
  exact ⟨_, _, ⟨ha.1⟩, ⟨hK.trans ha.2.1⟩, ⟨hF.trans ha.2.2⟩⟩
theorem insert_step (k : Nat) (ihv : ∀ m, m ≤ k → VisitOk m) : InsertOk (k + 1) := by
  intro base bt bR bG rb vr vg T A0 c0 p b T' w hT hp h
  have HT := aM hT
  have HP := aM hp
  have IHV := aM ihv
  have HR := aM hp.C.1
  have HC := aM hp.C.2
  clear hT ihv hp
  simp only [insertL] at h
  replace h := Option.bind_eq_some_iff.mp h
  obtain ⟨e1, he1, h⟩ := h
  have He1 := aM he1
  clear he1
  have hx0 := HT.out.cell0
  have hn64 := HT.out.n64
  by_cases c1 : e1 = (T.n : Int)
  · rw [if_pos c1] at h
    obtain rfl := Option.some.inj h; have c1b : (e1 == (T.n : Int)) = true := beq_iff_eq.mpr c1; clear c1 h
    go_enter Try.func61, Try.ntmps61
    go_wp2_with (first
      | (go_at_call 83; (with_reducible refine (strip_calls k _ _ p b e1 _ HT.out HR.out HC.out He1.out).mono ?_); rintro e w3 ⟨v3, rfl, hb3⟩; have HB3 := aM hb3; have hx03 := (HT.out.below hb3).cell0; clear hb3))
    go_end0
    exact ⟨rfl, vr, vg, HT.out.below HB3.out, Keep.of_below HT.out.base_le HB3.out, TwFr.of_below HB3.out, rfl⟩
  rw [if_neg c1] at h
  have c1b : (e1 == (T.n : Int)) = false := beq_eq_false_iff_ne.mpr c1
  clear c1
  by_cases c2 : 0 ≤ b
  · rw [if_pos c2] at h
    by_cases c3 : b < (T.n : Int)
    · rw [if_pos c3] at h
      by_cases c4 : (T.gen b).length < 1000000
      · rw [if_pos c4] at h; have p2 := eq_true c2; have p3 := eq_true c3; have H' := aM h; clear h
        go_enter Try.func61, Try.ntmps61
        go_wp2_with (first
          | (go_at_call 83; (with_reducible refine (strip_calls k _ _ p b e1 _ HT.out HR.out HC.out He1.out).mono ?_); rintro e w3 ⟨v3, rfl, hb3⟩; have HB3 := aM hb3; have HT3 := aM (HT.out.below hb3); have HP3 := aM (HP.out.keep (Keep.of_below HT.out.base_le hb3)); have hx03 := HT3.out.cell0; clear hb3))
        obtain ⟨inner, ho, hin⟩ := HT3.out.hg b.toNat (by omega); have hgen : T.gens.getD b.toNat [] = T.gen b := rfl; rw [hgen] at ho hin; clear hgen; have hy1 := HT3.out.cell2; have hy2 := HT3.out.cellG c2 c3; have hyf : w3.frozen? ⟨bG, b.toNat, none⟩ = false := blk_frozen HT3.out.hG _
        have hne1 : (vg b.toNat).ownBlock ≠ some bt := fun e => by
          obtain ⟨cs, hc⟩ := own_typed ho bt e
          exact ne_of_types hc HT3.out.ht (by decide) rfl
        have hne2 : (vg b.toNat).ownBlock ≠ some bG := fun e => by
          obtain ⟨cs, hc⟩ := own_typed ho bG e
          exact ne_of_types hc HT3.out.hG (by decide) rfl
        have hlt1 := lt_of_some HT3.out.ht; have hlt2 := lt_of_some HT3.out.hG; have hyf2 : ∀ o : Obj, (w3.alloc o).drew.frozen? ⟨bG, b.toNat, none⟩ = false := fun o => (((Below.refl w3.heap.size w3).alloc (Nat.le_refl _) o).frozen (p := ⟨bG, b.toNat, none⟩) hlt2).trans hyf
        have hyc2 : ∀ o : Obj, (w3.alloc o).drew.cell? ⟨bG, b.toNat, none⟩ = some (vg b.toNat) := fun o => (((Below.refl w3.heap.size w3).alloc (Nat.le_refl _) o).cell (p := ⟨bG, b.toNat, none⟩) hlt2).trans hy2
        have HYC := aM hyc2; have HYD := aM (show ∀ o : Obj, (w3.alloc o).drew.cell? ⟨bt, 2, none⟩ = some (.slice (some ⟨bG, 0, none⟩) T.n T.n) from fun o => (((Below.refl w3.heap.size w3).alloc (Nat.le_refl _) o).cell (p := ⟨bt, 2, none⟩) hlt1).trans hy1); have HYF := aM hyf2; clear hyc2 hyf2; have HO := aM ho; have HIN := aM hin; clear ho hin hx0; obtain ⟨i0, hi0, hz0, hz1, hz2⟩ := info_parts info22
        go_cut [] (fun wc => ∃ (vr1 : Nat → Nat → Value) (vg1 : Nat → Value), Aside0 (TwAt base wc bt bR bG rb vr1 vg1 (T.addGen b p)) ∧ Aside0 (Keep base w wc) ∧ Aside0 (TwFr T.n rb bG vg w vg1 wc))
        case first =>
          go_region_law
            ((refine step_append_lies _ (by rfl) _ _ _ (by rfl) base 22 i0 _ 1 24 Try.underlying28 hi0 hz0 hz1 hz2 rfl (by omega) (vg b.toNat) (T.gen b).length inner (by rfl) ((HO.out.alloc _).drew)
                ⟨w3.heap.size, 0, none⟩ 1 1 [.slice A0 p.length c0] (by rfl) (by rfl) (World.news_of_block (cs := #[.slice A0 p.length c0]) (t := 22) (fr := (0, 0)) (heap_alloc_new w3 _)) (by simp [Value.oneCell'])
                (by omega) (by simp only [maxLen]; omega) (by omega) (by simp; exact Nat.le_succ_of_le HT3.out.base_le) (w3.heap.size + 1) (by simp) ?_; intro gg cap w4 hown4 hgrow hat hlt; have hz2d := (hgrow.cell_far ⟨bt, 2, none⟩ (by simp; omega) (Ne.symm hne1)).trans (HYD.out _); have hz2c := (hgrow.cell_far ⟨bG, b.toNat, none⟩ (by simp; omega) (Ne.symm hne2)).trans (HYC.out _); have hz2f := (hgrow.frozen_far ⟨bG, b.toNat, none⟩ (by simp; omega) (Ne.symm hne2)).trans (HYF.out _)))
          all_goals
            have hcl := add_close HT3.out c2 c3 HP3.out (Keep.of_below HT.out.base_le HB3.out) (TwFr.of_below HB3.out) HIN.out HO.out hown4 hgrow hat; clear hown4 hgrow hat hlt hz2c hz2d hz2f; go_wp2; go_meet
            case rel => exact hcl
        case rest =>
          obtain ⟨vr1, vg1, HT4, HK4, HF4⟩ := hcut; clear hy1 hy2 hyf hne1 hne2 hlt1 hlt2 HYC HYD HYF HO HIN hi0 hz0 hz1 hz2 c1b hx03 HT3 HP3; have hHT4 := HT4.out; have hy1 := hHT4.cell1; have hy2 := hHT4.cellR c2 c3; have hTn : (T.addGen b p).n = T.n := rfl; rw [hTn] at hy1 hy2
          have HCELL := aM (show ∀ (j : Nat) (u : Value), ((List.range T.n).map (vr1 b.toNat))[j]? = some u → wc.cell? ⟨rb b.toNat, j, none⟩ = some u from fun j u hu => by
            have := (blk_cell (hHT4.hr b.toNat (by rw [hTn]; omega)) j).trans (by rw [List.getElem?_toArray]); rw [hTn] at this; rw [this]; exact hu)
          have HONE := aM (show ∀ v ∈ (List.range T.n).map (vr1 b.toNat), v.oneCell' = true from fun v hv => by
            obtain ⟨x, hx, rfl⟩ := List.mem_map.1 hv; obtain ⟨A, c, hv, _⟩ := hHT4.leaf b.toNat x (by rw [hTn]; omega) (by rw [hTn]; exact List.mem_range.1 hx); rw [hv]; rfl)
          have hn1 := hHT4.n1; rw [hTn] at hn1; clear hHT4 hTn
          go_wp2_with (first
            | (go_at_call 84; (with_reducible refine (clone84_calls (rb b.toNat) T.n ((List.range T.n).map (vr1 b.toNat)) _ (by simp) hn1 hn64 HONE.out HCELL.out).mono ?_); rintro e w5 ⟨g5, c5, rfl, hg5, hlt5, hc5, hb5⟩; have HC5 := aM (And.intro hc5 hb5); have HNO := aM (show ¬ Own T.n rb bG vg1 g5 from HT4.out.not_own hg5); have HLT5 := aM hlt5; have HT5 := aM (HT4.out.below hb5); have HK5 := aM (HK4.out.trans (Keep.of_below HT4.out.base_le hb5)); have HF5 := aM (HF4.out.trans (TwFr.of_below hb5)); clear hc5 hb5 hg5 hlt5))
          clear hy1 hy2 HCELL HONE hn1; have hrow : (T.row b).length = T.n := HT.out.lrr b.toNat (by omega); have HROW := aM hrow; have HLEAF := aM (show ∀ x : Nat, x < T.n → Leaf base w5 (vr1 b.toNat x) ((T.row b).getD x []) from fun x hx => (HT4.out.leaf b.toNat x (show b.toNat < T.n by omega) hx).leaf.keep (Keep.of_below HT4.out.base_le (HC5.out.2))); clear hrow
          go_loopg [48] k (fun kq v48 w' => ∃ (T1 : Tw) (i : Int) (vr2 : Nat → Nat → Value) (vg2 : Nat → Value), v48 = .int .i64 i ∧ Aside0 (0 ≤ i) ∧ Aside0 (insertLoop kq T1 (T.row b) p b i = some T') ∧ Aside0 (kq ≤ k) ∧ Aside0 (TwAt base w' bt bR bG rb vr2 vg2 T1) ∧ Aside0 (Keep base w5 w') ∧ Aside0 (TwFr T.n rb bG vg1 w5 vg2 w') ∧ Aside0 (T1.n = T.n))
          case atStart => exact ⟨_, 0, _, _, rfl, ⟨by omega⟩, H', ⟨Nat.le_refl _⟩, HT5, ⟨Keep.refl _ _⟩, ⟨TwFr.refl⟩, ⟨rfl⟩⟩
          case round =>
            clear H'; obtain ⟨T1, i, vr2, vg2, rfl, HI0, HA, HK1, HT1, HKe, HFe, HN1⟩ := hrel
            cases gk with
            | zero => exact absurd HA.out (by simp [insertLoop])
            | succ k1 =>
              have H := HA.out; clear HA; simp only [insertLoop] at H; have i0 := HI0.out; have q0 := eq_true i0
              by_cases d1 : i < ((T.row b).length : Int)
              · rw [if_pos d1] at H; rw [HROW.out] at d1; have q1 := eq_true d1
                have hy3 : wr.cell? ⟨g5, i.toNat, none⟩ = some (vr1 b.toNat i.toNat) := by
                  have e1 := HFe.out.same g5 HLT5.out HNO.out; have e2 := HC5.out.1 i.toNat (vr1 b.toNat i.toNat) (by rw [List.getElem?_map, List.getElem?_range (by omega)]; rfl)
                  exact (World.cell?_of_block (a := ⟨g5, i.toNat, none⟩) e1).trans e2
                have hLf : Leaf base wr (vr1 b.toNat i.toNat) (rd_L1 (T.row b) i) := (HLEAF.out i.toNat (by omega)).keep HKe.out
                by_cases d2 : rd_L1 (T.row b) i = []
                · rw [if_pos d2] at H; obtain ⟨A2, c2', hv, hl2, hf2, hnil⟩ := hLf; have hv0 := hnil d2; rw [hv0] at hy3; have hq := fun W => run_neq_nil W none 0 0
                  have H' := aM H; clear hv hv0 hnil hf2 hl2 d2 H; go_wp2
                  go_roundg k1
                  case measure => have := HK1.out; omega
                  case rel => exact ⟨T1, i + 1, vr2, vg2, rfl, ⟨by have := HI0.out; omega⟩, H', ⟨by have := HK1.out; omega⟩, HT1, HKe, HFe, HN1⟩
                rw [if_neg d2] at H; replace H := Option.bind_eq_some_iff.mp H; obtain ⟨q, hq1, H⟩ := H; replace H := Option.bind_eq_some_iff.mp H; obtain ⟨T2, hq2, H⟩ := H; obtain ⟨A2, c2', hv, hl2, hC2⟩ := hLf.reads; obtain ⟨ad2, rfl⟩ := C_some hC2 d2; have hpos : 0 < (rd_L1 (T.row b) i).length := List.length_pos_iff.2 d2; rw [hv] at hy3; have hq := fun W => run_neq_nil W (some ad2) (rd_L1 (T.row b) i).length c2'
                have H' := aM H; have Hq1 := aM hq1; have Hq2 := aM hq2; have HC2 := aM hC2; have HL2 := aM hl2; have HPOS := aM hpos; have HPr := aM (HP.out.keep (HK5.out.trans HKe.out)).C.1; clear hv d2 H hq1 hq2 hC2 hl2 hLf hpos
                go_wp2_with (first
                  | (go_at_call 50; (with_reducible refine (perm_then.calls k1 _ _ (rd_L1 (T.row b) i) _ _ p q _ ?s1 ?s2 ?s3 ?s4 Hq1.out).mono ?_); (case s1 => exact HC2.out); (case s2 => exact HL2.out); (case s3 => exact HPr.out); (case s4 => exact HC.out); rintro e w7 ⟨v7, rfl, ho7, hb7⟩; have HLf := aM (LeafN.of_R (base := base) ho7 HT1.out.base_le (by rw [← List.length_pos_iff, then_len Hq1.out]; exact HPOS.out)); obtain ⟨A7, c7, rfl, hl7, hr7⟩ := Kd.R_reads ho7; have HT7 := aM (HT1.out.below hb7); have HK7 := aM (HKe.out.trans (Keep.of_below HT1.out.base_le hb7)); have HF7 := aM (HFe.out.trans (TwFr.of_below hb7)); clear ho7 hb7 hr7 hl7)
                  | (go_at_call 85; (with_reducible refine (IHV.out k1 zz143 A7 c7 q b T2 _ HT7.out HLf.out Hq2.out).mono ?_); rintro e w8 ⟨rfl, vr8, vg8, hT8, hK8, hF8, hn8⟩; have HT8 := aM hT8; have HK8 := aM (HK7.out.trans hK8); have HF8 := aM (HF7.out.trans (HN1.out ▸ hF8)); have HN8 := aM (hn8.trans HN1.out); clear hT8 hK8 hF8 hn8))
                go_roundg k1
                case measure => have := HK1.out; omega
                case rel => exact ⟨T2, i + 1, vr8, vg8, rfl, ⟨by have := HI0.out; omega⟩, H', ⟨by have := HK1.out; omega⟩, HT8, HK8, HF8, HN8⟩
              rw [if_neg d1] at H; obtain rfl := Option.some.inj H; rw [HROW.out] at d1; have q1b : decide (i < (T.n : Int)) = false := decide_eq_false d1; go_wp2
              go_end0
              exact ⟨rfl, vr2, vg2, HT1.out, HK5.out.trans HKe.out, HF5.out.trans HFe.out, HN1.out⟩
      rw [if_neg c4] at h; cases h
    rw [if_neg c3] at h; cases h
  rw [if_neg c2] at h; cases h
theorem vi_ok (k : Nat) : VisitOk k ∧ InsertOk k := by
  induction k using Nat.strongRecOn with
  | _ k ih =>
    cases k with
    | zero => exact ⟨fun A0 c0 p b T' w _ _ h => by simp [visitL] at h, fun A0 c0 p b T' w _ _ h => by simp [insertL] at h⟩
    | succ k => exact ⟨visit_step k (fun m hm => (ih m (by omega)).1) (fun m hm => (ih m (by omega)).2), insert_step k (fun m hm => (ih m (by omega)).1)⟩
end
section
attribute [local go_sem] max2_int min2_int max_two min_two max_three min_three max_four min_four
def perm_identity.l0 : Nat → List Int → Int → Int → Option (List Int)
  | 0, _, _, _ => none
  | k + 1, x3, x8, x9 => if x9 < x8 then (if 0 ≤ x9 then (if x9 < (x3.length : Int) then (perm_identity.l0 k (x3.set (x9 : Int).toNat x9) x8 (wrap64 (x9 + 1))) else (none)) else (none)) else (some x3)
def perm_identity.f (k : Nat) (a0 : Int) : Option (List Int) := if 0 ≤ a0 then (if (a0 : Int).toNat ≤ 35184372088832 then ((some (List.replicate (a0 : Int).toNat 0 : List Int)).bind fun y101 => (perm_identity.l0 k y101 (y101.length : Int) 0)) else (none)) else (none)
theorem perm_identity.mono_l : ∀ k, (∀ y0 y1 y2, LeO (perm_identity.l0 k y0 y1 y2) (perm_identity.l0 (k + 1) y0 y1 y2))
  | 0 => fun _ _ _ r h => by simp [perm_identity.l0] at h
  | k + 1 => by
    have ih0 := perm_identity.mono_l k
    · intro y0 y1 y2; unfold perm_identity.l0
      repeat' first
      | (with_reducible exact ih0 _ _ _)
      | (with_reducible exact LeO.refl _)
      | (with_reducible exact LeO.none _)
      | (with_reducible refine LeO.ite ?_ ?_)
      | (with_reducible refine LeO.bind ?_ (fun _ => ?_))
theorem perm_identity.mono : ∀ a0 k, LeO (perm_identity.f k a0) (perm_identity.f (k + 1) a0) := by
  intro a0 k
  have ih0 := perm_identity.mono_l k
  unfold perm_identity.f
  repeat' first
      | (with_reducible exact ih0 _ _ _)
      | (with_reducible exact LeO.refl _)
      | (with_reducible exact LeO.none _)
      | (with_reducible refine LeO.ite ?_ ?_)
      | (with_reducible refine LeO.bind ?_ (fun _ => ?_))
theorem perm_identity.calls (k : Nat) (a0 : Int) (r : List Int) (w : World) (h : perm_identity.f k a0 = some r) :
    Calls Try.prog 49 #[.int .i64 a0] w fun e w' => ∃ v0_ : Value, e = .returned (v0_) ∧ Kd.R (Kd.int .i64) 3 w' w.heap.size (fun _ => True) v0_ r ∧ Below w.heap.size w w' := by
  have HB := aM (Below.refl w.heap.size w)
  have H : (if 0 ≤ a0 then (if (a0 : Int).toNat ≤ 35184372088832 then ((some (List.replicate (a0 : Int).toNat 0 : List Int)).bind fun y101 => (perm_identity.l0 k y101 (y101.length : Int) 0)) else (none)) else (none)) = some r := h
  clear h
  by_cases c2 : 0 ≤ a0
  · rw [if_pos c2] at H
    have c2b0 := eq_true c2; have c2b1 := decide_eq_true c2; clear c2
    by_cases c3 : (a0 : Int).toNat ≤ 35184372088832
    · rw [if_pos c3] at H; have c3b0 := eq_true c3; have c3b1 := decide_eq_true c3; clear c3; obtain ⟨y101, hy101⟩ : ∃ y_ : List Int, y_ = (List.replicate (a0 : Int).toNat 0) := ⟨_, rfl⟩; replace H : (perm_identity.l0 k y101 (y101.length : Int) 0) = some r := by first | (rw [hy101]; with_reducible exact H) | (have H2_ := (Option.bind_some _ _).symm.trans H; rw [hy101]; with_reducible exact H2_) | (have H2_ := (Option.bind_some _ _).symm.trans H; with_reducible exact H2_) | with_reducible exact H | (rw [hy101]; exact H) | exact H
      have Ny101 := aM hy101; clear hy101; have H' := aM H; clear H
      go_enter Try.func49, Try.ntmps49
      go_wp2_with (first | ((with_reducible refine gate_dst (N := 6) rfl ?_); refine Kd.R_make (Kd.int .i64) _ 3 rfl (N := 6) rfl 22 _ _ rfl a0 rfl rfl Try.underlying22 (.int .i64 0) 8 info3 rfl (by decide) (by omega) 0 (ok := fun _ => True) (okp := fun _ => True) rfl (fun _ hk => hk) trivial (of_decide_eq_true zz135) (Nat.le_trans (Nat.mul_le_mul_right _ (of_decide_eq_true zz135 : a0.toNat ≤ 35184372088832)) (by omega)) (Below.refl _ _) (Nat.le_refl _) ?_; intro v102 w4 ho5 hb hg_ hnew_; clear hg_ hnew_; (first | rw [← Ny101.out] at ho5 | (simp only [Int.reduceToNat] at ho5; rw [← Ny101.out] at ho5)); have HO103 := aM (Kd.R_lower ho5 (below_size zz110)); replace HB := aM (below_step zz110 hb); clear hb ho5; obtain ⟨Ao6, co6, eo6⟩ := Kd.R_slice HO103.out; subst eo6))
      go_loopg [9] k (fun kq v9 w' => ∃ (x3_1 : List Int) (x9_1 : Int), v9 = .int .i64 x9_1 ∧ Aside0 (perm_identity.l0 kq x3_1 (y101.length : Int) x9_1 = some r) ∧ Aside0 (kq ≤ k) ∧ Aside0 (Kd.R (Kd.int .i64) 3 w' w.heap.size (fun _ => True) (.slice Ao6 y101.length co6) x3_1) ∧ Aside0 (Below w.heap.size w w'))
      case atStart => exact ⟨(y101), (0), zz136, H', ⟨Nat.le_refl _⟩, ⟨(zR HO103)⟩, ⟨zz110⟩⟩
      case round =>
        clear H'; (try clear c2); (try clear c2b0); (try clear c2b1); (try clear p2); (try clear c3); (try clear c3b0); (try clear c3b1); (try clear c4); obtain ⟨x3_1, x9_1, rfl, HA, HK1, HO_3, HB⟩ := hrel; have hl3_1 := (Kd.R_reads' HO_3.out).1; rw [hl3_1] at HO_3
        (try simp only [hl3_1])
        cases gk with
        | zero => exact absurd HA.out (by simp [perm_identity.l0])
        | succ k1 =>
          have H := HA.out; clear HA; simp only [perm_identity.l0] at H
          by_cases c7 : x9_1 < (y101.length : Int)
          · rw [if_pos c7] at H; have c7b0 := decide_eq_true c7; clear c7
            by_cases c8 : 0 ≤ x9_1
            · rw [if_pos c8] at H; have c8b0 := decide_eq_true c8; clear c8
              by_cases c9 : x9_1 < (x3_1.length : Int)
              · rw [if_pos c9] at H; have c9b0 := decide_eq_true c9; clear c9; obtain ⟨y104, hy104⟩ : ∃ y_ : List Int, y_ = (x3_1.set (x9_1 : Int).toNat x9_1) := ⟨_, rfl⟩; replace H : (perm_identity.l0 k1 y104 (y101.length : Int) (wrap64 (x9_1 + 1))) = some r := by first | (rw [hy104]; with_reducible exact H) | (have H2_ := (Option.bind_some _ _).symm.trans H; rw [hy104]; with_reducible exact H2_) | (have H2_ := (Option.bind_some _ _).symm.trans H; with_reducible exact H2_) | with_reducible exact H | (rw [hy104]; exact H) | exact H
                have Ny104 := aM hy104; clear hy104; have H' := aM H; clear H; have p10 : 0 ≤ (x9_1 : Int) := of_decide_eq_true zz135; have q10 : (x9_1 : Int) < ((x3_1.length : Int) : Int) := of_decide_eq_true zz135; obtain ⟨go10, co10, eo10, gb10, gl10, cl10, HG10⟩ := Kd.R_form HO_3.out (by omega)
                (first | cases eo10 | (injection eo10 with ea_ en_ ec_; (first | subst ea_ | (injection ea_ with ea_; subst ea_)); subst ec_; clear en_))
                have GB10 := aM gb10; have GG10 := aM HG10; clear gb10 gl10 HG10; obtain ⟨hx10_0, hf10_0⟩ := Kd.R_celln 0 HO_3.out (x9_1 : Int) p10 q10; replace p10 := eq_true p10; replace q10 := eq_true q10; have HP11 := Kd.R_putg HO_3.out (x9_1 : Int) x9_1
                go_wp2_with (first | ((with_reducible refine gate_store (t := 3) (p := 15) rfl ?_); refine store_event (t := 3) (p := 15) (v := ?vo_w12) (w1 := (wr.setCell ⟨go10, (x9_1 : Int).toNat, none⟩ (.int .i64 x9_1))) ?hg ?ho ?hn ?hr ?_; (case ho => rfl); (case hg => rfl); (case hn => rfl); (case hr => first | (go_simp; done) | (go_simp; rfl)); intro w12 hw; have hg : wr.grownBy w12 (some go10) := (by rw [hw]; exact HP11.2); have hp_ : Kd.R (Kd.int .i64) 3 w12 w.heap.size (fun _ => True) (.slice (some ⟨go10, 0, none⟩) x3_1.length co6) y104 := (by rw [hw, Ny104.out]; exact HP11.1); clear HP11; replace HO_3 := aM (hp_); replace HB := aM ((by rw [hw]; exact below_set (HB.out) GB10.out : Below w.heap.size w w12)); clear hg hw hp_))
                (try simp only [← hl3_1])
                go_roundg k1
                case measure => have := HK1.out; omega
                case rel => exact ⟨(y104), (wrap64 (x9_1 + 1)), zz136, H', ⟨zz143⟩, ⟨(by (try simp only [hl3_1]); (with_reducible repeat (first | apply Kd.R_alloc | apply Kd.R_drewN | apply Kd.R_drew)); exact HO_3.out)⟩, ⟨zz110⟩⟩
              rw [if_neg c9] at H
              exact absurd H (by simp)
            rw [if_neg c8] at H
            exact absurd H (by simp)
          rw [if_neg c7] at H; have c7b0 := decide_eq_false c7; have c7b1 : decide (x9_1 < (x3_1.length : Int)) = false := by rw [← hl3_1]; exact c7b0
          clear c7; obtain rfl := Option.some.inj H; go_wp2; go_ret
          exact ⟨_, by first | rfl | (simp [errW_none, errW_some] <;> rfl) | (simp [*, errW_none, errW_some] <;> rfl), by (with_reducible repeat (first | apply Kd.R_alloc | apply Kd.R_drewN | apply Kd.R_drew)); exact HO_3.out, by repeat (first | (with_reducible first | exact HB.out | apply below_alloc | apply pw_below_drewN | apply below_drew1) | exact HB.out)⟩
    rw [if_neg c3] at H
    exact absurd H (by simp)
  rw [if_neg c2] at H
  exact absurd H (by simp)
end
section
def newTowerL (k n : Nat) : Option Tw := if 1 ≤ n ∧ n ≤ 64 then (perm_identity.f k n).bind fun r => if r = [] then none else some { n := n, reps := (List.range n).map (fun b => (List.replicate n []).set b r), gens := List.replicate n [] } else none
theorem info28' : (Try.prog.info? 28).map (fun i => (i.zero, i.size, i.bytes)) = some (some (.slice none 0 0), 1, 24) := by kernel_rfl
structure NtAt (base : Nat) (w : World) (bt bR bG n j : Nat) (rb : Nat → Nat) (vr : Nat → Nat → Value) (r : List Int) : Prop where
  gt : base ≤ bt
  gR : base ≤ bR
  gG : base ≤ bG
  grb : ∀ i, i < j → base ≤ rb i
  ht : w.heap[bt]? = some (Obj.cells #[.int .i64 n, .slice (some ⟨bR, 0, none⟩) n n, .slice (some ⟨bG, 0, none⟩) n n] 108 (0, 0))
  hR : w.heap[bR]? = some (Obj.cells ((List.range n).map (fun i => if i < j then Value.slice (some ⟨rb i, 0, none⟩) n n else .slice none 0 0)).toArray 28 (0, 0))
  hr : ∀ i, i < j → w.heap[rb i]? = some (Obj.cells ((List.range n).map (vr i)).toArray 22 (0, 0))
  hG : w.heap[bG]? = some (Obj.cells ((List.range n).map (fun _ => Value.slice none 0 0)).toArray 28 (0, 0))
  leaf : ∀ i x, i < j → x < n → LeafN base w (vr i x) (if x = i then r else [])
  dRG : bR ≠ bG
  drb : ∀ i i', i < j → i' < j → rb i = rb i' → i = i'
theorem made_range (z : Value) (n : Nat) : madeCells #[z] n = ((List.range n).map (fun _ => z)).toArray := by
  apply Array.ext
  · simp [madeCells]
  · intro i h1 h2
    simp [madeCells, Nat.mod_one]
theorem NtAt.start0 (w : World) (n : Nat) (r : List Int) (sw : Bool) :
    NtAt w.heap.size ((((w.alloc (.cells (madeCells #[Value.slice none 0 0] n) 28)).alloc (.cells (madeCells #[Value.slice none 0 0] n) 28)).alloc
        (.cells #[Value.int IntKind.i64 n, Value.slice (some ⟨if sw then w.heap.size + 1 else w.heap.size, 0, none⟩) n n, Value.slice (some ⟨if sw then w.heap.size else w.heap.size + 1, 0, none⟩) n n] 108)).drew)
      (w.heap.size + 1 + 1) (if sw then w.heap.size + 1 else w.heap.size) (if sw then w.heap.size else w.heap.size + 1) n 0 (fun _ => 0) (fun _ _ => .slice none 0 0) r := by
  have h0 : ∀ (W : World) (o : Obj), (W.alloc o).heap[W.heap.size]? = some o := fun W o => heap_alloc_new W o
  have h1 : ∀ (W : World) (o : Obj) (k : Nat), k < W.heap.size → (W.alloc o).heap[k]? = W.heap[k]? := fun W o k hk => Below.heap_alloc W o k hk
  have e : ∀ k, (if sw then w.heap.size + 1 else w.heap.size) = k ∨ (if sw then w.heap.size else w.heap.size + 1) = k → (((w.alloc (.cells (madeCells #[Value.slice none 0 0] n) 28)).alloc (.cells (madeCells #[Value.slice none 0 0] n) 28)).heap[k]? = some (Obj.cells (madeCells #[Value.slice none 0 0] n) 28 (0, 0)) ∧ w.heap.size ≤ k ∧ k < w.heap.size + 1 + 1) := by
    intro k hk; have hk2 : k = w.heap.size ∨ k = w.heap.size + 1 := by cases sw <;> simp at hk <;> omega
    rcases hk2 with rfl | rfl
    · exact ⟨(h1 _ _ _ (by simp)).trans (h0 _ _), by omega, by omega⟩
    · have := h0 (w.alloc (.cells (madeCells #[Value.slice none 0 0] n) 28)) (.cells (madeCells #[Value.slice none 0 0] n) 28)
      exact ⟨by simpa using this, by omega, by omega⟩
  have eR := e _ (.inl rfl)
  have eG := e _ (.inr rfl)
  rw [made_range] at eR eG
  refine ⟨by omega, eR.2.1, eG.2.1, fun i hi => by omega, ?_, ?_, fun i hi => by omega, ?_, fun i x hi => by omega, by cases sw <;> simp, fun i i' hi => by omega⟩
  · have e3 : ((w.alloc (.cells (madeCells #[Value.slice none 0 0] n) 28)).alloc (.cells (madeCells #[Value.slice none 0 0] n) 28)).heap.size = w.heap.size + 1 + 1 := by simp
    have := h0 ((w.alloc (.cells (madeCells #[Value.slice none 0 0] n) 28)).alloc (.cells (madeCells #[Value.slice none 0 0] n) 28)) (.cells #[Value.int IntKind.i64 n, Value.slice (some ⟨if sw then w.heap.size + 1 else w.heap.size, 0, none⟩) n n, Value.slice (some ⟨if sw then w.heap.size else w.heap.size + 1, 0, none⟩) n n] 108); rw [e3] at this
    exact this
  · refine Eq.trans ?_ eR.1
    rw [← made_range]
    exact h1 _ _ _ (by simpa using eR.2.2)
  · refine Eq.trans ?_ eG.1
    rw [← made_range]
    exact h1 _ _ _ (by simpa using eG.2.2)
theorem NtAt.step {base : Nat} {w w5 : World} {bt bR bG n : Nat} {j : Int} {rb : Nat → Nat} {vr : Nat → Nat → Value} {r : List Int} (h : NtAt base w bt bR bG n j.toNat rb vr r) (hj : j.toNat < n) {v : Value} (hv : LeafN base w5 v r)
    (hb : Below (w.heap.size + 1) (((w.setCell ⟨bR, j.toNat, none⟩ (.slice (some ⟨w.heap.size, 0, none⟩) n n)).alloc (.cells (madeCells #[Value.slice none 0 0] n) 22)).drew) w5) :
    NtAt base (w5.setCell ⟨w.heap.size, j.toNat, none⟩ v) bt bR bG n (j.toNat + 1) (fun i => if i = j.toNat then w.heap.size else rb i) (fun i x => if i = j.toNat then (if x = j.toNat then v else .slice none 0 0) else vr i x) r ∧
      Keep base w (w5.setCell ⟨w.heap.size, j.toNat, none⟩ v) := by
  have hbase : base ≤ w.heap.size := Nat.le_trans h.gt (Nat.le_of_lt (lt_of_some h.ht))
  have hk1 : Keep base w (w.setCell ⟨bR, j.toNat, none⟩ (.slice (some ⟨w.heap.size, 0, none⟩) n n)) := Keep.set_ h.gR h.hR (by decide) _
  have hs1 : (w.setCell ⟨bR, j.toNat, none⟩ (.slice (some ⟨w.heap.size, 0, none⟩) n n)).heap.size = w.heap.size := by simp [World.setCell]
  generalize hW : w.setCell ⟨bR, j.toNat, none⟩ (.slice (some ⟨w.heap.size, 0, none⟩) n n) = W at *
  have hk2 : Keep base W (W.alloc (.cells (madeCells #[Value.slice none 0 0] n) 22)).drew := Keep.of_below (by omega) ((Below.refl _ _).alloc (Nat.le_refl _) _).drew
  have hsz : (W.alloc (.cells (madeCells #[Value.slice none 0 0] n) 22)).drew.heap.size = w.heap.size + 1 := by
    show (W.alloc (.cells (madeCells #[Value.slice none 0 0] n) 22)).heap.size = _
    simp [hs1]
  have hnew : (W.alloc (.cells (madeCells #[Value.slice none 0 0] n) 22)).drew.heap[w.heap.size]? = some (Obj.cells ((List.range n).map (fun _ => Value.slice none 0 0)).toArray 22 (0, 0)) := by
    have := heap_alloc_new W (.cells (madeCells #[Value.slice none 0 0] n) 22); rw [hs1, made_range] at this; rw [made_range]
    exact this
  have hk3 : Keep base (W.alloc (.cells (madeCells #[Value.slice none 0 0] n) 22)).drew w5 := Keep.of_below (by rw [hsz]; omega) (by rw [hsz]; exact hb)
  have hn5 : w5.heap[w.heap.size]? = some (Obj.cells ((List.range n).map (fun _ => Value.slice none 0 0)).toArray 22 (0, 0)) := (hb.block _ (by omega)).trans hnew
  have hk4 : Keep base w5 (w5.setCell ⟨w.heap.size, j.toNat, none⟩ v) := Keep.set_ hbase hn5 (by decide) v
  have hk := ((hk1.trans hk2).trans hk3).trans hk4
  -- elder blocks but bR
  have old : ∀ k, k < w.heap.size → k ≠ bR → (w5.setCell ⟨w.heap.size, j.toNat, none⟩ v).heap[k]? = w.heap[k]? := fun k hk hne => by
    have e1 : W.heap[k]? = w.heap[k]? := by rw [← hW]; exact Below.heap_setCell w ⟨bR, j.toNat, none⟩ _ k hne
    have e2 : (W.alloc (.cells (madeCells #[Value.slice none 0 0] n) 22)).drew.heap[k]? = W.heap[k]? := Below.heap_alloc W _ k (by omega); have e3 : w5.heap[k]? = (W.alloc (.cells (madeCells #[Value.slice none 0 0] n) 22)).drew.heap[k]? := hb.block k (by omega); have e4 := Below.heap_setCell w5 ⟨w.heap.size, j.toNat, none⟩ v k (by show k ≠ w.heap.size; omega)
    exact e4.trans (e3.trans (e2.trans e1))
  have hlt : ∀ i, i < j.toNat → rb i < w.heap.size := fun i hi => lt_of_some (h.hr i hi)
  refine ⟨⟨h.gt, h.gR, h.gG, ?_, ?_, ?_, ?_, ?_, ?_, h.dRG, ?_⟩, hk⟩
  · intro i hi
    by_cases e : i = j.toNat
    · simp [e, hbase]
    · simp only [if_neg e]; exact h.grb i (by omega)
  · exact (old bt (lt_of_some h.ht) (ne_of_types h.ht h.hR (by decide))).trans h.ht
  · have hRl := lt_of_some h.hR
    have e1 : W.heap[bR]? = some (Obj.cells ((List.range n).map (fun i => if i < j.toNat + 1 then Value.slice (some ⟨if i = j.toNat then w.heap.size else rb i, 0, none⟩) n n else .slice none 0 0)).toArray 28 (0, 0)) := by
      rw [← hW]; have := blk_set h.hR j.toNat (.slice (some ⟨w.heap.size, 0, none⟩) n n); rw [range_set] at this; rw [this]
      congr 4
      funext i
      by_cases e : i = j.toNat
      · simp [e]
      · rcases Nat.lt_or_ge i j.toNat with h1 | h1
        · simp [e, h1, Nat.lt_succ_of_lt h1]
        · simp [e, Nat.not_lt.2 h1, show ¬ i < j.toNat + 1 by omega]
    have e2 : (W.alloc (.cells (madeCells #[Value.slice none 0 0] n) 22)).drew.heap[bR]? = W.heap[bR]? := Below.heap_alloc W _ bR (by omega); have e3 : w5.heap[bR]? = (W.alloc (.cells (madeCells #[Value.slice none 0 0] n) 22)).drew.heap[bR]? := hb.block bR (by omega)
    exact (Below.heap_setCell w5 ⟨w.heap.size, j.toNat, none⟩ v bR (by show bR ≠ w.heap.size; omega)).trans (e3.trans (e2.trans e1))
  · intro i hi
    by_cases e : i = j.toNat
    · subst e; have := blk_set hn5 j.toNat v; rw [range_set] at this
      simpa using this
    · have h1 := h.hr i (by omega); have := (old (rb i) (lt_of_some h1) (ne_of_types h1 h.hR (by decide))).trans h1
      simpa [e] using this
  · exact (old bG (lt_of_some h.hG) (Ne.symm h.dRG)).trans h.hG
  · intro i x hi hx
    by_cases e : i = j.toNat
    · subst e
      by_cases e2 : x = j.toNat
      · subst e2
        simpa using hv.keep hk4
      · simp only [if_true, if_neg e2]
        exact LeafN.none_ _ _
    · simp only [if_neg e]
      exact (h.leaf i x (by omega) hx).keep hk
  · intro i i' hi hi' he
    by_cases e : i = j.toNat
    · by_cases e' : i' = j.toNat
      · omega
      · simp only [if_pos e, if_neg e'] at he; have := hlt i' (by omega); omega
    · by_cases e' : i' = j.toNat
      · simp only [if_neg e, if_pos e'] at he; have := hlt i (by omega); omega
      · simp only [if_neg e, if_neg e'] at he
        exact h.drb i i' (by omega) (by omega) he
theorem NtAt.done {base : Nat} {w : World} {bt bR bG n : Nat} {rb : Nat → Nat} {vr : Nat → Nat → Value} {r : List Int} (h : NtAt base w bt bR bG n n rb vr r) (h1 : 1 ≤ n) (h64 : n ≤ 64) :
    TwAt base w bt bR bG rb vr (fun _ => .slice none 0 0) { n := n, reps := (List.range n).map (fun b => (List.replicate n []).set b r), gens := List.replicate n [] } := by
  have hrow : ∀ i, i < n → ((List.range n).map (fun b => (List.replicate n ([] : List Int)).set b r)).getD i [] = (List.replicate n []).set i r := fun i hi => by
    simp [List.getD_eq_getElem?_getD, List.getElem?_range hi]
  refine { n1 := h1, n64 := h64, lr := by simp, lrr := fun i hi => by rw [hrow i hi]; simp, lg := by simp, gt := h.gt, gR := h.gR, gG := h.gG, grb := h.grb, ht := h.ht, hR := ?_, hr := h.hr, hG := h.hG, hg := ?_, leaf := ?_, dRG := h.dRG, drb := h.drb, drg := ?_, dgg := ?_ }
  · rw [h.hR]
    congr 3
    apply List.map_congr_left; intro i hi; simp [List.mem_range.1 hi]
  · intro i hi
    refine ⟨[], ?_, fun j l hj => ?_⟩
    · have : (List.replicate n ([] : List (List Int))).getD i [] = [] := by simp [List.getD_eq_getElem?_getD, hi]
      simp only [this]
      exact own_nil _ _ _ _
    · have : (List.replicate n ([] : List (List Int))).getD i [] = [] := by simp [List.getD_eq_getElem?_getD, hi]
      simp only [this] at hj; simp at hj
  · intro i x hi hx
    have := h.leaf i x hi hx; simp only [hrow i hi]
    by_cases e : x = i
    · subst e; rw [getD_set_same (by simpa using hx)]
      simpa using this
    rw [getD_set_ne (fun z => e z.symm)]; rw [if_neg e] at this
    simpa [List.getD_eq_getElem?_getD, hx] using this
  · intro i j hi hj; simp [Value.ownBlock]
  · intro i j hi hj hne; left; simp [Value.ownBlock]
def NewPost (w : World) (T : Tw) (e : Ending) (w' : World) : Prop := ∃ bt bR bG rb vr vg, e = .returned (.pointer (some ⟨bt, 0, none⟩)) ∧ TwAt w.heap.size w' bt bR bG rb vr vg T ∧ Keep w.heap.size w w'
theorem newTower_calls (k n : Nat) (T : Tw) (w : World) (h : newTowerL k n = some T) :
    Calls Try.prog 60 #[.int .i64 n] w (NewPost w T) := by
  unfold newTowerL at h
  by_cases hn : 1 ≤ n ∧ n ≤ 64
  · rw [if_pos hn] at h
    replace h := Option.bind_eq_some_iff.mp h; obtain ⟨r, hr, h⟩ := h
    by_cases hr0 : r = []
    · rw [if_pos hr0] at h; cases h
    rw [if_neg hr0] at h; have HTe := aM (Option.some.inj h); have HR := aM hr; have HR0 := aM hr0; clear h hr hr0; obtain ⟨n1, n64⟩ := hn; have hm1 := run_make_row' (P := Try.prog) 106 28 (.slice none 0 0) 24 Try.underlying106 info28' rfl .i64 .i64 n (by omega) (by omega); have hm2 := run_make_row' (P := Try.prog) 28 22 (.slice none 0 0) 24 Try.underlying28 info22 rfl .i64 .i64 n (by omega) (by omega)
    go_enter Try.func60, Try.ntmps60
    go_wp2
    go_cut [3] (fun v3 wc => ∃ (bt bR bG : Nat), v3 = .pointer (some ⟨bt, 0, none⟩) ∧ Aside0 (NtAt w.heap.size wc bt bR bG n 0 (fun _ => 0) (fun _ _ => .slice none 0 0) r) ∧ Aside0 (Keep w.heap.size w wc))
    case first =>
      go_region
      · go_wp2; go_meet
        case rel => exact ⟨_, _, _, rfl, ⟨NtAt.start0 w n r false⟩, ⟨Keep.of_below (Nat.le_refl _) (((((Below.refl _ _).alloc (Nat.le_refl _) _).alloc (by simp) _).alloc (by simp; omega) _).drew)⟩⟩
      · go_wp2; go_meet
        case rel => exact ⟨_, _, _, rfl, ⟨NtAt.start0 w n r true⟩, ⟨Keep.of_below (Nat.le_refl _) (((((Below.refl _ _).alloc (Nat.le_refl _) _).alloc (by simp) _).alloc (by simp; omega) _).drew)⟩⟩
    case rest =>
      obtain ⟨bt, bR, bG, rfl, HN, HK⟩ := hcut; clear hm1; go_wp2
      go_loopg [13] n (fun kq v13 w' => ∃ (j : Int) (rb : Nat → Nat) (vr : Nat → Nat → Value), v13 = .int .i64 j ∧ Aside0 (0 ≤ j) ∧ Aside0 (j.toNat + kq = n) ∧ Aside0 (NtAt w.heap.size w' bt bR bG n j.toNat rb vr r) ∧ Aside0 (Keep w.heap.size w w'))
      case atStart => exact ⟨0, _, _, rfl, ⟨by omega⟩, ⟨by simp⟩, HN, HK⟩
      case round =>
        clear HN HK; obtain ⟨j, rb, vr, rfl, HJ0, HJ1, HN, HK⟩ := hrel; have j0 := HJ0.out; have j1 := HJ1.out; have hy1 := (blk_cell HN.out.ht 1).trans rfl
        by_cases c1 : j < (n : Int)
        · have q0 := eq_true j0; have q1 := eq_true c1; have hjn : j.toNat < n := by omega
          have hy2 : wr.cell? ⟨bR, j.toNat, none⟩ = some (.slice none 0 0) := by
            have := (blk_cell HN.out.hR j.toNat).trans (range_map_get _ hjn)
            simpa using this
          have hyf : wr.frozen? ⟨bR, j.toNat, none⟩ = false := blk_frozen HN.out.hR _; have hlt1 := lt_of_some HN.out.ht; have hlt2 := lt_of_some HN.out.hR; have hne1 := World.new_ne wr _ hy1; have hne2 := World.new_ne wr _ hy2; clear j1; go_wp2
          go_region
          go_wp2
          have hz1 : (((wr.setCell ⟨bR, j.toNat, none⟩ (.slice (some ⟨wr.heap.size, 0, none⟩) n n)).alloc (.cells (madeCells #[Value.slice none 0 0] n) 22)).drew).heap.size = wr.heap.size + 1 := by
            show ((wr.setCell ⟨bR, j.toNat, none⟩ (.slice (some ⟨wr.heap.size, 0, none⟩) n n)).alloc (.cells (madeCells #[Value.slice none 0 0] n) 22)).heap.size = _
            simp [World.setCell]
          have hz2 : (((wr.setCell ⟨bR, j.toNat, none⟩ (.slice (some ⟨wr.heap.size, 0, none⟩) n n)).alloc (.cells (madeCells #[Value.slice none 0 0] n) 22)).drew).cell? ⟨bt, 1, none⟩ = some (.slice (some ⟨bR, 0, none⟩) n n) := by
            have e1 := Below.heap_setCell wr ⟨bR, j.toNat, none⟩ (.slice (some ⟨wr.heap.size, 0, none⟩) n n) bt (ne_of_types HN.out.ht HN.out.hR (by decide)); have e2 := Below.heap_alloc (wr.setCell ⟨bR, j.toNat, none⟩ (.slice (some ⟨wr.heap.size, 0, none⟩) n n)) (.cells (madeCells #[Value.slice none 0 0] n) 22) bt (by simpa [World.setCell] using hlt1)
            exact (World.cell?_of_block (a := ⟨bt, 1, none⟩) (e2.trans e1)).trans hy1
          have hz3 : (((wr.setCell ⟨bR, j.toNat, none⟩ (.slice (some ⟨wr.heap.size, 0, none⟩) n n)).alloc (.cells (madeCells #[Value.slice none 0 0] n) 22)).drew).cell? ⟨bR, j.toNat, none⟩ = some (.slice (some ⟨wr.heap.size, 0, none⟩) n n) := by
            have e1 := blk_set HN.out.hR j.toNat (.slice (some ⟨wr.heap.size, 0, none⟩) n n); rw [range_set] at e1; have e2 := Below.heap_alloc (wr.setCell ⟨bR, j.toNat, none⟩ (.slice (some ⟨wr.heap.size, 0, none⟩) n n)) (.cells (madeCells #[Value.slice none 0 0] n) 22) bR (by simpa [World.setCell] using hlt2)
            exact (blk_cell (e2.trans e1) j.toNat).trans ((range_map_get _ hjn).trans (by simp))
          have hz4 : (((wr.setCell ⟨bR, j.toNat, none⟩ (.slice (some ⟨wr.heap.size, 0, none⟩) n n)).alloc (.cells (madeCells #[Value.slice none 0 0] n) 22)).drew).heap[wr.heap.size]? = some (Obj.cells ((List.range n).map (fun _ => Value.slice none 0 0)).toArray 22 (0, 0)) := by
            have := heap_alloc_new (wr.setCell ⟨bR, j.toNat, none⟩ (.slice (some ⟨wr.heap.size, 0, none⟩) n n)) (.cells (madeCells #[Value.slice none 0 0] n) 22); have e0 : (wr.setCell ⟨bR, j.toNat, none⟩ (.slice (some ⟨wr.heap.size, 0, none⟩) n n)).heap.size = wr.heap.size := by simp [World.setCell]
            rw [e0, made_range] at this; rw [made_range]
            exact this
          have HS := aM (show ∀ (v : Value) (w5 : World), LeafN w.heap.size w5 v r → Below (wr.heap.size + 1) (((wr.setCell ⟨bR, j.toNat, none⟩ (.slice (some ⟨wr.heap.size, 0, none⟩) n n)).alloc (.cells (madeCells #[Value.slice none 0 0] n) 22)).drew) w5 → NtAt w.heap.size (w5.setCell ⟨wr.heap.size, j.toNat, none⟩ v) bt bR bG n (j.toNat + 1) (fun i => if i = j.toNat then wr.heap.size else rb i) (fun i x => if i = j.toNat then (if x = j.toNat then v else .slice none 0 0) else vr i x) r ∧
      Keep w.heap.size wr (w5.setCell ⟨wr.heap.size, j.toNat, none⟩ v) from fun v w5 hv hb => HN.out.step hjn hv hb)
          have hd1 : ∀ (W : World) (v : Value), (W.setCell ⟨wr.heap.size, j.toNat, none⟩ v).cell? ⟨bt, 1, none⟩ = W.cell? ⟨bt, 1, none⟩ := fun W v => World.cell?_of_block (a := ⟨bt, 1, none⟩) (Below.heap_setCell W ⟨wr.heap.size, j.toNat, none⟩ v bt (by show bt ≠ wr.heap.size; omega))
          have hd2 : ∀ (W : World) (v : Value), (W.setCell ⟨wr.heap.size, j.toNat, none⟩ v).cell? ⟨bR, j.toNat, none⟩ = W.cell? ⟨bR, j.toNat, none⟩ := fun W v => World.cell?_of_block (a := ⟨bR, j.toNat, none⟩) (Below.heap_setCell W ⟨wr.heap.size, j.toNat, none⟩ v bR (by show bR ≠ wr.heap.size; omega))
          clear hyf hlt1 hlt2 hne1 hne2 hy1 hy2; generalize hW1 : (((wr.setCell ⟨bR, j.toNat, none⟩ (.slice (some ⟨wr.heap.size, 0, none⟩) n n)).alloc (.cells (madeCells #[Value.slice none 0 0] n) 22)).drew) = w1 at *; clear hW1; have hy1 := hz2; have hy2 := hz3; have hy3 : w1.cell? ⟨wr.heap.size, j.toNat, none⟩ = some (.slice none 0 0) := (blk_cell hz4 j.toNat).trans (range_map_get _ hjn); have hyf : w1.frozen? ⟨wr.heap.size, j.toNat, none⟩ = false := blk_frozen hz4 _; have HZ1 := aM hz1; have hl1 : bt < w1.heap.size := World.block_lt_of_cell? w1 _ hy1; have hl2 : bR < w1.heap.size := World.block_lt_of_cell? w1 _ hy2; have hl3 : wr.heap.size < w1.heap.size := World.block_lt_of_cell? w1 _ hy3; clear hz1 hz2 hz3 hz4
          go_region_held3 (fun W_ => W_.cell? ⟨bt, 1, none⟩ = some (.slice (some ⟨bR, 0, none⟩) n n) ∧ W_.cell? ⟨bR, j.toNat, none⟩ = some (.slice (some ⟨wr.heap.size, 0, none⟩) n n)) (first | go_keep | (refine ⟨(hd1 _ _).trans hk1, (hd2 _ _).trans hk2⟩)) ((go_at_call 49; refine (perm_identity.calls k n r _ HR.out).mono ?_; rintro e w5 ⟨v5, rfl, ho5, hb5⟩; have hLf := LeafN.of_R (base := w.heap.size) ho5 (by have := HK.out.below.size; have h_ := HZ1.out; show w.heap.size ≤ w1.heap.size; omega) HR0.out; obtain ⟨A5, c5, rfl, hl5, hr5⟩ := Kd.R_reads ho5; clear ho5 hl5 hr5; have hk1 := (hb5.cell (p := ⟨bt, 1, none⟩) hl1).trans hy1; have hk2 := (hb5.cell (p := ⟨bR, j.toNat, none⟩) hl2).trans hy2; have hk3 := (hb5.cell (p := ⟨wr.heap.size, j.toNat, none⟩) hl3).trans hy3; have hkf := (hb5.frozen (p := ⟨wr.heap.size, j.toNat, none⟩) hl3).trans hyf))
          all_goals
            have hst := HS.out _ w5 hLf (by have h_ := HZ1.out; exact ⟨hb5.os, hb5.tape, hb5.output, hb5.size, fun i hi => hb5.block i (by show i < w1.heap.size; omega)⟩); have HST := aM hst; clear hd1 hd2 hst hLf hk1 hk2 hk3 hkf hb5 hy1 hy2 hy3 hyf hl1 hl2 hl3 HS HZ1; go_wp2; obtain ⟨k1, rfl⟩ : ∃ m, gk = m + 1 := ⟨gk - 1, by have := HJ1.out; omega⟩
            go_roundg k1
            case measure => omega
            case rel => exact ⟨j + 1, _, _, rfl, ⟨by have := HJ0.out; omega⟩, ⟨by have := HJ1.out; have := HJ0.out; omega⟩, ⟨(show (j + 1).toNat = j.toNat + 1 by omega) ▸ HST.out.1⟩, ⟨HK.out.trans HST.out.2⟩⟩
        · have q1b : decide (j < (n : Int)) = false := decide_eq_false c1; have ejn : j.toNat = n := by omega
          rw [ejn] at HN; clear hy1 ejn j1; go_wp2; go_ret
          exact ⟨bt, bR, bG, rb, vr, _, rfl, HTe.out ▸ HN.out.done n1 n64, HK.out⟩
  rw [if_neg hn] at h; cases h
end
section
def buildLoop : Nat → Tw → List (List Int) → Int → Option Tw
  | 0, _, _, _ => none
  | k + 1, T, l, i => if i < (l.length : Int) then (if rd_L1 l i = [] then none else (insertL k T (rd_L1 l i) 0).bind fun T' => buildLoop k T' l (i + 1)) else some T
def perm_Build.f (k : Nat) (a0 : Int) (l1 : List (List Int)) : Option (Int × List S74 × Int) :=
  (perm_generators.f a0 l1).bind fun e => if e = 0 then (if 0 ≤ a0 then (newTowerL k a0.toNat).bind fun T => (buildLoop k T l1 0).bind fun T' => (chainL k T' 0 []).bind fun r => some ((T'.n : Int), r, 0) else none) else some (0, [], e)
theorem stripL.mono : ∀ (k : Nat) (T : Tw) (p : List Int) (b : Int), LeO (stripL k T p b) (stripL (k + 1) T p b) := by
  intro k
  induction k with
  | zero => intro T p b r h; simp [stripL] at h
  | succ k ih =>
    intro T p b; unfold stripL
    repeat' first
      | (with_reducible exact LeO.refl _)
      | (with_reducible exact LeO.none _)
      | (with_reducible refine LeO.ite ?_ ?_)
      | (with_reducible refine LeO.bind ?_ (fun _ => ?_))
      | exact perm_inverse.mono _ _
      | exact perm_then.mono _ _ _
      | exact ih _ _ _
theorem vi.mono : ∀ (k : Nat), (∀ T p b, LeO (visitL k T p b) (visitL (k + 1) T p b)) ∧ (∀ T p b j, LeO (visitLoop k T p b j) (visitLoop (k + 1) T p b j)) ∧ (∀ T p b, LeO (insertL k T p b) (insertL (k + 1) T p b)) ∧ (∀ T rs p b i, LeO (insertLoop k T rs p b i) (insertLoop (k + 1) T rs p b i)) := by
  intro k
  induction k with
  | zero => exact ⟨fun T p b r h => by simp [visitL] at h, fun T p b j r h => by simp [visitLoop] at h, fun T p b r h => by simp [insertL] at h, fun T rs p b i r h => by simp [insertLoop] at h⟩
  | succ k ih =>
    obtain ⟨i1, i2, i3, i4⟩ := ih
    refine ⟨?_, ?_, ?_, ?_⟩
    · intro T p b; unfold visitL
      repeat' first
        | (with_reducible exact LeO.refl _)
        | (with_reducible exact LeO.none _)
        | (with_reducible refine LeO.ite ?_ ?_)
        | (with_reducible refine LeO.bind ?_ (fun _ => ?_))
        | exact perm_inverse.mono _ _
        | exact perm_then.mono _ _ _
        | exact i2 _ _ _ _
        | exact i3 _ _ _
    · intro T p b j; unfold visitLoop
      repeat' first
        | (with_reducible exact LeO.refl _)
        | (with_reducible exact LeO.none _)
        | (with_reducible refine LeO.ite ?_ ?_)
        | (with_reducible refine LeO.bind ?_ (fun _ => ?_))
        | exact perm_then.mono _ _ _
        | exact i1 _ _ _
        | exact i2 _ _ _ _
    · intro T p b; unfold insertL
      repeat' first
        | (with_reducible exact LeO.refl _)
        | (with_reducible exact LeO.none _)
        | (with_reducible refine LeO.ite ?_ ?_)
        | (with_reducible refine LeO.bind ?_ (fun _ => ?_))
        | exact stripL.mono _ _ _ _
        | exact i4 _ _ _ _ _
    · intro T rs p b i; unfold insertLoop
      repeat' first
        | (with_reducible exact LeO.refl _)
        | (with_reducible exact LeO.none _)
        | (with_reducible refine LeO.ite ?_ ?_)
        | (with_reducible refine LeO.bind ?_ (fun _ => ?_))
        | exact perm_then.mono _ _ _
        | exact i1 _ _ _
        | exact i4 _ _ _ _ _
theorem bestL.mono : ∀ (k : Nat) (T : Tw) (c : Int) (p : List Int) (x b : Int), LeO (bestL k T c p x b) (bestL (k + 1) T c p x b) := by
  intro k
  induction k with
  | zero => intro T c p x b r h; simp [bestL] at h
  | succ k ih =>
    intro T c p x b; unfold bestL
    repeat' first
      | (with_reducible exact LeO.refl _)
      | (with_reducible exact LeO.none _)
      | (with_reducible refine LeO.ite ?_ ?_)
      | exact ih _ _ _ _ _
theorem canonL.mono : ∀ (k : Nat) (T : Tw) (p : List Int) (c : Int), LeO (canonL k T p c) (canonL (k + 1) T p c) := by
  intro k
  induction k with
  | zero => intro T p c r h; simp [canonL] at h
  | succ k ih =>
    intro T p c; unfold canonL
    repeat' first
      | (with_reducible exact LeO.refl _)
      | (with_reducible exact LeO.none _)
      | (with_reducible refine LeO.ite ?_ ?_)
      | (with_reducible refine LeO.bind ?_ (fun _ => ?_))
      | exact perm_then.mono _ _ _
      | exact bestL.mono _ _ _ _ _ _
      | exact ih _ _ _
theorem levelL.mono : ∀ (k : Nat) (T : Tw) (b x : Int) (orb : List Int) (reps : List (List Int)), LeO (levelL k T b x orb reps) (levelL (k + 1) T b x orb reps) := by
  intro k
  induction k with
  | zero => intro T b x orb reps r h; simp [levelL] at h
  | succ k ih =>
    intro T b x orb reps; unfold levelL
    repeat' first
      | (with_reducible exact LeO.refl _)
      | (with_reducible exact LeO.none _)
      | (with_reducible refine LeO.ite ?_ ?_)
      | (with_reducible refine LeO.bind ?_ (fun _ => ?_))
      | exact canonL.mono _ _ _ _
      | exact ih _ _ _ _ _
theorem chainL.mono : ∀ (k : Nat) (T : Tw) (b : Int) (lv : List S74), LeO (chainL k T b lv) (chainL (k + 1) T b lv) := by
  intro k
  induction k with
  | zero => intro T b lv r h; simp [chainL] at h
  | succ k ih =>
    intro T b lv; unfold chainL
    repeat' first
      | (with_reducible exact LeO.refl _)
      | (with_reducible exact LeO.none _)
      | (with_reducible refine LeO.ite ?_ ?_)
      | (with_reducible refine LeO.bind ?_ (fun _ => ?_))
      | exact levelL.mono _ _ _ _ _ _
      | exact ih _ _ _
theorem newTowerL.mono (k n : Nat) : LeO (newTowerL k n) (newTowerL (k + 1) n) := by
  unfold newTowerL
  repeat' first
    | (with_reducible exact LeO.refl _)
    | (with_reducible exact LeO.none _)
    | (with_reducible refine LeO.ite ?_ ?_)
    | (with_reducible refine LeO.bind ?_ (fun _ => ?_))
    | exact perm_identity.mono _ _
theorem buildLoop.mono : ∀ (k : Nat) (T : Tw) (l : List (List Int)) (i : Int), LeO (buildLoop k T l i) (buildLoop (k + 1) T l i) := by
  intro k
  induction k with
  | zero => intro T l i r h; simp [buildLoop] at h
  | succ k ih =>
    intro T l i; unfold buildLoop
    repeat' first
      | (with_reducible exact LeO.refl _)
      | (with_reducible exact LeO.none _)
      | (with_reducible refine LeO.ite ?_ ?_)
      | (with_reducible refine LeO.bind ?_ (fun _ => ?_))
      | exact (vi.mono _).2.2.1 _ _ _
      | exact ih _ _ _
def BuildPost (w : World) (r1 : Int) (r2 : List S74) (r3 : Int) (e : Ending) (w' : World) : Prop := ∃ v1_ : Value, e = .returned (.tuple #[.agg #[.int .i64 r1, v1_], .int .i64 r3]) ∧ Kd.N k74 74 w' w.heap.size (fun k_ => w.heap.size ≤ k_) v1_ r2 ∧ Below w.heap.size w w'
theorem leaf_of_C {base : Nat} {w w1 : World} {A : Option Addr} {l : List Int} {c : Nat} (h : (Kd.int .i64).C w A l.length l) (hc : l.length ≤ c) (hb : Below w.heap.size w w1) (hbase : w.heap.size ≤ base) (hl : l ≠ []) : Leaf base w1 (.slice A l.length c) l :=
  ⟨A, c, rfl, hc, Kd.F_mono (Kd.F_below (Kd.C_F (Kd.heap_int _) h) hb) (fun k hk => .inl (Nat.lt_of_lt_of_le hk hbase)), fun e => absurd e hl⟩
theorem build_post (k : Nat) (a0 : Int) (A1 : Option Addr) (c1 : Nat) (l1 : List (List Int)) (r1 : Int) (r2 : List S74) (r3 : Int) (w : World) (hr1 : Kd.C (Kd.slice 3 (Kd.int .i64)) w A1 l1.length l1) (hc1 : l1.length ≤ c1) (h : perm_Build.f k a0 l1 = some (r1, r2, r3)) :
    Calls Try.prog 30 #[.int .i64 a0, .slice A1 l1.length c1] w (BuildPost w r1 r2 r3) := by
  unfold perm_Build.f at h
  replace h := Option.bind_eq_some_iff.mp h
  obtain ⟨e0, he0, h⟩ := h
  have HE := aM he0
  have HR1 := aM hr1
  have HC1 := aM hc1
  clear he0 hr1 hc1
  by_cases c0 : e0 = 0
  · rw [if_pos c0] at h
    have c0b : (e0 != 0) = false := bne_eq_false_iff_eq.mpr c0; clear c0
    by_cases c2 : 0 ≤ a0
    · rw [if_pos c2] at h; obtain ⟨n, rfl⟩ := Int.eq_ofNat_of_zero_le c2; rw [Int.toNat_natCast] at h; replace h := Option.bind_eq_some_iff.mp h; obtain ⟨T0, hT0, h⟩ := h; replace h := Option.bind_eq_some_iff.mp h; obtain ⟨T1, hT1, h⟩ := h; replace h := Option.bind_eq_some_iff.mp h; obtain ⟨lv, hlv, h⟩ := h; simp only [Option.some.injEq, Prod.mk.injEq] at h; obtain ⟨rfl, rfl, rfl⟩ := h; have HT0 := aM hT0; have HT1 := aM hT1; have HLV := aM hlv; clear hT0 hT1 hlv c2
      go_enter Try.func30, Try.ntmps30
      go_wp2_with (first
        | ((with_reducible refine gate_dst (N := 4) rfl ?_); refine box_event ?hg (N := 4) ?hd (cs := #[.int .i64 0, .slice none 0 0]) (t := 46) ?hr ?_; (case hd => rfl); (case hg => rfl); (case hr => first | (go_simp; done) | (go_simp; rfl)); intro gres hgr w3 hbox3 hb3; have HGR := aM (show w.heap.size ≤ gres by omega); have HB3 := aM hb3; have HBX3 := aM hbox3; clear hgr hb3 hbox3)
        | (go_at_call 57; (with_reducible refine (perm_generators.calls n _ _ l1 e0 _ ?s1 ?s2 HE.out).mono ?_); (case s1 => exact Kd.C_below HR1.out HB3.out); (case s2 => exact HC1.out); rintro e w5 ⟨rfl, hb5⟩; have HB5 := aM (below_step HB3.out hb5); have HBX5 := aM (blk_below HBX3.out hb5); clear hb5)
        | (go_at_call 60; (with_reducible refine (newTower_calls k n T0 _ HT0.out).mono ?_); rintro e w6 ⟨bt, bR, bG, rb, vr, vg, rfl, hT6, hK6⟩; have HT6 := aM hT6; have HK6 := aM hK6; clear hT6 hK6))
      go_loopg [21] k (fun kq v21 w' => ∃ (i : Int) (T : Tw) (vr1 : Nat → Nat → Value) (vg1 : Nat → Value), v21 = .int .i64 i ∧ Aside0 (0 ≤ i) ∧ Aside0 (buildLoop kq T l1 i = some T1) ∧ Aside0 (kq ≤ k) ∧ Aside0 (TwAt w5.heap.size w' bt bR bG rb vr1 vg1 T) ∧ Aside0 (Keep w5.heap.size w5 w'))
      case atStart => exact ⟨0, T0, vr, vg, rfl, ⟨by omega⟩, HT1, ⟨Nat.le_refl _⟩, HT6, HK6⟩
      case round =>
        clear HT1 HT6 HK6; obtain ⟨i, T, vr1, vg1, rfl, HI0, HA, HK1, HT, HK⟩ := hrel
        cases gk with
        | zero => exact absurd HA.out (by simp [buildLoop])
        | succ k1 =>
          have H := HA.out; clear HA; simp only [buildLoop] at H; have i0 := HI0.out; have q0 := eq_true i0
          by_cases d1 : i < (l1.length : Int)
          · rw [if_pos d1] at H
            by_cases d2 : rd_L1 l1 i = []
            · rw [if_pos d2] at H; cases H
            rw [if_neg d2] at H; replace H := Option.bind_eq_some_iff.mp H; obtain ⟨T2, hT2, H⟩ := H; have H' := aM H; have HT2 := aM hT2; have d1b : decide (i < (l1.length : Int)) = true := decide_eq_true d1; have hmax : l1.length ≤ 9223372036854775807 := HR1.out.2.1; have q1 := eq_true d1; have hb0 := below_then HB5.out HB5.out.size HK.out.below; obtain ⟨ad, A2, c2, ea, hx1, hl2, hC2⟩ := at_L1 HR1.out i i0 d1
            cases ea; replace hx1 := (hb0.cell (World.block_lt_of_cell? w _ hx1)).trans hx1; have HLf := aM (leaf_of_C hC2 hl2 hb0 HB5.out.size d2); clear H hT2 d2 hl2 hC2 hb0
            go_wp2_with (first
              | (go_at_call 61; (with_reducible refine ((vi_ok k1).2 A2 c2 (rd_L1 l1 i) 0 T2 _ HT.out HLf.out HT2.out).mono ?_); rintro e w8 ⟨rfl, vr8, vg8, hT8, hK8, hF8, hn8⟩; have HT8 := aM hT8; have HK8 := aM (HK.out.trans hK8); clear hT8 hK8 hF8 hn8))
            go_roundg k1
            case measure => omega
            case rel => exact ⟨i + 1, T2, vr8, vg8, rfl, ⟨by have := HI0.out; omega⟩, H', ⟨by have := HK1.out; omega⟩, HT8, HK8⟩
          rw [if_neg d1] at H; obtain rfl := Option.some.inj H; have d1b : decide (i < (l1.length : Int)) = false := decide_eq_false d1; have hbx := (HK.out.below.block gres (lt_of_some HBX5.out)).trans HBX5.out; have hz0 : wr.cell? ⟨gres, 0, none⟩ = some (.int .i64 0) := (blk_cell hbx 0).trans rfl; have HBX := aM hbx; clear hbx hz0
          go_wp2_with (first
            | (go_at_call 62; (with_reducible refine (chain_calls k lv _ HT.out HLV.out).mono ?_); rintro e w9 ⟨v9, rfl, hN9, hb9⟩; have HBX9 := aM (blk_below HBX.out hb9); have hz0 : w9.cell? ⟨gres, 0, none⟩ = some (.int .i64 0) := (blk_cell HBX9.out 0).trans rfl; have hz1 : w9.cell? ⟨gres, 1, none⟩ = some (.slice none 0 0) := (blk_cell HBX9.out 1).trans rfl; have hf0 := blk_frozen HBX9.out 0; have hf1 := blk_frozen HBX9.out 1; obtain ⟨A9, c9, rfl⟩ := N_slice_form hN9; have HN9 := aM hN9; have HB9 := aM hb9; clear hN9 hb9))
          refine bodyPost_ret (results_ct rfl _ _ gres 46 #[.int .i64 T.n, .slice A9 lv.length c9] (0, 0) _ rfl (blk_put (blk_put HBX9.out 0 _ rfl) 1 _ rfl) Try.underlying46 rfl (by kernel_rfl)) rfl ?_; have hsz : w.heap.size ≤ w5.heap.size := HB5.out.size; have hg5 : gres < w5.heap.size := lt_of_some HBX5.out
          refine ⟨_, rfl, ?_, ?_⟩
          · exact Kd.N_lower (Kd.N_mono (Kd.N_far (Kd.N_far (Kd.N_mono HN9.out (ok' := fun k => w5.heap.size ≤ k) (fun k hk => hk)) (p := ⟨gres, 0, none⟩) (fun k hk => by show k ≠ gres; omega) _) (p := ⟨gres, 1, none⟩) (fun k hk => by show k ≠ gres; omega) _) (fun k hk => by omega)) (by have h1_ := HK.out.below.size; omega)
          · exact ((below_then (below_then HB5.out HB5.out.size HK.out.below) (Nat.le_trans HB5.out.size HK.out.below.size) HB9.out).setCell HGR.out _).setCell HGR.out _
    rw [if_neg c2] at h; cases h
  rw [if_neg c0] at h
  simp only [Option.some.injEq, Prod.mk.injEq] at h
  obtain ⟨rfl, rfl, rfl⟩ := h
  have c0b : (e0 != 0) = true := bne_iff_ne.mpr c0
  clear c0
  go_enter Try.func30, Try.ntmps30
  go_wp2_with (first
    | ((with_reducible refine gate_dst (N := 4) rfl ?_); refine box_event ?hg2 (N := 4) ?hd2 (cs := #[.int .i64 0, .slice none 0 0]) (t := 46) ?hr2 ?_; (case hd2 => rfl); (case hg2 => rfl); (case hr2 => first | (go_simp; done) | (go_simp; rfl)); intro gres hgr w3 hbox3 hb3; have HGR := aM (show w.heap.size ≤ gres by omega); have HB3 := aM hb3; have HBX3 := aM hbox3; clear hgr hb3 hbox3)
    | (go_at_call 57; (with_reducible refine (perm_generators.calls a0 _ _ l1 e0 _ ?t1 ?t2 HE.out).mono ?_); (case t1 => exact Kd.C_below HR1.out HB3.out); (case t2 => exact HC1.out); rintro e w5 ⟨rfl, hb5⟩; have HB5 := aM (below_step HB3.out hb5); have HBX5 := aM (blk_below HBX3.out hb5); have hz0 : w5.cell? ⟨gres, 0, none⟩ = some (.int .i64 0) := (blk_cell HBX5.out 0).trans rfl; have hz1 : w5.cell? ⟨gres, 1, none⟩ = some (.slice none 0 0) := (blk_cell HBX5.out 1).trans rfl; have hf0 := blk_frozen HBX5.out 0; have hf1 := blk_frozen HBX5.out 1; clear hb5))
  refine bodyPost_ret (results_ct rfl _ _ gres 46 #[.int .i64 0, .slice none 0 0] (0, 0) _ rfl (blk_put (blk_put HBX5.out 0 _ rfl) 1 _ rfl) Try.underlying46 rfl (by kernel_rfl)) rfl ?_
  exact ⟨_, rfl, Kd.N_nil _ _ _ _ _, (HB5.out.setCell HGR.out _).setCell HGR.out _⟩
theorem perm_Build.calls (k : Nat) (a0 : Int) (A1 : Option Addr) (c1 : Nat) (l1 : List (List Int)) (r1 : Int) (r2 : List S74) (r3 : Int) (w : World) (hr1 : Kd.C (Kd.slice 3 (Kd.int .i64)) w A1 l1.length l1) (hc1 : l1.length ≤ c1) (h : perm_Build.f k a0 l1 = some (r1, r2, r3)) :
    Calls Try.prog 30 #[.int .i64 a0, .slice A1 l1.length c1] w fun e w' => ∃ v1_ : Value, e = .returned (.tuple #[.agg #[.int .i64 r1, v1_], .int .i64 r3]) ∧ Kd.N k74 74 w' w.heap.size (fun k_ => w.heap.size ≤ k_) v1_ r2 ∧ Below w.heap.size w w' :=
  (build_post k a0 A1 c1 l1 r1 r2 r3 w hr1 hc1 h).mono fun _ _ h => h
end
section
theorem dr_trans {w w' w'' : World} (h : Drawn0 w w') (h2 : Drawn0 w' w'') : Drawn0 w w'' := by
  obtain ⟨⟨n, rfl⟩⟩ := h2
  exact h.step n
theorem wrap64_to {n : Int} (h : -9223372036854775808 ≤ n ∧ n ≤ 9223372036854775807) : wrap64 n = n := by unfold wrap64; omega
theorem rd_is (l : List Int) (n : Nat) : rd l (n : Int) = l.getD n 0 := by simp [rd]
theorem take_eq_succ {α : Type} (d : α) {x y : List α} {i : Nat} (hx : i < x.length) (hy : i < y.length) : x.take (i + 1) = y.take (i + 1) ↔ x.take i = y.take i ∧ x.getD i d = y.getD i d := by
  rw [List.take_succ_eq_append_getElem hx, List.take_succ_eq_append_getElem hy]
  have e1 : x.getD i d = x[i] := by simp [List.getD_eq_getElem?_getD, hx]
  have e2 : y.getD i d = y[i] := by simp [List.getD_eq_getElem?_getD, hy]
  rw [e1, e2]
  constructor
  · intro h
    have := List.append_inj h (by simp; omega)
    exact ⟨this.1, by simpa using this.2⟩
  · rintro ⟨h1, h2⟩
    rw [h1, h2]
theorem eq_loop (x y : List Int) (hxy : x.length = y.length) (hb : x.length ≤ 9223372036854775807) : ∀ (m i : Nat), m = x.length - i → i ≤ x.length → x.take i = y.take i → slEq.l0 (m + 1) x y (x.length : Int) (i : Int) = some (decide (x = y))
  | 0, i, hm, hi, ht => by
    rw [slEq.l0, if_neg (by omega)]; have : x = y := by rw [List.take_of_length_le (by omega), List.take_of_length_le (by omega)] at ht; exact ht
    rw [decide_eq_true this]
  | m + 1, i, hm, hi, ht => by
    rw [slEq.l0, if_pos (by omega), if_pos (by omega), if_pos (by omega), if_pos (by omega), rd_is, rd_is, wrap64_to (by omega)]
    by_cases h : x.getD i 0 = y.getD i 0
    · rw [if_pos h]
      exact eq_loop x y hxy hb m (i + 1) (by omega) (by omega) ((take_eq_succ 0 (by omega) (by omega)).2 ⟨ht, h⟩)
    · rw [if_neg h, decide_eq_false (fun e => h (by rw [e]))]
theorem Equal_is (x y : List Int) (hb : x.length ≤ 9223372036854775807) : ∃ k, slEq.f k x y = some (decide (x = y)) := by
  refine ⟨x.length + 1, ?_⟩
  unfold slEq.f
  by_cases h : (x.length : Int) = (y.length : Int)
  · rw [if_pos h]
    exact eq_loop x y (by omega) hb x.length 0 (by omega) (by omega) (by simp)
  rw [if_neg h, decide_eq_false (fun e => h (by rw [e]))]
def slEqF.f (l0 l1 : List (List Int)) : Option Bool := some (decide (l0 = l1))
theorem slEqF.calls (A0 : Option Addr) (c0 : Nat) (l0 : List (List Int)) (A1 : Option Addr) (c1 : Nat) (l1 : List (List Int)) (r : Bool) (w : World) (hr0 : Kd.C (Kd.slice 3 (Kd.int .i64)) w A0 l0.length l0) (hc0 : l0.length ≤ c0) (hr1 : Kd.C (Kd.slice 3 (Kd.int .i64)) w A1 l1.length l1) (hc1 : l1.length ≤ c1) (h : slEqF.f l0 l1 = some r) :
    Calls Try.prog 66 #[.slice A0 l0.length c0, .slice A1 l1.length c1, .func (.func 65) #[] #[]] w fun e w' => e = .returned (.bool r) ∧ Drawn0 w w' := by
  obtain rfl := Option.some.inj h
  have HR0 := aM hr0
  have HR1 := aM hr1
  clear hr0 hr1 hc0 hc1 h
  by_cases hl : (l0.length : Int) = (l1.length : Int)
  · have hlb : ((l0.length : Int) != (l1.length : Int)) = false := bne_eq_false_iff_eq.mpr hl
    have hlc : ((l0.length : Int) == (l1.length : Int)) = true := beq_iff_eq.mpr hl; have HL := aM hl; clear hl
    go_enter Try.func66, Try.ntmps66
    go_wp2
    go_loopg [17] l0.length (fun kq v17 w' => ∃ i : Int, v17 = .int .i64 i ∧ Aside0 (0 ≤ i) ∧ Aside0 (i.toNat + kq = l0.length) ∧ Aside0 (l0.take i.toNat = l1.take i.toNat) ∧ Aside0 (Drawn0 w w'))
    case atStart => exact ⟨0, rfl, ⟨by omega⟩, ⟨by simp⟩, ⟨by simp⟩, ⟨Drawn0.refl _⟩⟩
    case round =>
      obtain ⟨i, rfl, HI0, HI1, HA, HD⟩ := hrel; have i0 := HI0.out
      by_cases d1 : i < (l0.length : Int)
      · have d1b : decide (i < (l0.length : Int)) = true := decide_eq_true d1; have d2 : i < (l1.length : Int) := by have := HL.out; omega
        have q0 := eq_true i0; have q1 := eq_true d1; have q2 := eq_true d2; have hmax : l0.length ≤ 9223372036854775807 := HR0.out.2.1; obtain ⟨ad, A2, c2, ea, hx1, hl2, hC2⟩ := at_L1 HR0.out i i0 d1
        cases ea; replace hx1 := (HD.out.below.cell (World.block_lt_of_cell? w _ hx1)).trans hx1; obtain ⟨ad3, A3, c3, ea3, hx3, hl3, hC3⟩ := at_L1 HR1.out i i0 d2
        cases ea3; replace hx3 := (HD.out.below.cell (World.block_lt_of_cell? w _ hx3)).trans hx3; obtain ⟨k2, hk2⟩ := Equal_is (rd_L1 l0 i) (rd_L1 l1 i) hC2.2.1; have HK2 := aM hk2; have HC2 := aM (Kd.C_below hC2 HD.out.below); have HC3 := aM (Kd.C_below hC3 HD.out.below); have HL2 := aM hl2; have HL3 := aM hl3; have HDD := aM d2; clear hk2 hC2 hC3 hl2 hl3 d2
        have HX : Aside0 (l0.take (i + 1).toNat = l1.take (i + 1).toNat ↔ l0.take i.toNat = l1.take i.toNat ∧ rd_L1 l0 i = rd_L1 l1 i) := ⟨by
          rw [show (i + 1).toNat = i.toNat + 1 by omega]
          exact take_eq_succ [] (by omega) (by have := HDD.out; omega)⟩
        by_cases hb : rd_L1 l0 i = rd_L1 l1 i
        · have hbd : decide (rd_L1 l0 i = rd_L1 l1 i) = true := decide_eq_true hb; have HBo := aM hb; have HBd := aM hbd; clear hb hbd
          go_wp2_with (first
            | (go_at_call 65; (with_reducible refine (slEq.calls k2 A2 c2 (rd_L1 l0 i) A3 c3 (rd_L1 l1 i) _ _ HC2.out HL2.out HC3.out HL3.out HK2.out).mono ?_); rintro e w5 ⟨rfl, hd5⟩; rw [HBd.out]; have HD5 := aM hd5; clear hd5))
          obtain ⟨k1, rfl⟩ : ∃ m, gk = m + 1 := ⟨gk - 1, by have := HI1.out; omega⟩
          go_roundg k1
          case measure => omega
          case rel => exact ⟨i + 1, rfl, ⟨by have := HI0.out; omega⟩, ⟨by have := HI1.out; have := HI0.out; omega⟩, ⟨HX.out.2 ⟨HA.out, HBo.out⟩⟩, ⟨dr_trans HD.out HD5.out⟩⟩
        have hbd : decide (rd_L1 l0 i = rd_L1 l1 i) = false := decide_eq_false hb; have HBo := aM hb; have HBd := aM hbd; clear hb hbd
        go_wp2_with (first
          | (go_at_call 65; (with_reducible refine (slEq.calls k2 A2 c2 (rd_L1 l0 i) A3 c3 (rd_L1 l1 i) _ _ HC2.out HL2.out HC3.out HL3.out HK2.out).mono ?_); rintro e w5 ⟨rfl, hd5⟩; rw [HBd.out]; have HD5 := aM hd5; clear hd5))
        go_ret
        refine ⟨?_, dr_trans HD.out HD5.out⟩; rw [decide_eq_false (fun e => HBo.out (by rw [e]))]; rfl
      have d1b : decide (i < (l0.length : Int)) = false := decide_eq_false d1; have ha := HA.out; rw [List.take_of_length_le (by omega), List.take_of_length_le (by have := HL.out; omega)] at ha; have HA2 := aM ha; clear ha; go_wp2; go_ret
      exact ⟨by rw [decide_eq_true HA2.out]; rfl, HD.out⟩
  have hlb : ((l0.length : Int) != (l1.length : Int)) = true := bne_iff_ne.mpr hl
  have hlc : ((l0.length : Int) == (l1.length : Int)) = false := beq_eq_false_iff_ne.mpr hl
  have HN := aM (show l0 ≠ l1 from fun e => hl (by rw [e]))
  clear hl
  go_enter Try.func66, Try.ntmps66
  go_wp2
  go_ret
  exact ⟨by rw [decide_eq_false HN.out]; rfl, Drawn0.refl _⟩
end
section
attribute [local go_sem] max2_int min2_int max_two min_two max_three min_three max_four min_four
mutual
def perm_CheckChain.l0 : Nat → List (List Int) → List (S74) → Int → Int → Int → List (S74) → Option (Int)
  | 0, _, _, _, _, _, _ => none
  | k + 1, x4, x25, x26, x27, x223000, x223001 => if x27 < x26 then (if 0 ≤ x27 then (if x27 < (x25.length : Int) then (if (((rd_T74 x25 x27).f1).length : Int) > x223000 then (some 5) else (if (((rd_T74 x25 x27).f2).length : Int) = (((rd_T74 x25 x27).f1).length : Int) then (if x4.length + ((rd_T74 x25 x27).f2).length < 5864062014805 then (perm_CheckChain.l0 k (x4 ++ ((rd_T74 x25 x27).f2)) x25 x26 (wrap64 (x27 + 1)) x223000 x223001) else (none)) else (some 5))) else (none)) else (none)) else ((perm_Build.f k x223000 x4).bind fun bt229 => (if bt229.2.2 = 0 then (perm_CheckChain.j1 k ((bt229.2.1.length : Int) != (x223001.length : Int)) x223000 x223001 bt229.1 bt229.2.1) else (perm_CheckChain.j1 k true x223000 x223001 bt229.1 bt229.2.1)))
def perm_CheckChain.j1 : Nat → Bool → Int → List (S74) → Int → List (S74) → Option (Int)
  | 0, _, _, _, _, _ => none
  | k + 1, x68, x223000, x223001, x235000, x235001 => if x68 = true then (some 5) else (perm_CheckChain.l1 k x223001 (x223001.length : Int) 0 x235000 x235001)
def perm_CheckChain.l1 : Nat → List (S74) → Int → Int → Int → List (S74) → Option (Int)
  | 0, _, _, _, _, _ => none
  | k + 1, x70, x71, x72, x235000, x235001 => if x72 < x71 then (if 0 ≤ x72 then (if x72 < (x70.length : Int) then (if x72 < (x235001.length : Int) then (if ((rd_T74 x70 x72).f0) = ((rd_T74 x235001 x72).f0) then ((slEq.f k ((rd_T74 x70 x72).f1) ((rd_T74 x235001 x72).f1)).bind fun t239 => (if t239 = true then ((slEqF.f ((rd_T74 x70 x72).f2) ((rd_T74 x235001 x72).f2)).bind fun t240 => (if t240 = true then (perm_CheckChain.l1 k x70 x71 (wrap64 (x72 + 1)) x235000 x235001) else (some 5))) else (some 5))) else (some 5)) else (none)) else (none)) else (none)) else (some 0)
end
def perm_CheckChain.f (k : Nat) (a0_0 : Int) (l0_1 : List (S74)) : Option (Int) := (perm_degree.f a0_0).bind fun t223 => (if t223 = 0 then (if (l0_1.length : Int) > a0_0 then (some 5) else (perm_CheckChain.l0 k ([] : List (List Int)) l0_1 (l0_1.length : Int) 0 a0_0 l0_1)) else (some t223))
theorem perm_CheckChain.callsV (k : Nat) (a0_0 : Int) (P0_1_ : Nat → Prop) (A0_1 : Option Addr) (c0_1 : Nat) (l0_1 : List (S74)) (r : Int) (w : World) (hs0_1 : Kd.V k74 74 w w.heap.size (fun k_ => P0_1_ k_) (.slice A0_1 l0_1.length c0_1) l0_1) (h : perm_CheckChain.f k a0_0 l0_1 = some r) :
    Calls Try.prog 36 #[.agg #[.int .i64 a0_0, .slice A0_1 l0_1.length c0_1]] w fun e w' => e = .returned (.int .i64 r) ∧ Below w.heap.size w w' := by
  have hu46 := Try.underlying46
  have hu74 := Try.underlying74
  have HO0_1 := aM (show Kd.V k74 74 w w.heap.size (fun k_ => (P0_1_ k_ ∨ w.heap.size ≤ k_)) (.slice A0_1 l0_1.length c0_1) l0_1 from Kd.V_mono hs0_1 (fun k_ hk => .inl hk))
  have HB := aM (Below.refl w.heap.size w)
  have H : ((perm_degree.f a0_0).bind fun t223 => (if t223 = 0 then (if (l0_1.length : Int) > a0_0 then (some 5) else (perm_CheckChain.l0 k ([] : List (List Int)) l0_1 (l0_1.length : Int) 0 a0_0 l0_1)) else (some t223))) = some r := h
  clear h
  replace H := Option.bind_eq_some_iff.mp H
  obtain ⟨t223, A20, H⟩ := H
  replace H : (if t223 = 0 then (if (l0_1.length : Int) > a0_0 then (some 5) else (perm_CheckChain.l0 k ([] : List (List Int)) l0_1 (l0_1.length : Int) 0 a0_0 l0_1)) else (some t223)) = some r := H
  have A2 := aM A20
  clear A20
  by_cases c3 : t223 = 0
  · rw [if_pos c3] at H
    have c3b0 := beq_iff_eq.mpr c3; have c3b1 := bne_eq_false_iff_eq.mpr c3; clear c3
    by_cases c4 : (l0_1.length : Int) > a0_0
    · rw [if_pos c4] at H; have c4b0 := decide_eq_true c4; clear c4; obtain rfl := Option.some.inj H
      go_enter Try.func36, Try.ntmps36
      go_wp2_with (first | ((with_reducible refine gate_dst (N := 1) rfl ?_); (try (refine gate_guard (by rfl) ?_; dsimp only)); refine box_event ?hg (N := 1) ?hd (cs := #[.int .i64 a0_0, .slice A0_1 l0_1.length c0_1]) (t := 46) ?hr ?_; (case hd => rfl); (case hg => rfl); (case hr => first | (go_simp; done) | (go_simp; rfl)); intro gb222 hg w5 hbox hb; replace HO0_1 := aM (Kd.V_below (Kd.V_elderB (zV HO0_1) gb222 (Nat.le_of_eq hg.symm)) hb); have BK222 := aM (hbox); have GW222 := aM ((by rw [hg]; exact (below_size zz110) : w.heap.size ≤ gb222)); have GE222 := aM ((by rw [hg]; exact (below_size zz110) : w.heap.size ≤ gb222)); replace HB := aM (below_step zz110 hb); clear hb hbox hg; have hcz6_0 : w5.cell? ⟨gb222, 0, none⟩ = some (.int .i64 a0_0) := (blk_cell BK222.out 0).trans rfl; have hcz6_1 : w5.cell? ⟨gb222, 1, none⟩ = some (.slice A0_1 l0_1.length c0_1) := (blk_cell BK222.out 1).trans rfl; have hfz6_0 := blk_frozen BK222.out 0; have hfz6_1 := blk_frozen BK222.out 1) | ((with_reducible refine gate_callee (f := 52) rfl ?_); refine goesL_ (some 14) rfl rfl Try.func52 (by kernel_rfl) rfl #[.int .i64 a0_0] rfl zz109 ?_; (with_reducible refine (perm_degree.calls a0_0 t223 _ A2.out).mono ?_); rintro e w' ⟨rfl, ⟨nd, rfl⟩⟩; refine ⟨_, rfl, ?_⟩))
      go_ret
      exact ⟨by first | rfl | (simp [errW_none, errW_some] <;> rfl) | (simp [*, errW_none, errW_some] <;> rfl), by repeat (first | (with_reducible first | exact HB.out | apply below_alloc | apply pw_below_drewN | apply below_drew1 | refine below_set ?_ GE222.out) | exact HB.out)⟩
    rw [if_neg c4] at H; have c4b0 := decide_eq_false c4; clear c4; have H' := aM H; clear H
    go_enter Try.func36, Try.ntmps36
    go_wp2_with (first | ((with_reducible refine gate_dst (N := 1) rfl ?_); (try (refine gate_guard (by rfl) ?_; dsimp only)); refine box_event ?hg (N := 1) ?hd (cs := #[.int .i64 a0_0, .slice A0_1 l0_1.length c0_1]) (t := 46) ?hr ?_; (case hd => rfl); (case hg => rfl); (case hr => first | (go_simp; done) | (go_simp; rfl)); intro gb222 hg w7 hbox hb; replace HO0_1 := aM (Kd.V_below (Kd.V_elderB (zV HO0_1) gb222 (Nat.le_of_eq hg.symm)) hb); have BK222 := aM (hbox); have GW222 := aM ((by rw [hg]; exact (below_size zz110) : w.heap.size ≤ gb222)); have GE222 := aM ((by rw [hg]; exact (below_size zz110) : w.heap.size ≤ gb222)); replace HB := aM (below_step zz110 hb); clear hb hbox hg; have hcz8_0 : w7.cell? ⟨gb222, 0, none⟩ = some (.int .i64 a0_0) := (blk_cell BK222.out 0).trans rfl; have hcz8_1 : w7.cell? ⟨gb222, 1, none⟩ = some (.slice A0_1 l0_1.length c0_1) := (blk_cell BK222.out 1).trans rfl; have hfz8_0 := blk_frozen BK222.out 0; have hfz8_1 := blk_frozen BK222.out 1) | ((with_reducible refine gate_callee (f := 52) rfl ?_); refine goesL_ (some 14) rfl rfl Try.func52 (by kernel_rfl) rfl #[.int .i64 a0_0] rfl zz109 ?_; (with_reducible refine (perm_degree.calls a0_0 t223 _ A2.out).mono ?_); rintro e w' ⟨rfl, ⟨nd, rfl⟩⟩; refine ⟨_, rfl, ?_⟩))
    go_loopg [4, 27] k (fun kq v4 v27 w' => ∃ (x4_1 : List (List Int)) (x27_1 : Int), v27 = .int .i64 x27_1 ∧ Aside0 (perm_CheckChain.l0 kq x4_1 l0_1 (l0_1.length : Int) x27_1 a0_0 l0_1 = some r) ∧ Aside0 (kq ≤ k) ∧ Aside0 (Kd.N (Kd.slice 3 (Kd.int .i64)) 22 w' w.heap.size (fun k_ => (P0_1_ k_ ∨ w.heap.size ≤ k_) ∧ k_ ≠ gb222) v4 x4_1) ∧ Aside0 (Kd.V k74 74 w' w.heap.size (fun k_ => (P0_1_ k_ ∨ w.heap.size ≤ k_) ∧ some k_ ≠ (v4 : Value).ownBlock ∧ k_ ≠ gb222) (.slice A0_1 l0_1.length c0_1) l0_1) ∧ Aside0 (Kd.V k74 74 w' w.heap.size (fun k_ => (P0_1_ k_ ∨ w.heap.size ≤ k_) ∧ some k_ ≠ (v4 : Value).ownBlock ∧ k_ ≠ gb222) (.slice A0_1 l0_1.length c0_1) l0_1) ∧ Aside0 (w'.heap[gb222]? = some (.cells #[.int .i64 a0_0, (.slice A0_1 l0_1.length c0_1)] 46 (0, 0))) ∧ Aside0 (Below w.heap.size w w'))
    case atStart => exact ⟨(([] : List (List Int))), (0), zz136, H', ⟨Nat.le_refl _⟩, ⟨zz108⟩, ⟨zz90⟩, ⟨zz90⟩, ⟨(zB BK222)⟩, ⟨zz91⟩⟩
    case round =>
      clear H'; (try clear p2); (try clear c3); (try clear c3b0); (try clear c3b1); (try clear c4); (try clear c4b0); (try clear c5); (try clear hcz6_0); (try clear hcz6_1); (try clear hcz8_0); (try clear hcz8_1); (try clear hfz6_0); (try clear hfz6_1); (try clear hfz8_0); (try clear hfz8_1); obtain ⟨x4_1, x27_1, rfl, HA, HK1, HO_4, HO_25, HO_223001, BK222, HB⟩ := hrel
      cases gk with
      | zero => exact absurd HA.out (by simp [perm_CheckChain.l0])
      | succ k1 =>
        have H := HA.out; clear HA; simp only [perm_CheckChain.l0] at H
        by_cases c9 : x27_1 < (l0_1.length : Int)
        · rw [if_pos c9] at H; have c9b0 := decide_eq_true c9; clear c9
          by_cases c10 : 0 ≤ x27_1
          · rw [if_pos c10] at H; have c10b0 := decide_eq_true c10; clear c10
            by_cases c11 : x27_1 < (l0_1.length : Int)
            · rw [if_pos c11] at H; have c11b0 := decide_eq_true c11; clear c11
              by_cases c12 : (((rd_T74 l0_1 x27_1).f1).length : Int) > a0_0
              · rw [if_pos c12] at H; have c12b0 := decide_eq_true c12; clear c12; obtain rfl := Option.some.inj H; have p224 : 0 ≤ (x27_1 : Int) := of_decide_eq_true zz135; have q224 : x27_1 < (l0_1.length : Int) := of_decide_eq_true zz135; obtain ⟨ad224, A224_1, c224_1, A224_2, c224_2, e224, hx224_0, hx224_1, hx224_2, hl224_1, hi224_1, hl224_2, hi224_2⟩ := at_T74 (Kd.V_reads' HO_25.out).2.2 x27_1 p224 q224
                cases e224; obtain ⟨ce224, hce224, hMe224, hcc224⟩ := Kd.V_get HO_25.out z74 x27_1 p224 zz104; obtain ⟨ua224_1, uc224_1, ua224_2, uc224_2, rfl, ul224_1, ge224_1, ul224_2, ge224_2⟩ := k74_openF hMe224; have hv224_1 := hcc224 1 _ rfl; rw [add_field _ _ 1 (by omega)] at hv224_1; replace hv224_1 := Option.some.inj (hv224_1.symm.trans hx224_1); injection hv224_1 with hva_ hvn_ hvc_
                rw [hva_] at ge224_1; rw [hvc_] at ul224_1; have HL224_1 := aM (show Kd.V (Kd.int .i64) 3 _ w.heap.size _ _ ((rd_T74 l0_1 x27_1).f1) from Kd.V_mk ul224_1 ge224_1); clear hva_ hvn_ hvc_ ge224_1 ul224_1; have hv224_2 := hcc224 2 _ rfl; rw [add_field _ _ 2 (by omega)] at hv224_2; replace hv224_2 := Option.some.inj (hv224_2.symm.trans hx224_2); injection hv224_2 with hva_ hvn_ hvc_
                rw [hva_] at ge224_2; rw [hvc_] at ul224_2; have HL224_2 := aM (show Kd.V (Kd.slice 3 (Kd.int .i64)) 22 _ w.heap.size _ _ ((rd_T74 l0_1 x27_1).f2) from Kd.V_mk ul224_2 ge224_2); clear hva_ hvn_ hvc_ ge224_2 ul224_2; clear hcc224 hce224; have HR224_1 := aM hi224_1; have HC224_1 := aM hl224_1; clear hi224_1 hl224_1; have HR224_2 := aM hi224_2; have HC224_2 := aM hl224_2; clear hi224_2 hl224_2; replace p224 := eq_true p224; replace q224 := eq_true q224
                go_wp2_with (first | ((with_reducible refine gate_dst (N := 6) rfl ?_); (try (refine gate_guard (by rfl) ?_; dsimp only)); refine box_event ?hg (N := 6) ?hd (cs := #[.int .i64 0, .slice none 0 0, .slice none 0 0]) (t := 74) ?hr ?_; (case hd => rfl); (case hg => rfl); (case hr => first | (go_simp; done) | (go_simp; rfl)); intro gb225 hg w13 hbox hb; replace HO_4 := aM (Kd.N_below (Kd.N_elderB (zN HO_4) gb225 (Nat.le_of_eq hg.symm)) hb); replace HO_25 := aM (Kd.V_below (Kd.V_elderB (zV HO_25) gb225 (Nat.le_of_eq hg.symm)) hb); replace HO_223001 := aM (Kd.V_below (Kd.V_elderB (zV HO_223001) gb225 (Nat.le_of_eq hg.symm)) hb); replace HR224_1 := aM (Kd.C_below zz67 hb); replace HL224_1 := aM (Kd.V_below (Kd.V_elderB (zV HL224_1) gb225 (Nat.le_of_eq hg.symm)) hb); replace HR224_2 := aM (Kd.C_below zz68 hb); replace HL224_2 := aM (Kd.V_below (Kd.V_elderB (zV HL224_2) gb225 (Nat.le_of_eq hg.symm)) hb); have BK225 := aM (hbox); have GW225 := aM ((by rw [hg]; exact (below_size zz91) : w.heap.size ≤ gb225)); have GE225 := aM ((by rw [hg]; exact (below_size zz91) : w.heap.size ≤ gb225)); replace HB := aM (below_step zz91 hb); have NB222_225 := aM ((by rw [hg]; exact Nat.ne_of_lt (blk_lt (g := gb222) (o := .cells #[.int .i64 a0_0, .slice (some ad224) l0_1.length c0_1] 46 (0, 0)) (zB BK222)) : gb222 ≠ gb225)); have NB225_222 := aM ((by rw [hg]; exact Nat.ne_of_gt (blk_lt (g := gb222) (o := .cells #[.int .i64 a0_0, .slice (some ad224) l0_1.length c0_1] 46 (0, 0)) (zB BK222)) : gb225 ≠ gb222)); replace BK222 := aM (blk_below (g := gb222) (o := .cells #[.int .i64 a0_0, .slice (some ad224) l0_1.length c0_1] 46 (0, 0)) (zB BK222) hb); clear hb hbox hg; have hnb14 := NB225_222.out; have hnc14 := NB222_225.out; have hcz15_0 : w13.cell? ⟨gb225, 0, none⟩ = some (.int .i64 0) := (blk_cell BK225.out 0).trans rfl; have hcz15_1 : w13.cell? ⟨gb225, 1, none⟩ = some (.slice none 0 0) := (blk_cell BK225.out 1).trans rfl; have hcz15_2 : w13.cell? ⟨gb225, 2, none⟩ = some (.slice none 0 0) := (blk_cell BK225.out 2).trans rfl; have hfz15_0 := blk_frozen BK225.out 0; have hfz15_1 := blk_frozen BK225.out 1; have hfz15_2 := blk_frozen BK225.out 2; have hcz16_0 : w13.cell? ⟨gb222, 0, none⟩ = some (.int .i64 a0_0) := (blk_cell BK222.out 0).trans rfl; have hcz16_1 : w13.cell? ⟨gb222, 1, none⟩ = some (.slice (some ad224) l0_1.length c0_1) := (blk_cell BK222.out 1).trans rfl; have hfz16_0 := blk_frozen BK222.out 0; have hfz16_1 := blk_frozen BK222.out 1))
                go_ret
                exact ⟨by first | rfl | (simp [errW_none, errW_some] <;> rfl) | (simp [*, errW_none, errW_some] <;> rfl), by repeat (first | (with_reducible first | exact HB.out | apply below_alloc | apply pw_below_drewN | apply below_drew1 | refine below_set ?_ GE222.out | refine below_set ?_ GE225.out) | exact HB.out)⟩
              rw [if_neg c12] at H; have c12b0 := decide_eq_false c12; clear c12
              by_cases c17 : (((rd_T74 l0_1 x27_1).f2).length : Int) = (((rd_T74 l0_1 x27_1).f1).length : Int)
              · rw [if_pos c17] at H; have c17b0 := beq_iff_eq.mpr c17; have c17b1 := bne_eq_false_iff_eq.mpr c17; have c17b2 : (((rd_T74 l0_1 x27_1).f2).length == ((rd_T74 l0_1 x27_1).f1).length) = true := by first | simpa using c17 | (simp at c17 ⊢; omega)
                clear c17
                by_cases c18 : x4_1.length + ((rd_T74 l0_1 x27_1).f2).length < 5864062014805
                · rw [if_pos c18] at H; have LMc18 := aM c18; clear c18; obtain ⟨y226, hy226⟩ : ∃ y_ : List (List Int), y_ = (x4_1 ++ ((rd_T74 l0_1 x27_1).f2)) := ⟨_, rfl⟩; replace H : (perm_CheckChain.l0 k1 y226 l0_1 (l0_1.length : Int) (wrap64 (x27_1 + 1)) a0_0 l0_1) = some r := by first | (rw [hy226]; with_reducible exact H) | (have H2_ := (Option.bind_some _ _).symm.trans H; rw [hy226]; with_reducible exact H2_) | (have H2_ := (Option.bind_some _ _).symm.trans H; with_reducible exact H2_) | with_reducible exact H | (rw [hy226]; exact H) | exact H
                  have Ny226 := aM hy226; clear hy226; have H' := aM H; clear H; have p224 : 0 ≤ (x27_1 : Int) := of_decide_eq_true zz135; have q224 : x27_1 < (l0_1.length : Int) := of_decide_eq_true zz135; obtain ⟨ad224, A224_1, c224_1, A224_2, c224_2, e224, hx224_0, hx224_1, hx224_2, hl224_1, hi224_1, hl224_2, hi224_2⟩ := at_T74 (Kd.V_reads' HO_25.out).2.2 x27_1 p224 q224
                  cases e224; obtain ⟨ce224, hce224, hMe224, hcc224⟩ := Kd.V_get HO_25.out z74 x27_1 p224 zz104; obtain ⟨ua224_1, uc224_1, ua224_2, uc224_2, rfl, ul224_1, ge224_1, ul224_2, ge224_2⟩ := k74_openF hMe224; have hv224_1 := hcc224 1 _ rfl; rw [add_field _ _ 1 (by omega)] at hv224_1; replace hv224_1 := Option.some.inj (hv224_1.symm.trans hx224_1); injection hv224_1 with hva_ hvn_ hvc_
                  rw [hva_] at ge224_1; rw [hvc_] at ul224_1; have HL224_1 := aM (show Kd.V (Kd.int .i64) 3 _ w.heap.size _ _ ((rd_T74 l0_1 x27_1).f1) from Kd.V_mk ul224_1 ge224_1); clear hva_ hvn_ hvc_ ge224_1 ul224_1; have hv224_2 := hcc224 2 _ rfl; rw [add_field _ _ 2 (by omega)] at hv224_2; replace hv224_2 := Option.some.inj (hv224_2.symm.trans hx224_2); injection hv224_2 with hva_ hvn_ hvc_
                  rw [hva_] at ge224_2; rw [hvc_] at ul224_2; have HL224_2 := aM (show Kd.V (Kd.slice 3 (Kd.int .i64)) 22 _ w.heap.size _ _ ((rd_T74 l0_1 x27_1).f2) from Kd.V_mk ul224_2 ge224_2); clear hva_ hvn_ hvc_ ge224_2 ul224_2; clear hcc224 hce224; have HR224_1 := aM hi224_1; have HC224_1 := aM hl224_1; clear hi224_1 hl224_1; have HR224_2 := aM hi224_2; have HC224_2 := aM hl224_2; clear hi224_2 hl224_2; replace p224 := eq_true p224; replace q224 := eq_true q224
                  go_wp2_with (first | ((with_reducible refine gate_dst (N := 6) rfl ?_); (try (refine gate_guard (by rfl) ?_; dsimp only)); refine box_event ?hg (N := 6) ?hd (cs := #[.int .i64 0, .slice none 0 0, .slice none 0 0]) (t := 74) ?hr ?_; (case hd => rfl); (case hg => rfl); (case hr => first | (go_simp; done) | (go_simp; rfl)); intro gb225 hg w19 hbox hb; replace HO_4 := aM (Kd.N_below (Kd.N_elderB (zN HO_4) gb225 (Nat.le_of_eq hg.symm)) hb); replace HO_25 := aM (Kd.V_below (Kd.V_elderB (zV HO_25) gb225 (Nat.le_of_eq hg.symm)) hb); replace HO_223001 := aM (Kd.V_below (Kd.V_elderB (zV HO_223001) gb225 (Nat.le_of_eq hg.symm)) hb); replace HR224_1 := aM (Kd.C_below zz67 hb); replace HL224_1 := aM (Kd.V_below (Kd.V_elderB (zV HL224_1) gb225 (Nat.le_of_eq hg.symm)) hb); replace HR224_2 := aM (Kd.C_below zz68 hb); replace HL224_2 := aM (Kd.V_below (Kd.V_elderB (zV HL224_2) gb225 (Nat.le_of_eq hg.symm)) hb); have BK225 := aM (hbox); have GW225 := aM ((by rw [hg]; exact (below_size zz91) : w.heap.size ≤ gb225)); have GE225 := aM ((by rw [hg]; exact (below_size zz91) : w.heap.size ≤ gb225)); replace HB := aM (below_step zz91 hb); have NB222_225 := aM ((by rw [hg]; exact Nat.ne_of_lt (blk_lt (g := gb222) (o := .cells #[.int .i64 a0_0, .slice (some ad224) l0_1.length c0_1] 46 (0, 0)) (zB BK222)) : gb222 ≠ gb225)); have NB225_222 := aM ((by rw [hg]; exact Nat.ne_of_gt (blk_lt (g := gb222) (o := .cells #[.int .i64 a0_0, .slice (some ad224) l0_1.length c0_1] 46 (0, 0)) (zB BK222)) : gb225 ≠ gb222)); replace BK222 := aM (blk_below (g := gb222) (o := .cells #[.int .i64 a0_0, .slice (some ad224) l0_1.length c0_1] 46 (0, 0)) (zB BK222) hb); clear hb hbox hg; have hnb20 := NB225_222.out; have hnc20 := NB222_225.out; have hcz21_0 : w19.cell? ⟨gb225, 0, none⟩ = some (.int .i64 0) := (blk_cell BK225.out 0).trans rfl; have hcz21_1 : w19.cell? ⟨gb225, 1, none⟩ = some (.slice none 0 0) := (blk_cell BK225.out 1).trans rfl; have hcz21_2 : w19.cell? ⟨gb225, 2, none⟩ = some (.slice none 0 0) := (blk_cell BK225.out 2).trans rfl; have hfz21_0 := blk_frozen BK225.out 0; have hfz21_1 := blk_frozen BK225.out 1; have hfz21_2 := blk_frozen BK225.out 2; have hcz22_0 : w19.cell? ⟨gb222, 0, none⟩ = some (.int .i64 a0_0) := (blk_cell BK222.out 0).trans rfl; have hcz22_1 : w19.cell? ⟨gb222, 1, none⟩ = some (.slice (some ad224) l0_1.length c0_1) := (blk_cell BK222.out 1).trans rfl; have hfz22_0 := blk_frozen BK222.out 0; have hfz22_1 := blk_frozen BK222.out 1) | ((with_reducible refine gate_builtin (b := .append) (xs := #[.tmp 46, .tmp 48]) rfl ?_); (try (refine gate_guard (by rfl) ?_; dsimp only)); at_builtin; refine Kd.N_append_rows (Kd.slice 3 (Kd.int .i64)) (w0 := w) w.heap.size rfl (.tmp 46) (.tmp 48) 28 22 (.slice none 0 0) 24 rfl Try.underlying28 info22 rfl (by decide) (by omega) u4 x4_1 ((rd_T74 l0_1 x27_1).f2) _ _ _ (fun k_ => (P0_1_ k_ ∨ w.heap.size ≤ k_) ∧ k_ ≠ gb222 ∧ k_ ≠ gb225) (fun k_ => ((fun k_ => (P0_1_ k_ ∨ w.heap.size ≤ k_) ∧ k_ ≠ gb222 ∧ k_ ≠ gb225)) k_ ∧ some k_ ≠ (u4 : Value).ownBlock) rfl rfl ?aO ?aR (fun _ hk => hk) ?aF ?aB ?aS ?aL ?_; (case aR => exact zz27); (case aB => exact zz79); (case aF => exact (fun k_ hk => ⟨(.inr (Nat.le_trans (below_size zz79) hk)), Kd.freshB (g := gb222) (o := .cells #[.int .i64 a0_0, .slice (some ad224) l0_1.length c0_1] 46 (0, 0)) zz44 k_ hk, Kd.freshB (g := gb225) (o := .cells #[.int .i64 ((rd_T74 l0_1 x27_1).f0), .slice A224_1 ((rd_T74 l0_1 x27_1).f1).length c224_1, .slice A224_2 ((rd_T74 l0_1 x27_1).f2).length c224_2] 74 (0, 0)) zz11 k_ hk⟩)); (case aO => exact zz51); (case aS => exact (below_size zz79)); (case aL => have := LMc18.out; omega); intro v227 w23 ho hb hg hat; rw [← Ny226.out] at ho; replace HO_25 := aM (Kd.V_afterv (ok := (fun k_ => (P0_1_ k_ ∨ w.heap.size ≤ k_) ∧ k_ ≠ gb222 ∧ k_ ≠ gb225)) zz43 hg hat); replace HO_223001 := aM (Kd.V_afterv (ok := (fun k_ => (P0_1_ k_ ∨ w.heap.size ≤ k_) ∧ k_ ≠ gb222 ∧ k_ ≠ gb225)) zz39 hg hat); replace BK222 := aM (blk_grown (g := gb222) (o := .cells #[.int .i64 a0_0, .slice (some ad224) l0_1.length c0_1] 46 (0, 0)) zz44 hg (Kd.N_ne HO_4.out BK222.out (by decide))); replace HL224_1 := aM (Kd.V_afterv (ok := (fun k_ => (P0_1_ k_ ∨ w.heap.size ≤ k_) ∧ k_ ≠ gb222 ∧ k_ ≠ gb225)) zz41 hg hat); replace HL224_2 := aM (Kd.V_afterv (ok := (fun k_ => (P0_1_ k_ ∨ w.heap.size ≤ k_) ∧ k_ ≠ gb222 ∧ k_ ≠ gb225)) zz42 hg hat); replace BK225 := aM (blk_grown (g := gb225) (o := .cells #[.int .i64 ((rd_T74 l0_1 x27_1).f0), .slice A224_1 ((rd_T74 l0_1 x27_1).f1).length c224_1, .slice A224_2 ((rd_T74 l0_1 x27_1).f2).length c224_2] 74 (0, 0)) zz11 hg (Kd.N_ne HO_4.out BK225.out (by decide))); replace HB := aM (hb); have HO228 := aM (ho); clear HO_4; clear ho hb hg hat))
                  go_roundg k1
                  case measure => have := HK1.out; omega
                  case rel => exact ⟨(y226), (wrap64 (x27_1 + 1)), zz136, H', ⟨zz143⟩, ⟨zz107⟩, ⟨zz99⟩, ⟨zz98⟩, ⟨(zB BK222)⟩, ⟨zz79⟩⟩
                rw [if_neg c18] at H
                exact absurd H (by simp)
              rw [if_neg c17] at H; have c17b0 := beq_eq_false_iff_ne.mpr c17; have c17b1 := bne_iff_ne.mpr c17; have c17b2 : (((rd_T74 l0_1 x27_1).f2).length == ((rd_T74 l0_1 x27_1).f1).length) = false := by first | simpa using c17 | (simp at c17 ⊢; omega)
              obtain rfl := Option.some.inj H; have p224 : 0 ≤ (x27_1 : Int) := of_decide_eq_true zz135; have q224 : x27_1 < (l0_1.length : Int) := of_decide_eq_true zz135; obtain ⟨ad224, A224_1, c224_1, A224_2, c224_2, e224, hx224_0, hx224_1, hx224_2, hl224_1, hi224_1, hl224_2, hi224_2⟩ := at_T74 (Kd.V_reads' HO_25.out).2.2 x27_1 p224 q224
              cases e224; obtain ⟨ce224, hce224, hMe224, hcc224⟩ := Kd.V_get HO_25.out z74 x27_1 p224 zz104; obtain ⟨ua224_1, uc224_1, ua224_2, uc224_2, rfl, ul224_1, ge224_1, ul224_2, ge224_2⟩ := k74_openF hMe224; have hv224_1 := hcc224 1 _ rfl; rw [add_field _ _ 1 (by omega)] at hv224_1; replace hv224_1 := Option.some.inj (hv224_1.symm.trans hx224_1); injection hv224_1 with hva_ hvn_ hvc_
              rw [hva_] at ge224_1; rw [hvc_] at ul224_1; have HL224_1 := aM (show Kd.V (Kd.int .i64) 3 _ w.heap.size _ _ ((rd_T74 l0_1 x27_1).f1) from Kd.V_mk ul224_1 ge224_1); clear hva_ hvn_ hvc_ ge224_1 ul224_1; have hv224_2 := hcc224 2 _ rfl; rw [add_field _ _ 2 (by omega)] at hv224_2; replace hv224_2 := Option.some.inj (hv224_2.symm.trans hx224_2); injection hv224_2 with hva_ hvn_ hvc_
              rw [hva_] at ge224_2; rw [hvc_] at ul224_2; have HL224_2 := aM (show Kd.V (Kd.slice 3 (Kd.int .i64)) 22 _ w.heap.size _ _ ((rd_T74 l0_1 x27_1).f2) from Kd.V_mk ul224_2 ge224_2); clear hva_ hvn_ hvc_ ge224_2 ul224_2; clear hcc224 hce224; have HR224_1 := aM hi224_1; have HC224_1 := aM hl224_1; clear hi224_1 hl224_1; have HR224_2 := aM hi224_2; have HC224_2 := aM hl224_2; clear hi224_2 hl224_2; replace p224 := eq_true p224; replace q224 := eq_true q224
              go_wp2_with (first | ((with_reducible refine gate_dst (N := 6) rfl ?_); (try (refine gate_guard (by rfl) ?_; dsimp only)); refine box_event ?hg (N := 6) ?hd (cs := #[.int .i64 0, .slice none 0 0, .slice none 0 0]) (t := 74) ?hr ?_; (case hd => rfl); (case hg => rfl); (case hr => first | (go_simp; done) | (go_simp; rfl)); intro gb225 hg w24 hbox hb; replace HO_4 := aM (Kd.N_below (Kd.N_elderB (zN HO_4) gb225 (Nat.le_of_eq hg.symm)) hb); replace HO_25 := aM (Kd.V_below (Kd.V_elderB (zV HO_25) gb225 (Nat.le_of_eq hg.symm)) hb); replace HO_223001 := aM (Kd.V_below (Kd.V_elderB (zV HO_223001) gb225 (Nat.le_of_eq hg.symm)) hb); replace HR224_1 := aM (Kd.C_below zz67 hb); replace HL224_1 := aM (Kd.V_below (Kd.V_elderB (zV HL224_1) gb225 (Nat.le_of_eq hg.symm)) hb); replace HR224_2 := aM (Kd.C_below zz68 hb); replace HL224_2 := aM (Kd.V_below (Kd.V_elderB (zV HL224_2) gb225 (Nat.le_of_eq hg.symm)) hb); have BK225 := aM (hbox); have GW225 := aM ((by rw [hg]; exact (below_size zz91) : w.heap.size ≤ gb225)); have GE225 := aM ((by rw [hg]; exact (below_size zz91) : w.heap.size ≤ gb225)); replace HB := aM (below_step zz91 hb); have NB222_225 := aM ((by rw [hg]; exact Nat.ne_of_lt (blk_lt (g := gb222) (o := .cells #[.int .i64 a0_0, .slice (some ad224) l0_1.length c0_1] 46 (0, 0)) (zB BK222)) : gb222 ≠ gb225)); have NB225_222 := aM ((by rw [hg]; exact Nat.ne_of_gt (blk_lt (g := gb222) (o := .cells #[.int .i64 a0_0, .slice (some ad224) l0_1.length c0_1] 46 (0, 0)) (zB BK222)) : gb225 ≠ gb222)); replace BK222 := aM (blk_below (g := gb222) (o := .cells #[.int .i64 a0_0, .slice (some ad224) l0_1.length c0_1] 46 (0, 0)) (zB BK222) hb); clear hb hbox hg; have hnb25 := NB225_222.out; have hnc25 := NB222_225.out; have hcz26_0 : w24.cell? ⟨gb225, 0, none⟩ = some (.int .i64 0) := (blk_cell BK225.out 0).trans rfl; have hcz26_1 : w24.cell? ⟨gb225, 1, none⟩ = some (.slice none 0 0) := (blk_cell BK225.out 1).trans rfl; have hcz26_2 : w24.cell? ⟨gb225, 2, none⟩ = some (.slice none 0 0) := (blk_cell BK225.out 2).trans rfl; have hfz26_0 := blk_frozen BK225.out 0; have hfz26_1 := blk_frozen BK225.out 1; have hfz26_2 := blk_frozen BK225.out 2; have hcz27_0 : w24.cell? ⟨gb222, 0, none⟩ = some (.int .i64 a0_0) := (blk_cell BK222.out 0).trans rfl; have hcz27_1 : w24.cell? ⟨gb222, 1, none⟩ = some (.slice (some ad224) l0_1.length c0_1) := (blk_cell BK222.out 1).trans rfl; have hfz27_0 := blk_frozen BK222.out 0; have hfz27_1 := blk_frozen BK222.out 1))
              go_ret
              exact ⟨by first | rfl | (simp [errW_none, errW_some] <;> rfl) | (simp [*, errW_none, errW_some] <;> rfl), by repeat (first | (with_reducible first | exact HB.out | apply below_alloc | apply pw_below_drewN | apply below_drew1 | refine below_set ?_ GE222.out | refine below_set ?_ GE225.out) | exact HB.out)⟩
            rw [if_neg c11] at H
            exact absurd H (by simp)
          rw [if_neg c10] at H
          exact absurd H (by simp)
        rw [if_neg c9] at H; have c9b0 := decide_eq_false c9; clear c9; replace H := Option.bind_eq_some_iff.mp H; obtain ⟨⟨t229, t230, t233⟩, A280, H⟩ := H; replace H : (if t233 = 0 then (perm_CheckChain.j1 k1 ((t230.length : Int) != (l0_1.length : Int)) a0_0 l0_1 t229 t230) else (perm_CheckChain.j1 k1 true a0_0 l0_1 t229 t230)) = some r := H; have A28 := aM A280; clear A280; have HC29 := aM H; clear H; have hcz30_0 : wr.cell? ⟨gb222, 0, none⟩ = some (.int .i64 a0_0) := (blk_cell BK222.out 0).trans rfl; have hcz30_1 : wr.cell? ⟨gb222, 1, none⟩ = some (.slice A0_1 l0_1.length c0_1) := (blk_cell BK222.out 1).trans rfl; have hfz30_0 := blk_frozen BK222.out 0; have hfz30_1 := blk_frozen BK222.out 1; obtain ⟨Ao31, co31, eo31⟩ := Kd.N_slice HO_4.out; subst eo31
        go_upto_region 15 with (first | ((with_reducible refine gate_callee (f := 30) rfl ?_); refine goesL_ (some 55) rfl rfl Try.func30 (by kernel_rfl) rfl #[.int .i64 a0_0, .slice Ao31 x4_1.length co31] rfl zz109 ?_; (with_reducible refine (perm_Build.calls k1 a0_0 _ _ x4_1 t229 t230 t233 _ ?side1 ?side2 A28.out).mono ?_); (case side1 => repeat (first | exact (Kd.N_reads' HO_4.out).2.2 | (with_reducible refine Kd.C_alloc ?_ _) | (with_reducible refine Kd.C_drewN ?_ _) | (with_reducible refine Kd.C_drew ?_))); (case side2 => exact (Kd.N_reads' HO_4.out).2.1); rintro e w32 ⟨v231, rfl, ho0, hb⟩; refine ⟨_, rfl, ?_⟩; replace HO_25 := aM (Kd.V_elder' (zV HO_25) (Kd.N_base ho0) hb); replace HO_223001 := aM (Kd.V_elder' (zV HO_223001) (Kd.N_base ho0) hb); have HO232 := aM (Kd.N_lower (Kd.N_mono (ok' := fun k_ => (P0_1_ k_ ∨ w.heap.size ≤ k_) ∧ some k_ ≠ (.slice Ao31 x4_1.length co31 : Value).ownBlock ∧ k_ ≠ gb222) ho0 (fun k_ hk_ => ⟨(.inr (Nat.le_trans (below_size zz91) hk_)), (Kd.fresh' (Kd.N_lt (zN HO_4)) k_ hk_), (Kd.freshB (g := gb222) (o := .cells #[.int .i64 a0_0, .slice A0_1 l0_1.length c0_1] 46 (0, 0)) (zB BK222) k_ hk_)⟩)) (below_size zz91)); replace HO_4 := aM (Kd.N_elder' (zN HO_4) (Kd.N_base ho0) hb); replace BK222 := aM (blk_below (g := gb222) (o := .cells #[.int .i64 a0_0, .slice A0_1 l0_1.length c0_1] 46 (0, 0)) (zB BK222) hb); replace HB := aM (below_step zz91 hb); (try clear hb); (try clear hb2); (try clear hk); (try clear hi); (try clear ho0)) | ((with_reducible refine gate_dst (N := 7) rfl ?_); (try (refine gate_guard (by rfl) ?_; dsimp only)); refine box_event ?hg (N := 7) ?hd (cs := #[.int .i64 0, .slice none 0 0]) (t := 46) ?hr ?_; (case hd => rfl); (case hg => rfl); (case hr => first | (go_simp; done) | (go_simp; rfl)); intro gb234 hg w33 hbox hb; replace HO_4 := aM (Kd.N_below (Kd.N_elderB (zN HO_4) gb234 (Nat.le_of_eq hg.symm)) hb); replace HO_25 := aM (Kd.V_below (Kd.V_elderB (zV HO_25) gb234 (Nat.le_of_eq hg.symm)) hb); replace HO_223001 := aM (Kd.V_below (Kd.V_elderB (zV HO_223001) gb234 (Nat.le_of_eq hg.symm)) hb); replace HO232 := aM (Kd.N_below (Kd.N_elderB (zN HO232) gb234 (Nat.le_of_eq hg.symm)) hb); have BK234 := aM (hbox); have GW234 := aM ((by rw [hg]; exact (below_size zz91) : w.heap.size ≤ gb234)); have GE234 := aM ((by rw [hg]; exact (below_size zz91) : w.heap.size ≤ gb234)); replace HB := aM (below_step zz91 hb); have NB222_234 := aM ((by rw [hg]; exact Nat.ne_of_lt (blk_lt (g := gb222) (o := .cells #[.int .i64 a0_0, .slice A0_1 l0_1.length c0_1] 46 (0, 0)) (zB BK222)) : gb222 ≠ gb234)); have NB234_222 := aM ((by rw [hg]; exact Nat.ne_of_gt (blk_lt (g := gb222) (o := .cells #[.int .i64 a0_0, .slice A0_1 l0_1.length c0_1] 46 (0, 0)) (zB BK222)) : gb234 ≠ gb222)); replace BK222 := aM (blk_below (g := gb222) (o := .cells #[.int .i64 a0_0, .slice A0_1 l0_1.length c0_1] 46 (0, 0)) (zB BK222) hb); clear hb hbox hg; have hnb34 := NB234_222.out; have hnc34 := NB222_234.out; have hcz35_0 : w33.cell? ⟨gb234, 0, none⟩ = some (.int .i64 0) := (blk_cell BK234.out 0).trans rfl; have hcz35_1 : w33.cell? ⟨gb234, 1, none⟩ = some (.slice none 0 0) := (blk_cell BK234.out 1).trans rfl; have hfz35_0 := blk_frozen BK234.out 0; have hfz35_1 := blk_frozen BK234.out 1; obtain ⟨Ao36, co36, eo36⟩ := Kd.N_slice HO232.out; subst eo36))
        (try simp only [Act.put, List.setIfInBounds_toArray, List.set_cons_zero, List.set_cons_succ])
        go_cut [68] (fun v68 wc => ∃ (kq : Nat) (x68_28 : Bool), v68 = .bool x68_28 ∧ Aside0 (perm_CheckChain.j1 kq x68_28 a0_0 l0_1 t229 t230 = some r) ∧ Aside0 (kq ≤ k1) ∧ Aside0 (Kd.V k74 74 wc w.heap.size (fun k_ => (P0_1_ k_ ∨ w.heap.size ≤ k_) ∧ some k_ ≠ ((.slice Ao36 t230.length co36) : Value).ownBlock ∧ k_ ≠ gb222 ∧ k_ ≠ gb234) (.slice A0_1 l0_1.length c0_1) l0_1) ∧ Aside0 (Kd.N k74 74 wc w.heap.size (fun k_ => (P0_1_ k_ ∨ w.heap.size ≤ k_) ∧ k_ ≠ gb222 ∧ k_ ≠ gb234) (.slice Ao36 t230.length co36) t230) ∧ Aside0 (wc.heap[gb222]? = some (.cells #[.int .i64 a0_0, (.slice A0_1 l0_1.length c0_1)] 46 (0, 0))) ∧ Aside0 (wc.heap[gb234]? = some (.cells #[.int .i64 t229, (.slice Ao36 t230.length co36)] 46 (0, 0))) ∧ Aside0 (Below w.heap.size w wc))
        case first =>
          have H := HC29.out; clear HC29
          by_cases c37 : t233 = 0
          · rw [if_pos c37] at H; have c37b0 := beq_iff_eq.mpr c37; have c37b1 := bne_eq_false_iff_eq.mpr c37; clear c37
            (first | rw [c37b0] | (simp only [i64_w, i32_w]; rw [c37b0]) | skip)
            have H' := aM H; clear H; have hnb38 := NB234_222.out; have hnc38 := NB222_234.out; have hcz39_0 : w33.cell? ⟨gb234, 0, none⟩ = some (.int .i64 0) := (blk_cell BK234.out 0).trans rfl; have hcz39_1 : w33.cell? ⟨gb234, 1, none⟩ = some (.slice none 0 0) := (blk_cell BK234.out 1).trans rfl; have hfz39_0 := blk_frozen BK234.out 0; have hfz39_1 := blk_frozen BK234.out 1; have hcz40_0 : w33.cell? ⟨gb222, 0, none⟩ = some (.int .i64 a0_0) := (blk_cell BK222.out 0).trans rfl; have hcz40_1 : w33.cell? ⟨gb222, 1, none⟩ = some (.slice A0_1 l0_1.length c0_1) := (blk_cell BK222.out 1).trans rfl; have hfz40_0 := blk_frozen BK222.out 0; have hfz40_1 := blk_frozen BK222.out 1; go_wp2; go_meet
            case rel => exact ⟨_, (((t230.length : Int) != (l0_1.length : Int))), zz136, H', ⟨zz134⟩, ⟨by (with_reducible repeat (first | apply Kd.V_alloc | apply Kd.V_drewN | apply Kd.V_drew)); exact Kd.V_mono (Kd.V_far (p := ⟨gb234, 1, none⟩) (Kd.V_far (p := ⟨gb234, 0, none⟩) (Kd.V_mono HO_223001.out (fun k_ hk => (⟨hk, hk.2⟩ : _ ∧ k_ ≠ gb234))) (fun _ hk => hk.2) (.int .i64 t229)) (fun _ hk => hk.2) (.slice Ao36 t230.length co36)) (fun _ hk => ⟨hk.1.1.1.1, ⟨hk.1.1.2, ⟨hk.1.1.1.2.2, hk.1.2⟩⟩⟩)⟩, ⟨by (with_reducible repeat (first | apply Kd.N_alloc | apply Kd.N_drewN | apply Kd.N_drew)); exact Kd.N_mono (Kd.N_far (p := ⟨gb234, 1, none⟩) (Kd.N_far (p := ⟨gb234, 0, none⟩) (Kd.N_mono HO232.out (fun k_ hk => (⟨hk, hk.2⟩ : _ ∧ k_ ≠ gb234))) (fun _ hk => hk.2) (.int .i64 t229)) (fun _ hk => hk.2) (.slice Ao36 t230.length co36)) (fun _ hk => ⟨hk.1.1.1, ⟨hk.1.1.2.2, hk.1.2⟩⟩)⟩, ⟨zz61⟩, ⟨zz59⟩, ⟨zz80⟩⟩
          rw [if_neg c37] at H; have c37b0 := beq_eq_false_iff_ne.mpr c37; have c37b1 := bne_iff_ne.mpr c37
          (first | rw [c37b0] | (simp only [i64_w, i32_w]; rw [c37b0]) | skip)
          have H' := aM H; clear H; go_wp2; go_meet
          case rel => exact ⟨_, (true), zz136, H', ⟨zz134⟩, ⟨by (with_reducible repeat (first | apply Kd.V_alloc | apply Kd.V_drewN | apply Kd.V_drew)); exact Kd.V_mono (Kd.V_far (p := ⟨gb234, 1, none⟩) (Kd.V_far (p := ⟨gb234, 0, none⟩) (Kd.V_mono HO_223001.out (fun k_ hk => (⟨hk, hk.2⟩ : _ ∧ k_ ≠ gb234))) (fun _ hk => hk.2) (.int .i64 t229)) (fun _ hk => hk.2) (.slice Ao36 t230.length co36)) (fun _ hk => ⟨hk.1.1.1.1, ⟨hk.1.1.2, ⟨hk.1.1.1.2.2, hk.1.2⟩⟩⟩)⟩, ⟨by (with_reducible repeat (first | apply Kd.N_alloc | apply Kd.N_drewN | apply Kd.N_drew)); exact Kd.N_mono (Kd.N_far (p := ⟨gb234, 1, none⟩) (Kd.N_far (p := ⟨gb234, 0, none⟩) (Kd.N_mono HO232.out (fun k_ hk => (⟨hk, hk.2⟩ : _ ∧ k_ ≠ gb234))) (fun _ hk => hk.2) (.int .i64 t229)) (fun _ hk => hk.2) (.slice Ao36 t230.length co36)) (fun _ hk => ⟨hk.1.1.1, ⟨hk.1.1.2.2, hk.1.2⟩⟩)⟩, ⟨zz61⟩, ⟨zz59⟩, ⟨zz80⟩⟩
        case rest =>
          clear HC29; (try clear c1); (try clear c2); (try clear p2); (try clear q2); (try clear hx2); (try clear c3); (try clear c3b0); (try clear c3b1); (try clear c4); (try clear c4b0); (try clear c5); (try clear p6); (try clear c9); (try clear c9b0); (try clear c10); (try clear c10b0); (try clear c11); (try clear c11b0); (try clear c12); (try clear c12b0); (try clear c14); (try clear c17); (try clear c17b0); (try clear c17b1); (try clear c17b2); (try clear c18); (try clear c20); (try clear c22); (try clear p22); (try clear q22); (try clear hx22); (try clear c25); (try clear c30); (try clear c34); (try clear c36); (try clear c37); (try clear c37b0); (try clear c37b1); (try clear c38); (try clear hcz15_0); (try clear hcz15_1); (try clear hcz15_2); (try clear hcz16_0); (try clear hcz16_1); (try clear hcz21_0); (try clear hcz21_1); (try clear hcz21_2); (try clear hcz22_0); (try clear hcz22_1); (try clear hcz26_0); (try clear hcz26_1); (try clear hcz26_2); (try clear hcz27_0); (try clear hcz27_1); (try clear hcz30_0); (try clear hcz30_1); (try clear hcz35_0); (try clear hcz35_1); (try clear hcz39_0); (try clear hcz39_1); (try clear hcz40_0); (try clear hcz40_1); (try clear hcz6_0); (try clear hcz6_1); (try clear hcz8_0); (try clear hcz8_1); (try clear hfz15_0); (try clear hfz15_1); (try clear hfz15_2); (try clear hfz16_0); (try clear hfz16_1); (try clear hfz21_0); (try clear hfz21_1); (try clear hfz21_2); (try clear hfz22_0); (try clear hfz22_1); (try clear hfz26_0); (try clear hfz26_1); (try clear hfz26_2); (try clear hfz27_0); (try clear hfz27_1); (try clear hfz30_0); (try clear hfz30_1); (try clear hfz35_0); (try clear hfz35_1); (try clear hfz39_0); (try clear hfz39_1); (try clear hfz40_0); (try clear hfz40_1); (try clear hfz6_0); (try clear hfz6_1); (try clear hfz8_0); (try clear hfz8_1); (try clear hx224_0); (try clear hx224_1); (try clear hx224_2); (try clear p2); (try clear p224); (try clear q224); obtain ⟨kq, x68_28, rfl, HA, HJ28, HO_223001, HO_235001, BK222, BK234, HB⟩ := hcut
          cases kq with
          | zero => exact absurd HA.out (by simp [perm_CheckChain.j1])
          | succ kj28 =>
            have H := HA.out; clear HA; simp only [perm_CheckChain.j1] at H
            by_cases c41 : x68_28 = true
            · subst c41; have H1 : (some 5) = some r := by rw [if_pos rfl] at H; exact H
              clear H; have H := H1; clear H1; obtain rfl := Option.some.inj H; go_wp2; go_ret
              exact ⟨by first | rfl | (simp [errW_none, errW_some] <;> rfl) | (simp [*, errW_none, errW_some] <;> rfl), by repeat (first | (with_reducible first | exact HB.out | apply below_alloc | apply pw_below_drewN | apply below_drew1 | refine below_set ?_ GE222.out | refine below_set ?_ GE234.out) | exact HB.out)⟩
            replace c41 := Bool.eq_false_iff.mpr c41; subst c41; have H1 : (perm_CheckChain.l1 kj28 l0_1 (l0_1.length : Int) 0 t229 t230) = some r := by rw [if_neg (show ¬ (false = true) by decide)] at H; exact H
            clear H; have H := H1; clear H1; have H' := aM H; clear H; have hnb42 := NB222_234.out; have hnc42 := NB234_222.out; have hcz43_0 : wc.cell? ⟨gb222, 0, none⟩ = some (.int .i64 a0_0) := (blk_cell BK222.out 0).trans rfl; have hcz43_1 : wc.cell? ⟨gb222, 1, none⟩ = some (.slice A0_1 l0_1.length c0_1) := (blk_cell BK222.out 1).trans rfl; have hfz43_0 := blk_frozen BK222.out 0; have hfz43_1 := blk_frozen BK222.out 1; go_wp2
            go_loopg [72] kj28 (fun kq v72 w' => ∃ (x72_3 : Int), v72 = .int .i64 x72_3 ∧ Aside0 (perm_CheckChain.l1 kq l0_1 (l0_1.length : Int) x72_3 t229 t230 = some r) ∧ Aside0 (kq ≤ kj28) ∧ Aside0 (Kd.V k74 74 w' w.heap.size (fun k_ => (P0_1_ k_ ∨ w.heap.size ≤ k_) ∧ some k_ ≠ ((.slice Ao36 t230.length co36) : Value).ownBlock ∧ k_ ≠ gb222 ∧ k_ ≠ gb234) (.slice A0_1 l0_1.length c0_1) l0_1) ∧ Aside0 (Kd.V k74 74 w' w.heap.size (fun k_ => (P0_1_ k_ ∨ w.heap.size ≤ k_) ∧ some k_ ≠ ((.slice Ao36 t230.length co36) : Value).ownBlock ∧ k_ ≠ gb222 ∧ k_ ≠ gb234) (.slice A0_1 l0_1.length c0_1) l0_1) ∧ Aside0 (Kd.N k74 74 w' w.heap.size (fun k_ => (P0_1_ k_ ∨ w.heap.size ≤ k_) ∧ k_ ≠ gb222 ∧ k_ ≠ gb234) (.slice Ao36 t230.length co36) t230) ∧ Aside0 (w'.heap[gb222]? = some (.cells #[.int .i64 a0_0, (.slice A0_1 l0_1.length c0_1)] 46 (0, 0))) ∧ Aside0 (w'.heap[gb234]? = some (.cells #[.int .i64 t229, (.slice Ao36 t230.length co36)] 46 (0, 0))) ∧ Aside0 (Below w.heap.size w w'))
            case atStart => exact ⟨(0), zz136, H', ⟨Nat.le_refl _⟩, ⟨(zV HO_223001)⟩, ⟨(zV HO_223001)⟩, ⟨(zN HO_235001)⟩, ⟨(zB BK222)⟩, ⟨(zB BK234)⟩, ⟨zz80⟩⟩
            case round =>
              clear H'; (try clear c1); (try clear c2); (try clear p2); (try clear q2); (try clear hx2); (try clear c3); (try clear c3b0); (try clear c3b1); (try clear c4); (try clear c4b0); (try clear c5); (try clear p6); (try clear c9); (try clear c9b0); (try clear c10); (try clear c10b0); (try clear c11); (try clear c11b0); (try clear c12); (try clear c12b0); (try clear c14); (try clear c17); (try clear c17b0); (try clear c17b1); (try clear c17b2); (try clear c18); (try clear c20); (try clear c22); (try clear p22); (try clear q22); (try clear hx22); (try clear c25); (try clear c30); (try clear c34); (try clear c36); (try clear c37); (try clear c37b0); (try clear c37b1); (try clear c38); (try clear c41); (try clear c42); (try clear hcz15_0); (try clear hcz15_1); (try clear hcz15_2); (try clear hcz16_0); (try clear hcz16_1); (try clear hcz21_0); (try clear hcz21_1); (try clear hcz21_2); (try clear hcz22_0); (try clear hcz22_1); (try clear hcz26_0); (try clear hcz26_1); (try clear hcz26_2); (try clear hcz27_0); (try clear hcz27_1); (try clear hcz30_0); (try clear hcz30_1); (try clear hcz35_0); (try clear hcz35_1); (try clear hcz39_0); (try clear hcz39_1); (try clear hcz40_0); (try clear hcz40_1); (try clear hcz43_0); (try clear hcz43_1); (try clear hcz6_0); (try clear hcz6_1); (try clear hcz8_0); (try clear hcz8_1); (try clear hfz15_0); (try clear hfz15_1); (try clear hfz15_2); (try clear hfz16_0); (try clear hfz16_1); (try clear hfz21_0); (try clear hfz21_1); (try clear hfz21_2); (try clear hfz22_0); (try clear hfz22_1); (try clear hfz26_0); (try clear hfz26_1); (try clear hfz26_2); (try clear hfz27_0); (try clear hfz27_1); (try clear hfz30_0); (try clear hfz30_1); (try clear hfz35_0); (try clear hfz35_1); (try clear hfz39_0); (try clear hfz39_1); (try clear hfz40_0); (try clear hfz40_1); (try clear hfz43_0); (try clear hfz43_1); (try clear hfz6_0); (try clear hfz6_1); (try clear hfz8_0); (try clear hfz8_1); (try clear hx224_0); (try clear hx224_1); (try clear hx224_2); (try clear p2); (try clear p22); (try clear p224); (try clear p6); (try clear q2); (try clear q22); (try clear q224); obtain ⟨x72_3, rfl, HA, HK3, HO_70, HO_223001, HO_235001, BK222, BK234, HB⟩ := hrel
              cases gk with
              | zero => exact absurd HA.out (by simp [perm_CheckChain.l1])
              | succ k3 =>
                have H := HA.out; clear HA; simp only [perm_CheckChain.l1] at H
                by_cases c44 : x72_3 < (l0_1.length : Int)
                · rw [if_pos c44] at H; have c44b0 := decide_eq_true c44; clear c44
                  by_cases c45 : 0 ≤ x72_3
                  · rw [if_pos c45] at H; have c45b0 := decide_eq_true c45; clear c45
                    by_cases c46 : x72_3 < (l0_1.length : Int)
                    · rw [if_pos c46] at H; have c46b0 := decide_eq_true c46; clear c46
                      by_cases c47 : x72_3 < (t230.length : Int)
                      · rw [if_pos c47] at H; have c47b0 := decide_eq_true c47; clear c47
                        by_cases c48 : ((rd_T74 l0_1 x72_3).f0) = ((rd_T74 t230 x72_3).f0)
                        · rw [if_pos c48] at H; have c48b0 := beq_iff_eq.mpr c48; have c48b1 := bne_eq_false_iff_eq.mpr c48; clear c48; replace H := Option.bind_eq_some_iff.mp H; obtain ⟨t239, A490, H⟩ := H; replace H : (if t239 = true then ((slEqF.f ((rd_T74 l0_1 x72_3).f2) ((rd_T74 t230 x72_3).f2)).bind fun t240 => (if t240 = true then (perm_CheckChain.l1 k3 l0_1 (l0_1.length : Int) (wrap64 (x72_3 + 1)) t229 t230) else (some 5))) else (some 5)) = some r := H; have A49 := aM A490; clear A490
                          by_cases c50 : t239 = true
                          · subst c50; have H1 : ((slEqF.f ((rd_T74 l0_1 x72_3).f2) ((rd_T74 t230 x72_3).f2)).bind fun t240 => (if t240 = true then (perm_CheckChain.l1 k3 l0_1 (l0_1.length : Int) (wrap64 (x72_3 + 1)) t229 t230) else (some 5))) = some r := by rw [if_pos rfl] at H; exact H
                            clear H; have H := H1; clear H1; replace H := Option.bind_eq_some_iff.mp H; obtain ⟨t240, A510, H⟩ := H; replace H : (if t240 = true then (perm_CheckChain.l1 k3 l0_1 (l0_1.length : Int) (wrap64 (x72_3 + 1)) t229 t230) else (some 5)) = some r := H; have A51 := aM A510; clear A510
                            by_cases c52 : t240 = true
                            · subst c52; have H1 : (perm_CheckChain.l1 k3 l0_1 (l0_1.length : Int) (wrap64 (x72_3 + 1)) t229 t230) = some r := by rw [if_pos rfl] at H; exact H
                              clear H; have H := H1; clear H1; have H' := aM H; clear H; have p235 : 0 ≤ (x72_3 : Int) := of_decide_eq_true zz135; have q235 : x72_3 < (l0_1.length : Int) := of_decide_eq_true zz135; obtain ⟨ad235, A235_1, c235_1, A235_2, c235_2, e235, hx235_0, hx235_1, hx235_2, hl235_1, hi235_1, hl235_2, hi235_2⟩ := at_T74 (Kd.V_reads' HO_70.out).2.2 x72_3 p235 q235
                              cases e235; obtain ⟨ce235, hce235, hMe235, hcc235⟩ := Kd.V_get HO_70.out z74 x72_3 p235 zz105; obtain ⟨ua235_1, uc235_1, ua235_2, uc235_2, rfl, ul235_1, ge235_1, ul235_2, ge235_2⟩ := k74_openF hMe235; have hv235_1 := hcc235 1 _ rfl; rw [add_field _ _ 1 (by omega)] at hv235_1; replace hv235_1 := Option.some.inj (hv235_1.symm.trans hx235_1); injection hv235_1 with hva_ hvn_ hvc_
                              rw [hva_] at ge235_1; rw [hvc_] at ul235_1; have HL235_1 := aM (show Kd.V (Kd.int .i64) 3 _ w.heap.size _ _ ((rd_T74 l0_1 x72_3).f1) from Kd.V_mk ul235_1 ge235_1); clear hva_ hvn_ hvc_ ge235_1 ul235_1; have hv235_2 := hcc235 2 _ rfl; rw [add_field _ _ 2 (by omega)] at hv235_2; replace hv235_2 := Option.some.inj (hv235_2.symm.trans hx235_2); injection hv235_2 with hva_ hvn_ hvc_
                              rw [hva_] at ge235_2; rw [hvc_] at ul235_2; have HL235_2 := aM (show Kd.V (Kd.slice 3 (Kd.int .i64)) 22 _ w.heap.size _ _ ((rd_T74 l0_1 x72_3).f2) from Kd.V_mk ul235_2 ge235_2); clear hva_ hvn_ hvc_ ge235_2 ul235_2; clear hcc235 hce235; have HR235_1 := aM hi235_1; have HC235_1 := aM hl235_1; clear hi235_1 hl235_1; have HR235_2 := aM hi235_2; have HC235_2 := aM hl235_2; clear hi235_2 hl235_2; replace p235 := eq_true p235; replace q235 := eq_true q235
                              go_wp2_with (first | ((with_reducible refine gate_dst (N := 10) rfl ?_); (try (refine gate_guard (by rfl) ?_; dsimp only)); refine box_event ?hg (N := 10) ?hd (cs := #[.int .i64 0, .slice none 0 0, .slice none 0 0]) (t := 74) ?hr ?_; (case hd => rfl); (case hg => rfl); (case hr => first | (go_simp; done) | (go_simp; rfl)); intro gb236 hg w53 hbox hb; replace HO_70 := aM (Kd.V_below (Kd.V_elderB (zV HO_70) gb236 (Nat.le_of_eq hg.symm)) hb); replace HO_223001 := aM (Kd.V_below (Kd.V_elderB (zV HO_223001) gb236 (Nat.le_of_eq hg.symm)) hb); replace HO_235001 := aM (Kd.N_below (Kd.N_elderB (zN HO_235001) gb236 (Nat.le_of_eq hg.symm)) hb); replace HR235_1 := aM (Kd.C_below zz69 hb); replace HL235_1 := aM (Kd.V_below (Kd.V_elderB (zV HL235_1) gb236 (Nat.le_of_eq hg.symm)) hb); replace HR235_2 := aM (Kd.C_below zz70 hb); replace HL235_2 := aM (Kd.V_below (Kd.V_elderB (zV HL235_2) gb236 (Nat.le_of_eq hg.symm)) hb); have BK236 := aM (hbox); have GW236 := aM ((by rw [hg]; exact (below_size zz80) : w.heap.size ≤ gb236)); have GE236 := aM ((by rw [hg]; exact (below_size zz80) : w.heap.size ≤ gb236)); replace HB := aM (below_step zz80 hb); have NB222_236 := aM ((by rw [hg]; exact Nat.ne_of_lt (blk_lt (g := gb222) (o := .cells #[.int .i64 a0_0, .slice (some ad235) l0_1.length c0_1] 46 (0, 0)) (zB BK222)) : gb222 ≠ gb236)); have NB236_222 := aM ((by rw [hg]; exact Nat.ne_of_gt (blk_lt (g := gb222) (o := .cells #[.int .i64 a0_0, .slice (some ad235) l0_1.length c0_1] 46 (0, 0)) (zB BK222)) : gb236 ≠ gb222)); replace BK222 := aM (blk_below (g := gb222) (o := .cells #[.int .i64 a0_0, .slice (some ad235) l0_1.length c0_1] 46 (0, 0)) (zB BK222) hb); have NB234_236 := aM ((by rw [hg]; exact Nat.ne_of_lt (blk_lt (g := gb234) (o := .cells #[.int .i64 t229, .slice Ao36 t230.length co36] 46 (0, 0)) (zB BK234)) : gb234 ≠ gb236)); have NB236_234 := aM ((by rw [hg]; exact Nat.ne_of_gt (blk_lt (g := gb234) (o := .cells #[.int .i64 t229, .slice Ao36 t230.length co36] 46 (0, 0)) (zB BK234)) : gb236 ≠ gb234)); replace BK234 := aM (blk_below (g := gb234) (o := .cells #[.int .i64 t229, .slice Ao36 t230.length co36] 46 (0, 0)) (zB BK234) hb); clear hb hbox hg; have hnb54 := NB236_222.out; have hnc54 := NB222_236.out; have hnb55 := NB236_234.out; have hnc55 := NB234_236.out; have hcz56_0 : w53.cell? ⟨gb236, 0, none⟩ = some (.int .i64 0) := (blk_cell BK236.out 0).trans rfl; have hcz56_1 : w53.cell? ⟨gb236, 1, none⟩ = some (.slice none 0 0) := (blk_cell BK236.out 1).trans rfl; have hcz56_2 : w53.cell? ⟨gb236, 2, none⟩ = some (.slice none 0 0) := (blk_cell BK236.out 2).trans rfl; have hfz56_0 := blk_frozen BK236.out 0; have hfz56_1 := blk_frozen BK236.out 1; have hfz56_2 := blk_frozen BK236.out 2) | ((with_reducible refine gate_store (t := 74) (p := 10) rfl ?_); refine store_event (t := 74) (p := 10) (v := ?vo_w57) (w1 := (((w53.setCell ⟨gb236, 0, none⟩ (.int .i64 ((rd_T74 l0_1 x72_3).f0))).setCell ⟨gb236, 1, none⟩ (.slice A235_1 ((rd_T74 l0_1 x72_3).f1).length c235_1)).setCell ⟨gb236, 2, none⟩ (.slice A235_2 ((rd_T74 l0_1 x72_3).f2).length c235_2))) ?hg ?ho ?hn ?hr ?_; (case ho => rfl); (case hg => rfl); (case hn => rfl); (case hr => first | (go_simp; done) | (go_simp; rfl)); intro w57 hw; have n0_ : Aside0 (Kd.V k74 74 w57 w.heap.size (fun k_ => (P0_1_ k_ ∨ w.heap.size ≤ k_) ∧ some k_ ≠ (.slice Ao36 t230.length co36 : Value).ownBlock ∧ k_ ≠ gb222 ∧ k_ ≠ gb234 ∧ k_ ≠ gb236) (.slice (some ad235) l0_1.length c0_1) l0_1) := ⟨zz31⟩; have n1_ : Aside0 (Kd.V k74 74 w57 w.heap.size (fun k_ => (P0_1_ k_ ∨ w.heap.size ≤ k_) ∧ some k_ ≠ (.slice Ao36 t230.length co36 : Value).ownBlock ∧ k_ ≠ gb222 ∧ k_ ≠ gb234 ∧ k_ ≠ gb236) (.slice (some ad235) l0_1.length c0_1) l0_1) := ⟨zz28⟩; have n2_ : Aside0 (Kd.N k74 74 w57 w.heap.size (fun k_ => (P0_1_ k_ ∨ w.heap.size ≤ k_) ∧ k_ ≠ gb222 ∧ k_ ≠ gb234 ∧ k_ ≠ gb236) (.slice Ao36 t230.length co36) t230) := ⟨zz32⟩; have n3_ : Aside0 (Kd.V (Kd.int .i64) 3 w57 w.heap.size (fun k_ => (P0_1_ k_ ∨ w.heap.size ≤ k_) ∧ some k_ ≠ (.slice Ao36 t230.length co36 : Value).ownBlock ∧ k_ ≠ gb222 ∧ k_ ≠ gb234 ∧ k_ ≠ gb236) (.slice A235_1 ((rd_T74 l0_1 x72_3).f1).length c235_1) ((rd_T74 l0_1 x72_3).f1)) := ⟨zz29⟩; have n4_ : Aside0 (Kd.V (Kd.slice 3 (Kd.int .i64)) 22 w57 w.heap.size (fun k_ => (P0_1_ k_ ∨ w.heap.size ≤ k_) ∧ some k_ ≠ (.slice Ao36 t230.length co36 : Value).ownBlock ∧ k_ ≠ gb222 ∧ k_ ≠ gb234 ∧ k_ ≠ gb236) (.slice A235_2 ((rd_T74 l0_1 x72_3).f2).length c235_2) ((rd_T74 l0_1 x72_3).f2)) := ⟨zz30⟩; have n5_ : Aside0 (w57.heap[gb222]? = some (.cells #[.int .i64 a0_0, .slice (some ad235) l0_1.length c0_1] 46 (0, 0))) := ⟨zz37⟩; have n6_ : Aside0 (w57.heap[gb234]? = some (.cells #[.int .i64 t229, .slice Ao36 t230.length co36] 46 (0, 0))) := ⟨zz38⟩; have n7_ : Aside0 (w57.heap[gb236]? = some (.cells #[.int .i64 ((rd_T74 l0_1 x72_3).f0), .slice A235_1 ((rd_T74 l0_1 x72_3).f1).length c235_1, .slice A235_2 ((rd_T74 l0_1 x72_3).f2).length c235_2] 74 (0, 0))) := ⟨zz10⟩; have n8_ : Aside0 (Below w.heap.size w w57) := ⟨zz66⟩; clear hw; clear HO_70; clear HO_223001; clear HO_235001; clear HL235_1; clear HL235_2; clear BK222; clear BK234; clear BK236; clear HB; have HO_70 := n0_; have HO_223001 := n1_; have HO_235001 := n2_; have HL235_1 := n3_; have HL235_2 := n4_; have BK222 := n5_; have BK234 := n6_; have BK236 := n7_; have HB := n8_; clear n0_ n1_ n2_ n3_ n4_ n5_ n6_ n7_ n8_; have hnb58 := NB234_222.out; have hnc58 := NB222_234.out; have hcz59_0 : w57.cell? ⟨gb234, 0, none⟩ = some (.int .i64 t229) := (blk_cell BK234.out 0).trans rfl; have hcz59_1 : w57.cell? ⟨gb234, 1, none⟩ = some (.slice Ao36 t230.length co36) := (blk_cell BK234.out 1).trans rfl; have hfz59_0 := blk_frozen BK234.out 0; have hfz59_1 := blk_frozen BK234.out 1; have p237 : 0 ≤ (x72_3 : Int) := of_decide_eq_true zz135; have q237 : x72_3 < (t230.length : Int) := of_decide_eq_true zz135; obtain ⟨ad237, A237_1, c237_1, A237_2, c237_2, e237, hx237_0, hx237_1, hx237_2, hl237_1, hi237_1, hl237_2, hi237_2⟩ := at_T74 (Kd.N_reads' HO_235001.out).2.2 x72_3 p237 q237; cases e237; obtain ⟨ce237, hce237, hMe237, hcc237⟩ := Kd.N_get HO_235001.out z74 x72_3 p237 zz103; obtain ⟨ua237_1, uc237_1, ua237_2, uc237_2, rfl, ul237_1, ge237_1, ul237_2, ge237_2⟩ := k74_openF hMe237; have hv237_1 := hcc237 1 _ rfl; rw [add_field _ _ 1 (by omega)] at hv237_1; replace hv237_1 := Option.some.inj (hv237_1.symm.trans hx237_1); injection hv237_1 with hva_ hvn_ hvc_; rw [hva_] at ge237_1; rw [hvc_] at ul237_1; have HL237_1 := aM (show Kd.V (Kd.int .i64) 3 _ w.heap.size _ _ ((rd_T74 t230 x72_3).f1) from Kd.V_mk ul237_1 ge237_1); clear hva_ hvn_ hvc_ ge237_1 ul237_1; have hv237_2 := hcc237 2 _ rfl; rw [add_field _ _ 2 (by omega)] at hv237_2; replace hv237_2 := Option.some.inj (hv237_2.symm.trans hx237_2); injection hv237_2 with hva_ hvn_ hvc_; rw [hva_] at ge237_2; rw [hvc_] at ul237_2; have HL237_2 := aM (show Kd.V (Kd.slice 3 (Kd.int .i64)) 22 _ w.heap.size _ _ ((rd_T74 t230 x72_3).f2) from Kd.V_mk ul237_2 ge237_2); clear hva_ hvn_ hvc_ ge237_2 ul237_2; clear hcc237 hce237; have HR237_1 := aM hi237_1; have HC237_1 := aM hl237_1; clear hi237_1 hl237_1; have HR237_2 := aM hi237_2; have HC237_2 := aM hl237_2; clear hi237_2 hl237_2; replace p237 := eq_true p237; replace q237 := eq_true q237) | ((with_reducible refine gate_dst (N := 11) rfl ?_); (try (refine gate_guard (by rfl) ?_; dsimp only)); refine box_event ?hg (N := 11) ?hd (cs := #[.int .i64 0, .slice none 0 0, .slice none 0 0]) (t := 74) ?hr ?_; (case hd => rfl); (case hg => rfl); (case hr => first | (go_simp; done) | (go_simp; rfl)); intro gb238 hg w60 hbox hb; replace HO_70 := aM (Kd.V_below (Kd.V_elderB (zV HO_70) gb238 (Nat.le_of_eq hg.symm)) hb); replace HO_223001 := aM (Kd.V_below (Kd.V_elderB (zV HO_223001) gb238 (Nat.le_of_eq hg.symm)) hb); replace HO_235001 := aM (Kd.N_below (Kd.N_elderB (zN HO_235001) gb238 (Nat.le_of_eq hg.symm)) hb); replace HR235_1 := aM (Kd.C_below zz69 hb); replace HL235_1 := aM (Kd.V_below (Kd.V_elderB (zV HL235_1) gb238 (Nat.le_of_eq hg.symm)) hb); replace HR235_2 := aM (Kd.C_below zz70 hb); replace HL235_2 := aM (Kd.V_below (Kd.V_elderB (zV HL235_2) gb238 (Nat.le_of_eq hg.symm)) hb); replace HR237_1 := aM (Kd.C_below zz71 hb); replace HL237_1 := aM (Kd.V_below (Kd.V_elderB (zV HL237_1) gb238 (Nat.le_of_eq hg.symm)) hb); replace HR237_2 := aM (Kd.C_below zz72 hb); replace HL237_2 := aM (Kd.V_below (Kd.V_elderB (zV HL237_2) gb238 (Nat.le_of_eq hg.symm)) hb); have BK238 := aM (hbox); have GW238 := aM ((by rw [hg]; exact (below_size zz75) : w.heap.size ≤ gb238)); have GE238 := aM ((by rw [hg]; exact (below_size zz75) : w.heap.size ≤ gb238)); replace HB := aM (below_step zz75 hb); have NB222_238 := aM ((by rw [hg]; exact Nat.ne_of_lt (blk_lt (g := gb222) (o := .cells #[.int .i64 a0_0, .slice (some ad235) l0_1.length c0_1] 46 (0, 0)) (zB BK222)) : gb222 ≠ gb238)); have NB238_222 := aM ((by rw [hg]; exact Nat.ne_of_gt (blk_lt (g := gb222) (o := .cells #[.int .i64 a0_0, .slice (some ad235) l0_1.length c0_1] 46 (0, 0)) (zB BK222)) : gb238 ≠ gb222)); replace BK222 := aM (blk_below (g := gb222) (o := .cells #[.int .i64 a0_0, .slice (some ad235) l0_1.length c0_1] 46 (0, 0)) (zB BK222) hb); have NB234_238 := aM ((by rw [hg]; exact Nat.ne_of_lt (blk_lt (g := gb234) (o := .cells #[.int .i64 t229, .slice (some ad237) t230.length co36] 46 (0, 0)) (zB BK234)) : gb234 ≠ gb238)); have NB238_234 := aM ((by rw [hg]; exact Nat.ne_of_gt (blk_lt (g := gb234) (o := .cells #[.int .i64 t229, .slice (some ad237) t230.length co36] 46 (0, 0)) (zB BK234)) : gb238 ≠ gb234)); replace BK234 := aM (blk_below (g := gb234) (o := .cells #[.int .i64 t229, .slice (some ad237) t230.length co36] 46 (0, 0)) (zB BK234) hb); have NB236_238 := aM ((by rw [hg]; exact Nat.ne_of_lt (blk_lt (g := gb236) (o := .cells #[.int .i64 ((rd_T74 l0_1 x72_3).f0), .slice A235_1 ((rd_T74 l0_1 x72_3).f1).length c235_1, .slice A235_2 ((rd_T74 l0_1 x72_3).f2).length c235_2] 74 (0, 0)) (zB BK236)) : gb236 ≠ gb238)); have NB238_236 := aM ((by rw [hg]; exact Nat.ne_of_gt (blk_lt (g := gb236) (o := .cells #[.int .i64 ((rd_T74 l0_1 x72_3).f0), .slice A235_1 ((rd_T74 l0_1 x72_3).f1).length c235_1, .slice A235_2 ((rd_T74 l0_1 x72_3).f2).length c235_2] 74 (0, 0)) (zB BK236)) : gb238 ≠ gb236)); replace BK236 := aM (blk_below (g := gb236) (o := .cells #[.int .i64 ((rd_T74 l0_1 x72_3).f0), .slice A235_1 ((rd_T74 l0_1 x72_3).f1).length c235_1, .slice A235_2 ((rd_T74 l0_1 x72_3).f2).length c235_2] 74 (0, 0)) (zB BK236) hb); clear hb hbox hg; have hnb61 := NB238_222.out; have hnc61 := NB222_238.out; have hnb62 := NB238_234.out; have hnc62 := NB234_238.out; have hnb63 := NB238_236.out; have hnc63 := NB236_238.out; have hcz64_0 : w60.cell? ⟨gb238, 0, none⟩ = some (.int .i64 0) := (blk_cell BK238.out 0).trans rfl; have hcz64_1 : w60.cell? ⟨gb238, 1, none⟩ = some (.slice none 0 0) := (blk_cell BK238.out 1).trans rfl; have hcz64_2 : w60.cell? ⟨gb238, 2, none⟩ = some (.slice none 0 0) := (blk_cell BK238.out 2).trans rfl; have hfz64_0 := blk_frozen BK238.out 0; have hfz64_1 := blk_frozen BK238.out 1; have hfz64_2 := blk_frozen BK238.out 2; have hcz65_0 : w60.cell? ⟨gb236, 0, none⟩ = some (.int .i64 ((rd_T74 l0_1 x72_3).f0)) := (blk_cell BK236.out 0).trans rfl; have hcz65_1 : w60.cell? ⟨gb236, 1, none⟩ = some (.slice A235_1 ((rd_T74 l0_1 x72_3).f1).length c235_1) := (blk_cell BK236.out 1).trans rfl; have hcz65_2 : w60.cell? ⟨gb236, 2, none⟩ = some (.slice A235_2 ((rd_T74 l0_1 x72_3).f2).length c235_2) := (blk_cell BK236.out 2).trans rfl; have hfz65_0 := blk_frozen BK236.out 0; have hfz65_1 := blk_frozen BK236.out 1; have hfz65_2 := blk_frozen BK236.out 2) | (go_at_call 65; (with_reducible refine (slEq.calls k3 _ _ ((rd_T74 l0_1 x72_3).f1) _ _ ((rd_T74 t230 x72_3).f1) true _ ?side1 ?side2 ?side3 ?side4 A49.out).mono ?_); (case side1 => repeat (first | exact ((Kd.V_reads' zz52).2.2) | (with_reducible refine Kd.C_alloc ?_ _) | (with_reducible refine Kd.C_drewN ?_ _) | (with_reducible refine Kd.C_drew ?_))); (case side2 => exact HC235_1.out); (case side3 => repeat (first | exact ((Kd.V_reads' zz53).2.2) | (with_reducible refine Kd.C_alloc ?_ _) | (with_reducible refine Kd.C_drewN ?_ _) | (with_reducible refine Kd.C_drew ?_))); (case side4 => exact HC237_1.out); rintro e w' ⟨rfl, ⟨nd, rfl⟩⟩) | (go_at_call 66; (with_reducible refine (slEqF.calls _ _ ((rd_T74 l0_1 x72_3).f2) _ _ ((rd_T74 t230 x72_3).f2) true _ ?side1 ?side2 ?side3 ?side4 A51.out).mono ?_); (case side1 => repeat (first | exact ((Kd.V_reads' zz54).2.2) | (with_reducible refine Kd.C_alloc ?_ _) | (with_reducible refine Kd.C_drewN ?_ _) | (with_reducible refine Kd.C_drew ?_))); (case side2 => exact HC235_2.out); (case side3 => repeat (first | exact ((Kd.V_reads' zz55).2.2) | (with_reducible refine Kd.C_alloc ?_ _) | (with_reducible refine Kd.C_drewN ?_ _) | (with_reducible refine Kd.C_drew ?_))); (case side4 => exact HC237_2.out); rintro e w' ⟨rfl, ⟨nd, rfl⟩⟩))
                              go_roundg k3
                              case measure => have := HK1.out; have := HJ28.out; have := HK3.out; omega
                              case rel => exact ⟨(wrap64 (x72_3 + 1)), zz136, H', ⟨(by have := HK1.out; have := HJ28.out; have := HK3.out; omega)⟩, ⟨by (with_reducible repeat (first | apply Kd.V_alloc | apply Kd.V_drewN | apply Kd.V_drew)); exact Kd.V_mono (Kd.V_far (p := ⟨gb238, 2, none⟩) (Kd.V_far (p := ⟨gb238, 1, none⟩) (Kd.V_far (p := ⟨gb238, 0, none⟩) (Kd.V_mono HO_70.out (fun k_ hk => (⟨hk, hk.2⟩ : _ ∧ k_ ≠ gb238))) (fun _ hk => hk.2) (.int .i64 ((rd_T74 t230 x72_3).f0))) (fun _ hk => hk.2) (.slice A237_1 ((rd_T74 t230 x72_3).f1).length c237_1)) (fun _ hk => hk.2) (.slice A237_2 ((rd_T74 t230 x72_3).f2).length c237_2)) (fun _ hk => ⟨hk.1.1.1, ⟨hk.1.1.2.1, ⟨hk.1.1.2.2.1, hk.1.1.2.2.2.1⟩⟩⟩)⟩, ⟨by (with_reducible repeat (first | apply Kd.V_alloc | apply Kd.V_drewN | apply Kd.V_drew)); exact Kd.V_mono (Kd.V_far (p := ⟨gb238, 2, none⟩) (Kd.V_far (p := ⟨gb238, 1, none⟩) (Kd.V_far (p := ⟨gb238, 0, none⟩) (Kd.V_mono HO_223001.out (fun k_ hk => (⟨hk, hk.2⟩ : _ ∧ k_ ≠ gb238))) (fun _ hk => hk.2) (.int .i64 ((rd_T74 t230 x72_3).f0))) (fun _ hk => hk.2) (.slice A237_1 ((rd_T74 t230 x72_3).f1).length c237_1)) (fun _ hk => hk.2) (.slice A237_2 ((rd_T74 t230 x72_3).f2).length c237_2)) (fun _ hk => ⟨hk.1.1.1, ⟨hk.1.1.2.1, ⟨hk.1.1.2.2.1, hk.1.1.2.2.2.1⟩⟩⟩)⟩, ⟨by (with_reducible repeat (first | apply Kd.N_alloc | apply Kd.N_drewN | apply Kd.N_drew)); exact Kd.N_mono (Kd.N_far (p := ⟨gb238, 2, none⟩) (Kd.N_far (p := ⟨gb238, 1, none⟩) (Kd.N_far (p := ⟨gb238, 0, none⟩) (Kd.N_mono HO_235001.out (fun k_ hk => (⟨hk, hk.2⟩ : _ ∧ k_ ≠ gb238))) (fun _ hk => hk.2) (.int .i64 ((rd_T74 t230 x72_3).f0))) (fun _ hk => hk.2) (.slice A237_1 ((rd_T74 t230 x72_3).f1).length c237_1)) (fun _ hk => hk.2) (.slice A237_2 ((rd_T74 t230 x72_3).f2).length c237_2)) (fun _ hk => ⟨hk.1.1.1, ⟨hk.1.1.2.1, hk.1.1.2.2.1⟩⟩)⟩, ⟨zz47⟩, ⟨zz48⟩, ⟨zz64⟩⟩
                            replace c52 := Bool.eq_false_iff.mpr c52; subst c52; have H1 : (some 5) = some r := by rw [if_neg (show ¬ (false = true) by decide)] at H; exact H
                            clear H; have H := H1; clear H1; obtain rfl := Option.some.inj H; have p235 : 0 ≤ (x72_3 : Int) := of_decide_eq_true zz135; have q235 : x72_3 < (l0_1.length : Int) := of_decide_eq_true zz135; obtain ⟨ad235, A235_1, c235_1, A235_2, c235_2, e235, hx235_0, hx235_1, hx235_2, hl235_1, hi235_1, hl235_2, hi235_2⟩ := at_T74 (Kd.V_reads' HO_70.out).2.2 x72_3 p235 q235
                            cases e235; obtain ⟨ce235, hce235, hMe235, hcc235⟩ := Kd.V_get HO_70.out z74 x72_3 p235 zz105; obtain ⟨ua235_1, uc235_1, ua235_2, uc235_2, rfl, ul235_1, ge235_1, ul235_2, ge235_2⟩ := k74_openF hMe235; have hv235_1 := hcc235 1 _ rfl; rw [add_field _ _ 1 (by omega)] at hv235_1; replace hv235_1 := Option.some.inj (hv235_1.symm.trans hx235_1); injection hv235_1 with hva_ hvn_ hvc_
                            rw [hva_] at ge235_1; rw [hvc_] at ul235_1; have HL235_1 := aM (show Kd.V (Kd.int .i64) 3 _ w.heap.size _ _ ((rd_T74 l0_1 x72_3).f1) from Kd.V_mk ul235_1 ge235_1); clear hva_ hvn_ hvc_ ge235_1 ul235_1; have hv235_2 := hcc235 2 _ rfl; rw [add_field _ _ 2 (by omega)] at hv235_2; replace hv235_2 := Option.some.inj (hv235_2.symm.trans hx235_2); injection hv235_2 with hva_ hvn_ hvc_
                            rw [hva_] at ge235_2; rw [hvc_] at ul235_2; have HL235_2 := aM (show Kd.V (Kd.slice 3 (Kd.int .i64)) 22 _ w.heap.size _ _ ((rd_T74 l0_1 x72_3).f2) from Kd.V_mk ul235_2 ge235_2); clear hva_ hvn_ hvc_ ge235_2 ul235_2; clear hcc235 hce235; have HR235_1 := aM hi235_1; have HC235_1 := aM hl235_1; clear hi235_1 hl235_1; have HR235_2 := aM hi235_2; have HC235_2 := aM hl235_2; clear hi235_2 hl235_2; replace p235 := eq_true p235; replace q235 := eq_true q235
                            go_wp2_with (first | ((with_reducible refine gate_dst (N := 10) rfl ?_); (try (refine gate_guard (by rfl) ?_; dsimp only)); refine box_event ?hg (N := 10) ?hd (cs := #[.int .i64 0, .slice none 0 0, .slice none 0 0]) (t := 74) ?hr ?_; (case hd => rfl); (case hg => rfl); (case hr => first | (go_simp; done) | (go_simp; rfl)); intro gb236 hg w66 hbox hb; replace HO_70 := aM (Kd.V_below (Kd.V_elderB (zV HO_70) gb236 (Nat.le_of_eq hg.symm)) hb); replace HO_223001 := aM (Kd.V_below (Kd.V_elderB (zV HO_223001) gb236 (Nat.le_of_eq hg.symm)) hb); replace HO_235001 := aM (Kd.N_below (Kd.N_elderB (zN HO_235001) gb236 (Nat.le_of_eq hg.symm)) hb); replace HR235_1 := aM (Kd.C_below zz69 hb); replace HL235_1 := aM (Kd.V_below (Kd.V_elderB (zV HL235_1) gb236 (Nat.le_of_eq hg.symm)) hb); replace HR235_2 := aM (Kd.C_below zz70 hb); replace HL235_2 := aM (Kd.V_below (Kd.V_elderB (zV HL235_2) gb236 (Nat.le_of_eq hg.symm)) hb); have BK236 := aM (hbox); have GW236 := aM ((by rw [hg]; exact (below_size zz80) : w.heap.size ≤ gb236)); have GE236 := aM ((by rw [hg]; exact (below_size zz80) : w.heap.size ≤ gb236)); replace HB := aM (below_step zz80 hb); have NB222_236 := aM ((by rw [hg]; exact Nat.ne_of_lt (blk_lt (g := gb222) (o := .cells #[.int .i64 a0_0, .slice (some ad235) l0_1.length c0_1] 46 (0, 0)) (zB BK222)) : gb222 ≠ gb236)); have NB236_222 := aM ((by rw [hg]; exact Nat.ne_of_gt (blk_lt (g := gb222) (o := .cells #[.int .i64 a0_0, .slice (some ad235) l0_1.length c0_1] 46 (0, 0)) (zB BK222)) : gb236 ≠ gb222)); replace BK222 := aM (blk_below (g := gb222) (o := .cells #[.int .i64 a0_0, .slice (some ad235) l0_1.length c0_1] 46 (0, 0)) (zB BK222) hb); have NB234_236 := aM ((by rw [hg]; exact Nat.ne_of_lt (blk_lt (g := gb234) (o := .cells #[.int .i64 t229, .slice Ao36 t230.length co36] 46 (0, 0)) (zB BK234)) : gb234 ≠ gb236)); have NB236_234 := aM ((by rw [hg]; exact Nat.ne_of_gt (blk_lt (g := gb234) (o := .cells #[.int .i64 t229, .slice Ao36 t230.length co36] 46 (0, 0)) (zB BK234)) : gb236 ≠ gb234)); replace BK234 := aM (blk_below (g := gb234) (o := .cells #[.int .i64 t229, .slice Ao36 t230.length co36] 46 (0, 0)) (zB BK234) hb); clear hb hbox hg; have hnb67 := NB236_222.out; have hnc67 := NB222_236.out; have hnb68 := NB236_234.out; have hnc68 := NB234_236.out; have hcz69_0 : w66.cell? ⟨gb236, 0, none⟩ = some (.int .i64 0) := (blk_cell BK236.out 0).trans rfl; have hcz69_1 : w66.cell? ⟨gb236, 1, none⟩ = some (.slice none 0 0) := (blk_cell BK236.out 1).trans rfl; have hcz69_2 : w66.cell? ⟨gb236, 2, none⟩ = some (.slice none 0 0) := (blk_cell BK236.out 2).trans rfl; have hfz69_0 := blk_frozen BK236.out 0; have hfz69_1 := blk_frozen BK236.out 1; have hfz69_2 := blk_frozen BK236.out 2) | ((with_reducible refine gate_store (t := 74) (p := 10) rfl ?_); refine store_event (t := 74) (p := 10) (v := ?vo_w70) (w1 := (((w66.setCell ⟨gb236, 0, none⟩ (.int .i64 ((rd_T74 l0_1 x72_3).f0))).setCell ⟨gb236, 1, none⟩ (.slice A235_1 ((rd_T74 l0_1 x72_3).f1).length c235_1)).setCell ⟨gb236, 2, none⟩ (.slice A235_2 ((rd_T74 l0_1 x72_3).f2).length c235_2))) ?hg ?ho ?hn ?hr ?_; (case ho => rfl); (case hg => rfl); (case hn => rfl); (case hr => first | (go_simp; done) | (go_simp; rfl)); intro w70 hw; have n0_ : Aside0 (Kd.V k74 74 w70 w.heap.size (fun k_ => (P0_1_ k_ ∨ w.heap.size ≤ k_) ∧ some k_ ≠ (.slice Ao36 t230.length co36 : Value).ownBlock ∧ k_ ≠ gb222 ∧ k_ ≠ gb234 ∧ k_ ≠ gb236) (.slice (some ad235) l0_1.length c0_1) l0_1) := ⟨zz31⟩; have n1_ : Aside0 (Kd.V k74 74 w70 w.heap.size (fun k_ => (P0_1_ k_ ∨ w.heap.size ≤ k_) ∧ some k_ ≠ (.slice Ao36 t230.length co36 : Value).ownBlock ∧ k_ ≠ gb222 ∧ k_ ≠ gb234 ∧ k_ ≠ gb236) (.slice (some ad235) l0_1.length c0_1) l0_1) := ⟨zz28⟩; have n2_ : Aside0 (Kd.N k74 74 w70 w.heap.size (fun k_ => (P0_1_ k_ ∨ w.heap.size ≤ k_) ∧ k_ ≠ gb222 ∧ k_ ≠ gb234 ∧ k_ ≠ gb236) (.slice Ao36 t230.length co36) t230) := ⟨zz32⟩; have n3_ : Aside0 (Kd.V (Kd.int .i64) 3 w70 w.heap.size (fun k_ => (P0_1_ k_ ∨ w.heap.size ≤ k_) ∧ some k_ ≠ (.slice Ao36 t230.length co36 : Value).ownBlock ∧ k_ ≠ gb222 ∧ k_ ≠ gb234 ∧ k_ ≠ gb236) (.slice A235_1 ((rd_T74 l0_1 x72_3).f1).length c235_1) ((rd_T74 l0_1 x72_3).f1)) := ⟨zz29⟩; have n4_ : Aside0 (Kd.V (Kd.slice 3 (Kd.int .i64)) 22 w70 w.heap.size (fun k_ => (P0_1_ k_ ∨ w.heap.size ≤ k_) ∧ some k_ ≠ (.slice Ao36 t230.length co36 : Value).ownBlock ∧ k_ ≠ gb222 ∧ k_ ≠ gb234 ∧ k_ ≠ gb236) (.slice A235_2 ((rd_T74 l0_1 x72_3).f2).length c235_2) ((rd_T74 l0_1 x72_3).f2)) := ⟨zz30⟩; have n5_ : Aside0 (w70.heap[gb222]? = some (.cells #[.int .i64 a0_0, .slice (some ad235) l0_1.length c0_1] 46 (0, 0))) := ⟨zz37⟩; have n6_ : Aside0 (w70.heap[gb234]? = some (.cells #[.int .i64 t229, .slice Ao36 t230.length co36] 46 (0, 0))) := ⟨zz38⟩; have n7_ : Aside0 (w70.heap[gb236]? = some (.cells #[.int .i64 ((rd_T74 l0_1 x72_3).f0), .slice A235_1 ((rd_T74 l0_1 x72_3).f1).length c235_1, .slice A235_2 ((rd_T74 l0_1 x72_3).f2).length c235_2] 74 (0, 0))) := ⟨zz10⟩; have n8_ : Aside0 (Below w.heap.size w w70) := ⟨zz66⟩; clear hw; clear HO_70; clear HO_223001; clear HO_235001; clear HL235_1; clear HL235_2; clear BK222; clear BK234; clear BK236; clear HB; have HO_70 := n0_; have HO_223001 := n1_; have HO_235001 := n2_; have HL235_1 := n3_; have HL235_2 := n4_; have BK222 := n5_; have BK234 := n6_; have BK236 := n7_; have HB := n8_; clear n0_ n1_ n2_ n3_ n4_ n5_ n6_ n7_ n8_; have hnb71 := NB234_222.out; have hnc71 := NB222_234.out; have hcz72_0 : w70.cell? ⟨gb234, 0, none⟩ = some (.int .i64 t229) := (blk_cell BK234.out 0).trans rfl; have hcz72_1 : w70.cell? ⟨gb234, 1, none⟩ = some (.slice Ao36 t230.length co36) := (blk_cell BK234.out 1).trans rfl; have hfz72_0 := blk_frozen BK234.out 0; have hfz72_1 := blk_frozen BK234.out 1; have p237 : 0 ≤ (x72_3 : Int) := of_decide_eq_true zz135; have q237 : x72_3 < (t230.length : Int) := of_decide_eq_true zz135; obtain ⟨ad237, A237_1, c237_1, A237_2, c237_2, e237, hx237_0, hx237_1, hx237_2, hl237_1, hi237_1, hl237_2, hi237_2⟩ := at_T74 (Kd.N_reads' HO_235001.out).2.2 x72_3 p237 q237; cases e237; obtain ⟨ce237, hce237, hMe237, hcc237⟩ := Kd.N_get HO_235001.out z74 x72_3 p237 zz103; obtain ⟨ua237_1, uc237_1, ua237_2, uc237_2, rfl, ul237_1, ge237_1, ul237_2, ge237_2⟩ := k74_openF hMe237; have hv237_1 := hcc237 1 _ rfl; rw [add_field _ _ 1 (by omega)] at hv237_1; replace hv237_1 := Option.some.inj (hv237_1.symm.trans hx237_1); injection hv237_1 with hva_ hvn_ hvc_; rw [hva_] at ge237_1; rw [hvc_] at ul237_1; have HL237_1 := aM (show Kd.V (Kd.int .i64) 3 _ w.heap.size _ _ ((rd_T74 t230 x72_3).f1) from Kd.V_mk ul237_1 ge237_1); clear hva_ hvn_ hvc_ ge237_1 ul237_1; have hv237_2 := hcc237 2 _ rfl; rw [add_field _ _ 2 (by omega)] at hv237_2; replace hv237_2 := Option.some.inj (hv237_2.symm.trans hx237_2); injection hv237_2 with hva_ hvn_ hvc_; rw [hva_] at ge237_2; rw [hvc_] at ul237_2; have HL237_2 := aM (show Kd.V (Kd.slice 3 (Kd.int .i64)) 22 _ w.heap.size _ _ ((rd_T74 t230 x72_3).f2) from Kd.V_mk ul237_2 ge237_2); clear hva_ hvn_ hvc_ ge237_2 ul237_2; clear hcc237 hce237; have HR237_1 := aM hi237_1; have HC237_1 := aM hl237_1; clear hi237_1 hl237_1; have HR237_2 := aM hi237_2; have HC237_2 := aM hl237_2; clear hi237_2 hl237_2; replace p237 := eq_true p237; replace q237 := eq_true q237) | ((with_reducible refine gate_dst (N := 11) rfl ?_); (try (refine gate_guard (by rfl) ?_; dsimp only)); refine box_event ?hg (N := 11) ?hd (cs := #[.int .i64 0, .slice none 0 0, .slice none 0 0]) (t := 74) ?hr ?_; (case hd => rfl); (case hg => rfl); (case hr => first | (go_simp; done) | (go_simp; rfl)); intro gb238 hg w73 hbox hb; replace HO_70 := aM (Kd.V_below (Kd.V_elderB (zV HO_70) gb238 (Nat.le_of_eq hg.symm)) hb); replace HO_223001 := aM (Kd.V_below (Kd.V_elderB (zV HO_223001) gb238 (Nat.le_of_eq hg.symm)) hb); replace HO_235001 := aM (Kd.N_below (Kd.N_elderB (zN HO_235001) gb238 (Nat.le_of_eq hg.symm)) hb); replace HR235_1 := aM (Kd.C_below zz69 hb); replace HL235_1 := aM (Kd.V_below (Kd.V_elderB (zV HL235_1) gb238 (Nat.le_of_eq hg.symm)) hb); replace HR235_2 := aM (Kd.C_below zz70 hb); replace HL235_2 := aM (Kd.V_below (Kd.V_elderB (zV HL235_2) gb238 (Nat.le_of_eq hg.symm)) hb); replace HR237_1 := aM (Kd.C_below zz71 hb); replace HL237_1 := aM (Kd.V_below (Kd.V_elderB (zV HL237_1) gb238 (Nat.le_of_eq hg.symm)) hb); replace HR237_2 := aM (Kd.C_below zz72 hb); replace HL237_2 := aM (Kd.V_below (Kd.V_elderB (zV HL237_2) gb238 (Nat.le_of_eq hg.symm)) hb); have BK238 := aM (hbox); have GW238 := aM ((by rw [hg]; exact (below_size zz75) : w.heap.size ≤ gb238)); have GE238 := aM ((by rw [hg]; exact (below_size zz75) : w.heap.size ≤ gb238)); replace HB := aM (below_step zz75 hb); have NB222_238 := aM ((by rw [hg]; exact Nat.ne_of_lt (blk_lt (g := gb222) (o := .cells #[.int .i64 a0_0, .slice (some ad235) l0_1.length c0_1] 46 (0, 0)) (zB BK222)) : gb222 ≠ gb238)); have NB238_222 := aM ((by rw [hg]; exact Nat.ne_of_gt (blk_lt (g := gb222) (o := .cells #[.int .i64 a0_0, .slice (some ad235) l0_1.length c0_1] 46 (0, 0)) (zB BK222)) : gb238 ≠ gb222)); replace BK222 := aM (blk_below (g := gb222) (o := .cells #[.int .i64 a0_0, .slice (some ad235) l0_1.length c0_1] 46 (0, 0)) (zB BK222) hb); have NB234_238 := aM ((by rw [hg]; exact Nat.ne_of_lt (blk_lt (g := gb234) (o := .cells #[.int .i64 t229, .slice (some ad237) t230.length co36] 46 (0, 0)) (zB BK234)) : gb234 ≠ gb238)); have NB238_234 := aM ((by rw [hg]; exact Nat.ne_of_gt (blk_lt (g := gb234) (o := .cells #[.int .i64 t229, .slice (some ad237) t230.length co36] 46 (0, 0)) (zB BK234)) : gb238 ≠ gb234)); replace BK234 := aM (blk_below (g := gb234) (o := .cells #[.int .i64 t229, .slice (some ad237) t230.length co36] 46 (0, 0)) (zB BK234) hb); have NB236_238 := aM ((by rw [hg]; exact Nat.ne_of_lt (blk_lt (g := gb236) (o := .cells #[.int .i64 ((rd_T74 l0_1 x72_3).f0), .slice A235_1 ((rd_T74 l0_1 x72_3).f1).length c235_1, .slice A235_2 ((rd_T74 l0_1 x72_3).f2).length c235_2] 74 (0, 0)) (zB BK236)) : gb236 ≠ gb238)); have NB238_236 := aM ((by rw [hg]; exact Nat.ne_of_gt (blk_lt (g := gb236) (o := .cells #[.int .i64 ((rd_T74 l0_1 x72_3).f0), .slice A235_1 ((rd_T74 l0_1 x72_3).f1).length c235_1, .slice A235_2 ((rd_T74 l0_1 x72_3).f2).length c235_2] 74 (0, 0)) (zB BK236)) : gb238 ≠ gb236)); replace BK236 := aM (blk_below (g := gb236) (o := .cells #[.int .i64 ((rd_T74 l0_1 x72_3).f0), .slice A235_1 ((rd_T74 l0_1 x72_3).f1).length c235_1, .slice A235_2 ((rd_T74 l0_1 x72_3).f2).length c235_2] 74 (0, 0)) (zB BK236) hb); clear hb hbox hg; have hnb74 := NB238_222.out; have hnc74 := NB222_238.out; have hnb75 := NB238_234.out; have hnc75 := NB234_238.out; have hnb76 := NB238_236.out; have hnc76 := NB236_238.out; have hcz77_0 : w73.cell? ⟨gb238, 0, none⟩ = some (.int .i64 0) := (blk_cell BK238.out 0).trans rfl; have hcz77_1 : w73.cell? ⟨gb238, 1, none⟩ = some (.slice none 0 0) := (blk_cell BK238.out 1).trans rfl; have hcz77_2 : w73.cell? ⟨gb238, 2, none⟩ = some (.slice none 0 0) := (blk_cell BK238.out 2).trans rfl; have hfz77_0 := blk_frozen BK238.out 0; have hfz77_1 := blk_frozen BK238.out 1; have hfz77_2 := blk_frozen BK238.out 2; have hcz78_0 : w73.cell? ⟨gb236, 0, none⟩ = some (.int .i64 ((rd_T74 l0_1 x72_3).f0)) := (blk_cell BK236.out 0).trans rfl; have hcz78_1 : w73.cell? ⟨gb236, 1, none⟩ = some (.slice A235_1 ((rd_T74 l0_1 x72_3).f1).length c235_1) := (blk_cell BK236.out 1).trans rfl; have hcz78_2 : w73.cell? ⟨gb236, 2, none⟩ = some (.slice A235_2 ((rd_T74 l0_1 x72_3).f2).length c235_2) := (blk_cell BK236.out 2).trans rfl; have hfz78_0 := blk_frozen BK236.out 0; have hfz78_1 := blk_frozen BK236.out 1; have hfz78_2 := blk_frozen BK236.out 2) | (go_at_call 65; (with_reducible refine (slEq.calls k3 _ _ ((rd_T74 l0_1 x72_3).f1) _ _ ((rd_T74 t230 x72_3).f1) true _ ?side1 ?side2 ?side3 ?side4 A49.out).mono ?_); (case side1 => repeat (first | exact ((Kd.V_reads' zz52).2.2) | (with_reducible refine Kd.C_alloc ?_ _) | (with_reducible refine Kd.C_drewN ?_ _) | (with_reducible refine Kd.C_drew ?_))); (case side2 => exact HC235_1.out); (case side3 => repeat (first | exact ((Kd.V_reads' zz53).2.2) | (with_reducible refine Kd.C_alloc ?_ _) | (with_reducible refine Kd.C_drewN ?_ _) | (with_reducible refine Kd.C_drew ?_))); (case side4 => exact HC237_1.out); rintro e w' ⟨rfl, ⟨nd, rfl⟩⟩) | (go_at_call 66; (with_reducible refine (slEqF.calls _ _ ((rd_T74 l0_1 x72_3).f2) _ _ ((rd_T74 t230 x72_3).f2) false _ ?side1 ?side2 ?side3 ?side4 A51.out).mono ?_); (case side1 => repeat (first | exact ((Kd.V_reads' zz54).2.2) | (with_reducible refine Kd.C_alloc ?_ _) | (with_reducible refine Kd.C_drewN ?_ _) | (with_reducible refine Kd.C_drew ?_))); (case side2 => exact HC235_2.out); (case side3 => repeat (first | exact ((Kd.V_reads' zz55).2.2) | (with_reducible refine Kd.C_alloc ?_ _) | (with_reducible refine Kd.C_drewN ?_ _) | (with_reducible refine Kd.C_drew ?_))); (case side4 => exact HC237_2.out); rintro e w' ⟨rfl, ⟨nd, rfl⟩⟩))
                            go_ret
                            exact ⟨by first | rfl | (simp [errW_none, errW_some] <;> rfl) | (simp [*, errW_none, errW_some] <;> rfl), by repeat (first | (with_reducible first | exact HB.out | apply below_alloc | apply pw_below_drewN | apply below_drew1 | refine below_set ?_ GE222.out | refine below_set ?_ GE234.out | refine below_set ?_ GE236.out | refine below_set ?_ GE238.out) | exact HB.out)⟩
                          replace c50 := Bool.eq_false_iff.mpr c50; subst c50; have H1 : (some 5) = some r := by rw [if_neg (show ¬ (false = true) by decide)] at H; exact H
                          clear H; have H := H1; clear H1; obtain rfl := Option.some.inj H; have p235 : 0 ≤ (x72_3 : Int) := of_decide_eq_true zz135; have q235 : x72_3 < (l0_1.length : Int) := of_decide_eq_true zz135; obtain ⟨ad235, A235_1, c235_1, A235_2, c235_2, e235, hx235_0, hx235_1, hx235_2, hl235_1, hi235_1, hl235_2, hi235_2⟩ := at_T74 (Kd.V_reads' HO_70.out).2.2 x72_3 p235 q235
                          cases e235; obtain ⟨ce235, hce235, hMe235, hcc235⟩ := Kd.V_get HO_70.out z74 x72_3 p235 zz105; obtain ⟨ua235_1, uc235_1, ua235_2, uc235_2, rfl, ul235_1, ge235_1, ul235_2, ge235_2⟩ := k74_openF hMe235; have hv235_1 := hcc235 1 _ rfl; rw [add_field _ _ 1 (by omega)] at hv235_1; replace hv235_1 := Option.some.inj (hv235_1.symm.trans hx235_1); injection hv235_1 with hva_ hvn_ hvc_
                          rw [hva_] at ge235_1; rw [hvc_] at ul235_1; have HL235_1 := aM (show Kd.V (Kd.int .i64) 3 _ w.heap.size _ _ ((rd_T74 l0_1 x72_3).f1) from Kd.V_mk ul235_1 ge235_1); clear hva_ hvn_ hvc_ ge235_1 ul235_1; have hv235_2 := hcc235 2 _ rfl; rw [add_field _ _ 2 (by omega)] at hv235_2; replace hv235_2 := Option.some.inj (hv235_2.symm.trans hx235_2); injection hv235_2 with hva_ hvn_ hvc_
                          rw [hva_] at ge235_2; rw [hvc_] at ul235_2; have HL235_2 := aM (show Kd.V (Kd.slice 3 (Kd.int .i64)) 22 _ w.heap.size _ _ ((rd_T74 l0_1 x72_3).f2) from Kd.V_mk ul235_2 ge235_2); clear hva_ hvn_ hvc_ ge235_2 ul235_2; clear hcc235 hce235; have HR235_1 := aM hi235_1; have HC235_1 := aM hl235_1; clear hi235_1 hl235_1; have HR235_2 := aM hi235_2; have HC235_2 := aM hl235_2; clear hi235_2 hl235_2; replace p235 := eq_true p235; replace q235 := eq_true q235
                          go_wp2_with (first | ((with_reducible refine gate_dst (N := 10) rfl ?_); (try (refine gate_guard (by rfl) ?_; dsimp only)); refine box_event ?hg (N := 10) ?hd (cs := #[.int .i64 0, .slice none 0 0, .slice none 0 0]) (t := 74) ?hr ?_; (case hd => rfl); (case hg => rfl); (case hr => first | (go_simp; done) | (go_simp; rfl)); intro gb236 hg w79 hbox hb; replace HO_70 := aM (Kd.V_below (Kd.V_elderB (zV HO_70) gb236 (Nat.le_of_eq hg.symm)) hb); replace HO_223001 := aM (Kd.V_below (Kd.V_elderB (zV HO_223001) gb236 (Nat.le_of_eq hg.symm)) hb); replace HO_235001 := aM (Kd.N_below (Kd.N_elderB (zN HO_235001) gb236 (Nat.le_of_eq hg.symm)) hb); replace HR235_1 := aM (Kd.C_below zz69 hb); replace HL235_1 := aM (Kd.V_below (Kd.V_elderB (zV HL235_1) gb236 (Nat.le_of_eq hg.symm)) hb); replace HR235_2 := aM (Kd.C_below zz70 hb); replace HL235_2 := aM (Kd.V_below (Kd.V_elderB (zV HL235_2) gb236 (Nat.le_of_eq hg.symm)) hb); have BK236 := aM (hbox); have GW236 := aM ((by rw [hg]; exact (below_size zz80) : w.heap.size ≤ gb236)); have GE236 := aM ((by rw [hg]; exact (below_size zz80) : w.heap.size ≤ gb236)); replace HB := aM (below_step zz80 hb); have NB222_236 := aM ((by rw [hg]; exact Nat.ne_of_lt (blk_lt (g := gb222) (o := .cells #[.int .i64 a0_0, .slice (some ad235) l0_1.length c0_1] 46 (0, 0)) (zB BK222)) : gb222 ≠ gb236)); have NB236_222 := aM ((by rw [hg]; exact Nat.ne_of_gt (blk_lt (g := gb222) (o := .cells #[.int .i64 a0_0, .slice (some ad235) l0_1.length c0_1] 46 (0, 0)) (zB BK222)) : gb236 ≠ gb222)); replace BK222 := aM (blk_below (g := gb222) (o := .cells #[.int .i64 a0_0, .slice (some ad235) l0_1.length c0_1] 46 (0, 0)) (zB BK222) hb); have NB234_236 := aM ((by rw [hg]; exact Nat.ne_of_lt (blk_lt (g := gb234) (o := .cells #[.int .i64 t229, .slice Ao36 t230.length co36] 46 (0, 0)) (zB BK234)) : gb234 ≠ gb236)); have NB236_234 := aM ((by rw [hg]; exact Nat.ne_of_gt (blk_lt (g := gb234) (o := .cells #[.int .i64 t229, .slice Ao36 t230.length co36] 46 (0, 0)) (zB BK234)) : gb236 ≠ gb234)); replace BK234 := aM (blk_below (g := gb234) (o := .cells #[.int .i64 t229, .slice Ao36 t230.length co36] 46 (0, 0)) (zB BK234) hb); clear hb hbox hg; have hnb80 := NB236_222.out; have hnc80 := NB222_236.out; have hnb81 := NB236_234.out; have hnc81 := NB234_236.out; have hcz82_0 : w79.cell? ⟨gb236, 0, none⟩ = some (.int .i64 0) := (blk_cell BK236.out 0).trans rfl; have hcz82_1 : w79.cell? ⟨gb236, 1, none⟩ = some (.slice none 0 0) := (blk_cell BK236.out 1).trans rfl; have hcz82_2 : w79.cell? ⟨gb236, 2, none⟩ = some (.slice none 0 0) := (blk_cell BK236.out 2).trans rfl; have hfz82_0 := blk_frozen BK236.out 0; have hfz82_1 := blk_frozen BK236.out 1; have hfz82_2 := blk_frozen BK236.out 2) | ((with_reducible refine gate_store (t := 74) (p := 10) rfl ?_); refine store_event (t := 74) (p := 10) (v := ?vo_w83) (w1 := (((w79.setCell ⟨gb236, 0, none⟩ (.int .i64 ((rd_T74 l0_1 x72_3).f0))).setCell ⟨gb236, 1, none⟩ (.slice A235_1 ((rd_T74 l0_1 x72_3).f1).length c235_1)).setCell ⟨gb236, 2, none⟩ (.slice A235_2 ((rd_T74 l0_1 x72_3).f2).length c235_2))) ?hg ?ho ?hn ?hr ?_; (case ho => rfl); (case hg => rfl); (case hn => rfl); (case hr => first | (go_simp; done) | (go_simp; rfl)); intro w83 hw; have n0_ : Aside0 (Kd.V k74 74 w83 w.heap.size (fun k_ => (P0_1_ k_ ∨ w.heap.size ≤ k_) ∧ some k_ ≠ (.slice Ao36 t230.length co36 : Value).ownBlock ∧ k_ ≠ gb222 ∧ k_ ≠ gb234 ∧ k_ ≠ gb236) (.slice (some ad235) l0_1.length c0_1) l0_1) := ⟨zz31⟩; have n1_ : Aside0 (Kd.V k74 74 w83 w.heap.size (fun k_ => (P0_1_ k_ ∨ w.heap.size ≤ k_) ∧ some k_ ≠ (.slice Ao36 t230.length co36 : Value).ownBlock ∧ k_ ≠ gb222 ∧ k_ ≠ gb234 ∧ k_ ≠ gb236) (.slice (some ad235) l0_1.length c0_1) l0_1) := ⟨zz28⟩; have n2_ : Aside0 (Kd.N k74 74 w83 w.heap.size (fun k_ => (P0_1_ k_ ∨ w.heap.size ≤ k_) ∧ k_ ≠ gb222 ∧ k_ ≠ gb234 ∧ k_ ≠ gb236) (.slice Ao36 t230.length co36) t230) := ⟨zz32⟩; have n3_ : Aside0 (Kd.V (Kd.int .i64) 3 w83 w.heap.size (fun k_ => (P0_1_ k_ ∨ w.heap.size ≤ k_) ∧ some k_ ≠ (.slice Ao36 t230.length co36 : Value).ownBlock ∧ k_ ≠ gb222 ∧ k_ ≠ gb234 ∧ k_ ≠ gb236) (.slice A235_1 ((rd_T74 l0_1 x72_3).f1).length c235_1) ((rd_T74 l0_1 x72_3).f1)) := ⟨zz29⟩; have n4_ : Aside0 (Kd.V (Kd.slice 3 (Kd.int .i64)) 22 w83 w.heap.size (fun k_ => (P0_1_ k_ ∨ w.heap.size ≤ k_) ∧ some k_ ≠ (.slice Ao36 t230.length co36 : Value).ownBlock ∧ k_ ≠ gb222 ∧ k_ ≠ gb234 ∧ k_ ≠ gb236) (.slice A235_2 ((rd_T74 l0_1 x72_3).f2).length c235_2) ((rd_T74 l0_1 x72_3).f2)) := ⟨zz30⟩; have n5_ : Aside0 (w83.heap[gb222]? = some (.cells #[.int .i64 a0_0, .slice (some ad235) l0_1.length c0_1] 46 (0, 0))) := ⟨zz37⟩; have n6_ : Aside0 (w83.heap[gb234]? = some (.cells #[.int .i64 t229, .slice Ao36 t230.length co36] 46 (0, 0))) := ⟨zz38⟩; have n7_ : Aside0 (w83.heap[gb236]? = some (.cells #[.int .i64 ((rd_T74 l0_1 x72_3).f0), .slice A235_1 ((rd_T74 l0_1 x72_3).f1).length c235_1, .slice A235_2 ((rd_T74 l0_1 x72_3).f2).length c235_2] 74 (0, 0))) := ⟨zz10⟩; have n8_ : Aside0 (Below w.heap.size w w83) := ⟨zz66⟩; clear hw; clear HO_70; clear HO_223001; clear HO_235001; clear HL235_1; clear HL235_2; clear BK222; clear BK234; clear BK236; clear HB; have HO_70 := n0_; have HO_223001 := n1_; have HO_235001 := n2_; have HL235_1 := n3_; have HL235_2 := n4_; have BK222 := n5_; have BK234 := n6_; have BK236 := n7_; have HB := n8_; clear n0_ n1_ n2_ n3_ n4_ n5_ n6_ n7_ n8_; have hnb84 := NB234_222.out; have hnc84 := NB222_234.out; have hcz85_0 : w83.cell? ⟨gb234, 0, none⟩ = some (.int .i64 t229) := (blk_cell BK234.out 0).trans rfl; have hcz85_1 : w83.cell? ⟨gb234, 1, none⟩ = some (.slice Ao36 t230.length co36) := (blk_cell BK234.out 1).trans rfl; have hfz85_0 := blk_frozen BK234.out 0; have hfz85_1 := blk_frozen BK234.out 1; have p237 : 0 ≤ (x72_3 : Int) := of_decide_eq_true zz135; have q237 : x72_3 < (t230.length : Int) := of_decide_eq_true zz135; obtain ⟨ad237, A237_1, c237_1, A237_2, c237_2, e237, hx237_0, hx237_1, hx237_2, hl237_1, hi237_1, hl237_2, hi237_2⟩ := at_T74 (Kd.N_reads' HO_235001.out).2.2 x72_3 p237 q237; cases e237; obtain ⟨ce237, hce237, hMe237, hcc237⟩ := Kd.N_get HO_235001.out z74 x72_3 p237 zz103; obtain ⟨ua237_1, uc237_1, ua237_2, uc237_2, rfl, ul237_1, ge237_1, ul237_2, ge237_2⟩ := k74_openF hMe237; have hv237_1 := hcc237 1 _ rfl; rw [add_field _ _ 1 (by omega)] at hv237_1; replace hv237_1 := Option.some.inj (hv237_1.symm.trans hx237_1); injection hv237_1 with hva_ hvn_ hvc_; rw [hva_] at ge237_1; rw [hvc_] at ul237_1; have HL237_1 := aM (show Kd.V (Kd.int .i64) 3 _ w.heap.size _ _ ((rd_T74 t230 x72_3).f1) from Kd.V_mk ul237_1 ge237_1); clear hva_ hvn_ hvc_ ge237_1 ul237_1; have hv237_2 := hcc237 2 _ rfl; rw [add_field _ _ 2 (by omega)] at hv237_2; replace hv237_2 := Option.some.inj (hv237_2.symm.trans hx237_2); injection hv237_2 with hva_ hvn_ hvc_; rw [hva_] at ge237_2; rw [hvc_] at ul237_2; have HL237_2 := aM (show Kd.V (Kd.slice 3 (Kd.int .i64)) 22 _ w.heap.size _ _ ((rd_T74 t230 x72_3).f2) from Kd.V_mk ul237_2 ge237_2); clear hva_ hvn_ hvc_ ge237_2 ul237_2; clear hcc237 hce237; have HR237_1 := aM hi237_1; have HC237_1 := aM hl237_1; clear hi237_1 hl237_1; have HR237_2 := aM hi237_2; have HC237_2 := aM hl237_2; clear hi237_2 hl237_2; replace p237 := eq_true p237; replace q237 := eq_true q237) | ((with_reducible refine gate_dst (N := 11) rfl ?_); (try (refine gate_guard (by rfl) ?_; dsimp only)); refine box_event ?hg (N := 11) ?hd (cs := #[.int .i64 0, .slice none 0 0, .slice none 0 0]) (t := 74) ?hr ?_; (case hd => rfl); (case hg => rfl); (case hr => first | (go_simp; done) | (go_simp; rfl)); intro gb238 hg w86 hbox hb; replace HO_70 := aM (Kd.V_below (Kd.V_elderB (zV HO_70) gb238 (Nat.le_of_eq hg.symm)) hb); replace HO_223001 := aM (Kd.V_below (Kd.V_elderB (zV HO_223001) gb238 (Nat.le_of_eq hg.symm)) hb); replace HO_235001 := aM (Kd.N_below (Kd.N_elderB (zN HO_235001) gb238 (Nat.le_of_eq hg.symm)) hb); replace HR235_1 := aM (Kd.C_below zz69 hb); replace HL235_1 := aM (Kd.V_below (Kd.V_elderB (zV HL235_1) gb238 (Nat.le_of_eq hg.symm)) hb); replace HR235_2 := aM (Kd.C_below zz70 hb); replace HL235_2 := aM (Kd.V_below (Kd.V_elderB (zV HL235_2) gb238 (Nat.le_of_eq hg.symm)) hb); replace HR237_1 := aM (Kd.C_below zz71 hb); replace HL237_1 := aM (Kd.V_below (Kd.V_elderB (zV HL237_1) gb238 (Nat.le_of_eq hg.symm)) hb); replace HR237_2 := aM (Kd.C_below zz72 hb); replace HL237_2 := aM (Kd.V_below (Kd.V_elderB (zV HL237_2) gb238 (Nat.le_of_eq hg.symm)) hb); have BK238 := aM (hbox); have GW238 := aM ((by rw [hg]; exact (below_size zz75) : w.heap.size ≤ gb238)); have GE238 := aM ((by rw [hg]; exact (below_size zz75) : w.heap.size ≤ gb238)); replace HB := aM (below_step zz75 hb); have NB222_238 := aM ((by rw [hg]; exact Nat.ne_of_lt (blk_lt (g := gb222) (o := .cells #[.int .i64 a0_0, .slice (some ad235) l0_1.length c0_1] 46 (0, 0)) (zB BK222)) : gb222 ≠ gb238)); have NB238_222 := aM ((by rw [hg]; exact Nat.ne_of_gt (blk_lt (g := gb222) (o := .cells #[.int .i64 a0_0, .slice (some ad235) l0_1.length c0_1] 46 (0, 0)) (zB BK222)) : gb238 ≠ gb222)); replace BK222 := aM (blk_below (g := gb222) (o := .cells #[.int .i64 a0_0, .slice (some ad235) l0_1.length c0_1] 46 (0, 0)) (zB BK222) hb); have NB234_238 := aM ((by rw [hg]; exact Nat.ne_of_lt (blk_lt (g := gb234) (o := .cells #[.int .i64 t229, .slice (some ad237) t230.length co36] 46 (0, 0)) (zB BK234)) : gb234 ≠ gb238)); have NB238_234 := aM ((by rw [hg]; exact Nat.ne_of_gt (blk_lt (g := gb234) (o := .cells #[.int .i64 t229, .slice (some ad237) t230.length co36] 46 (0, 0)) (zB BK234)) : gb238 ≠ gb234)); replace BK234 := aM (blk_below (g := gb234) (o := .cells #[.int .i64 t229, .slice (some ad237) t230.length co36] 46 (0, 0)) (zB BK234) hb); have NB236_238 := aM ((by rw [hg]; exact Nat.ne_of_lt (blk_lt (g := gb236) (o := .cells #[.int .i64 ((rd_T74 l0_1 x72_3).f0), .slice A235_1 ((rd_T74 l0_1 x72_3).f1).length c235_1, .slice A235_2 ((rd_T74 l0_1 x72_3).f2).length c235_2] 74 (0, 0)) (zB BK236)) : gb236 ≠ gb238)); have NB238_236 := aM ((by rw [hg]; exact Nat.ne_of_gt (blk_lt (g := gb236) (o := .cells #[.int .i64 ((rd_T74 l0_1 x72_3).f0), .slice A235_1 ((rd_T74 l0_1 x72_3).f1).length c235_1, .slice A235_2 ((rd_T74 l0_1 x72_3).f2).length c235_2] 74 (0, 0)) (zB BK236)) : gb238 ≠ gb236)); replace BK236 := aM (blk_below (g := gb236) (o := .cells #[.int .i64 ((rd_T74 l0_1 x72_3).f0), .slice A235_1 ((rd_T74 l0_1 x72_3).f1).length c235_1, .slice A235_2 ((rd_T74 l0_1 x72_3).f2).length c235_2] 74 (0, 0)) (zB BK236) hb); clear hb hbox hg; have hnb87 := NB238_222.out; have hnc87 := NB222_238.out; have hnb88 := NB238_234.out; have hnc88 := NB234_238.out; have hnb89 := NB238_236.out; have hnc89 := NB236_238.out; have hcz90_0 : w86.cell? ⟨gb238, 0, none⟩ = some (.int .i64 0) := (blk_cell BK238.out 0).trans rfl; have hcz90_1 : w86.cell? ⟨gb238, 1, none⟩ = some (.slice none 0 0) := (blk_cell BK238.out 1).trans rfl; have hcz90_2 : w86.cell? ⟨gb238, 2, none⟩ = some (.slice none 0 0) := (blk_cell BK238.out 2).trans rfl; have hfz90_0 := blk_frozen BK238.out 0; have hfz90_1 := blk_frozen BK238.out 1; have hfz90_2 := blk_frozen BK238.out 2; have hcz91_0 : w86.cell? ⟨gb236, 0, none⟩ = some (.int .i64 ((rd_T74 l0_1 x72_3).f0)) := (blk_cell BK236.out 0).trans rfl; have hcz91_1 : w86.cell? ⟨gb236, 1, none⟩ = some (.slice A235_1 ((rd_T74 l0_1 x72_3).f1).length c235_1) := (blk_cell BK236.out 1).trans rfl; have hcz91_2 : w86.cell? ⟨gb236, 2, none⟩ = some (.slice A235_2 ((rd_T74 l0_1 x72_3).f2).length c235_2) := (blk_cell BK236.out 2).trans rfl; have hfz91_0 := blk_frozen BK236.out 0; have hfz91_1 := blk_frozen BK236.out 1; have hfz91_2 := blk_frozen BK236.out 2) | (go_at_call 65; (with_reducible refine (slEq.calls k3 _ _ ((rd_T74 l0_1 x72_3).f1) _ _ ((rd_T74 t230 x72_3).f1) false _ ?side1 ?side2 ?side3 ?side4 A49.out).mono ?_); (case side1 => repeat (first | exact ((Kd.V_reads' zz52).2.2) | (with_reducible refine Kd.C_alloc ?_ _) | (with_reducible refine Kd.C_drewN ?_ _) | (with_reducible refine Kd.C_drew ?_))); (case side2 => exact HC235_1.out); (case side3 => repeat (first | exact ((Kd.V_reads' zz53).2.2) | (with_reducible refine Kd.C_alloc ?_ _) | (with_reducible refine Kd.C_drewN ?_ _) | (with_reducible refine Kd.C_drew ?_))); (case side4 => exact HC237_1.out); rintro e w' ⟨rfl, ⟨nd, rfl⟩⟩))
                          go_ret
                          exact ⟨by first | rfl | (simp [errW_none, errW_some] <;> rfl) | (simp [*, errW_none, errW_some] <;> rfl), by repeat (first | (with_reducible first | exact HB.out | apply below_alloc | apply pw_below_drewN | apply below_drew1 | refine below_set ?_ GE222.out | refine below_set ?_ GE234.out | refine below_set ?_ GE236.out | refine below_set ?_ GE238.out) | exact HB.out)⟩
                        rw [if_neg c48] at H; have c48b0 := beq_eq_false_iff_ne.mpr c48; have c48b1 := bne_iff_ne.mpr c48; obtain rfl := Option.some.inj H; have p235 : 0 ≤ (x72_3 : Int) := of_decide_eq_true zz135; have q235 : x72_3 < (l0_1.length : Int) := of_decide_eq_true zz135; obtain ⟨ad235, A235_1, c235_1, A235_2, c235_2, e235, hx235_0, hx235_1, hx235_2, hl235_1, hi235_1, hl235_2, hi235_2⟩ := at_T74 (Kd.V_reads' HO_70.out).2.2 x72_3 p235 q235
                        cases e235; obtain ⟨ce235, hce235, hMe235, hcc235⟩ := Kd.V_get HO_70.out z74 x72_3 p235 zz105; obtain ⟨ua235_1, uc235_1, ua235_2, uc235_2, rfl, ul235_1, ge235_1, ul235_2, ge235_2⟩ := k74_openF hMe235; have hv235_1 := hcc235 1 _ rfl; rw [add_field _ _ 1 (by omega)] at hv235_1; replace hv235_1 := Option.some.inj (hv235_1.symm.trans hx235_1); injection hv235_1 with hva_ hvn_ hvc_
                        rw [hva_] at ge235_1; rw [hvc_] at ul235_1; have HL235_1 := aM (show Kd.V (Kd.int .i64) 3 _ w.heap.size _ _ ((rd_T74 l0_1 x72_3).f1) from Kd.V_mk ul235_1 ge235_1); clear hva_ hvn_ hvc_ ge235_1 ul235_1; have hv235_2 := hcc235 2 _ rfl; rw [add_field _ _ 2 (by omega)] at hv235_2; replace hv235_2 := Option.some.inj (hv235_2.symm.trans hx235_2); injection hv235_2 with hva_ hvn_ hvc_
                        rw [hva_] at ge235_2; rw [hvc_] at ul235_2; have HL235_2 := aM (show Kd.V (Kd.slice 3 (Kd.int .i64)) 22 _ w.heap.size _ _ ((rd_T74 l0_1 x72_3).f2) from Kd.V_mk ul235_2 ge235_2); clear hva_ hvn_ hvc_ ge235_2 ul235_2; clear hcc235 hce235; have HR235_1 := aM hi235_1; have HC235_1 := aM hl235_1; clear hi235_1 hl235_1; have HR235_2 := aM hi235_2; have HC235_2 := aM hl235_2; clear hi235_2 hl235_2; replace p235 := eq_true p235; replace q235 := eq_true q235
                        go_wp2_with (first | ((with_reducible refine gate_dst (N := 10) rfl ?_); (try (refine gate_guard (by rfl) ?_; dsimp only)); refine box_event ?hg (N := 10) ?hd (cs := #[.int .i64 0, .slice none 0 0, .slice none 0 0]) (t := 74) ?hr ?_; (case hd => rfl); (case hg => rfl); (case hr => first | (go_simp; done) | (go_simp; rfl)); intro gb236 hg w92 hbox hb; replace HO_70 := aM (Kd.V_below (Kd.V_elderB (zV HO_70) gb236 (Nat.le_of_eq hg.symm)) hb); replace HO_223001 := aM (Kd.V_below (Kd.V_elderB (zV HO_223001) gb236 (Nat.le_of_eq hg.symm)) hb); replace HO_235001 := aM (Kd.N_below (Kd.N_elderB (zN HO_235001) gb236 (Nat.le_of_eq hg.symm)) hb); replace HR235_1 := aM (Kd.C_below zz69 hb); replace HL235_1 := aM (Kd.V_below (Kd.V_elderB (zV HL235_1) gb236 (Nat.le_of_eq hg.symm)) hb); replace HR235_2 := aM (Kd.C_below zz70 hb); replace HL235_2 := aM (Kd.V_below (Kd.V_elderB (zV HL235_2) gb236 (Nat.le_of_eq hg.symm)) hb); have BK236 := aM (hbox); have GW236 := aM ((by rw [hg]; exact (below_size zz80) : w.heap.size ≤ gb236)); have GE236 := aM ((by rw [hg]; exact (below_size zz80) : w.heap.size ≤ gb236)); replace HB := aM (below_step zz80 hb); have NB222_236 := aM ((by rw [hg]; exact Nat.ne_of_lt (blk_lt (g := gb222) (o := .cells #[.int .i64 a0_0, .slice (some ad235) l0_1.length c0_1] 46 (0, 0)) (zB BK222)) : gb222 ≠ gb236)); have NB236_222 := aM ((by rw [hg]; exact Nat.ne_of_gt (blk_lt (g := gb222) (o := .cells #[.int .i64 a0_0, .slice (some ad235) l0_1.length c0_1] 46 (0, 0)) (zB BK222)) : gb236 ≠ gb222)); replace BK222 := aM (blk_below (g := gb222) (o := .cells #[.int .i64 a0_0, .slice (some ad235) l0_1.length c0_1] 46 (0, 0)) (zB BK222) hb); have NB234_236 := aM ((by rw [hg]; exact Nat.ne_of_lt (blk_lt (g := gb234) (o := .cells #[.int .i64 t229, .slice Ao36 t230.length co36] 46 (0, 0)) (zB BK234)) : gb234 ≠ gb236)); have NB236_234 := aM ((by rw [hg]; exact Nat.ne_of_gt (blk_lt (g := gb234) (o := .cells #[.int .i64 t229, .slice Ao36 t230.length co36] 46 (0, 0)) (zB BK234)) : gb236 ≠ gb234)); replace BK234 := aM (blk_below (g := gb234) (o := .cells #[.int .i64 t229, .slice Ao36 t230.length co36] 46 (0, 0)) (zB BK234) hb); clear hb hbox hg; have hnb93 := NB236_222.out; have hnc93 := NB222_236.out; have hnb94 := NB236_234.out; have hnc94 := NB234_236.out; have hcz95_0 : w92.cell? ⟨gb236, 0, none⟩ = some (.int .i64 0) := (blk_cell BK236.out 0).trans rfl; have hcz95_1 : w92.cell? ⟨gb236, 1, none⟩ = some (.slice none 0 0) := (blk_cell BK236.out 1).trans rfl; have hcz95_2 : w92.cell? ⟨gb236, 2, none⟩ = some (.slice none 0 0) := (blk_cell BK236.out 2).trans rfl; have hfz95_0 := blk_frozen BK236.out 0; have hfz95_1 := blk_frozen BK236.out 1; have hfz95_2 := blk_frozen BK236.out 2) | ((with_reducible refine gate_store (t := 74) (p := 10) rfl ?_); refine store_event (t := 74) (p := 10) (v := ?vo_w96) (w1 := (((w92.setCell ⟨gb236, 0, none⟩ (.int .i64 ((rd_T74 l0_1 x72_3).f0))).setCell ⟨gb236, 1, none⟩ (.slice A235_1 ((rd_T74 l0_1 x72_3).f1).length c235_1)).setCell ⟨gb236, 2, none⟩ (.slice A235_2 ((rd_T74 l0_1 x72_3).f2).length c235_2))) ?hg ?ho ?hn ?hr ?_; (case ho => rfl); (case hg => rfl); (case hn => rfl); (case hr => first | (go_simp; done) | (go_simp; rfl)); intro w96 hw; have n0_ : Aside0 (Kd.V k74 74 w96 w.heap.size (fun k_ => (P0_1_ k_ ∨ w.heap.size ≤ k_) ∧ some k_ ≠ (.slice Ao36 t230.length co36 : Value).ownBlock ∧ k_ ≠ gb222 ∧ k_ ≠ gb234 ∧ k_ ≠ gb236) (.slice (some ad235) l0_1.length c0_1) l0_1) := ⟨zz31⟩; have n1_ : Aside0 (Kd.V k74 74 w96 w.heap.size (fun k_ => (P0_1_ k_ ∨ w.heap.size ≤ k_) ∧ some k_ ≠ (.slice Ao36 t230.length co36 : Value).ownBlock ∧ k_ ≠ gb222 ∧ k_ ≠ gb234 ∧ k_ ≠ gb236) (.slice (some ad235) l0_1.length c0_1) l0_1) := ⟨zz28⟩; have n2_ : Aside0 (Kd.N k74 74 w96 w.heap.size (fun k_ => (P0_1_ k_ ∨ w.heap.size ≤ k_) ∧ k_ ≠ gb222 ∧ k_ ≠ gb234 ∧ k_ ≠ gb236) (.slice Ao36 t230.length co36) t230) := ⟨zz32⟩; have n3_ : Aside0 (Kd.V (Kd.int .i64) 3 w96 w.heap.size (fun k_ => (P0_1_ k_ ∨ w.heap.size ≤ k_) ∧ some k_ ≠ (.slice Ao36 t230.length co36 : Value).ownBlock ∧ k_ ≠ gb222 ∧ k_ ≠ gb234 ∧ k_ ≠ gb236) (.slice A235_1 ((rd_T74 l0_1 x72_3).f1).length c235_1) ((rd_T74 l0_1 x72_3).f1)) := ⟨zz29⟩; have n4_ : Aside0 (Kd.V (Kd.slice 3 (Kd.int .i64)) 22 w96 w.heap.size (fun k_ => (P0_1_ k_ ∨ w.heap.size ≤ k_) ∧ some k_ ≠ (.slice Ao36 t230.length co36 : Value).ownBlock ∧ k_ ≠ gb222 ∧ k_ ≠ gb234 ∧ k_ ≠ gb236) (.slice A235_2 ((rd_T74 l0_1 x72_3).f2).length c235_2) ((rd_T74 l0_1 x72_3).f2)) := ⟨zz30⟩; have n5_ : Aside0 (w96.heap[gb222]? = some (.cells #[.int .i64 a0_0, .slice (some ad235) l0_1.length c0_1] 46 (0, 0))) := ⟨zz37⟩; have n6_ : Aside0 (w96.heap[gb234]? = some (.cells #[.int .i64 t229, .slice Ao36 t230.length co36] 46 (0, 0))) := ⟨zz38⟩; have n7_ : Aside0 (w96.heap[gb236]? = some (.cells #[.int .i64 ((rd_T74 l0_1 x72_3).f0), .slice A235_1 ((rd_T74 l0_1 x72_3).f1).length c235_1, .slice A235_2 ((rd_T74 l0_1 x72_3).f2).length c235_2] 74 (0, 0))) := ⟨zz10⟩; have n8_ : Aside0 (Below w.heap.size w w96) := ⟨zz66⟩; clear hw; clear HO_70; clear HO_223001; clear HO_235001; clear HL235_1; clear HL235_2; clear BK222; clear BK234; clear BK236; clear HB; have HO_70 := n0_; have HO_223001 := n1_; have HO_235001 := n2_; have HL235_1 := n3_; have HL235_2 := n4_; have BK222 := n5_; have BK234 := n6_; have BK236 := n7_; have HB := n8_; clear n0_ n1_ n2_ n3_ n4_ n5_ n6_ n7_ n8_; have hnb97 := NB234_222.out; have hnc97 := NB222_234.out; have hcz98_0 : w96.cell? ⟨gb234, 0, none⟩ = some (.int .i64 t229) := (blk_cell BK234.out 0).trans rfl; have hcz98_1 : w96.cell? ⟨gb234, 1, none⟩ = some (.slice Ao36 t230.length co36) := (blk_cell BK234.out 1).trans rfl; have hfz98_0 := blk_frozen BK234.out 0; have hfz98_1 := blk_frozen BK234.out 1; have p237 : 0 ≤ (x72_3 : Int) := of_decide_eq_true zz135; have q237 : x72_3 < (t230.length : Int) := of_decide_eq_true zz135; obtain ⟨ad237, A237_1, c237_1, A237_2, c237_2, e237, hx237_0, hx237_1, hx237_2, hl237_1, hi237_1, hl237_2, hi237_2⟩ := at_T74 (Kd.N_reads' HO_235001.out).2.2 x72_3 p237 q237; cases e237; obtain ⟨ce237, hce237, hMe237, hcc237⟩ := Kd.N_get HO_235001.out z74 x72_3 p237 zz103; obtain ⟨ua237_1, uc237_1, ua237_2, uc237_2, rfl, ul237_1, ge237_1, ul237_2, ge237_2⟩ := k74_openF hMe237; have hv237_1 := hcc237 1 _ rfl; rw [add_field _ _ 1 (by omega)] at hv237_1; replace hv237_1 := Option.some.inj (hv237_1.symm.trans hx237_1); injection hv237_1 with hva_ hvn_ hvc_; rw [hva_] at ge237_1; rw [hvc_] at ul237_1; have HL237_1 := aM (show Kd.V (Kd.int .i64) 3 _ w.heap.size _ _ ((rd_T74 t230 x72_3).f1) from Kd.V_mk ul237_1 ge237_1); clear hva_ hvn_ hvc_ ge237_1 ul237_1; have hv237_2 := hcc237 2 _ rfl; rw [add_field _ _ 2 (by omega)] at hv237_2; replace hv237_2 := Option.some.inj (hv237_2.symm.trans hx237_2); injection hv237_2 with hva_ hvn_ hvc_; rw [hva_] at ge237_2; rw [hvc_] at ul237_2; have HL237_2 := aM (show Kd.V (Kd.slice 3 (Kd.int .i64)) 22 _ w.heap.size _ _ ((rd_T74 t230 x72_3).f2) from Kd.V_mk ul237_2 ge237_2); clear hva_ hvn_ hvc_ ge237_2 ul237_2; clear hcc237 hce237; have HR237_1 := aM hi237_1; have HC237_1 := aM hl237_1; clear hi237_1 hl237_1; have HR237_2 := aM hi237_2; have HC237_2 := aM hl237_2; clear hi237_2 hl237_2; replace p237 := eq_true p237; replace q237 := eq_true q237) | ((with_reducible refine gate_dst (N := 11) rfl ?_); (try (refine gate_guard (by rfl) ?_; dsimp only)); refine box_event ?hg (N := 11) ?hd (cs := #[.int .i64 0, .slice none 0 0, .slice none 0 0]) (t := 74) ?hr ?_; (case hd => rfl); (case hg => rfl); (case hr => first | (go_simp; done) | (go_simp; rfl)); intro gb238 hg w99 hbox hb; replace HO_70 := aM (Kd.V_below (Kd.V_elderB (zV HO_70) gb238 (Nat.le_of_eq hg.symm)) hb); replace HO_223001 := aM (Kd.V_below (Kd.V_elderB (zV HO_223001) gb238 (Nat.le_of_eq hg.symm)) hb); replace HO_235001 := aM (Kd.N_below (Kd.N_elderB (zN HO_235001) gb238 (Nat.le_of_eq hg.symm)) hb); replace HR235_1 := aM (Kd.C_below zz69 hb); replace HL235_1 := aM (Kd.V_below (Kd.V_elderB (zV HL235_1) gb238 (Nat.le_of_eq hg.symm)) hb); replace HR235_2 := aM (Kd.C_below zz70 hb); replace HL235_2 := aM (Kd.V_below (Kd.V_elderB (zV HL235_2) gb238 (Nat.le_of_eq hg.symm)) hb); replace HR237_1 := aM (Kd.C_below zz71 hb); replace HL237_1 := aM (Kd.V_below (Kd.V_elderB (zV HL237_1) gb238 (Nat.le_of_eq hg.symm)) hb); replace HR237_2 := aM (Kd.C_below zz72 hb); replace HL237_2 := aM (Kd.V_below (Kd.V_elderB (zV HL237_2) gb238 (Nat.le_of_eq hg.symm)) hb); have BK238 := aM (hbox); have GW238 := aM ((by rw [hg]; exact (below_size zz75) : w.heap.size ≤ gb238)); have GE238 := aM ((by rw [hg]; exact (below_size zz75) : w.heap.size ≤ gb238)); replace HB := aM (below_step zz75 hb); have NB222_238 := aM ((by rw [hg]; exact Nat.ne_of_lt (blk_lt (g := gb222) (o := .cells #[.int .i64 a0_0, .slice (some ad235) l0_1.length c0_1] 46 (0, 0)) (zB BK222)) : gb222 ≠ gb238)); have NB238_222 := aM ((by rw [hg]; exact Nat.ne_of_gt (blk_lt (g := gb222) (o := .cells #[.int .i64 a0_0, .slice (some ad235) l0_1.length c0_1] 46 (0, 0)) (zB BK222)) : gb238 ≠ gb222)); replace BK222 := aM (blk_below (g := gb222) (o := .cells #[.int .i64 a0_0, .slice (some ad235) l0_1.length c0_1] 46 (0, 0)) (zB BK222) hb); have NB234_238 := aM ((by rw [hg]; exact Nat.ne_of_lt (blk_lt (g := gb234) (o := .cells #[.int .i64 t229, .slice (some ad237) t230.length co36] 46 (0, 0)) (zB BK234)) : gb234 ≠ gb238)); have NB238_234 := aM ((by rw [hg]; exact Nat.ne_of_gt (blk_lt (g := gb234) (o := .cells #[.int .i64 t229, .slice (some ad237) t230.length co36] 46 (0, 0)) (zB BK234)) : gb238 ≠ gb234)); replace BK234 := aM (blk_below (g := gb234) (o := .cells #[.int .i64 t229, .slice (some ad237) t230.length co36] 46 (0, 0)) (zB BK234) hb); have NB236_238 := aM ((by rw [hg]; exact Nat.ne_of_lt (blk_lt (g := gb236) (o := .cells #[.int .i64 ((rd_T74 l0_1 x72_3).f0), .slice A235_1 ((rd_T74 l0_1 x72_3).f1).length c235_1, .slice A235_2 ((rd_T74 l0_1 x72_3).f2).length c235_2] 74 (0, 0)) (zB BK236)) : gb236 ≠ gb238)); have NB238_236 := aM ((by rw [hg]; exact Nat.ne_of_gt (blk_lt (g := gb236) (o := .cells #[.int .i64 ((rd_T74 l0_1 x72_3).f0), .slice A235_1 ((rd_T74 l0_1 x72_3).f1).length c235_1, .slice A235_2 ((rd_T74 l0_1 x72_3).f2).length c235_2] 74 (0, 0)) (zB BK236)) : gb238 ≠ gb236)); replace BK236 := aM (blk_below (g := gb236) (o := .cells #[.int .i64 ((rd_T74 l0_1 x72_3).f0), .slice A235_1 ((rd_T74 l0_1 x72_3).f1).length c235_1, .slice A235_2 ((rd_T74 l0_1 x72_3).f2).length c235_2] 74 (0, 0)) (zB BK236) hb); clear hb hbox hg; have hnb100 := NB238_222.out; have hnc100 := NB222_238.out; have hnb101 := NB238_234.out; have hnc101 := NB234_238.out; have hnb102 := NB238_236.out; have hnc102 := NB236_238.out; have hcz103_0 : w99.cell? ⟨gb238, 0, none⟩ = some (.int .i64 0) := (blk_cell BK238.out 0).trans rfl; have hcz103_1 : w99.cell? ⟨gb238, 1, none⟩ = some (.slice none 0 0) := (blk_cell BK238.out 1).trans rfl; have hcz103_2 : w99.cell? ⟨gb238, 2, none⟩ = some (.slice none 0 0) := (blk_cell BK238.out 2).trans rfl; have hfz103_0 := blk_frozen BK238.out 0; have hfz103_1 := blk_frozen BK238.out 1; have hfz103_2 := blk_frozen BK238.out 2; have hcz104_0 : w99.cell? ⟨gb236, 0, none⟩ = some (.int .i64 ((rd_T74 l0_1 x72_3).f0)) := (blk_cell BK236.out 0).trans rfl; have hcz104_1 : w99.cell? ⟨gb236, 1, none⟩ = some (.slice A235_1 ((rd_T74 l0_1 x72_3).f1).length c235_1) := (blk_cell BK236.out 1).trans rfl; have hcz104_2 : w99.cell? ⟨gb236, 2, none⟩ = some (.slice A235_2 ((rd_T74 l0_1 x72_3).f2).length c235_2) := (blk_cell BK236.out 2).trans rfl; have hfz104_0 := blk_frozen BK236.out 0; have hfz104_1 := blk_frozen BK236.out 1; have hfz104_2 := blk_frozen BK236.out 2))
                        go_ret
                        exact ⟨by first | rfl | (simp [errW_none, errW_some] <;> rfl) | (simp [*, errW_none, errW_some] <;> rfl), by repeat (first | (with_reducible first | exact HB.out | apply below_alloc | apply pw_below_drewN | apply below_drew1 | refine below_set ?_ GE222.out | refine below_set ?_ GE234.out | refine below_set ?_ GE236.out | refine below_set ?_ GE238.out) | exact HB.out)⟩
                      rw [if_neg c47] at H
                      exact absurd H (by simp)
                    rw [if_neg c46] at H
                    exact absurd H (by simp)
                  rw [if_neg c45] at H
                  exact absurd H (by simp)
                rw [if_neg c44] at H; have c44b0 := decide_eq_false c44; clear c44; obtain rfl := Option.some.inj H; go_wp2; go_ret
                exact ⟨by first | rfl | (simp [errW_none, errW_some] <;> rfl) | (simp [*, errW_none, errW_some] <;> rfl), by repeat (first | (with_reducible first | exact HB.out | apply below_alloc | apply pw_below_drewN | apply below_drew1 | refine below_set ?_ GE222.out | refine below_set ?_ GE234.out) | exact HB.out)⟩
  rw [if_neg c3] at H
  have c3b0 := beq_eq_false_iff_ne.mpr c3
  have c3b1 := bne_iff_ne.mpr c3
  obtain rfl := Option.some.inj H
  go_enter Try.func36, Try.ntmps36
  go_wp2_with (first | ((with_reducible refine gate_dst (N := 1) rfl ?_); (try (refine gate_guard (by rfl) ?_; dsimp only)); refine box_event ?hg (N := 1) ?hd (cs := #[.int .i64 a0_0, .slice A0_1 l0_1.length c0_1]) (t := 46) ?hr ?_; (case hd => rfl); (case hg => rfl); (case hr => first | (go_simp; done) | (go_simp; rfl)); intro gb222 hg w105 hbox hb; replace HO0_1 := aM (Kd.V_below (Kd.V_elderB (zV HO0_1) gb222 (Nat.le_of_eq hg.symm)) hb); have BK222 := aM (hbox); have GW222 := aM ((by rw [hg]; exact (below_size zz110) : w.heap.size ≤ gb222)); have GE222 := aM ((by rw [hg]; exact (below_size zz110) : w.heap.size ≤ gb222)); replace HB := aM (below_step zz110 hb); clear hb hbox hg; have hcz106_0 : w105.cell? ⟨gb222, 0, none⟩ = some (.int .i64 a0_0) := (blk_cell BK222.out 0).trans rfl; have hcz106_1 : w105.cell? ⟨gb222, 1, none⟩ = some (.slice A0_1 l0_1.length c0_1) := (blk_cell BK222.out 1).trans rfl; have hfz106_0 := blk_frozen BK222.out 0; have hfz106_1 := blk_frozen BK222.out 1) | ((with_reducible refine gate_callee (f := 52) rfl ?_); refine goesL_ (some 14) rfl rfl Try.func52 (by kernel_rfl) rfl #[.int .i64 a0_0] rfl zz109 ?_; (with_reducible refine (perm_degree.calls a0_0 t223 _ A2.out).mono ?_); rintro e w' ⟨rfl, ⟨nd, rfl⟩⟩; refine ⟨_, rfl, ?_⟩))
  go_ret
  exact ⟨by first | rfl | (simp [errW_none, errW_some] <;> rfl) | (simp [*, errW_none, errW_some] <;> rfl), by repeat (first | (with_reducible first | exact HB.out | apply below_alloc | apply pw_below_drewN | apply below_drew1 | refine below_set ?_ GE222.out) | exact HB.out)⟩
end
section
theorem perm_CheckChain.calls (k : Nat) (a0_0 : Int) (A0_1 : Option Addr) (c0_1 : Nat) (l0_1 : List S74) (r : Int) (w : World) (hr0_1 : Kd.C k74 w A0_1 l0_1.length l0_1) (hc0_1 : l0_1.length ≤ c0_1) (h : perm_CheckChain.f k a0_0 l0_1 = some r) :
    Calls Try.prog 36 #[.agg #[.int .i64 a0_0, .slice A0_1 l0_1.length c0_1]] w fun e w' => e = .returned (.int .i64 r) ∧ Below w.heap.size w w' :=
  perm_CheckChain.callsV k a0_0 (fun k_ => k_ < w.heap.size) A0_1 c0_1 l0_1 r w (Kd.V_mk hc0_1 (Kd.C_F k74_heap hr0_1)) h
end
section
attribute [local go_sem] max2_int min2_int max_two min_two max_three min_three max_four min_four
def perm_Size.l0 : Nat → List Int → List (S74) → Int → Int → Option (List Int × Int)
  | 0, _, _, _, _ => none
  | k + 1, x5, x15, x16, x17 => if x17 < x16 then (if 0 ≤ x17 then (if x17 < (x15.length : Int) then ((nat_Of.f (IntKind.u64.wrap ((((rd_T74 x15 x17).f1).length : Int)))).bind fun t259 => ((nat_Mul.f k (([x5, t259] : List (List Int)))).bind fun t265 => (perm_Size.l0 k t265 x15 x16 (wrap64 (x17 + 1))))) else (none)) else (none)) else (some (x5, 0))
def perm_Size.f (k : Nat) (a0_0 : Int) (l0_1 : List (S74)) : Option (List Int × Int) := (perm_CheckChain.f k a0_0 l0_1).bind fun t253 => (if t253 = 0 then ((nat_Of.f 1).bind fun t254 => (perm_Size.l0 k t254 l0_1 (l0_1.length : Int) 0)) else (some (([] : List Int), t253)))
theorem perm_Size.calls (k : Nat) (a0_0 : Int) (A0_1 : Option Addr) (c0_1 : Nat) (l0_1 : List (S74)) (r1 : List Int) (r2 : Int) (w : World) (hr0_1 : Kd.C k74 w A0_1 l0_1.length l0_1) (hc0_1 : l0_1.length ≤ c0_1) (h : perm_Size.f k a0_0 l0_1 = some (r1, r2)) :
    Calls Try.prog 35 #[.agg #[.int .i64 a0_0, .slice A0_1 l0_1.length c0_1]] w fun e w' => ∃ v0_ : Value, e = .returned (.tuple #[v0_, .int .i64 r2]) ∧ Kd.R (Kd.int .u32) 72 w' w.heap.size (fun _ => True) v0_ r1 ∧ Below w.heap.size w w' := by
  have hu46 := Try.underlying46
  have hu74 := Try.underlying74
  have HR0_1 := aM hr0_1
  have HC0_1 := aM hc0_1
  clear hr0_1 hc0_1
  have HB := aM (Below.refl w.heap.size w)
  have H : ((perm_CheckChain.f k a0_0 l0_1).bind fun t253 => (if t253 = 0 then ((nat_Of.f 1).bind fun t254 => (perm_Size.l0 k t254 l0_1 (l0_1.length : Int) 0)) else (some (([] : List Int), t253)))) = some (r1, r2) := h
  clear h
  replace H := Option.bind_eq_some_iff.mp H
  obtain ⟨t253, A20, H⟩ := H
  replace H : (if t253 = 0 then ((nat_Of.f 1).bind fun t254 => (perm_Size.l0 k t254 l0_1 (l0_1.length : Int) 0)) else (some (([] : List Int), t253))) = some (r1, r2) := H
  have A2 := aM A20
  clear A20
  by_cases c3 : t253 = 0
  · rw [if_pos c3] at H
    have c3b0 := beq_iff_eq.mpr c3; have c3b1 := bne_eq_false_iff_eq.mpr c3; clear c3; replace H := Option.bind_eq_some_iff.mp H; obtain ⟨t254, A40, H⟩ := H; replace H : (perm_Size.l0 k t254 l0_1 (l0_1.length : Int) 0) = some (r1, r2) := H; have A4 := aM A40; clear A40; have H' := aM H; clear H
    go_enter Try.func35, Try.ntmps35
    go_wp2_with (first | ((with_reducible refine gate_dst (N := 1) rfl ?_); refine box_event ?hg (N := 1) ?hd (cs := #[.int .i64 a0_0, .slice A0_1 l0_1.length c0_1]) (t := 46) ?hr ?_; (case hd => rfl); (case hg => rfl); (case hr => first | (go_simp; done) | (go_simp; rfl)); intro gb252 hg w5 hbox hb; have BK252 := aM (hbox); have GW252 := aM ((by rw [hg]; exact (below_size zz110) : w.heap.size ≤ gb252)); have GE252 := aM ((by rw [hg]; exact (below_size zz110) : w.heap.size ≤ gb252)); replace HB := aM (below_step zz110 hb); clear hb hbox hg; have hcz6_0 : w5.cell? ⟨gb252, 0, none⟩ = some (.int .i64 a0_0) := (blk_cell BK252.out 0).trans rfl; have hcz6_1 : w5.cell? ⟨gb252, 1, none⟩ = some (.slice A0_1 l0_1.length c0_1) := (blk_cell BK252.out 1).trans rfl; have hfz6_0 := blk_frozen BK252.out 0; have hfz6_1 := blk_frozen BK252.out 1) | ((with_reducible refine gate_callee (f := 36) rfl ?_); refine goesL_ (some 9) rfl rfl Try.func36 (by kernel_rfl) rfl #[.agg #[.int .i64 a0_0, .slice A0_1 l0_1.length c0_1]] rfl zz109 ?_; (with_reducible refine (perm_CheckChain.calls k a0_0 _ _ l0_1 t253 _ ?side1 ?side2 A2.out).mono ?_); (case side1 => repeat (first | exact (Kd.C_below HR0_1.out HB.out) | (with_reducible refine Kd.C_alloc ?_ _) | (with_reducible refine Kd.C_drewN ?_ _) | (with_reducible refine Kd.C_drew ?_))); (case side2 => exact HC0_1.out); rintro e w7 ⟨rfl, hb⟩; refine ⟨_, rfl, ?_⟩; replace BK252 := aM (blk_below (g := gb252) (o := .cells #[.int .i64 a0_0, .slice A0_1 l0_1.length c0_1] 46 (0, 0)) (zB BK252) hb); replace HB := aM (below_step zz92 hb); (try clear hb); (try clear hb2); (try clear hk); (try clear hi)) | ((with_reducible refine gate_callee (f := 48) rfl ?_); refine goesL_ (some 13) rfl rfl Try.func48 (by kernel_rfl) rfl #[.int .u64 1] rfl zz109 ?_; (with_reducible refine (nat_Of.calls 1 t254 _ A4.out).mono ?_); rintro e w8 ⟨v255, rfl, ho0, hb⟩; refine ⟨_, rfl, ?_⟩; have HO256 := aM (Kd.R_lower ho0 (below_size zz92)); replace BK252 := aM (blk_below (g := gb252) (o := .cells #[.int .i64 a0_0, .slice A0_1 l0_1.length c0_1] 46 (0, 0)) (zB BK252) hb); replace HB := aM (below_step zz92 hb); (try clear hb); (try clear hb2); (try clear hk); (try clear hi); (try clear ho0); have hcz9_0 : w8.cell? ⟨gb252, 0, none⟩ = some (.int .i64 a0_0) := (blk_cell BK252.out 0).trans rfl; have hcz9_1 : w8.cell? ⟨gb252, 1, none⟩ = some (.slice A0_1 l0_1.length c0_1) := (blk_cell BK252.out 1).trans rfl; have hfz9_0 := blk_frozen BK252.out 0; have hfz9_1 := blk_frozen BK252.out 1))
    go_loopg [5, 17] k (fun kq v5 v17 w' => ∃ (x5_1 : List Int) (x17_1 : Int), v17 = .int .i64 x17_1 ∧ Aside0 (perm_Size.l0 kq x5_1 l0_1 (l0_1.length : Int) x17_1 = some (r1, r2)) ∧ Aside0 (kq ≤ k) ∧ Aside0 (Kd.R (Kd.int .u32) 72 w' w.heap.size (fun _ => True) v5 x5_1) ∧ Aside0 (w'.heap[gb252]? = some (.cells #[.int .i64 a0_0, (.slice A0_1 l0_1.length c0_1)] 46 (0, 0))) ∧ Aside0 (Below w.heap.size w w'))
    case atStart => exact ⟨(t254), (0), zz136, H', ⟨Nat.le_refl _⟩, ⟨(zR HO256)⟩, ⟨(zB BK252)⟩, ⟨zz92⟩⟩
    case round =>
      clear H'; (try clear p2); (try clear c3); (try clear c3b0); (try clear c3b1); (try clear c4); (try clear hcz6_0); (try clear hcz6_1); (try clear hcz9_0); (try clear hcz9_1); (try clear hfz6_0); (try clear hfz6_1); (try clear hfz9_0); (try clear hfz9_1); obtain ⟨x5_1, x17_1, rfl, HA, HK1, HO_5, BK252, HB⟩ := hrel
      cases gk with
      | zero => exact absurd HA.out (by simp [perm_Size.l0])
      | succ k1 =>
        have H := HA.out; clear HA; simp only [perm_Size.l0] at H
        by_cases c10 : x17_1 < (l0_1.length : Int)
        · rw [if_pos c10] at H; have c10b0 := decide_eq_true c10; clear c10
          by_cases c11 : 0 ≤ x17_1
          · rw [if_pos c11] at H; have c11b0 := decide_eq_true c11; clear c11
            by_cases c12 : x17_1 < (l0_1.length : Int)
            · rw [if_pos c12] at H; have c12b0 := decide_eq_true c12; clear c12; replace H := Option.bind_eq_some_iff.mp H; obtain ⟨t259, A130, H⟩ := H; replace H : ((nat_Mul.f k1 (([x5_1, t259] : List (List Int)))).bind fun t265 => (perm_Size.l0 k1 t265 l0_1 (l0_1.length : Int) (wrap64 (x17_1 + 1)))) = some (r1, r2) := H; have A13 := aM A130; clear A130; obtain ⟨y262, hy262⟩ : ∃ y_ : List (List Int), y_ = (([x5_1, t259] : List (List Int))) := ⟨_, rfl⟩; replace H : ((nat_Mul.f k1 y262).bind fun t265 => (perm_Size.l0 k1 t265 l0_1 (l0_1.length : Int) (wrap64 (x17_1 + 1)))) = some (r1, r2) := by first | (rw [hy262]; with_reducible exact H) | (have H2_ := (Option.bind_some _ _).symm.trans H; rw [hy262]; with_reducible exact H2_) | (have H2_ := (Option.bind_some _ _).symm.trans H; with_reducible exact H2_) | with_reducible exact H | (rw [hy262]; exact H) | exact H
              have Ny262 := aM hy262; clear hy262; replace H := Option.bind_eq_some_iff.mp H; obtain ⟨t265, A140, H⟩ := H; replace H : (perm_Size.l0 k1 t265 l0_1 (l0_1.length : Int) (wrap64 (x17_1 + 1))) = some (r1, r2) := H; have A14 := aM A140; clear A140; have H' := aM H; clear H; have p257 : 0 ≤ (x17_1 : Int) := of_decide_eq_true zz135; have q257 : x17_1 < (l0_1.length : Int) := of_decide_eq_true zz135; obtain ⟨ad257, A257_1, c257_1, A257_2, c257_2, e257, hx257_0, hx257_1, hx257_2, hl257_1, hi257_1, hl257_2, hi257_2⟩ := at_T74 HR0_1.out x17_1 p257 q257
              cases e257; replace hx257_0 := (HB.out.cell (World.block_lt_of_cell? w _ hx257_0)).trans hx257_0; replace hx257_1 := (HB.out.cell (World.block_lt_of_cell? w _ hx257_1)).trans hx257_1; replace hx257_2 := (HB.out.cell (World.block_lt_of_cell? w _ hx257_2)).trans hx257_2; have HR257_1 := aM hi257_1; have HC257_1 := aM hl257_1; clear hi257_1 hl257_1; have HR257_2 := aM hi257_2; have HC257_2 := aM hl257_2; clear hi257_2 hl257_2; replace p257 := eq_true p257; replace q257 := eq_true q257
              go_wp2_with (first | ((with_reducible refine gate_dst (N := 7) rfl ?_); refine box_event ?hg (N := 7) ?hd (cs := #[.int .i64 0, .slice none 0 0, .slice none 0 0]) (t := 74) ?hr ?_; (case hd => rfl); (case hg => rfl); (case hr => first | (go_simp; done) | (go_simp; rfl)); intro gb258 hg w15 hbox hb; replace HO_5 := aM (Kd.R_below (zR HO_5) hb); have BK258 := aM (hbox); have GW258 := aM ((by rw [hg]; exact (below_size zz92) : w.heap.size ≤ gb258)); have GE258 := aM ((by rw [hg]; exact (below_size zz92) : w.heap.size ≤ gb258)); replace HB := aM (below_step zz92 hb); have NB252_258 := aM ((by rw [hg]; exact Nat.ne_of_lt (blk_lt (g := gb252) (o := .cells #[.int .i64 a0_0, .slice (some ad257) l0_1.length c0_1] 46 (0, 0)) (zB BK252)) : gb252 ≠ gb258)); have NB258_252 := aM ((by rw [hg]; exact Nat.ne_of_gt (blk_lt (g := gb252) (o := .cells #[.int .i64 a0_0, .slice (some ad257) l0_1.length c0_1] 46 (0, 0)) (zB BK252)) : gb258 ≠ gb252)); replace BK252 := aM (blk_below (g := gb252) (o := .cells #[.int .i64 a0_0, .slice (some ad257) l0_1.length c0_1] 46 (0, 0)) (zB BK252) hb); clear hb hbox hg; have hnb16 := NB258_252.out; have hnc16 := NB252_258.out; have hcz17_0 : w15.cell? ⟨gb258, 0, none⟩ = some (.int .i64 0) := (blk_cell BK258.out 0).trans rfl; have hcz17_1 : w15.cell? ⟨gb258, 1, none⟩ = some (.slice none 0 0) := (blk_cell BK258.out 1).trans rfl; have hcz17_2 : w15.cell? ⟨gb258, 2, none⟩ = some (.slice none 0 0) := (blk_cell BK258.out 2).trans rfl; have hfz17_0 := blk_frozen BK258.out 0; have hfz17_1 := blk_frozen BK258.out 1; have hfz17_2 := blk_frozen BK258.out 2) | ((with_reducible refine gate_callee (f := 48) rfl ?_); refine goesL_ (some 26) rfl rfl Try.func48 (by kernel_rfl) rfl #[.int .u64 (IntKind.u64.wrap ((((rd_T74 l0_1 x17_1).f1).length : Int)))] rfl zz109 ?_; (with_reducible refine (nat_Of.calls (IntKind.u64.wrap ((((rd_T74 l0_1 x17_1).f1).length : Int))) t259 _ A13.out).mono ?_); rintro e w18 ⟨v260, rfl, ho0, hb⟩; refine ⟨_, rfl, ?_⟩; have HO261 := aM (Kd.R_lower (Kd.R_new' ho0 (Kd.R_lt zz58)) (below_size zz81)); replace HO_5 := aM (Kd.R_elder' zz58 (Kd.R_base ho0) hb); replace BK252 := aM (blk_below (g := gb252) (o := .cells #[.int .i64 a0_0, .slice (some ad257) l0_1.length c0_1] 46 (0, 0)) zz49 hb); replace BK258 := aM (blk_below (g := gb258) (o := .cells #[.int .i64 ((rd_T74 l0_1 x17_1).f0), .slice A257_1 ((rd_T74 l0_1 x17_1).f1).length c257_1, .slice A257_2 ((rd_T74 l0_1 x17_1).f2).length c257_2] 74 (0, 0)) zz13 hb); replace HB := aM (below_step zz81 hb); (try clear hb); (try clear hb2); (try clear hk); (try clear hi); (try clear ho0); obtain ⟨Ao19, co19, eo19⟩ := Kd.R_slice HO_5.out; subst eo19; obtain ⟨Ao20, co20, eo20⟩ := Kd.R_slice HO261.out; subst eo20) | ((with_reducible refine gate_dst (N := 27) rfl ?_); refine Kd.N_lit (Kd.slice 72 (Kd.int .u32)) _ 53 ?hg (N' := 27) ?hd (xs := ([x5_1, t259] : List (List Int))) (inner := [.slice Ao19 x5_1.length co19, .slice Ao20 t259.length co20]) (ok := (fun k_ => k_ ≠ gb252 ∧ k_ ≠ gb258)) (okp := (fun k_ => k_ ≠ gb252 ∧ k_ ≠ gb258)) ?hr ?hp (fun _ hk => hk) ((show ∀ k_, w18.heap.size ≤ k_ → (fun k_ => k_ ≠ gb252 ∧ k_ ≠ gb258) k_ from fun k_ hk => ⟨Kd.freshB (g := gb252) (o := .cells #[.int .i64 a0_0, .slice (some ad257) l0_1.length c0_1] 46 (0, 0)) (zB BK252) k_ hk, Kd.freshB (g := gb258) (o := .cells #[.int .i64 ((rd_T74 l0_1 x17_1).f0), .slice A257_1 ((rd_T74 l0_1 x17_1).f1).length c257_1, .slice A257_2 ((rd_T74 l0_1 x17_1).f2).length c257_2] 74 (0, 0)) (zB BK258) k_ hk⟩) _ (Nat.le_refl _)) (Below.refl _ _) (Nat.le_refl _) (by simp) ?_; (case hd => rfl); (case hg => rfl); (case hr => first | (go_simp; done) | (go_simp; rfl)); (case hp => exact (Reps.one (show Kd.FK (Kd.slice 72 (Kd.int .u32)) _ _ x5_1 [.slice Ao19 x5_1.length co19] from (Kd.FK_slice_mk (Kd.R_reads' (Kd.R_mono (ok' := (fun k_ => k_ ≠ gb252 ∧ k_ ≠ gb258)) (Kd.R_types (Kd.R_types (HO_5.out) BK252.out (by decide)) BK258.out (by decide)) (fun k_ hk => ⟨hk.1.2, hk.2⟩))).2.1 (Kd.R_F (Kd.R_mono (ok' := (fun k_ => k_ ≠ gb252 ∧ k_ ≠ gb258)) (Kd.R_types (Kd.R_types (HO_5.out) BK252.out (by decide)) BK258.out (by decide)) (fun k_ hk => ⟨hk.1.2, hk.2⟩))))) (Reps.one (show Kd.FK (Kd.slice 72 (Kd.int .u32)) _ _ t259 [.slice Ao20 t259.length co20] from (Kd.FK_slice_mk (Kd.R_reads' (Kd.R_mono (ok' := (fun k_ => k_ ≠ gb252 ∧ k_ ≠ gb258)) (Kd.R_types (Kd.R_types (HO261.out) BK252.out (by decide)) BK258.out (by decide)) (fun k_ hk => ⟨hk.1.2, hk.2⟩))).2.1 (Kd.R_F (Kd.R_mono (ok' := (fun k_ => k_ ≠ gb252 ∧ k_ ≠ gb258)) (Kd.R_types (Kd.R_types (HO261.out) BK252.out (by decide)) BK258.out (by decide)) (fun k_ hk => ⟨hk.1.2, hk.2⟩))))) (Reps.none _ _)))); intro v263 w21 ho22 hb hg_ hnew_; clear hg_ hnew_; (first | rw [← Ny262.out] at ho22 | (simp only [Int.reduceToNat] at ho22; rw [← Ny262.out] at ho22)); have HO264 := aM (Kd.N_lower ho22 (below_size zz81)); replace BK252 := aM (blk_below (g := gb252) (o := .cells #[.int .i64 a0_0, .slice (some ad257) l0_1.length c0_1] 46 (0, 0)) (zB BK252) hb); replace BK258 := aM (blk_below (g := gb258) (o := .cells #[.int .i64 ((rd_T74 l0_1 x17_1).f0), .slice A257_1 ((rd_T74 l0_1 x17_1).f1).length c257_1, .slice A257_2 ((rd_T74 l0_1 x17_1).f2).length c257_2] 74 (0, 0)) (zB BK258) hb); replace HB := aM (below_step zz81 hb); clear HO261 HO_5; clear hb ho22; obtain ⟨Ao23, co23, eo23⟩ := Kd.N_slice HO264.out; subst eo23) | ((with_reducible refine gate_callee (f := 47) rfl ?_); refine goesL_ (some 28) rfl rfl Try.func47 (by kernel_rfl) rfl #[.slice Ao23 y262.length co23] rfl zz109 ?_; (with_reducible refine (nat_Mul.calls k1 _ _ y262 t265 _ ?side1 ?side2 A14.out).mono ?_); (case side1 => repeat (first | exact (Kd.N_reads' HO264.out).2.2 | (with_reducible refine Kd.C_alloc ?_ _) | (with_reducible refine Kd.C_drewN ?_ _) | (with_reducible refine Kd.C_drew ?_))); (case side2 => exact (Kd.N_reads' HO264.out).2.1); rintro e w24 ⟨v266, rfl, ho0, hb⟩; refine ⟨_, rfl, ?_⟩; replace HO264 := aM (Kd.N_elder' (zN HO264) (Kd.R_base ho0) hb); have HO267 := aM (Kd.R_lower ho0 (below_size zz81)); replace BK252 := aM (blk_below (g := gb252) (o := .cells #[.int .i64 a0_0, .slice (some ad257) l0_1.length c0_1] 46 (0, 0)) (zB BK252) hb); replace BK258 := aM (blk_below (g := gb258) (o := .cells #[.int .i64 ((rd_T74 l0_1 x17_1).f0), .slice A257_1 ((rd_T74 l0_1 x17_1).f1).length c257_1, .slice A257_2 ((rd_T74 l0_1 x17_1).f2).length c257_2] 74 (0, 0)) (zB BK258) hb); replace HB := aM (below_step zz81 hb); (try clear hb); (try clear hb2); (try clear hk); (try clear hi); (try clear ho0)))
              go_roundg k1
              case measure => have := HK1.out; omega
              case rel => exact ⟨(t265), (wrap64 (x17_1 + 1)), zz136, H', ⟨zz143⟩, ⟨(zR HO267)⟩, ⟨(zB BK252)⟩, ⟨zz81⟩⟩
            rw [if_neg c12] at H
            exact absurd H (by simp)
          rw [if_neg c11] at H
          exact absurd H (by simp)
        rw [if_neg c10] at H; have c10b0 := decide_eq_false c10; clear c10; simp only [Option.some.injEq, Prod.mk.injEq] at H; obtain ⟨rfl, rfl⟩ := H; go_wp2
        go_ret2
        exact ⟨_, by first | rfl | (simp [errW_none, errW_some] <;> rfl) | (simp [*, errW_none, errW_some] <;> rfl), by (with_reducible repeat (first | apply Kd.R_alloc | apply Kd.R_drewN | apply Kd.R_drew)); exact HO_5.out, by repeat (first | (with_reducible first | exact HB.out | apply below_alloc | apply pw_below_drewN | apply below_drew1 | refine below_set ?_ GE252.out) | exact HB.out)⟩
  rw [if_neg c3] at H
  have c3b0 := beq_eq_false_iff_ne.mpr c3
  have c3b1 := bne_iff_ne.mpr c3
  simp only [Option.some.injEq, Prod.mk.injEq] at H
  obtain ⟨rfl, rfl⟩ := H
  go_enter Try.func35, Try.ntmps35
  go_wp2_with (first | ((with_reducible refine gate_dst (N := 1) rfl ?_); refine box_event ?hg (N := 1) ?hd (cs := #[.int .i64 a0_0, .slice A0_1 l0_1.length c0_1]) (t := 46) ?hr ?_; (case hd => rfl); (case hg => rfl); (case hr => first | (go_simp; done) | (go_simp; rfl)); intro gb252 hg w25 hbox hb; have BK252 := aM (hbox); have GW252 := aM ((by rw [hg]; exact (below_size zz110) : w.heap.size ≤ gb252)); have GE252 := aM ((by rw [hg]; exact (below_size zz110) : w.heap.size ≤ gb252)); replace HB := aM (below_step zz110 hb); clear hb hbox hg; have hcz26_0 : w25.cell? ⟨gb252, 0, none⟩ = some (.int .i64 a0_0) := (blk_cell BK252.out 0).trans rfl; have hcz26_1 : w25.cell? ⟨gb252, 1, none⟩ = some (.slice A0_1 l0_1.length c0_1) := (blk_cell BK252.out 1).trans rfl; have hfz26_0 := blk_frozen BK252.out 0; have hfz26_1 := blk_frozen BK252.out 1) | ((with_reducible refine gate_callee (f := 36) rfl ?_); refine goesL_ (some 9) rfl rfl Try.func36 (by kernel_rfl) rfl #[.agg #[.int .i64 a0_0, .slice A0_1 l0_1.length c0_1]] rfl zz109 ?_; (with_reducible refine (perm_CheckChain.calls k a0_0 _ _ l0_1 t253 _ ?side1 ?side2 A2.out).mono ?_); (case side1 => repeat (first | exact (Kd.C_below HR0_1.out HB.out) | (with_reducible refine Kd.C_alloc ?_ _) | (with_reducible refine Kd.C_drewN ?_ _) | (with_reducible refine Kd.C_drew ?_))); (case side2 => exact HC0_1.out); rintro e w27 ⟨rfl, hb⟩; refine ⟨_, rfl, ?_⟩; replace BK252 := aM (blk_below (g := gb252) (o := .cells #[.int .i64 a0_0, .slice A0_1 l0_1.length c0_1] 46 (0, 0)) (zB BK252) hb); replace HB := aM (below_step zz92 hb); (try clear hb); (try clear hb2); (try clear hk); (try clear hi)))
  go_ret2
  exact ⟨_, by first | rfl | (simp [errW_none, errW_some] <;> rfl) | (simp [*, errW_none, errW_some] <;> rfl), by first | exact Kd.R_nil _ _ _ _ _ | exact Kd.N_nil _ _ _ _ _ | exact Kd.V_nil _ _ _ _ _ | exact Kd.Q_nil _ _ _ _ _ | exact Kd.S_nil _ _ _ _ _, by repeat (first | (with_reducible first | exact HB.out | apply below_alloc | apply pw_below_drewN | apply below_drew1 | refine below_set ?_ GE252.out) | exact HB.out)⟩
end
section
attribute [local go_sem] max2_int min2_int max_two min_two max_three min_three max_four min_four
def r01_limb.f (l0 : List Int) (a1 : Int) : Option (Int) := if a1 < (l0.length : Int) then (if 0 ≤ a1 then (some (IntKind.u64.wrap (rd l0 a1))) else (none)) else (some 0)
theorem r01_limb.calls (A0 : Option Addr) (c0 : Nat) (l0 : List Int) (a1 : Int) (r : Int) (w : World) (hr0 : Kd.C (Kd.int .u32) w A0 l0.length l0) (hc0 : l0.length ≤ c0) (h : r01_limb.f l0 a1 = some r) :
    Calls Try.prog 71 #[.slice A0 l0.length c0, .int .i64 a1] w fun e w' => e = .returned (.int .u64 r) ∧ Drawn0 w w' := by
  have HR0 := aM hr0
  have HC0 := aM hc0
  clear hr0 hc0
  have H : (if a1 < (l0.length : Int) then (if 0 ≤ a1 then (some (IntKind.u64.wrap (rd l0 a1))) else (none)) else (some 0)) = some r := h
  clear h
  by_cases c3 : a1 < (l0.length : Int)
  · rw [if_pos c3] at H
    have c3b0 := decide_eq_true c3; clear c3
    by_cases c4 : 0 ≤ a1
    · rw [if_pos c4] at H; have c4b0 := decide_eq_true c4; clear c4; obtain rfl := Option.some.inj H; have p296 : 0 ≤ (a1 : Int) := of_decide_eq_true zz135; have q296 : a1 < (l0.length : Int) := of_decide_eq_true zz135; obtain ⟨ad296, e296, hx296_0⟩ := Kd.at_int HR0.out a1 p296 q296
      cases e296; replace p296 := eq_true p296; replace q296 := eq_true q296
      go_enter Try.func71, Try.ntmps71
      go_wp2; go_ret
      exact ⟨by first | rfl | (simp; done) | (simp [*]; done), by repeat (first | exact Drawn0.refl _ | apply Drawn0.step)⟩
    rw [if_neg c4] at H
    exact absurd H (by simp)
  rw [if_neg c3] at H
  have c3b0 := decide_eq_false c3
  clear c3
  obtain rfl := Option.some.inj H
  go_enter Try.func71, Try.ntmps71
  go_wp2
  go_ret
  exact ⟨by first | rfl | (simp; done) | (simp [*]; done), by repeat (first | exact Drawn0.refl _ | apply Drawn0.step)⟩
end
section
attribute [local go_sem] max2_int min2_int max_two min_two max_three min_three max_four min_four
def r01_Cmp.l0 : Nat → List Int → List Int → Int → Option (Int)
  | 0, _, _, _ => none
  | k + 1, x0, x1, x5 => if x5 ≥ 0 then ((r01_limb.f x0 x5).bind fun t297 => ((r01_limb.f x1 x5).bind fun t298 => (if t297 < t298 then (some (-1)) else ((r01_limb.f x0 x5).bind fun t299 => ((r01_limb.f x1 x5).bind fun t300 => (if t299 > t300 then (some 1) else (r01_Cmp.l0 k x0 x1 (wrap64 (x5 - 1))))))))) else (some 0)
def r01_Cmp.f (k : Nat) (l0 : List Int) (l1 : List Int) : Option (Int) := r01_Cmp.l0 k l0 l1 (wrap64 ((mx (l0.length : Int) (l1.length : Int)) - 1))
theorem r01_Cmp.calls (k : Nat) (A0 : Option Addr) (c0 : Nat) (l0 : List Int) (A1 : Option Addr) (c1 : Nat) (l1 : List Int) (r : Int) (w : World) (hr0 : Kd.C (Kd.int .u32) w A0 l0.length l0) (hc0 : l0.length ≤ c0) (hr1 : Kd.C (Kd.int .u32) w A1 l1.length l1) (hc1 : l1.length ≤ c1) (h : r01_Cmp.f k l0 l1 = some r) :
    Calls Try.prog 46 #[.slice A0 l0.length c0, .slice A1 l1.length c1] w fun e w' => e = .returned (.int .i64 r) ∧ Below w.heap.size w w' := by
  have HR0 := aM hr0
  have HC0 := aM hc0
  clear hr0 hc0
  have HR1 := aM hr1
  have HC1 := aM hc1
  clear hr1 hc1
  have HB := aM (Below.refl w.heap.size w)
  have H : (r01_Cmp.l0 k l0 l1 (wrap64 ((mx (l0.length : Int) (l1.length : Int)) - 1))) = some r := h
  clear h
  obtain ⟨ji3, hji3⟩ : ∃ j_ : Int, (mx (l0.length : Int) (l1.length : Int)) = j_ := ⟨_, rfl⟩
  replace H : (r01_Cmp.l0 k l0 l1 (wrap64 ((ji3) - 1))) = some r := by first | (rw [hji3] at H; exact H) | (simp only [hji3] at H ⊢; exact H)
  (try (have hji3l : 0 ≤ ji3 := by (rw [← hji3]; unfold mx; (repeat' split) <;> omega)))
  (try (have hji3m : 0 ≤ ji3 := by omega))
  have hji3_ : (if (l0.length : Int) < (l1.length : Int) then (l1.length : Int) else (l0.length : Int)) = ji3 := hji3
  have H' := aM H
  clear H
  by_cases hq_ : (l0.length : Int) < (l1.length : Int)
  all_goals
    go_enter Try.func46, Try.ntmps46
    go_wp2
    go_loopg [5] k (fun kq v5 w' => ∃ (x5_1 : Int), v5 = .int .i64 x5_1 ∧ Aside0 (r01_Cmp.l0 kq l0 l1 x5_1 = some r) ∧ Aside0 (kq ≤ k) ∧ Aside0 (Below w.heap.size w w'))
    case atStart => exact ⟨(wrap64 ((ji3) - 1)), (by first | rfl | (refine congrArg (fun z_ => Value.int .i64 (wrap64 (z_ - 1))) ?_; rw [← hji3]; unfold mx; split <;> omega) | (simp; done) | (simp only [← hji3] <;> (first | rfl | simp)) | (simp [*]; done)), H', ⟨Nat.le_refl _⟩, ⟨zz110⟩⟩
    case round =>
      clear H'; (try clear c1); (try clear p2); obtain ⟨x5_1, rfl, HA, HK1, HB⟩ := hrel
      cases gk with
      | zero => exact absurd HA.out (by simp [r01_Cmp.l0])
      | succ k1 =>
        have H := HA.out; clear HA; simp only [r01_Cmp.l0] at H
        by_cases c4 : x5_1 ≥ 0
        · rw [if_pos c4] at H; have c4b0 := decide_eq_true c4; clear c4; replace H := Option.bind_eq_some_iff.mp H; obtain ⟨t297, A50, H⟩ := H; replace H : ((r01_limb.f l1 x5_1).bind fun t298 => (if t297 < t298 then (some (-1)) else ((r01_limb.f l0 x5_1).bind fun t299 => ((r01_limb.f l1 x5_1).bind fun t300 => (if t299 > t300 then (some 1) else (r01_Cmp.l0 k1 l0 l1 (wrap64 (x5_1 - 1)))))))) = some r := H; have A5 := aM A50; clear A50; replace H := Option.bind_eq_some_iff.mp H; obtain ⟨t298, A60, H⟩ := H; replace H : (if t297 < t298 then (some (-1)) else ((r01_limb.f l0 x5_1).bind fun t299 => ((r01_limb.f l1 x5_1).bind fun t300 => (if t299 > t300 then (some 1) else (r01_Cmp.l0 k1 l0 l1 (wrap64 (x5_1 - 1))))))) = some r := H; have A6 := aM A60; clear A60
          by_cases c7 : t297 < t298
          · rw [if_pos c7] at H; have c7b0 := decide_eq_true c7; clear c7; obtain rfl := Option.some.inj H
            go_wp2_with (first | ((with_reducible refine gate_callee (f := 71) rfl ?_); refine goesL_ (some 18) rfl rfl Try.func71 (by kernel_rfl) rfl #[.slice A0 l0.length c0, .int .i64 x5_1] rfl zz109 ?_; (with_reducible refine (r01_limb.calls _ _ l0 x5_1 t297 _ ?side1 ?side2 A5.out).mono ?_); (case side1 => repeat (first | exact (Kd.C_below HR0.out HB.out) | (with_reducible refine Kd.C_alloc ?_ _) | (with_reducible refine Kd.C_drewN ?_ _) | (with_reducible refine Kd.C_drew ?_))); (case side2 => exact HC0.out); rintro e w' ⟨rfl, ⟨nd, rfl⟩⟩; refine ⟨_, rfl, ?_⟩) | ((with_reducible refine gate_callee (f := 71) rfl ?_); refine goesL_ (some 21) rfl rfl Try.func71 (by kernel_rfl) rfl #[.slice A1 l1.length c1, .int .i64 x5_1] rfl zz109 ?_; (with_reducible refine (r01_limb.calls _ _ l1 x5_1 t298 _ ?side1 ?side2 A6.out).mono ?_); (case side1 => repeat (first | exact (Kd.C_below HR1.out zz110) | (with_reducible refine Kd.C_alloc ?_ _) | (with_reducible refine Kd.C_drewN ?_ _) | (with_reducible refine Kd.C_drew ?_))); (case side2 => exact HC1.out); rintro e w' ⟨rfl, ⟨nd, rfl⟩⟩; refine ⟨_, rfl, ?_⟩))
            go_ret
            exact ⟨by first | rfl | (simp [errW_none, errW_some] <;> rfl) | (simp only [← hji3]; first | rfl | (simp [errW_none, errW_some] <;> rfl)) | (simp [*, errW_none, errW_some] <;> rfl), by repeat (first | (with_reducible first | exact HB.out | apply below_alloc | apply pw_below_drewN | apply below_drew1) | exact HB.out)⟩
          · rw [if_neg c7] at H; have c7b0 := decide_eq_false c7; clear c7; replace H := Option.bind_eq_some_iff.mp H; obtain ⟨t299, A80, H⟩ := H; replace H : ((r01_limb.f l1 x5_1).bind fun t300 => (if t299 > t300 then (some 1) else (r01_Cmp.l0 k1 l0 l1 (wrap64 (x5_1 - 1))))) = some r := H; have A8 := aM A80; clear A80; replace H := Option.bind_eq_some_iff.mp H; obtain ⟨t300, A90, H⟩ := H; replace H : (if t299 > t300 then (some 1) else (r01_Cmp.l0 k1 l0 l1 (wrap64 (x5_1 - 1)))) = some r := H; have A9 := aM A90; clear A90
            by_cases c10 : t299 > t300
            · rw [if_pos c10] at H; have c10b0 := decide_eq_true c10; clear c10; obtain rfl := Option.some.inj H
              go_wp2_with (first | ((with_reducible refine gate_callee (f := 71) rfl ?_); refine goesL_ (some 18) rfl rfl Try.func71 (by kernel_rfl) rfl #[.slice A0 l0.length c0, .int .i64 x5_1] rfl zz109 ?_; (with_reducible refine (r01_limb.calls _ _ l0 x5_1 t297 _ ?side1 ?side2 A5.out).mono ?_); (case side1 => repeat (first | exact (Kd.C_below HR0.out HB.out) | (with_reducible refine Kd.C_alloc ?_ _) | (with_reducible refine Kd.C_drewN ?_ _) | (with_reducible refine Kd.C_drew ?_))); (case side2 => exact HC0.out); rintro e w' ⟨rfl, ⟨nd, rfl⟩⟩; refine ⟨_, rfl, ?_⟩) | ((with_reducible refine gate_callee (f := 71) rfl ?_); refine goesL_ (some 21) rfl rfl Try.func71 (by kernel_rfl) rfl #[.slice A1 l1.length c1, .int .i64 x5_1] rfl zz109 ?_; (with_reducible refine (r01_limb.calls _ _ l1 x5_1 t298 _ ?side1 ?side2 A6.out).mono ?_); (case side1 => repeat (first | exact (Kd.C_below HR1.out zz110) | (with_reducible refine Kd.C_alloc ?_ _) | (with_reducible refine Kd.C_drewN ?_ _) | (with_reducible refine Kd.C_drew ?_))); (case side2 => exact HC1.out); rintro e w' ⟨rfl, ⟨nd, rfl⟩⟩; refine ⟨_, rfl, ?_⟩) | ((with_reducible refine gate_callee (f := 71) rfl ?_); refine goesL_ (some 25) rfl rfl Try.func71 (by kernel_rfl) rfl #[.slice A0 l0.length c0, .int .i64 x5_1] rfl zz109 ?_; (with_reducible refine (r01_limb.calls _ _ l0 x5_1 t299 _ ?side1 ?side2 A8.out).mono ?_); (case side1 => repeat (first | exact (Kd.C_below HR0.out zz110) | (with_reducible refine Kd.C_alloc ?_ _) | (with_reducible refine Kd.C_drewN ?_ _) | (with_reducible refine Kd.C_drew ?_))); (case side2 => exact HC0.out); rintro e w' ⟨rfl, ⟨nd, rfl⟩⟩; refine ⟨_, rfl, ?_⟩) | ((with_reducible refine gate_callee (f := 71) rfl ?_); refine goesL_ (some 28) rfl rfl Try.func71 (by kernel_rfl) rfl #[.slice A1 l1.length c1, .int .i64 x5_1] rfl zz109 ?_; (with_reducible refine (r01_limb.calls _ _ l1 x5_1 t300 _ ?side1 ?side2 A9.out).mono ?_); (case side1 => repeat (first | exact (Kd.C_below HR1.out zz110) | (with_reducible refine Kd.C_alloc ?_ _) | (with_reducible refine Kd.C_drewN ?_ _) | (with_reducible refine Kd.C_drew ?_))); (case side2 => exact HC1.out); rintro e w' ⟨rfl, ⟨nd, rfl⟩⟩; refine ⟨_, rfl, ?_⟩))
              go_ret
              exact ⟨by first | rfl | (simp [errW_none, errW_some] <;> rfl) | (simp only [← hji3]; first | rfl | (simp [errW_none, errW_some] <;> rfl)) | (simp [*, errW_none, errW_some] <;> rfl), by repeat (first | (with_reducible first | exact HB.out | apply below_alloc | apply pw_below_drewN | apply below_drew1) | exact HB.out)⟩
            · rw [if_neg c10] at H; have c10b0 := decide_eq_false c10; clear c10; have H' := aM H; clear H
              go_wp2_with (first | ((with_reducible refine gate_callee (f := 71) rfl ?_); refine goesL_ (some 18) rfl rfl Try.func71 (by kernel_rfl) rfl #[.slice A0 l0.length c0, .int .i64 x5_1] rfl zz109 ?_; (with_reducible refine (r01_limb.calls _ _ l0 x5_1 t297 _ ?side1 ?side2 A5.out).mono ?_); (case side1 => repeat (first | exact (Kd.C_below HR0.out HB.out) | (with_reducible refine Kd.C_alloc ?_ _) | (with_reducible refine Kd.C_drewN ?_ _) | (with_reducible refine Kd.C_drew ?_))); (case side2 => exact HC0.out); rintro e w' ⟨rfl, ⟨nd, rfl⟩⟩; refine ⟨_, rfl, ?_⟩) | ((with_reducible refine gate_callee (f := 71) rfl ?_); refine goesL_ (some 21) rfl rfl Try.func71 (by kernel_rfl) rfl #[.slice A1 l1.length c1, .int .i64 x5_1] rfl zz109 ?_; (with_reducible refine (r01_limb.calls _ _ l1 x5_1 t298 _ ?side1 ?side2 A6.out).mono ?_); (case side1 => repeat (first | exact (Kd.C_below HR1.out zz110) | (with_reducible refine Kd.C_alloc ?_ _) | (with_reducible refine Kd.C_drewN ?_ _) | (with_reducible refine Kd.C_drew ?_))); (case side2 => exact HC1.out); rintro e w' ⟨rfl, ⟨nd, rfl⟩⟩; refine ⟨_, rfl, ?_⟩) | ((with_reducible refine gate_callee (f := 71) rfl ?_); refine goesL_ (some 25) rfl rfl Try.func71 (by kernel_rfl) rfl #[.slice A0 l0.length c0, .int .i64 x5_1] rfl zz109 ?_; (with_reducible refine (r01_limb.calls _ _ l0 x5_1 t299 _ ?side1 ?side2 A8.out).mono ?_); (case side1 => repeat (first | exact (Kd.C_below HR0.out zz110) | (with_reducible refine Kd.C_alloc ?_ _) | (with_reducible refine Kd.C_drewN ?_ _) | (with_reducible refine Kd.C_drew ?_))); (case side2 => exact HC0.out); rintro e w' ⟨rfl, ⟨nd, rfl⟩⟩; refine ⟨_, rfl, ?_⟩) | ((with_reducible refine gate_callee (f := 71) rfl ?_); refine goesL_ (some 28) rfl rfl Try.func71 (by kernel_rfl) rfl #[.slice A1 l1.length c1, .int .i64 x5_1] rfl zz109 ?_; (with_reducible refine (r01_limb.calls _ _ l1 x5_1 t300 _ ?side1 ?side2 A9.out).mono ?_); (case side1 => repeat (first | exact (Kd.C_below HR1.out zz110) | (with_reducible refine Kd.C_alloc ?_ _) | (with_reducible refine Kd.C_drewN ?_ _) | (with_reducible refine Kd.C_drew ?_))); (case side2 => exact HC1.out); rintro e w' ⟨rfl, ⟨nd, rfl⟩⟩; refine ⟨_, rfl, ?_⟩))
              go_roundg k1
              case measure => have := HK1.out; omega
              case rel => exact ⟨(wrap64 (x5_1 - 1)), zz136, H', ⟨zz143⟩, ⟨zz110⟩⟩
        · rw [if_neg c4] at H; have c4b0 := decide_eq_false c4; clear c4; obtain rfl := Option.some.inj H; go_wp2; go_ret
          exact ⟨by first | rfl | (simp [errW_none, errW_some] <;> rfl) | (simp only [← hji3]; first | rfl | (simp [errW_none, errW_some] <;> rfl)) | (simp [*, errW_none, errW_some] <;> rfl), by repeat (first | (with_reducible first | exact HB.out | apply below_alloc | apply pw_below_drewN | apply below_drew1) | exact HB.out)⟩
end
section
attribute [local go_sem] max2_int min2_int max_two min_two max_three min_three max_four min_four
mutual
def r30_Check.j0 : Nat → List Int → Int → Bool → Option (Int)
  | 0, _, _, _ => none
  | k + 1, x0, x3, x14 => if x14 = true then (some 4) else (r30_Check.l0 k x0 x3 0)
def r30_Check.l0 : Nat → List Int → Int → Int → Option (Int)
  | 0, _, _, _ => none
  | k + 1, x0, x3, x4 => if x4 < x3 then (if 0 ≤ x4 then (if x4 < (x0.length : Int) then (if (rd x0 x4) < 0 then (some 6) else (if (rd x0 x4) ≥ x3 then (some 6) else (r30_Check.l0 k x0 x3 (wrap64 (x4 + 1))))) else (none)) else (none)) else (r30_Check.l1 k x0 x3 0)
def r30_Check.l1 : Nat → List Int → Int → Int → Option (Int)
  | 0, _, _, _ => none
  | k + 1, x0, x3, x5 => if x5 < x3 then (r30_Check.l2 k x0 x3 x5 0) else (some 0)
def r30_Check.l2 : Nat → List Int → Int → Int → Int → Option (Int)
  | 0, _, _, _, _ => none
  | k + 1, x0, x3, x5, x6 => if x6 < x5 then (if 0 ≤ x5 then (if x5 < (x0.length : Int) then (if 0 ≤ x6 then (if x6 < (x0.length : Int) then (if (rd x0 x5) = (rd x0 x6) then (some 18) else (r30_Check.l2 k x0 x3 x5 (wrap64 (x6 + 1)))) else (none)) else (none)) else (none)) else (none)) else (r30_Check.l1 k x0 x3 (wrap64 (x5 + 1)))
end
def r30_Check.f (k : Nat) (l0 : List Int) : Option (Int) := if (l0.length : Int) < 1 then (r30_Check.j0 k l0 (l0.length : Int) true) else (r30_Check.j0 k l0 (l0.length : Int) (decide ((l0.length : Int) > 64)))
theorem r30_Check.calls (k : Nat) (A0 : Option Addr) (c0 : Nat) (l0 : List Int) (r : Int) (w : World) (hr0 : Kd.C (Kd.int .i64) w A0 l0.length l0) (hc0 : l0.length ≤ c0) (h : r30_Check.f k l0 = some r) :
    Calls Try.prog 17 #[.slice A0 l0.length c0] w fun e w' => e = .returned (.int .i64 r) ∧ Drawn0 w w' := by
  have HR0 := aM hr0
  have HC0 := aM hc0
  clear hr0 hc0
  have H : (if (l0.length : Int) < 1 then (r30_Check.j0 k l0 (l0.length : Int) true) else (r30_Check.j0 k l0 (l0.length : Int) (decide ((l0.length : Int) > 64)))) = some r := h
  clear h
  have HC2 := aM H
  clear H
  go_enter Try.func17, Try.ntmps17
  go_upto_region 2 with (fail)
  repeat (go_quiet (fail); go_upto_region 2 with (fail))
  go_cut [14] (fun v14 wc => ∃ (kq : Nat) (x14_1 : Bool), v14 = .bool x14_1 ∧ Aside0 (r30_Check.j0 kq l0 (l0.length : Int) x14_1 = some r) ∧ Aside0 (kq ≤ k) ∧ Drawn0 w wc)
  case first =>
    have H := HC2.out; clear HC2
    by_cases c3 : (l0.length : Int) < 1
    · rw [if_pos c3] at H; have c3b0 := decide_eq_true c3; have c3b1 : decide (l0.length < 1) = true := decide_eq_true (by omega); clear c3
      (first | rw [c3b0] | (simp only [i64_w, i32_w]; rw [c3b0]) | skip)
      have H' := aM H; clear H; go_wp2
      repeat (go_quiet (fail); try go_wp2)
      go_meet
      case rel => exact ⟨_, (true), zz136, H', ⟨zz138⟩, by repeat (first | exact Drawn0.refl _ | apply Drawn0.step)⟩
    rw [if_neg c3] at H; have c3b0 := decide_eq_false c3; have c3b1 : decide (l0.length < 1) = false := decide_eq_false (by omega); clear c3
    (first | rw [c3b0] | (simp only [i64_w, i32_w]; rw [c3b0]) | skip)
    have H' := aM H; clear H; go_wp2
    repeat (go_quiet (fail); try go_wp2)
    go_meet
    case rel => exact ⟨_, (decide ((l0.length : Int) > 64)), zz136, H', ⟨zz138⟩, by repeat (first | exact Drawn0.refl _ | apply Drawn0.step)⟩
  case rest =>
    clear HC2; (try clear c1); (try clear p2); (try clear c3); (try clear c3b0); (try clear c3b1); obtain ⟨kq, x14_1, rfl, HA, HJ1, ⟨mc1, rfl⟩⟩ := hcut
    cases kq with
    | zero => exact absurd HA.out (by simp [r30_Check.j0])
    | succ kj1 =>
      have H := HA.out; clear HA; simp only [r30_Check.j0] at H
      by_cases c4 : x14_1 = true
      · subst c4; have H1 : (some 4) = some r := by rw [if_pos rfl] at H; exact H
        clear H; have H := H1; clear H1; obtain rfl := Option.some.inj H; go_wp2
        repeat (go_quiet (fail); try go_wp2)
        go_ret
        exact ⟨by first | rfl | (simp; done) | (simp [*]; done), by repeat (first | exact Drawn0.refl _ | apply Drawn0.step)⟩
      replace c4 := Bool.eq_false_iff.mpr c4; subst c4; have H1 : (r30_Check.l0 kj1 l0 (l0.length : Int) 0) = some r := by rw [if_neg (show ¬ (false = true) by decide)] at H; exact H
      clear H; have H := H1; clear H1; have H' := aM H; clear H; go_wp2
      repeat (go_quiet (fail); try go_wp2)
      go_loopg [4] kj1 (fun kq v4 w' => ∃ (x4_2 : Int), v4 = .int .i64 x4_2 ∧ Aside0 (r30_Check.l0 kq l0 (l0.length : Int) x4_2 = some r) ∧ Aside0 (kq ≤ kj1) ∧ Drawn0 w w')
      case atStart => exact ⟨(0), zz136, H', ⟨Nat.le_refl _⟩, by repeat (first | exact Drawn0.refl _ | apply Drawn0.step)⟩
      case round =>
        clear H'; (try clear c1); (try clear p2); (try clear c3); (try clear c3b0); (try clear c3b1); (try clear c4); (try clear p2); obtain ⟨x4_2, rfl, HA, HK2, ⟨m2, rfl⟩⟩ := hrel
        cases gk with
        | zero => exact absurd HA.out (by simp [r30_Check.l0])
        | succ k2 =>
          have H := HA.out; clear HA; simp only [r30_Check.l0] at H
          by_cases c5 : x4_2 < (l0.length : Int)
          · rw [if_pos c5] at H; have c5b0 := decide_eq_true c5; clear c5
            by_cases c6 : 0 ≤ x4_2
            · rw [if_pos c6] at H; have c6b0 := decide_eq_true c6; clear c6
              by_cases c7 : x4_2 < (l0.length : Int)
              · rw [if_pos c7] at H; have c7b0 := decide_eq_true c7; clear c7
                by_cases c8 : (rd l0 x4_2) < 0
                · rw [if_pos c8] at H; have c8b0 := decide_eq_true c8; clear c8; obtain rfl := Option.some.inj H; have p311 : 0 ≤ (x4_2 : Int) := of_decide_eq_true zz135; have q311 : x4_2 < (l0.length : Int) := of_decide_eq_true zz135; obtain ⟨ad311, e311, hx311_0⟩ := Kd.at_int HR0.out x4_2 p311 q311
                  cases e311; replace p311 := eq_true p311; replace q311 := eq_true q311; go_wp2
                  repeat (go_quiet (fail); try go_wp2)
                  go_ret
                  exact ⟨by first | rfl | (simp; done) | (simp [*]; done), by repeat (first | exact Drawn0.refl _ | apply Drawn0.step)⟩
                rw [if_neg c8] at H; have c8b0 := decide_eq_false c8; clear c8
                by_cases c9 : (rd l0 x4_2) ≥ (l0.length : Int)
                · rw [if_pos c9] at H; have c9b0 := decide_eq_true c9; clear c9; obtain rfl := Option.some.inj H; have p311 : 0 ≤ (x4_2 : Int) := of_decide_eq_true zz135; have q311 : x4_2 < (l0.length : Int) := of_decide_eq_true zz135; obtain ⟨ad311, e311, hx311_0⟩ := Kd.at_int HR0.out x4_2 p311 q311
                  cases e311; replace p311 := eq_true p311; replace q311 := eq_true q311; have p312 : 0 ≤ (x4_2 : Int) := of_decide_eq_true zz135; have q312 : x4_2 < (l0.length : Int) := of_decide_eq_true zz135; obtain ⟨ad312, e312, hx312_0⟩ := Kd.at_int HR0.out x4_2 p312 q312; obtain rfl : ad311 = ad312 := (by injection e312); replace p312 := eq_true p312; replace q312 := eq_true q312; go_wp2
                  repeat (go_quiet (fail); try go_wp2)
                  go_ret
                  exact ⟨by first | rfl | (simp; done) | (simp [*]; done), by repeat (first | exact Drawn0.refl _ | apply Drawn0.step)⟩
                rw [if_neg c9] at H; have c9b0 := decide_eq_false c9; clear c9; have H' := aM H; clear H; have p311 : 0 ≤ (x4_2 : Int) := of_decide_eq_true zz135; have q311 : x4_2 < (l0.length : Int) := of_decide_eq_true zz135; obtain ⟨ad311, e311, hx311_0⟩ := Kd.at_int HR0.out x4_2 p311 q311
                cases e311; replace p311 := eq_true p311; replace q311 := eq_true q311; have p312 : 0 ≤ (x4_2 : Int) := of_decide_eq_true zz135; have q312 : x4_2 < (l0.length : Int) := of_decide_eq_true zz135; obtain ⟨ad312, e312, hx312_0⟩ := Kd.at_int HR0.out x4_2 p312 q312; obtain rfl : ad311 = ad312 := (by injection e312); replace p312 := eq_true p312; replace q312 := eq_true q312; go_wp2
                repeat (go_quiet (fail); try go_wp2)
                go_roundg k2
                case measure => have := HJ1.out; have := HK2.out; omega
                case rel => exact ⟨(wrap64 (x4_2 + 1)), zz136, H', ⟨(by have := HJ1.out; have := HK2.out; omega)⟩, by repeat (first | exact Drawn0.refl _ | apply Drawn0.step)⟩
              rw [if_neg c7] at H
              exact absurd H (by simp)
            rw [if_neg c6] at H
            exact absurd H (by simp)
          rw [if_neg c5] at H; have c5b0 := decide_eq_false c5; clear c5; have H' := aM H; clear H; go_wp2
          repeat (go_quiet (fail); try go_wp2)
          go_loopg [5] k2 (fun kq v5 w' => ∃ (x5_3 : Int), v5 = .int .i64 x5_3 ∧ Aside0 (r30_Check.l1 kq l0 (l0.length : Int) x5_3 = some r) ∧ Aside0 (kq ≤ k2) ∧ Drawn0 w w')
          case atStart => exact ⟨(0), zz136, H', ⟨Nat.le_refl _⟩, by repeat (first | exact Drawn0.refl _ | apply Drawn0.step)⟩
          case round =>
            clear H'; (try clear c1); (try clear p2); (try clear c3); (try clear c3b0); (try clear c3b1); (try clear p3); (try clear q3); (try clear hx3); (try clear c4); (try clear c5); (try clear c5b0); (try clear c6); (try clear c6b0); (try clear p6); (try clear c7); (try clear c7b0); (try clear c8); (try clear c8b0); (try clear c9); (try clear c9b0); (try clear hx311_0); (try clear hx312_0); (try clear p2); (try clear p311); (try clear p312); (try clear q311); (try clear q312); obtain ⟨x5_3, rfl, HA, HK3, ⟨m3, rfl⟩⟩ := hrel
            cases gk with
            | zero => exact absurd HA.out (by simp [r30_Check.l1])
            | succ k3 =>
              have H := HA.out; clear HA; simp only [r30_Check.l1] at H
              by_cases c10 : x5_3 < (l0.length : Int)
              · rw [if_pos c10] at H; have c10b0 := decide_eq_true c10; clear c10; have H' := aM H; clear H; go_wp2
                repeat (go_quiet (fail); try go_wp2)
                go_loopg [6] k3 (fun kq v6 w' => ∃ (x6_4 : Int), v6 = .int .i64 x6_4 ∧ Aside0 (r30_Check.l2 kq l0 (l0.length : Int) x5_3 x6_4 = some r) ∧ Aside0 (kq ≤ k3) ∧ Drawn0 w w')
                case atStart => exact ⟨(0), zz136, H', ⟨Nat.le_refl _⟩, by repeat (first | exact Drawn0.refl _ | apply Drawn0.step)⟩
                case round =>
                  clear H'; (try clear c1); (try clear p2); (try clear c3); (try clear c3b0); (try clear c3b1); (try clear p3); (try clear q3); (try clear hx3); (try clear c4); (try clear c5); (try clear c5b0); (try clear c6); (try clear c6b0); (try clear p6); (try clear c7); (try clear c7b0); (try clear c8); (try clear c8b0); (try clear c9); (try clear c9b0); (try clear c10); (try clear c10b0); (try clear hx311_0); (try clear hx312_0); (try clear p2); (try clear p3); (try clear p311); (try clear p312); (try clear p6); (try clear q3); (try clear q311); (try clear q312); obtain ⟨x6_4, rfl, HA, HK4, ⟨m4, rfl⟩⟩ := hrel
                  cases gk with
                  | zero => exact absurd HA.out (by simp [r30_Check.l2])
                  | succ k4 =>
                    have H := HA.out; clear HA; simp only [r30_Check.l2] at H
                    by_cases c11 : x6_4 < x5_3
                    · rw [if_pos c11] at H; have c11b0 := decide_eq_true c11; clear c11
                      by_cases c12 : 0 ≤ x5_3
                      · rw [if_pos c12] at H; have c12b0 := decide_eq_true c12; clear c12
                        by_cases c13 : x5_3 < (l0.length : Int)
                        · rw [if_pos c13] at H; have c13b0 := decide_eq_true c13; clear c13
                          by_cases c14 : 0 ≤ x6_4
                          · rw [if_pos c14] at H; have c14b0 := decide_eq_true c14; clear c14
                            by_cases c15 : x6_4 < (l0.length : Int)
                            · rw [if_pos c15] at H; have c15b0 := decide_eq_true c15; clear c15
                              by_cases c16 : (rd l0 x5_3) = (rd l0 x6_4)
                              · rw [if_pos c16] at H; have c16b0 := beq_iff_eq.mpr c16; have c16b1 := bne_eq_false_iff_eq.mpr c16; clear c16; obtain rfl := Option.some.inj H; have p313 : 0 ≤ (x5_3 : Int) := of_decide_eq_true zz135; have q313 : x5_3 < (l0.length : Int) := of_decide_eq_true zz135; obtain ⟨ad313, e313, hx313_0⟩ := Kd.at_int HR0.out x5_3 p313 q313
                                cases e313; replace p313 := eq_true p313; replace q313 := eq_true q313; have p314 : 0 ≤ (x6_4 : Int) := of_decide_eq_true zz135; have q314 : x6_4 < (l0.length : Int) := of_decide_eq_true zz135; obtain ⟨ad314, e314, hx314_0⟩ := Kd.at_int HR0.out x6_4 p314 q314; obtain rfl : ad313 = ad314 := (by injection e314); replace p314 := eq_true p314; replace q314 := eq_true q314; go_wp2
                                repeat (go_quiet (fail); try go_wp2)
                                go_ret
                                exact ⟨by first | rfl | (simp; done) | (simp [*]; done), by repeat (first | exact Drawn0.refl _ | apply Drawn0.step)⟩
                              rw [if_neg c16] at H; have c16b0 := beq_eq_false_iff_ne.mpr c16; have c16b1 := bne_iff_ne.mpr c16; have H' := aM H; clear H; have p313 : 0 ≤ (x5_3 : Int) := of_decide_eq_true zz135; have q313 : x5_3 < (l0.length : Int) := of_decide_eq_true zz135; obtain ⟨ad313, e313, hx313_0⟩ := Kd.at_int HR0.out x5_3 p313 q313
                              cases e313; replace p313 := eq_true p313; replace q313 := eq_true q313; have p314 : 0 ≤ (x6_4 : Int) := of_decide_eq_true zz135; have q314 : x6_4 < (l0.length : Int) := of_decide_eq_true zz135; obtain ⟨ad314, e314, hx314_0⟩ := Kd.at_int HR0.out x6_4 p314 q314; obtain rfl : ad313 = ad314 := (by injection e314); replace p314 := eq_true p314; replace q314 := eq_true q314; go_wp2
                              repeat (go_quiet (fail); try go_wp2)
                              go_roundg k4
                              case measure => have := HJ1.out; have := HK2.out; have := HK3.out; have := HK4.out; omega
                              case rel => exact ⟨(wrap64 (x6_4 + 1)), zz136, H', ⟨zz129⟩, by repeat (first | exact Drawn0.refl _ | apply Drawn0.step)⟩
                            rw [if_neg c15] at H
                            exact absurd H (by simp)
                          rw [if_neg c14] at H
                          exact absurd H (by simp)
                        rw [if_neg c13] at H
                        exact absurd H (by simp)
                      rw [if_neg c12] at H
                      exact absurd H (by simp)
                    rw [if_neg c11] at H; have c11b0 := decide_eq_false c11; clear c11; have H' := aM H; clear H; go_wp2
                    repeat (go_quiet (fail); try go_wp2)
                    go_roundg k4
                    case measure => have := HJ1.out; have := HK2.out; have := HK3.out; have := HK4.out; omega
                    case rel => exact ⟨(wrap64 (x5_3 + 1)), zz136, H', ⟨zz129⟩, by repeat (first | exact Drawn0.refl _ | apply Drawn0.step)⟩
              rw [if_neg c10] at H; have c10b0 := decide_eq_false c10; clear c10; obtain rfl := Option.some.inj H; go_wp2
              repeat (go_quiet (fail); try go_wp2)
              go_ret
              exact ⟨by first | rfl | (simp; done) | (simp [*]; done), by repeat (first | exact Drawn0.refl _ | apply Drawn0.step)⟩
end
section
attribute [local go_sem] max2_int min2_int max_two min_two max_three min_three max_four min_four
def l30_valid.l0 : Nat → Int → List (List Int) → Int → Int → Option (Bool)
  | 0, _, _, _, _ => none
  | k + 1, x0, x7, x8, x9 => if x9 < x8 then (if 0 ≤ x9 then (if x9 < (x7.length : Int) then ((r30_Check.f k (rd_L1 x7 x9)).bind fun t410 => (if t410 = 0 then (if ((rd_L1 x7 x9).length : Int) = x0 then (l30_valid.l0 k x0 x7 x8 (wrap64 (x9 + 1))) else (some false)) else (some false))) else (none)) else (none)) else (some true)
def l30_valid.f (k : Nat) (a0 : Int) (l1 : List (List Int)) : Option (Bool) := l30_valid.l0 k a0 l1 (l1.length : Int) 0
theorem l30_valid.calls (k : Nat) (a0 : Int) (A1 : Option Addr) (c1 : Nat) (l1 : List (List Int)) (r : Bool) (w : World) (hr1 : Kd.C (Kd.slice 3 (Kd.int .i64)) w A1 l1.length l1) (hc1 : l1.length ≤ c1) (h : l30_valid.f k a0 l1 = some r) :
    Calls Try.prog 25 #[.int .i64 a0, .slice A1 l1.length c1] w fun e w' => e = .returned (.bool r) ∧ Drawn0 w w' := by
  have HR1 := aM hr1
  have HC1 := aM hc1
  clear hr1 hc1
  have H : (l30_valid.l0 k a0 l1 (l1.length : Int) 0) = some r := h
  clear h
  have H' := aM H
  clear H
  go_enter Try.func25, Try.ntmps25
  go_wp2
  go_loopg [9] k (fun kq v9 w' => ∃ (x9_1 : Int), v9 = .int .i64 x9_1 ∧ Aside0 (l30_valid.l0 kq a0 l1 (l1.length : Int) x9_1 = some r) ∧ Aside0 (kq ≤ k) ∧ Drawn0 w w')
  case atStart => exact ⟨(0), zz136, H', ⟨Nat.le_refl _⟩, by repeat (first | exact Drawn0.refl _ | apply Drawn0.step)⟩
  case round =>
    clear H'; (try clear c1); (try clear c2); (try clear p2); obtain ⟨x9_1, rfl, HA, HK1, ⟨m1, rfl⟩⟩ := hrel
    cases gk with
    | zero => exact absurd HA.out (by simp [l30_valid.l0])
    | succ k1 =>
      have H := HA.out; clear HA; simp only [l30_valid.l0] at H
      by_cases c3 : x9_1 < (l1.length : Int)
      · rw [if_pos c3] at H; have c3b0 := decide_eq_true c3; clear c3
        by_cases c4 : 0 ≤ x9_1
        · rw [if_pos c4] at H; have c4b0 := decide_eq_true c4; clear c4
          by_cases c5 : x9_1 < (l1.length : Int)
          · rw [if_pos c5] at H; have c5b0 := decide_eq_true c5; clear c5; replace H := Option.bind_eq_some_iff.mp H; obtain ⟨t410, A60, H⟩ := H; replace H : (if t410 = 0 then (if ((rd_L1 l1 x9_1).length : Int) = a0 then (l30_valid.l0 k1 a0 l1 (l1.length : Int) (wrap64 (x9_1 + 1))) else (some false)) else (some false)) = some r := H; have A6 := aM A60; clear A60
            by_cases c7 : t410 = 0
            · rw [if_pos c7] at H; have c7b0 := beq_iff_eq.mpr c7; have c7b1 := bne_eq_false_iff_eq.mpr c7; clear c7
              by_cases c8 : ((rd_L1 l1 x9_1).length : Int) = a0
              · rw [if_pos c8] at H; have c8b0 := beq_iff_eq.mpr c8; have c8b1 := bne_eq_false_iff_eq.mpr c8; clear c8; have H' := aM H; clear H; have p409 : 0 ≤ (x9_1 : Int) := of_decide_eq_true zz135; have q409 : x9_1 < (l1.length : Int) := of_decide_eq_true zz135; obtain ⟨ad409, A409_0, c409_0, e409, hx409_0, hl409_0, hi409_0⟩ := at_L1 HR1.out x9_1 p409 q409
                cases e409; have HR409_0 := aM hi409_0; have HC409_0 := aM hl409_0; clear hi409_0 hl409_0; replace p409 := eq_true p409; replace q409 := eq_true q409
                go_wp2_with (first | ((with_reducible refine gate_callee (f := 17) rfl ?_); refine goesL_ (some 14) rfl rfl Try.func17 (by kernel_rfl) rfl #[.slice A409_0 (rd_L1 l1 x9_1).length c409_0] rfl zz109 ?_; (with_reducible refine (r30_Check.calls k1 _ _ (rd_L1 l1 x9_1) t410 _ ?side1 ?side2 A6.out).mono ?_); (case side1 => repeat (first | exact HR409_0.out | (with_reducible refine Kd.C_alloc ?_ _) | (with_reducible refine Kd.C_drewN ?_ _) | (with_reducible refine Kd.C_drew ?_))); (case side2 => exact HC409_0.out); rintro e w' ⟨rfl, ⟨nd, rfl⟩⟩; refine ⟨_, rfl, ?_⟩))
                go_roundg k1
                case measure => have := HK1.out; omega
                case rel => exact ⟨(wrap64 (x9_1 + 1)), zz136, H', ⟨zz143⟩, by repeat (first | exact Drawn0.refl _ | apply Drawn0.step)⟩
              rw [if_neg c8] at H; have c8b0 := beq_eq_false_iff_ne.mpr c8; have c8b1 := bne_iff_ne.mpr c8; obtain rfl := Option.some.inj H; have p409 : 0 ≤ (x9_1 : Int) := of_decide_eq_true zz135; have q409 : x9_1 < (l1.length : Int) := of_decide_eq_true zz135; obtain ⟨ad409, A409_0, c409_0, e409, hx409_0, hl409_0, hi409_0⟩ := at_L1 HR1.out x9_1 p409 q409
              cases e409; have HR409_0 := aM hi409_0; have HC409_0 := aM hl409_0; clear hi409_0 hl409_0; replace p409 := eq_true p409; replace q409 := eq_true q409
              go_wp2_with (first | ((with_reducible refine gate_callee (f := 17) rfl ?_); refine goesL_ (some 14) rfl rfl Try.func17 (by kernel_rfl) rfl #[.slice A409_0 (rd_L1 l1 x9_1).length c409_0] rfl zz109 ?_; (with_reducible refine (r30_Check.calls k1 _ _ (rd_L1 l1 x9_1) t410 _ ?side1 ?side2 A6.out).mono ?_); (case side1 => repeat (first | exact HR409_0.out | (with_reducible refine Kd.C_alloc ?_ _) | (with_reducible refine Kd.C_drewN ?_ _) | (with_reducible refine Kd.C_drew ?_))); (case side2 => exact HC409_0.out); rintro e w' ⟨rfl, ⟨nd, rfl⟩⟩; refine ⟨_, rfl, ?_⟩))
              go_ret
              exact ⟨by first | rfl | (simp; done) | (simp [*]; done), by repeat (first | exact Drawn0.refl _ | apply Drawn0.step)⟩
            rw [if_neg c7] at H; have c7b0 := beq_eq_false_iff_ne.mpr c7; have c7b1 := bne_iff_ne.mpr c7; obtain rfl := Option.some.inj H; have p409 : 0 ≤ (x9_1 : Int) := of_decide_eq_true zz135; have q409 : x9_1 < (l1.length : Int) := of_decide_eq_true zz135; obtain ⟨ad409, A409_0, c409_0, e409, hx409_0, hl409_0, hi409_0⟩ := at_L1 HR1.out x9_1 p409 q409
            cases e409; have HR409_0 := aM hi409_0; have HC409_0 := aM hl409_0; clear hi409_0 hl409_0; replace p409 := eq_true p409; replace q409 := eq_true q409
            go_wp2_with (first | ((with_reducible refine gate_callee (f := 17) rfl ?_); refine goesL_ (some 14) rfl rfl Try.func17 (by kernel_rfl) rfl #[.slice A409_0 (rd_L1 l1 x9_1).length c409_0] rfl zz109 ?_; (with_reducible refine (r30_Check.calls k1 _ _ (rd_L1 l1 x9_1) t410 _ ?side1 ?side2 A6.out).mono ?_); (case side1 => repeat (first | exact HR409_0.out | (with_reducible refine Kd.C_alloc ?_ _) | (with_reducible refine Kd.C_drewN ?_ _) | (with_reducible refine Kd.C_drew ?_))); (case side2 => exact HC409_0.out); rintro e w' ⟨rfl, ⟨nd, rfl⟩⟩; refine ⟨_, rfl, ?_⟩))
            go_ret
            exact ⟨by first | rfl | (simp; done) | (simp [*]; done), by repeat (first | exact Drawn0.refl _ | apply Drawn0.step)⟩
          rw [if_neg c5] at H
          exact absurd H (by simp)
        rw [if_neg c4] at H
        exact absurd H (by simp)
      rw [if_neg c3] at H; have c3b0 := decide_eq_false c3; clear c3; obtain rfl := Option.some.inj H; go_wp2; go_ret
      exact ⟨by first | rfl | (simp; done) | (simp [*]; done), by repeat (first | exact Drawn0.refl _ | apply Drawn0.step)⟩
end
section
attribute [local go_sem] max2_int min2_int max_two min_two max_three min_three max_four min_four
def slIx.l0 : Nat → List Int → Int → Int → Int → Option (Int)
  | 0, _, _, _, _ => none
  | k + 1, x0, x1, x7, x8 => if x8 < x7 then (if 0 ≤ x8 then (if x8 < (x0.length : Int) then (if x1 = (rd x0 x8) then (some x8) else (slIx.l0 k x0 x1 x7 (wrap64 (x8 + 1)))) else (none)) else (none)) else (some (-1))
def slIx.f (k : Nat) (l0 : List Int) (a1 : Int) : Option (Int) := slIx.l0 k l0 a1 (l0.length : Int) 0
theorem slIx.calls (k : Nat) (A0 : Option Addr) (c0 : Nat) (l0 : List Int) (a1 : Int) (r : Int) (w : World) (hr0 : Kd.C (Kd.int .i64) w A0 l0.length l0) (hc0 : l0.length ≤ c0) (h : slIx.f k l0 a1 = some r) :
    Calls Try.prog 70 #[.slice A0 l0.length c0, .int .i64 a1] w fun e w' => e = .returned (.int .i64 r) ∧ Drawn0 w w' := by
  have HR0 := aM hr0
  have HC0 := aM hc0
  clear hr0 hc0
  have H : (slIx.l0 k l0 a1 (l0.length : Int) 0) = some r := h
  clear h
  have H' := aM H
  clear H
  go_enter Try.func70, Try.ntmps70
  go_wp2
  go_loopg [8] k (fun kq v8 w' => ∃ (x8_1 : Int), v8 = .int .i64 x8_1 ∧ Aside0 (slIx.l0 kq l0 a1 (l0.length : Int) x8_1 = some r) ∧ Aside0 (kq ≤ k) ∧ Drawn0 w w')
  case atStart => exact ⟨(0), zz136, H', ⟨Nat.le_refl _⟩, by repeat (first | exact Drawn0.refl _ | apply Drawn0.step)⟩
  case round =>
    clear H'; (try clear p2); obtain ⟨x8_1, rfl, HA, HK1, ⟨m1, rfl⟩⟩ := hrel
    cases gk with
    | zero => exact absurd HA.out (by simp [slIx.l0])
    | succ k1 =>
      have H := HA.out; clear HA; simp only [slIx.l0] at H
      by_cases c3 : x8_1 < (l0.length : Int)
      · rw [if_pos c3] at H; have c3b0 := decide_eq_true c3; clear c3
        by_cases c4 : 0 ≤ x8_1
        · rw [if_pos c4] at H; have c4b0 := decide_eq_true c4; clear c4
          by_cases c5 : x8_1 < (l0.length : Int)
          · rw [if_pos c5] at H; have c5b0 := decide_eq_true c5; clear c5
            by_cases c6 : a1 = (rd l0 x8_1)
            · rw [if_pos c6] at H; have c6b0 := beq_iff_eq.mpr c6; have c6b1 := bne_eq_false_iff_eq.mpr c6; clear c6; obtain rfl := Option.some.inj H; have p268 : 0 ≤ (x8_1 : Int) := of_decide_eq_true zz135; have q268 : x8_1 < (l0.length : Int) := of_decide_eq_true zz135; obtain ⟨ad268, e268, hx268_0⟩ := Kd.at_int HR0.out x8_1 p268 q268
              cases e268; replace p268 := eq_true p268; replace q268 := eq_true q268; go_wp2; go_ret
              exact ⟨by first | rfl | (simp; done) | (simp [*]; done), by repeat (first | exact Drawn0.refl _ | apply Drawn0.step)⟩
            rw [if_neg c6] at H; have c6b0 := beq_eq_false_iff_ne.mpr c6; have c6b1 := bne_iff_ne.mpr c6; have H' := aM H; clear H; have p268 : 0 ≤ (x8_1 : Int) := of_decide_eq_true zz135; have q268 : x8_1 < (l0.length : Int) := of_decide_eq_true zz135; obtain ⟨ad268, e268, hx268_0⟩ := Kd.at_int HR0.out x8_1 p268 q268
            cases e268; replace p268 := eq_true p268; replace q268 := eq_true q268; go_wp2
            go_roundg k1
            case measure => have := HK1.out; omega
            case rel => exact ⟨(wrap64 (x8_1 + 1)), zz136, H', ⟨zz143⟩, by repeat (first | exact Drawn0.refl _ | apply Drawn0.step)⟩
          rw [if_neg c5] at H
          exact absurd H (by simp)
        rw [if_neg c4] at H
        exact absurd H (by simp)
      rw [if_neg c3] at H; have c3b0 := decide_eq_false c3; clear c3; obtain rfl := Option.some.inj H; go_wp2; go_ret
      exact ⟨by first | rfl | (simp; done) | (simp [*]; done), by repeat (first | exact Drawn0.refl _ | apply Drawn0.step)⟩
end
section
def slCl.f (l0 : List Int) : Option (List Int) := if l0.length ≤ 1000000000 then some l0 else none
theorem slCl.calls (A0 : Option Addr) (c0 : Nat) (l0 : List Int) (r : List Int) (w : World) (hr0 : Kd.C (Kd.int .i64) w A0 l0.length l0) (hc0 : l0.length ≤ c0) (h : slCl.f l0 = some r) :
    Calls Try.prog 69 #[.slice A0 l0.length c0] w fun e w' => ∃ v0_ : Value, e = .returned (v0_) ∧ Kd.R (Kd.int .i64) 3 w' w.heap.size (fun _ => True) v0_ r ∧ Below w.heap.size w w' := by
  have HR0 := aM hr0
  have HB := aM (Below.refl w.heap.size w)
  have hq : l0.length ≤ 1000000000 ∧ l0 = r := by
    unfold slCl.f at h
    split at h
    · exact ⟨by assumption, Option.some.inj h⟩
    · cases h
  obtain ⟨hl, rfl⟩ := hq
  have HL := aM hl
  have hn : A0 = none → l0 = [] := by
    intro h0
    rcases l0 with _ | ⟨x, l⟩
    · rfl
    · obtain ⟨ad, he, _⟩ := hr0.2.2 (by simp); rw [h0] at he
      cases he
  have HN := aM hn
  clear hl hr0 h hn hc0
  rcases A0 with _ | ad
  · have := HN.out rfl
    subst this; have hq := fun W => run_eql_nil W none 0 c0
    clear HN
    go_enter Try.func69, Try.ntmps69
    go_wp2; go_ret
    exact ⟨_, rfl, Kd.R_nil _ _ _ _ _, by first | exact HB.out | exact pw_below_drewN HB.out _⟩
  · have hq := fun W => run_eql_nil W (some ad) l0.length c0
    go_enter Try.func69, Try.ntmps69
    go_wp2_with (first
      | ((with_reducible refine gate_dst (N := 5) rfl ?_); refine Kd.R_lit (Kd.int .i64) _ 3 ?hg (N := 5) ?hd (xs := ([] : List Int)) (inner := []) (ok := fun _ => True) (okp := fun _ => True) ?hr ?hp (fun _ hk => hk) trivial (Below.refl _ _) (Nat.le_refl _) (by simp) ?_; (case hd => rfl); (case hg => rfl); (case hr => first | (go_simp; done) | (go_simp; rfl)); (case hp => exact (Reps.none _ _)); intro v1 w1 ho1 hb1 hg_ hnew_; clear hg_ hnew_; have HO1 := aM ho1; have HB1 := aM hb1; clear ho1 hb1)
      | ((with_reducible refine gate_builtin (b := .append) (xs := #[.tmp 5, .tmp 6]) rfl ?_); at_builtin; refine Kd.R_append_rows (Kd.int .i64) (w0 := w) w.heap.size rfl (.tmp 5) (.tmp 6) 22 3 (.int .i64 0) 8 rfl Try.underlying22 info3 rfl (by decide) (by omega) v1 [] l0 _ _ _ (fun _ => True) (fun _ => False) rfl rfl ?aO ?aR (fun _ _ h => h) (fun _ h => h.elim) ?aF ?aB ?aS ?aL ?_; (case aR => exact Kd.C_below HR0.out (HB1.out)); (case aB => exact HB1.out); (case aF => exact (fun _ _ => trivial)); (case aO => exact HO1.out); (case aS => exact HB1.out.size); (case aL => have := HL.out; simp only [List.length_nil]; omega); intro v2 w2 ho2 hb2 hg2 hat2; have HO2 := aM ho2; have HB2 := aM hb2; clear ho2 hb2 hg2 hat2))
    go_ret; have ho2 := HO2.out; rw [List.nil_append] at ho2
    exact ⟨_, rfl, ho2, HB2.out⟩
end
section
attribute [local go_sem] max2_int min2_int max_two min_two max_three min_three max_four min_four
mutual
def perm_Sift.j0 : Nat → List Int → Int → Int → List (S74) → Option (List Int × Int × Int)
  | 0, _, _, _, _ => none
  | k + 1, x1, x7, x270000, x270001 => if x7 = 0 then (perm_Sift.j1 k x1 x7 ((x1.length : Int) != x270000) x270000 x270001) else (perm_Sift.j1 k x1 x7 false x270000 x270001)
def perm_Sift.j1 : Nat → List Int → Int → Bool → Int → List (S74) → Option (List Int × Int × Int)
  | 0, _, _, _, _, _ => none
  | k + 1, x1, x7, x26, x270000, x270001 => if x26 = true then (perm_Sift.j2 k x1 10 x270000 x270001) else (perm_Sift.j2 k x1 x7 x270000 x270001)
def perm_Sift.j2 : Nat → List Int → Int → Int → List (S74) → Option (List Int × Int × Int)
  | 0, _, _, _, _ => none
  | k + 1, x1, x7, x270000, x270001 => if x7 = 0 then ((slCl.f x1).bind fun t272 => (perm_Sift.l0 k t272 x270001 (x270001.length : Int) 0 x270000 x270001)) else (some (([] : List Int), 0, x7))
def perm_Sift.l0 : Nat → List Int → List (S74) → Int → Int → Int → List (S74) → Option (List Int × Int × Int)
  | 0, _, _, _, _, _, _ => none
  | k + 1, x8, x33, x34, x35, x270000, x270001 => if x35 < x34 then (if 0 ≤ x35 then (if x35 < (x33.length : Int) then (if 0 ≤ ((rd_T74 x33 x35).f0) then (if ((rd_T74 x33 x35).f0) < (x8.length : Int) then ((slIx.f k ((rd_T74 x33 x35).f1) (rd x8 ((rd_T74 x33 x35).f0))).bind fun t278 => (if t278 < 0 then (some (x8, x35, 0)) else (if 0 ≤ t278 then (if t278 < (((rd_T74 x33 x35).f2).length : Int) then ((perm_inverse.f k (rd_L1 ((rd_T74 x33 x35).f2) t278)).bind fun t280 => ((perm_then.f k x8 t280).bind fun t283 => (perm_Sift.l0 k t283 x33 x34 (wrap64 (x35 + 1)) x270000 x270001))) else (none)) else (none)))) else (none)) else (none)) else (none)) else (none)) else (some (x8, (x270001.length : Int), 0))
end
def perm_Sift.f (k : Nat) (a0_0 : Int) (l0_1 : List (S74)) (l1 : List Int) : Option (List Int × Int × Int) := (perm_CheckChain.f k a0_0 l0_1).bind fun t270 => (if t270 = 0 then ((perm_Check.f l1).bind fun t271 => (perm_Sift.j0 k l1 t271 a0_0 l0_1)) else (perm_Sift.j0 k l1 t270 a0_0 l0_1))
end
section
attribute [local go_sem] max2_int min2_int max_two min_two max_three min_three max_four min_four
def perm_Has.f (k : Nat) (a0_0 : Int) (l0_1 : List (S74)) (l1 : List Int) : Option (Bool × Int) := (perm_Sift.f k a0_0 l0_1 l1).bind fun bt287 => (if bt287.2.2 = 0 then (if bt287.2.1 = (l0_1.length : Int) then ((perm_identity.f k (bt287.1.length : Int)).bind fun t292 => ((slEq.f k bt287.1 t292).bind fun t295 => (some (t295, bt287.2.2)))) else (some (false, bt287.2.2))) else (some (false, bt287.2.2)))
end
end Go.Proofs.Ytjjlhbgpdncpcaa.P
