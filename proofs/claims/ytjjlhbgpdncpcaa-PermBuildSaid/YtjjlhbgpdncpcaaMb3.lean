/- What the claim's theorem is built on, part 3: words, walks of the code, and what they tell. -/
import Derived.Deep.RegionLaw
import Derived.Test.YtjjlhbgpdncpcaaMb2
import Derived.Test.YtjjlhbgpdncpcaaMb1
namespace Go.Proofs.Ytjjlhbgpdncpcaa.P
open Go.RowKit Go.Proofs.YtjjlhbgpdncpcaaW.PrintWords Go.Proofs.YtjjlhbgpdncpcaaW.PrintLast Go.Proofs.YtjjlhbgpdncpcaaW.PrintMore
set_option linter.unusedVariables false
set_option linter.unusedSimpArgs false
set_option maxHeartbeats 8000000
set_option maxRecDepth 100000
section
theorem TwAt.not_own {base : Nat} {w : World} {bt bR bG : Nat} {rb : Nat → Nat} {vr : Nat → Nat → Value} {vg : Nat → Value} {T : Tw} (h : TwAt base w bt bR bG rb vr vg T) {g : Nat} (hg : w.heap.size ≤ g) : ¬ Own T.n rb bG vg g := by
  rintro (⟨i, hi, rfl⟩ | rfl | ⟨i, hi, ho⟩)
  · have := lt_of_some (h.hr i hi); omega
  · have := lt_of_some h.hG; omega
  · obtain ⟨inner, h2, _⟩ := h.hg i hi
    have := own_lt h2 g ho; omega
theorem grown_undrew {w w1 : World} {row : Option Nat} (h : w.drew.grownBy w1 row) : w.grownBy w1 row := ⟨h.os, h.tape, h.output, h.size, h.block⟩
theorem add_close {base : Nat} {w w3 w4 : World} {bt bR bG : Nat} {rb : Nat → Nat} {vr : Nat → Nat → Value} {vg : Nat → Value} {T : Tw} {A0 : Option Addr} {c0 : Nat} {p : List Int} {b : Int} {inner : List Value} {gg cap : Nat}
    (hT : TwAt base w3 bt bR bG rb vr vg T) (c2 : 0 ≤ b) (c3 : b < T.n) (hP : Leaf base w3 (.slice A0 p.length c0) p) (hK : Keep base w w3) (hF : TwFr T.n rb bG vg w vg w3)
    (hin : ∀ (j : Nat) (l : List Int), (T.gen b)[j]? = some l → ∃ v, inner[j]? = some v ∧ Leaf base w3 v l) (ho : w3.ownsRow base 22 1 (vg b.toNat) (T.gen b).length inner)
    (hown4 : w4.ownsRow base 22 1 (.slice (some ⟨gg, 0, none⟩) ((T.gen b).length + 1) cap) ((T.gen b).length + 1) (inner ++ [.slice A0 p.length c0]))
    (hgrow : (w3.alloc (.cells #[.slice A0 p.length c0] 22)).drew.grownBy w4 (vg b.toNat).ownBlock) (hat : (vg b.toNat).ownBlock = some gg ∨ gg = w3.heap.size + 1) :
    ∃ (vr1 : Nat → Nat → Value) (vg1 : Nat → Value), Aside0 (TwAt base (w4.setCell ⟨bG, b.toNat, none⟩ (.slice (some ⟨gg, 0, none⟩) ((T.gen b).length + 1) cap)) bt bR bG rb vr1 vg1 (T.addGen b p)) ∧ Aside0 (Keep base w (w4.setCell ⟨bG, b.toNat, none⟩ (.slice (some ⟨gg, 0, none⟩) ((T.gen b).length + 1) cap))) ∧ Aside0 (TwFr T.n rb bG vg w vg1 (w4.setCell ⟨bG, b.toNat, none⟩ (.slice (some ⟨gg, 0, none⟩) ((T.gen b).length + 1) cap))) := by
  have ha := hT.add_gen (w1 := w4) (v1 := .slice (some ⟨gg, 0, none⟩) ((T.gen b).length + 1) cap) (inner := inner) c2 c3 hP hin (by have := ho.1; simpa using this) hown4 (World.grownBy.trans (World.grownBy_alloc w3 _ _) (grown_undrew hgrow)) (by rcases hat with hat | hat; exact .inl hat.symm; exact .inr ⟨gg, rfl, by omega⟩)
  exact ⟨_, _, ⟨ha.1⟩, ⟨hK.trans ha.2.1⟩, ⟨hF.trans ha.2.2⟩⟩
theorem insert_step (k : Nat) (ihv : ∀ m, m ≤ k → VisitOk m) : InsertOk (k + 1) := by
  intro base bt bR bG rb vr vg T A0 c0 p b T' w hT hp h
  have HT := aM hT
  have HP := aM hp
  have IHV := aM ihv
  have HR := aM hp.C.1
  have HC := aM hp.C.2
  clear hT ihv hp
  simp only [insertL] at h
  replace h := Option.bind_eq_some_iff.mp h
  obtain ⟨e1, he1, h⟩ := h
  have He1 := aM he1
  clear he1
  have hx0 := HT.out.cell0
  have hn64 := HT.out.n64
  by_cases c1 : e1 = (T.n : Int)
  · rw [if_pos c1] at h
    obtain rfl := Option.some.inj h; have c1b : (e1 == (T.n : Int)) = true := beq_iff_eq.mpr c1; clear c1 h
    go_enter Try.func61, Try.ntmps61
    go_wp2_with (first
      | (go_at_call 83; (with_reducible refine (strip_calls k _ _ p b e1 _ HT.out HR.out HC.out He1.out).mono ?_); rintro e w3 ⟨v3, rfl, hb3⟩; have HB3 := aM hb3; have hx03 := (HT.out.below hb3).cell0; clear hb3))
    go_end0
    exact ⟨rfl, vr, vg, HT.out.below HB3.out, Keep.of_below HT.out.base_le HB3.out, TwFr.of_below HB3.out, rfl⟩
  rw [if_neg c1] at h
  have c1b : (e1 == (T.n : Int)) = false := beq_eq_false_iff_ne.mpr c1
  clear c1
  by_cases c2 : 0 ≤ b
  · rw [if_pos c2] at h
    by_cases c3 : b < (T.n : Int)
    · rw [if_pos c3] at h
      by_cases c4 : (T.gen b).length < 1000000
      · rw [if_pos c4] at h; have p2 := eq_true c2; have p3 := eq_true c3; have H' := aM h; clear h
        go_enter Try.func61, Try.ntmps61
        go_wp2_with (first
          | (go_at_call 83; (with_reducible refine (strip_calls k _ _ p b e1 _ HT.out HR.out HC.out He1.out).mono ?_); rintro e w3 ⟨v3, rfl, hb3⟩; have HB3 := aM hb3; have HT3 := aM (HT.out.below hb3); have HP3 := aM (HP.out.keep (Keep.of_below HT.out.base_le hb3)); have hx03 := HT3.out.cell0; clear hb3))
        obtain ⟨inner, ho, hin⟩ := HT3.out.hg b.toNat (by omega); have hgen : T.gens.getD b.toNat [] = T.gen b := rfl; rw [hgen] at ho hin; clear hgen; have hy1 := HT3.out.cell2; have hy2 := HT3.out.cellG c2 c3; have hyf : w3.frozen? ⟨bG, b.toNat, none⟩ = false := blk_frozen HT3.out.hG _
        have hne1 : (vg b.toNat).ownBlock ≠ some bt := fun e => by
          obtain ⟨cs, hc⟩ := own_typed ho bt e
          exact ne_of_types hc HT3.out.ht (by decide) rfl
        have hne2 : (vg b.toNat).ownBlock ≠ some bG := fun e => by
          obtain ⟨cs, hc⟩ := own_typed ho bG e
          exact ne_of_types hc HT3.out.hG (by decide) rfl
        have hlt1 := lt_of_some HT3.out.ht; have hlt2 := lt_of_some HT3.out.hG; have hyf2 : ∀ o : Obj, (w3.alloc o).drew.frozen? ⟨bG, b.toNat, none⟩ = false := fun o => (((Below.refl w3.heap.size w3).alloc (Nat.le_refl _) o).frozen (p := ⟨bG, b.toNat, none⟩) hlt2).trans hyf
        have hyc2 : ∀ o : Obj, (w3.alloc o).drew.cell? ⟨bG, b.toNat, none⟩ = some (vg b.toNat) := fun o => (((Below.refl w3.heap.size w3).alloc (Nat.le_refl _) o).cell (p := ⟨bG, b.toNat, none⟩) hlt2).trans hy2
        have HYC := aM hyc2; have HYD := aM (show ∀ o : Obj, (w3.alloc o).drew.cell? ⟨bt, 2, none⟩ = some (.slice (some ⟨bG, 0, none⟩) T.n T.n) from fun o => (((Below.refl w3.heap.size w3).alloc (Nat.le_refl _) o).cell (p := ⟨bt, 2, none⟩) hlt1).trans hy1); have HYF := aM hyf2; clear hyc2 hyf2; have HO := aM ho; have HIN := aM hin; clear ho hin hx0; obtain ⟨i0, hi0, hz0, hz1, hz2⟩ := info_parts info22
        go_cut [] (fun wc => ∃ (vr1 : Nat → Nat → Value) (vg1 : Nat → Value), Aside0 (TwAt base wc bt bR bG rb vr1 vg1 (T.addGen b p)) ∧ Aside0 (Keep base w wc) ∧ Aside0 (TwFr T.n rb bG vg w vg1 wc))
        case first =>
          go_region_law
            ((refine step_append_lies _ (by rfl) _ _ _ (by rfl) base 22 i0 _ 1 24 Try.underlying28 hi0 hz0 hz1 hz2 rfl (by omega) (vg b.toNat) (T.gen b).length inner (by rfl) ((HO.out.alloc _).drew)
                ⟨w3.heap.size, 0, none⟩ 1 1 [.slice A0 p.length c0] (by rfl) (by rfl) (World.news_of_block (cs := #[.slice A0 p.length c0]) (t := 22) (fr := (0, 0)) (heap_alloc_new w3 _)) (by simp [Value.oneCell'])
                (by omega) (by simp only [maxLen]; omega) (by omega) (by simp; exact Nat.le_succ_of_le HT3.out.base_le) (w3.heap.size + 1) (by simp) ?_; intro gg cap w4 hown4 hgrow hat hlt; have hz2d := (hgrow.cell_far ⟨bt, 2, none⟩ (by simp; omega) (Ne.symm hne1)).trans (HYD.out _); have hz2c := (hgrow.cell_far ⟨bG, b.toNat, none⟩ (by simp; omega) (Ne.symm hne2)).trans (HYC.out _); have hz2f := (hgrow.frozen_far ⟨bG, b.toNat, none⟩ (by simp; omega) (Ne.symm hne2)).trans (HYF.out _)))
          all_goals
            have hcl := add_close HT3.out c2 c3 HP3.out (Keep.of_below HT.out.base_le HB3.out) (TwFr.of_below HB3.out) HIN.out HO.out hown4 hgrow hat; clear hown4 hgrow hat hlt hz2c hz2d hz2f; go_wp2; go_meet
            case rel => exact hcl
        case rest =>
          obtain ⟨vr1, vg1, HT4, HK4, HF4⟩ := hcut; clear hy1 hy2 hyf hne1 hne2 hlt1 hlt2 HYC HYD HYF HO HIN hi0 hz0 hz1 hz2 c1b hx03 HT3 HP3; have hHT4 := HT4.out; have hy1 := hHT4.cell1; have hy2 := hHT4.cellR c2 c3; have hTn : (T.addGen b p).n = T.n := rfl; rw [hTn] at hy1 hy2
          have HCELL := aM (show ∀ (j : Nat) (u : Value), ((List.range T.n).map (vr1 b.toNat))[j]? = some u → wc.cell? ⟨rb b.toNat, j, none⟩ = some u from fun j u hu => by
            have := (blk_cell (hHT4.hr b.toNat (by rw [hTn]; omega)) j).trans (by rw [List.getElem?_toArray]); rw [hTn] at this; rw [this]; exact hu)
          have HONE := aM (show ∀ v ∈ (List.range T.n).map (vr1 b.toNat), v.oneCell' = true from fun v hv => by
            obtain ⟨x, hx, rfl⟩ := List.mem_map.1 hv; obtain ⟨A, c, hv, _⟩ := hHT4.leaf b.toNat x (by rw [hTn]; omega) (by rw [hTn]; exact List.mem_range.1 hx); rw [hv]; rfl)
          have hn1 := hHT4.n1; rw [hTn] at hn1; clear hHT4 hTn
          go_wp2_with (first
            | (go_at_call 84; (with_reducible refine (clone84_calls (rb b.toNat) T.n ((List.range T.n).map (vr1 b.toNat)) _ (by simp) hn1 hn64 HONE.out HCELL.out).mono ?_); rintro e w5 ⟨g5, c5, rfl, hg5, hlt5, hc5, hb5⟩; have HC5 := aM (And.intro hc5 hb5); have HNO := aM (show ¬ Own T.n rb bG vg1 g5 from HT4.out.not_own hg5); have HLT5 := aM hlt5; have HT5 := aM (HT4.out.below hb5); have HK5 := aM (HK4.out.trans (Keep.of_below HT4.out.base_le hb5)); have HF5 := aM (HF4.out.trans (TwFr.of_below hb5)); clear hc5 hb5 hg5 hlt5))
          clear hy1 hy2 HCELL HONE hn1; have hrow : (T.row b).length = T.n := HT.out.lrr b.toNat (by omega); have HROW := aM hrow; have HLEAF := aM (show ∀ x : Nat, x < T.n → Leaf base w5 (vr1 b.toNat x) ((T.row b).getD x []) from fun x hx => (HT4.out.leaf b.toNat x (show b.toNat < T.n by omega) hx).leaf.keep (Keep.of_below HT4.out.base_le (HC5.out.2))); clear hrow
          go_loopg [48] k (fun kq v48 w' => ∃ (T1 : Tw) (i : Int) (vr2 : Nat → Nat → Value) (vg2 : Nat → Value), v48 = .int .i64 i ∧ Aside0 (0 ≤ i) ∧ Aside0 (insertLoop kq T1 (T.row b) p b i = some T') ∧ Aside0 (kq ≤ k) ∧ Aside0 (TwAt base w' bt bR bG rb vr2 vg2 T1) ∧ Aside0 (Keep base w5 w') ∧ Aside0 (TwFr T.n rb bG vg1 w5 vg2 w') ∧ Aside0 (T1.n = T.n))
          case atStart => exact ⟨_, 0, _, _, rfl, ⟨by omega⟩, H', ⟨Nat.le_refl _⟩, HT5, ⟨Keep.refl _ _⟩, ⟨TwFr.refl⟩, ⟨rfl⟩⟩
          case round =>
            clear H'; obtain ⟨T1, i, vr2, vg2, rfl, HI0, HA, HK1, HT1, HKe, HFe, HN1⟩ := hrel
            cases gk with
            | zero => exact absurd HA.out (by simp [insertLoop])
            | succ k1 =>
              have H := HA.out; clear HA; simp only [insertLoop] at H; have i0 := HI0.out; have q0 := eq_true i0
              by_cases d1 : i < ((T.row b).length : Int)
              · rw [if_pos d1] at H; rw [HROW.out] at d1; have q1 := eq_true d1
                have hy3 : wr.cell? ⟨g5, i.toNat, none⟩ = some (vr1 b.toNat i.toNat) := by
                  have e1 := HFe.out.same g5 HLT5.out HNO.out; have e2 := HC5.out.1 i.toNat (vr1 b.toNat i.toNat) (by rw [List.getElem?_map, List.getElem?_range (by omega)]; rfl)
                  exact (World.cell?_of_block (a := ⟨g5, i.toNat, none⟩) e1).trans e2
                have hLf : Leaf base wr (vr1 b.toNat i.toNat) (rd_L1 (T.row b) i) := (HLEAF.out i.toNat (by omega)).keep HKe.out
                by_cases d2 : rd_L1 (T.row b) i = []
                · rw [if_pos d2] at H; obtain ⟨A2, c2', hv, hl2, hf2, hnil⟩ := hLf; have hv0 := hnil d2; rw [hv0] at hy3; have hq := fun W => run_neq_nil W none 0 0
                  have H' := aM H; clear hv hv0 hnil hf2 hl2 d2 H; go_wp2
                  go_roundg k1
                  case measure => have := HK1.out; omega
                  case rel => exact ⟨T1, i + 1, vr2, vg2, rfl, ⟨by have := HI0.out; omega⟩, H', ⟨by have := HK1.out; omega⟩, HT1, HKe, HFe, HN1⟩
                rw [if_neg d2] at H; replace H := Option.bind_eq_some_iff.mp H; obtain ⟨q, hq1, H⟩ := H; replace H := Option.bind_eq_some_iff.mp H; obtain ⟨T2, hq2, H⟩ := H; obtain ⟨A2, c2', hv, hl2, hC2⟩ := hLf.reads; obtain ⟨ad2, rfl⟩ := C_some hC2 d2; have hpos : 0 < (rd_L1 (T.row b) i).length := List.length_pos_iff.2 d2; rw [hv] at hy3; have hq := fun W => run_neq_nil W (some ad2) (rd_L1 (T.row b) i).length c2'
                have H' := aM H; have Hq1 := aM hq1; have Hq2 := aM hq2; have HC2 := aM hC2; have HL2 := aM hl2; have HPOS := aM hpos; have HPr := aM (HP.out.keep (HK5.out.trans HKe.out)).C.1; clear hv d2 H hq1 hq2 hC2 hl2 hLf hpos
                go_wp2_with (first
                  | (go_at_call 50; (with_reducible refine (perm_then.calls k1 _ _ (rd_L1 (T.row b) i) _ _ p q _ ?s1 ?s2 ?s3 ?s4 Hq1.out).mono ?_); (case s1 => exact HC2.out); (case s2 => exact HL2.out); (case s3 => exact HPr.out); (case s4 => exact HC.out); rintro e w7 ⟨v7, rfl, ho7, hb7⟩; have HLf := aM (LeafN.of_R (base := base) ho7 HT1.out.base_le (by rw [← List.length_pos_iff, then_len Hq1.out]; exact HPOS.out)); obtain ⟨A7, c7, rfl, hl7, hr7⟩ := Kd.R_reads ho7; have HT7 := aM (HT1.out.below hb7); have HK7 := aM (HKe.out.trans (Keep.of_below HT1.out.base_le hb7)); have HF7 := aM (HFe.out.trans (TwFr.of_below hb7)); clear ho7 hb7 hr7 hl7)
                  | (go_at_call 85; (with_reducible refine (IHV.out k1 zz120 A7 c7 q b T2 _ HT7.out HLf.out Hq2.out).mono ?_); rintro e w8 ⟨rfl, vr8, vg8, hT8, hK8, hF8, hn8⟩; have HT8 := aM hT8; have HK8 := aM (HK7.out.trans hK8); have HF8 := aM (HF7.out.trans (HN1.out ▸ hF8)); have HN8 := aM (hn8.trans HN1.out); clear hT8 hK8 hF8 hn8))
                go_roundg k1
                case measure => have := HK1.out; omega
                case rel => exact ⟨T2, i + 1, vr8, vg8, rfl, ⟨by have := HI0.out; omega⟩, H', ⟨by have := HK1.out; omega⟩, HT8, HK8, HF8, HN8⟩
              rw [if_neg d1] at H; obtain rfl := Option.some.inj H; rw [HROW.out] at d1; have q1b : decide (i < (T.n : Int)) = false := decide_eq_false d1; go_wp2
              go_end0
              exact ⟨rfl, vr2, vg2, HT1.out, HK5.out.trans HKe.out, HF5.out.trans HFe.out, HN1.out⟩
      rw [if_neg c4] at h; cases h
    rw [if_neg c3] at h; cases h
  rw [if_neg c2] at h; cases h
theorem vi_ok (k : Nat) : VisitOk k ∧ InsertOk k := by
  induction k using Nat.strongRecOn with
  | _ k ih =>
    cases k with
    | zero => exact ⟨fun A0 c0 p b T' w _ _ h => by simp [visitL] at h, fun A0 c0 p b T' w _ _ h => by simp [insertL] at h⟩
    | succ k => exact ⟨visit_step k (fun m hm => (ih m (by omega)).1) (fun m hm => (ih m (by omega)).2), insert_step k (fun m hm => (ih m (by omega)).1)⟩
end
section
def newTowerL (k n : Nat) : Option Tw := if 1 ≤ n ∧ n ≤ 64 then (perm_identity.f k n).bind fun r => if r = [] then none else some { n := n, reps := (List.range n).map (fun b => (List.replicate n []).set b r), gens := List.replicate n [] } else none
theorem info28' : (Try.prog.info? 28).map (fun i => (i.zero, i.size, i.bytes)) = some (some (.slice none 0 0), 1, 24) := by kernel_rfl
structure NtAt (base : Nat) (w : World) (bt bR bG n j : Nat) (rb : Nat → Nat) (vr : Nat → Nat → Value) (r : List Int) : Prop where
  gt : base ≤ bt
  gR : base ≤ bR
  gG : base ≤ bG
  grb : ∀ i, i < j → base ≤ rb i
  ht : w.heap[bt]? = some (Obj.cells #[.int .i64 n, .slice (some ⟨bR, 0, none⟩) n n, .slice (some ⟨bG, 0, none⟩) n n] 108 (0, 0))
  hR : w.heap[bR]? = some (Obj.cells ((List.range n).map (fun i => if i < j then Value.slice (some ⟨rb i, 0, none⟩) n n else .slice none 0 0)).toArray 28 (0, 0))
  hr : ∀ i, i < j → w.heap[rb i]? = some (Obj.cells ((List.range n).map (vr i)).toArray 22 (0, 0))
  hG : w.heap[bG]? = some (Obj.cells ((List.range n).map (fun _ => Value.slice none 0 0)).toArray 28 (0, 0))
  leaf : ∀ i x, i < j → x < n → LeafN base w (vr i x) (if x = i then r else [])
  dRG : bR ≠ bG
  drb : ∀ i i', i < j → i' < j → rb i = rb i' → i = i'
theorem made_range (z : Value) (n : Nat) : madeCells #[z] n = ((List.range n).map (fun _ => z)).toArray := by
  apply Array.ext
  · simp [madeCells]
  · intro i h1 h2
    simp [madeCells, Nat.mod_one]
theorem NtAt.start0 (w : World) (n : Nat) (r : List Int) (sw : Bool) :
    NtAt w.heap.size ((((w.alloc (.cells (madeCells #[Value.slice none 0 0] n) 28)).alloc (.cells (madeCells #[Value.slice none 0 0] n) 28)).alloc
        (.cells #[Value.int IntKind.i64 n, Value.slice (some ⟨if sw then w.heap.size + 1 else w.heap.size, 0, none⟩) n n, Value.slice (some ⟨if sw then w.heap.size else w.heap.size + 1, 0, none⟩) n n] 108)).drew)
      (w.heap.size + 1 + 1) (if sw then w.heap.size + 1 else w.heap.size) (if sw then w.heap.size else w.heap.size + 1) n 0 (fun _ => 0) (fun _ _ => .slice none 0 0) r := by
  have h0 : ∀ (W : World) (o : Obj), (W.alloc o).heap[W.heap.size]? = some o := fun W o => heap_alloc_new W o
  have h1 : ∀ (W : World) (o : Obj) (k : Nat), k < W.heap.size → (W.alloc o).heap[k]? = W.heap[k]? := fun W o k hk => Below.heap_alloc W o k hk
  have e : ∀ k, (if sw then w.heap.size + 1 else w.heap.size) = k ∨ (if sw then w.heap.size else w.heap.size + 1) = k → (((w.alloc (.cells (madeCells #[Value.slice none 0 0] n) 28)).alloc (.cells (madeCells #[Value.slice none 0 0] n) 28)).heap[k]? = some (Obj.cells (madeCells #[Value.slice none 0 0] n) 28 (0, 0)) ∧ w.heap.size ≤ k ∧ k < w.heap.size + 1 + 1) := by
    intro k hk; have hk2 : k = w.heap.size ∨ k = w.heap.size + 1 := by cases sw <;> simp at hk <;> omega
    rcases hk2 with rfl | rfl
    · exact ⟨(h1 _ _ _ (by simp)).trans (h0 _ _), by omega, by omega⟩
    · have := h0 (w.alloc (.cells (madeCells #[Value.slice none 0 0] n) 28)) (.cells (madeCells #[Value.slice none 0 0] n) 28)
      exact ⟨by simpa using this, by omega, by omega⟩
  have eR := e _ (.inl rfl)
  have eG := e _ (.inr rfl)
  rw [made_range] at eR eG
  refine ⟨by omega, eR.2.1, eG.2.1, fun i hi => by omega, ?_, ?_, fun i hi => by omega, ?_, fun i x hi => by omega, by cases sw <;> simp, fun i i' hi => by omega⟩
  · have e3 : ((w.alloc (.cells (madeCells #[Value.slice none 0 0] n) 28)).alloc (.cells (madeCells #[Value.slice none 0 0] n) 28)).heap.size = w.heap.size + 1 + 1 := by simp
    have := h0 ((w.alloc (.cells (madeCells #[Value.slice none 0 0] n) 28)).alloc (.cells (madeCells #[Value.slice none 0 0] n) 28)) (.cells #[Value.int IntKind.i64 n, Value.slice (some ⟨if sw then w.heap.size + 1 else w.heap.size, 0, none⟩) n n, Value.slice (some ⟨if sw then w.heap.size else w.heap.size + 1, 0, none⟩) n n] 108); rw [e3] at this
    exact this
  · refine Eq.trans ?_ eR.1
    rw [← made_range]
    exact h1 _ _ _ (by simpa using eR.2.2)
  · refine Eq.trans ?_ eG.1
    rw [← made_range]
    exact h1 _ _ _ (by simpa using eG.2.2)
theorem NtAt.step {base : Nat} {w w5 : World} {bt bR bG n : Nat} {j : Int} {rb : Nat → Nat} {vr : Nat → Nat → Value} {r : List Int} (h : NtAt base w bt bR bG n j.toNat rb vr r) (hj : j.toNat < n) {v : Value} (hv : LeafN base w5 v r)
    (hb : Below (w.heap.size + 1) (((w.setCell ⟨bR, j.toNat, none⟩ (.slice (some ⟨w.heap.size, 0, none⟩) n n)).alloc (.cells (madeCells #[Value.slice none 0 0] n) 22)).drew) w5) :
    NtAt base (w5.setCell ⟨w.heap.size, j.toNat, none⟩ v) bt bR bG n (j.toNat + 1) (fun i => if i = j.toNat then w.heap.size else rb i) (fun i x => if i = j.toNat then (if x = j.toNat then v else .slice none 0 0) else vr i x) r ∧
      Keep base w (w5.setCell ⟨w.heap.size, j.toNat, none⟩ v) := by
  have hbase : base ≤ w.heap.size := Nat.le_trans h.gt (Nat.le_of_lt (lt_of_some h.ht))
  have hk1 : Keep base w (w.setCell ⟨bR, j.toNat, none⟩ (.slice (some ⟨w.heap.size, 0, none⟩) n n)) := Keep.set_ h.gR h.hR (by decide) _
  have hs1 : (w.setCell ⟨bR, j.toNat, none⟩ (.slice (some ⟨w.heap.size, 0, none⟩) n n)).heap.size = w.heap.size := by simp [World.setCell]
  generalize hW : w.setCell ⟨bR, j.toNat, none⟩ (.slice (some ⟨w.heap.size, 0, none⟩) n n) = W at *
  have hk2 : Keep base W (W.alloc (.cells (madeCells #[Value.slice none 0 0] n) 22)).drew := Keep.of_below (by omega) ((Below.refl _ _).alloc (Nat.le_refl _) _).drew
  have hsz : (W.alloc (.cells (madeCells #[Value.slice none 0 0] n) 22)).drew.heap.size = w.heap.size + 1 := by
    show (W.alloc (.cells (madeCells #[Value.slice none 0 0] n) 22)).heap.size = _
    simp [hs1]
  have hnew : (W.alloc (.cells (madeCells #[Value.slice none 0 0] n) 22)).drew.heap[w.heap.size]? = some (Obj.cells ((List.range n).map (fun _ => Value.slice none 0 0)).toArray 22 (0, 0)) := by
    have := heap_alloc_new W (.cells (madeCells #[Value.slice none 0 0] n) 22); rw [hs1, made_range] at this; rw [made_range]
    exact this
  have hk3 : Keep base (W.alloc (.cells (madeCells #[Value.slice none 0 0] n) 22)).drew w5 := Keep.of_below (by rw [hsz]; omega) (by rw [hsz]; exact hb)
  have hn5 : w5.heap[w.heap.size]? = some (Obj.cells ((List.range n).map (fun _ => Value.slice none 0 0)).toArray 22 (0, 0)) := (hb.block _ (by omega)).trans hnew
  have hk4 : Keep base w5 (w5.setCell ⟨w.heap.size, j.toNat, none⟩ v) := Keep.set_ hbase hn5 (by decide) v
  have hk := ((hk1.trans hk2).trans hk3).trans hk4
  -- elder blocks but bR
  have old : ∀ k, k < w.heap.size → k ≠ bR → (w5.setCell ⟨w.heap.size, j.toNat, none⟩ v).heap[k]? = w.heap[k]? := fun k hk hne => by
    have e1 : W.heap[k]? = w.heap[k]? := by rw [← hW]; exact Below.heap_setCell w ⟨bR, j.toNat, none⟩ _ k hne
    have e2 : (W.alloc (.cells (madeCells #[Value.slice none 0 0] n) 22)).drew.heap[k]? = W.heap[k]? := Below.heap_alloc W _ k (by omega); have e3 : w5.heap[k]? = (W.alloc (.cells (madeCells #[Value.slice none 0 0] n) 22)).drew.heap[k]? := hb.block k (by omega); have e4 := Below.heap_setCell w5 ⟨w.heap.size, j.toNat, none⟩ v k (by show k ≠ w.heap.size; omega)
    exact e4.trans (e3.trans (e2.trans e1))
  have hlt : ∀ i, i < j.toNat → rb i < w.heap.size := fun i hi => lt_of_some (h.hr i hi)
  refine ⟨⟨h.gt, h.gR, h.gG, ?_, ?_, ?_, ?_, ?_, ?_, h.dRG, ?_⟩, hk⟩
  · intro i hi
    by_cases e : i = j.toNat
    · simp [e, hbase]
    · simp only [if_neg e]; exact h.grb i (by omega)
  · exact (old bt (lt_of_some h.ht) (ne_of_types h.ht h.hR (by decide))).trans h.ht
  · have hRl := lt_of_some h.hR
    have e1 : W.heap[bR]? = some (Obj.cells ((List.range n).map (fun i => if i < j.toNat + 1 then Value.slice (some ⟨if i = j.toNat then w.heap.size else rb i, 0, none⟩) n n else .slice none 0 0)).toArray 28 (0, 0)) := by
      rw [← hW]; have := blk_set h.hR j.toNat (.slice (some ⟨w.heap.size, 0, none⟩) n n); rw [range_set] at this; rw [this]
      congr 4
      funext i
      by_cases e : i = j.toNat
      · simp [e]
      · rcases Nat.lt_or_ge i j.toNat with h1 | h1
        · simp [e, h1, Nat.lt_succ_of_lt h1]
        · simp [e, Nat.not_lt.2 h1, show ¬ i < j.toNat + 1 by omega]
    have e2 : (W.alloc (.cells (madeCells #[Value.slice none 0 0] n) 22)).drew.heap[bR]? = W.heap[bR]? := Below.heap_alloc W _ bR (by omega); have e3 : w5.heap[bR]? = (W.alloc (.cells (madeCells #[Value.slice none 0 0] n) 22)).drew.heap[bR]? := hb.block bR (by omega)
    exact (Below.heap_setCell w5 ⟨w.heap.size, j.toNat, none⟩ v bR (by show bR ≠ w.heap.size; omega)).trans (e3.trans (e2.trans e1))
  · intro i hi
    by_cases e : i = j.toNat
    · subst e; have := blk_set hn5 j.toNat v; rw [range_set] at this
      simpa using this
    · have h1 := h.hr i (by omega); have := (old (rb i) (lt_of_some h1) (ne_of_types h1 h.hR (by decide))).trans h1
      simpa [e] using this
  · exact (old bG (lt_of_some h.hG) (Ne.symm h.dRG)).trans h.hG
  · intro i x hi hx
    by_cases e : i = j.toNat
    · subst e
      by_cases e2 : x = j.toNat
      · subst e2
        simpa using hv.keep hk4
      · simp only [if_true, if_neg e2]
        exact LeafN.none_ _ _
    · simp only [if_neg e]
      exact (h.leaf i x (by omega) hx).keep hk
  · intro i i' hi hi' he
    by_cases e : i = j.toNat
    · by_cases e' : i' = j.toNat
      · omega
      · simp only [if_pos e, if_neg e'] at he; have := hlt i' (by omega); omega
    · by_cases e' : i' = j.toNat
      · simp only [if_neg e, if_pos e'] at he; have := hlt i (by omega); omega
      · simp only [if_neg e, if_neg e'] at he
        exact h.drb i i' (by omega) (by omega) he
theorem NtAt.done {base : Nat} {w : World} {bt bR bG n : Nat} {rb : Nat → Nat} {vr : Nat → Nat → Value} {r : List Int} (h : NtAt base w bt bR bG n n rb vr r) (h1 : 1 ≤ n) (h64 : n ≤ 64) :
    TwAt base w bt bR bG rb vr (fun _ => .slice none 0 0) { n := n, reps := (List.range n).map (fun b => (List.replicate n []).set b r), gens := List.replicate n [] } := by
  have hrow : ∀ i, i < n → ((List.range n).map (fun b => (List.replicate n ([] : List Int)).set b r)).getD i [] = (List.replicate n []).set i r := fun i hi => by
    simp [List.getD_eq_getElem?_getD, List.getElem?_range hi]
  refine { n1 := h1, n64 := h64, lr := by simp, lrr := fun i hi => by rw [hrow i hi]; simp, lg := by simp, gt := h.gt, gR := h.gR, gG := h.gG, grb := h.grb, ht := h.ht, hR := ?_, hr := h.hr, hG := h.hG, hg := ?_, leaf := ?_, dRG := h.dRG, drb := h.drb, drg := ?_, dgg := ?_ }
  · rw [h.hR]
    congr 3
    apply List.map_congr_left; intro i hi; simp [List.mem_range.1 hi]
  · intro i hi
    refine ⟨[], ?_, fun j l hj => ?_⟩
    · have : (List.replicate n ([] : List (List Int))).getD i [] = [] := by simp [List.getD_eq_getElem?_getD, hi]
      simp only [this]
      exact own_nil _ _ _ _
    · have : (List.replicate n ([] : List (List Int))).getD i [] = [] := by simp [List.getD_eq_getElem?_getD, hi]
      simp only [this] at hj; simp at hj
  · intro i x hi hx
    have := h.leaf i x hi hx; simp only [hrow i hi]
    by_cases e : x = i
    · subst e; rw [getD_set_same (by simpa using hx)]
      simpa using this
    rw [getD_set_ne (fun z => e z.symm)]; rw [if_neg e] at this
    simpa [List.getD_eq_getElem?_getD, hx] using this
  · intro i j hi hj; simp [Value.ownBlock]
  · intro i j hi hj hne; left; simp [Value.ownBlock]
def NewPost (w : World) (T : Tw) (e : Ending) (w' : World) : Prop := ∃ bt bR bG rb vr vg, e = .returned (.pointer (some ⟨bt, 0, none⟩)) ∧ TwAt w.heap.size w' bt bR bG rb vr vg T ∧ Keep w.heap.size w w'
theorem newTower_calls (k n : Nat) (T : Tw) (w : World) (h : newTowerL k n = some T) :
    Calls Try.prog 60 #[.int .i64 n] w (NewPost w T) := by
  unfold newTowerL at h
  by_cases hn : 1 ≤ n ∧ n ≤ 64
  · rw [if_pos hn] at h
    replace h := Option.bind_eq_some_iff.mp h; obtain ⟨r, hr, h⟩ := h
    by_cases hr0 : r = []
    · rw [if_pos hr0] at h; cases h
    rw [if_neg hr0] at h; have HTe := aM (Option.some.inj h); have HR := aM hr; have HR0 := aM hr0; clear h hr hr0; obtain ⟨n1, n64⟩ := hn; have hm1 := run_make_row' (P := Try.prog) 106 28 (.slice none 0 0) 24 Try.underlying106 info28' rfl .i64 .i64 n (by omega) (by omega); have hm2 := run_make_row' (P := Try.prog) 28 22 (.slice none 0 0) 24 Try.underlying28 info22 rfl .i64 .i64 n (by omega) (by omega)
    go_enter Try.func60, Try.ntmps60
    go_wp2
    go_cut [3] (fun v3 wc => ∃ (bt bR bG : Nat), v3 = .pointer (some ⟨bt, 0, none⟩) ∧ Aside0 (NtAt w.heap.size wc bt bR bG n 0 (fun _ => 0) (fun _ _ => .slice none 0 0) r) ∧ Aside0 (Keep w.heap.size w wc))
    case first =>
      go_region
      · go_wp2; go_meet
        case rel => exact ⟨_, _, _, rfl, ⟨NtAt.start0 w n r false⟩, ⟨Keep.of_below (Nat.le_refl _) (((((Below.refl _ _).alloc (Nat.le_refl _) _).alloc (by simp) _).alloc (by simp; omega) _).drew)⟩⟩
      · go_wp2; go_meet
        case rel => exact ⟨_, _, _, rfl, ⟨NtAt.start0 w n r true⟩, ⟨Keep.of_below (Nat.le_refl _) (((((Below.refl _ _).alloc (Nat.le_refl _) _).alloc (by simp) _).alloc (by simp; omega) _).drew)⟩⟩
    case rest =>
      obtain ⟨bt, bR, bG, rfl, HN, HK⟩ := hcut; clear hm1; go_wp2
      go_loopg [13] n (fun kq v13 w' => ∃ (j : Int) (rb : Nat → Nat) (vr : Nat → Nat → Value), v13 = .int .i64 j ∧ Aside0 (0 ≤ j) ∧ Aside0 (j.toNat + kq = n) ∧ Aside0 (NtAt w.heap.size w' bt bR bG n j.toNat rb vr r) ∧ Aside0 (Keep w.heap.size w w'))
      case atStart => exact ⟨0, _, _, rfl, ⟨by omega⟩, ⟨by simp⟩, HN, HK⟩
      case round =>
        clear HN HK; obtain ⟨j, rb, vr, rfl, HJ0, HJ1, HN, HK⟩ := hrel; have j0 := HJ0.out; have j1 := HJ1.out; have hy1 := (blk_cell HN.out.ht 1).trans rfl
        by_cases c1 : j < (n : Int)
        · have q0 := eq_true j0; have q1 := eq_true c1; have hjn : j.toNat < n := by omega
          have hy2 : wr.cell? ⟨bR, j.toNat, none⟩ = some (.slice none 0 0) := by
            have := (blk_cell HN.out.hR j.toNat).trans (range_map_get _ hjn)
            simpa using this
          have hyf : wr.frozen? ⟨bR, j.toNat, none⟩ = false := blk_frozen HN.out.hR _; have hlt1 := lt_of_some HN.out.ht; have hlt2 := lt_of_some HN.out.hR; have hne1 := World.new_ne wr _ hy1; have hne2 := World.new_ne wr _ hy2; clear j1; go_wp2
          go_region
          go_wp2
          have hz1 : (((wr.setCell ⟨bR, j.toNat, none⟩ (.slice (some ⟨wr.heap.size, 0, none⟩) n n)).alloc (.cells (madeCells #[Value.slice none 0 0] n) 22)).drew).heap.size = wr.heap.size + 1 := by
            show ((wr.setCell ⟨bR, j.toNat, none⟩ (.slice (some ⟨wr.heap.size, 0, none⟩) n n)).alloc (.cells (madeCells #[Value.slice none 0 0] n) 22)).heap.size = _
            simp [World.setCell]
          have hz2 : (((wr.setCell ⟨bR, j.toNat, none⟩ (.slice (some ⟨wr.heap.size, 0, none⟩) n n)).alloc (.cells (madeCells #[Value.slice none 0 0] n) 22)).drew).cell? ⟨bt, 1, none⟩ = some (.slice (some ⟨bR, 0, none⟩) n n) := by
            have e1 := Below.heap_setCell wr ⟨bR, j.toNat, none⟩ (.slice (some ⟨wr.heap.size, 0, none⟩) n n) bt (ne_of_types HN.out.ht HN.out.hR (by decide)); have e2 := Below.heap_alloc (wr.setCell ⟨bR, j.toNat, none⟩ (.slice (some ⟨wr.heap.size, 0, none⟩) n n)) (.cells (madeCells #[Value.slice none 0 0] n) 22) bt (by simpa [World.setCell] using hlt1)
            exact (World.cell?_of_block (a := ⟨bt, 1, none⟩) (e2.trans e1)).trans hy1
          have hz3 : (((wr.setCell ⟨bR, j.toNat, none⟩ (.slice (some ⟨wr.heap.size, 0, none⟩) n n)).alloc (.cells (madeCells #[Value.slice none 0 0] n) 22)).drew).cell? ⟨bR, j.toNat, none⟩ = some (.slice (some ⟨wr.heap.size, 0, none⟩) n n) := by
            have e1 := blk_set HN.out.hR j.toNat (.slice (some ⟨wr.heap.size, 0, none⟩) n n); rw [range_set] at e1; have e2 := Below.heap_alloc (wr.setCell ⟨bR, j.toNat, none⟩ (.slice (some ⟨wr.heap.size, 0, none⟩) n n)) (.cells (madeCells #[Value.slice none 0 0] n) 22) bR (by simpa [World.setCell] using hlt2)
            exact (blk_cell (e2.trans e1) j.toNat).trans ((range_map_get _ hjn).trans (by simp))
          have hz4 : (((wr.setCell ⟨bR, j.toNat, none⟩ (.slice (some ⟨wr.heap.size, 0, none⟩) n n)).alloc (.cells (madeCells #[Value.slice none 0 0] n) 22)).drew).heap[wr.heap.size]? = some (Obj.cells ((List.range n).map (fun _ => Value.slice none 0 0)).toArray 22 (0, 0)) := by
            have := heap_alloc_new (wr.setCell ⟨bR, j.toNat, none⟩ (.slice (some ⟨wr.heap.size, 0, none⟩) n n)) (.cells (madeCells #[Value.slice none 0 0] n) 22); have e0 : (wr.setCell ⟨bR, j.toNat, none⟩ (.slice (some ⟨wr.heap.size, 0, none⟩) n n)).heap.size = wr.heap.size := by simp [World.setCell]
            rw [e0, made_range] at this; rw [made_range]
            exact this
          have HS := aM (show ∀ (v : Value) (w5 : World), LeafN w.heap.size w5 v r → Below (wr.heap.size + 1) (((wr.setCell ⟨bR, j.toNat, none⟩ (.slice (some ⟨wr.heap.size, 0, none⟩) n n)).alloc (.cells (madeCells #[Value.slice none 0 0] n) 22)).drew) w5 → NtAt w.heap.size (w5.setCell ⟨wr.heap.size, j.toNat, none⟩ v) bt bR bG n (j.toNat + 1) (fun i => if i = j.toNat then wr.heap.size else rb i) (fun i x => if i = j.toNat then (if x = j.toNat then v else .slice none 0 0) else vr i x) r ∧
      Keep w.heap.size wr (w5.setCell ⟨wr.heap.size, j.toNat, none⟩ v) from fun v w5 hv hb => HN.out.step hjn hv hb)
          have hd1 : ∀ (W : World) (v : Value), (W.setCell ⟨wr.heap.size, j.toNat, none⟩ v).cell? ⟨bt, 1, none⟩ = W.cell? ⟨bt, 1, none⟩ := fun W v => World.cell?_of_block (a := ⟨bt, 1, none⟩) (Below.heap_setCell W ⟨wr.heap.size, j.toNat, none⟩ v bt (by show bt ≠ wr.heap.size; omega))
          have hd2 : ∀ (W : World) (v : Value), (W.setCell ⟨wr.heap.size, j.toNat, none⟩ v).cell? ⟨bR, j.toNat, none⟩ = W.cell? ⟨bR, j.toNat, none⟩ := fun W v => World.cell?_of_block (a := ⟨bR, j.toNat, none⟩) (Below.heap_setCell W ⟨wr.heap.size, j.toNat, none⟩ v bR (by show bR ≠ wr.heap.size; omega))
          clear hyf hlt1 hlt2 hne1 hne2 hy1 hy2; generalize hW1 : (((wr.setCell ⟨bR, j.toNat, none⟩ (.slice (some ⟨wr.heap.size, 0, none⟩) n n)).alloc (.cells (madeCells #[Value.slice none 0 0] n) 22)).drew) = w1 at *; clear hW1; have hy1 := hz2; have hy2 := hz3; have hy3 : w1.cell? ⟨wr.heap.size, j.toNat, none⟩ = some (.slice none 0 0) := (blk_cell hz4 j.toNat).trans (range_map_get _ hjn); have hyf : w1.frozen? ⟨wr.heap.size, j.toNat, none⟩ = false := blk_frozen hz4 _; have HZ1 := aM hz1; have hl1 : bt < w1.heap.size := World.block_lt_of_cell? w1 _ hy1; have hl2 : bR < w1.heap.size := World.block_lt_of_cell? w1 _ hy2; have hl3 : wr.heap.size < w1.heap.size := World.block_lt_of_cell? w1 _ hy3; clear hz1 hz2 hz3 hz4
          go_region_held3 (fun W_ => W_.cell? ⟨bt, 1, none⟩ = some (.slice (some ⟨bR, 0, none⟩) n n) ∧ W_.cell? ⟨bR, j.toNat, none⟩ = some (.slice (some ⟨wr.heap.size, 0, none⟩) n n)) (first | go_keep | (refine ⟨(hd1 _ _).trans hk1, (hd2 _ _).trans hk2⟩)) ((go_at_call 49; refine (perm_identity.calls k n r _ HR.out).mono ?_; rintro e w5 ⟨v5, rfl, ho5, hb5⟩; have hLf := LeafN.of_R (base := w.heap.size) ho5 (by have := HK.out.below.size; have h_ := HZ1.out; show w.heap.size ≤ w1.heap.size; omega) HR0.out; obtain ⟨A5, c5, rfl, hl5, hr5⟩ := Kd.R_reads ho5; clear ho5 hl5 hr5; have hk1 := (hb5.cell (p := ⟨bt, 1, none⟩) hl1).trans hy1; have hk2 := (hb5.cell (p := ⟨bR, j.toNat, none⟩) hl2).trans hy2; have hk3 := (hb5.cell (p := ⟨wr.heap.size, j.toNat, none⟩) hl3).trans hy3; have hkf := (hb5.frozen (p := ⟨wr.heap.size, j.toNat, none⟩) hl3).trans hyf))
          all_goals
            have hst := HS.out _ w5 hLf (by have h_ := HZ1.out; exact ⟨hb5.os, hb5.tape, hb5.output, hb5.size, fun i hi => hb5.block i (by show i < w1.heap.size; omega)⟩); have HST := aM hst; clear hd1 hd2 hst hLf hk1 hk2 hk3 hkf hb5 hy1 hy2 hy3 hyf hl1 hl2 hl3 HS HZ1; go_wp2; obtain ⟨k1, rfl⟩ : ∃ m, gk = m + 1 := ⟨gk - 1, by have := HJ1.out; omega⟩
            go_roundg k1
            case measure => omega
            case rel => exact ⟨j + 1, _, _, rfl, ⟨by have := HJ0.out; omega⟩, ⟨by have := HJ1.out; have := HJ0.out; omega⟩, ⟨(show (j + 1).toNat = j.toNat + 1 by omega) ▸ HST.out.1⟩, ⟨HK.out.trans HST.out.2⟩⟩
        · have q1b : decide (j < (n : Int)) = false := decide_eq_false c1; have ejn : j.toNat = n := by omega
          rw [ejn] at HN; clear hy1 ejn j1; go_wp2; go_ret
          exact ⟨bt, bR, bG, rb, vr, _, rfl, HTe.out ▸ HN.out.done n1 n64, HK.out⟩
  rw [if_neg hn] at h; cases h
end
section
def lenB (n : Int) (p : List Int) : Bool := (p.length : Int) != n
def gensL (n : Int) (l : List (List Int)) : Int := if n < 1 ∨ 64 < n then 4 else match (l.map checkL).find? (fun e => e != 0) with
  | some e => e
  | none => if l.any (lenB n) then 10 else 0
def perm_generators.f (a0 : Int) (l1 : List (List Int)) : Option Int := some (gensL a0 l1)
theorem rdL1_mem {l : List (List Int)} {i : Int} (h0 : 0 ≤ i) (h1 : i < (l.length : Int)) : rd_L1 l i ∈ l := by
  unfold rd_L1
  rw [List.getD_eq_getElem?_getD, List.getElem?_eq_getElem (by omega)]
  exact List.getElem_mem _
theorem take_rdL1 {l : List (List Int)} {i : Int} (h0 : 0 ≤ i) (h1 : i < (l.length : Int)) : l.take (i + 1).toNat = l.take i.toNat ++ [rd_L1 l i] := by
  have e : (i + 1).toNat = i.toNat + 1 := by omega
  rw [e, List.take_succ_eq_append_getElem (by omega)]
  congr 2
  unfold rd_L1
  rw [List.getD_eq_getElem?_getD, List.getElem?_eq_getElem (by omega)]
  rfl
theorem gens1 (n : Int) (g c : Nat) (A : Option Addr) (p : List Int) (w : World) (hcell : w.cell? ⟨g, 0, none⟩ = some (.int .i64 n)) :
    Calls Try.prog 80 #[.slice A p.length c, .pointer (some ⟨g, 0, none⟩)] w fun e w' => e = .returned (.bool (lenB n p)) ∧ w = w' := by
  unfold lenB
  go_enter Try.func80, Try.ntmps80
  go_wp2
  go_ret
  exact ⟨rfl, rfl⟩
def IdxPost2 (p : List Int → Bool) (l : List (List Int)) (w : World) (e : Ending) (w' : World) : Prop := ∃ r : Int, e = .returned (.int .i64 r) ∧ decide (0 ≤ r) = l.any p ∧ Drawn0 w w'
theorem idx91_calls (A0 : Option Addr) (c0 : Nat) (l0 : List (List Int)) (g : Nat) (n : Int) (w : World) (hr0 : Kd.C (Kd.slice 3 (Kd.int .i64)) w A0 l0.length l0) (hcell : w.cell? ⟨g, 0, none⟩ = some (.int .i64 n)) :
    Calls Try.prog 91 #[.slice A0 l0.length c0, .func (Fn.func 80) #[] #[.pointer (some ⟨g, 0, none⟩)]] w (IdxPost2 (lenB n) l0 w) := by
  have HR := aM hr0
  have HC := aM hcell
  clear hr0 hcell
  go_enter Try.func91, Try.ntmps91
  go_wp2
  go_loopg [8] l0.length (fun kq v8 w' => ∃ i : Int, v8 = .int .i64 i ∧ Aside0 (0 ≤ i) ∧ Aside0 (i.toNat + kq = l0.length) ∧ Aside0 ((l0.take i.toNat).any (lenB n) = false) ∧ Aside0 (Drawn0 w w'))
  case atStart => exact ⟨0, rfl, ⟨by omega⟩, ⟨by simp⟩, ⟨by simp⟩, ⟨Drawn0.refl _⟩⟩
  case round =>
    obtain ⟨i, rfl, HI0, HI1, HA, HD⟩ := hrel; have i0 := HI0.out
    by_cases d1 : i < (l0.length : Int)
    · have d1b : decide (i < (l0.length : Int)) = true := decide_eq_true d1; have q0 := eq_true i0; have q1 := eq_true d1; have hmax : l0.length ≤ 9223372036854775807 := HR.out.2.1; obtain ⟨ad, A2, c2, ea, hx1, hl2, hC2⟩ := at_L1 HR.out i i0 d1
      cases ea; replace hx1 := (HD.out.below.cell (World.block_lt_of_cell? w _ hx1)).trans hx1; have hc1 := (HD.out.below.cell (World.block_lt_of_cell? w _ HC.out)).trans HC.out; have HC1 := aM hc1; clear hc1 hl2 hC2
      cases hb : lenB n (rd_L1 l0 i) with
      | true =>
        have HBo := aM hb; clear hb
        go_wp2_with (first
          | (go_at_call 80; (with_reducible refine (gens1 n g c2 A2 (rd_L1 l0 i) _ HC1.out).mono ?_); rintro e w5 ⟨rfl, rfl⟩; rw [HBo.out]))
        go_ret
        exact ⟨i, rfl, by rw [decide_eq_true HI0.out]; exact (List.any_eq_true.2 ⟨_, rdL1_mem HI0.out d1, HBo.out⟩).symm, HD.out⟩
      | false =>
        have HBo := aM hb; clear hb
        go_wp2_with (first
          | (go_at_call 80; (with_reducible refine (gens1 n g c2 A2 (rd_L1 l0 i) _ HC1.out).mono ?_); rintro e w5 ⟨rfl, rfl⟩; rw [HBo.out]))
        obtain ⟨k1, rfl⟩ : ∃ m, gk = m + 1 := ⟨gk - 1, by have := HI1.out; omega⟩
        go_roundg k1
        case measure => omega
        case rel => exact ⟨i + 1, rfl, ⟨by have := HI0.out; omega⟩, ⟨by have := HI1.out; have := HI0.out; omega⟩, ⟨by rw [take_rdL1 HI0.out d1, List.any_append, HA.out]; simp [HBo.out]⟩, HD⟩
    have d1b : decide (i < (l0.length : Int)) = false := decide_eq_false d1; have ha := HA.out; rw [List.take_of_length_le (by omega)] at ha; have HA2 := aM ha; clear ha; go_wp2; go_ret
    exact ⟨-1, rfl, by rw [HA2.out]; rfl, HD.out⟩
def ContPost2 (p : List Int → Bool) (l : List (List Int)) (w : World) (e : Ending) (w' : World) : Prop := e = .returned (.bool (l.any p)) ∧ Drawn0 w w'
theorem cont79_calls (A0 : Option Addr) (c0 : Nat) (l0 : List (List Int)) (g : Nat) (n : Int) (w : World) (hr0 : Kd.C (Kd.slice 3 (Kd.int .i64)) w A0 l0.length l0) (hcell : w.cell? ⟨g, 0, none⟩ = some (.int .i64 n)) :
    Calls Try.prog 79 #[.slice A0 l0.length c0, .func (Fn.func 80) #[] #[.pointer (some ⟨g, 0, none⟩)]] w (ContPost2 (lenB n) l0 w) := by
  have HR := aM hr0
  have HC := aM hcell
  clear hr0 hcell
  go_enter Try.func79, Try.ntmps79
  go_wp2_with (first
    | (go_at_call 91; (with_reducible refine (idx91_calls _ _ l0 g n _ HR.out HC.out).mono ?_); rintro e w5 ⟨r, rfl, hr, hd⟩; have HDr := aM (And.intro hr hd); clear hr hd))
  go_ret
  exact ⟨by rw [← HDr.out.1]; rfl, HDr.out.2⟩
theorem find_first {l : List (List Int)} {i : Int} (h0 : 0 ≤ i) (h1 : i < (l.length : Int)) (ha : (l.take i.toNat).all (fun p => checkL p == 0) = true) (hb : checkL (rd_L1 l i) ≠ 0) : (l.map checkL).find? (fun e => e != 0) = some (checkL (rd_L1 l i)) := by
  have e : l = l.take i.toNat ++ (rd_L1 l i :: l.drop (i.toNat + 1)) := by
    have h2 := take_rdL1 h0 h1; have h3 : (i + 1).toNat = i.toNat + 1 := by omega
    rw [h3] at h2
    calc l = l.take (i.toNat + 1) ++ l.drop (i.toNat + 1) := (List.take_append_drop _ _).symm
      _ = _ := by rw [h2, List.append_assoc]; rfl
  rw [e, List.map_append, List.find?_append]
  have hn : ((l.take i.toNat).map checkL).find? (fun e => e != 0) = none := by
    rw [List.find?_eq_none]; intro x hx; obtain ⟨p, hp, rfl⟩ := List.mem_map.1 hx; have := List.all_eq_true.1 ha p hp
    simpa using this
  rw [hn]
  have e2 : rd_L1 (l.take i.toNat ++ rd_L1 l i :: l.drop (i.toNat + 1)) i = rd_L1 l i := by rw [← e]
  rw [e2]
  simp [hb]
theorem find_none {l : List (List Int)} (ha : l.all (fun p => checkL p == 0) = true) : (l.map checkL).find? (fun e => e != 0) = none := by
  rw [List.find?_eq_none]
  intro x hx
  obtain ⟨p, hp, rfl⟩ := List.mem_map.1 hx
  have := List.all_eq_true.1 ha p hp
  simpa using this
def GensPost (r : Int) (w : World) (e : Ending) (w' : World) : Prop := e = .returned (.int .i64 r) ∧ Below w.heap.size w w'
theorem gens_post (a0 : Int) (A1 : Option Addr) (c1 : Nat) (l1 : List (List Int)) (w : World) (hr1 : Kd.C (Kd.slice 3 (Kd.int .i64)) w A1 l1.length l1) (hc1 : l1.length ≤ c1) :
    Calls Try.prog 57 #[.int .i64 a0, .slice A1 l1.length c1] w (GensPost (gensL a0 l1) w) := by
  have HR := aM hr1
  have HC := aM hc1
  clear hr1 hc1
  by_cases hb : a0 < 1 ∨ 64 < a0
  · have HRS := aM (show gensL a0 l1 = 4 by unfold gensL; rw [if_pos hb])
    have HD := aM (degree_bad a0 hb); clear hb
    go_enter Try.func57, Try.ntmps57
    go_wp2_with (first
     | ((with_reducible refine gate_dst (N := 2) rfl ?_); refine box_event ?hg (N := 2) ?hd (cs := #[.int .i64 a0]) (t := 3) ?hr ?_; (case hd => rfl); (case hg => rfl); (case hr => first | (go_simp; done) | (go_simp; rfl)); intro g hgr w3 hbox3 hb3; have hz : w3.cell? ⟨g, 0, none⟩ = some (.int .i64 a0) := (blk_cell hbox3 0).trans rfl; have HB3 := aM hb3; clear hgr hb3 hbox3)
     | (go_at_call 52; (with_reducible refine (perm_degree.calls a0 4 _ HD.out).mono ?_); rintro e w5 ⟨rfl, ⟨nd, rfl⟩⟩))
    go_ret
    exact ⟨by rw [HRS.out]; rfl, pw_below_drewN HB3.out _⟩
  have HD := aM (degree_ok a0 (by omega) (by omega))
  have hmax : l1.length ≤ 9223372036854775807 := HR.out.2.1
  have HNB := aM hb
  clear hb
  go_enter Try.func57, Try.ntmps57
  go_wp2_with (first
   | ((with_reducible refine gate_dst (N := 2) rfl ?_); refine box_event ?hg2 (N := 2) ?hd2 (cs := #[.int .i64 a0]) (t := 3) ?hr2 ?_; (case hd2 => rfl); (case hg2 => rfl); (case hr2 => first | (go_simp; done) | (go_simp; rfl)); intro g hgr w3 hbox3 hb3; have hz : w3.cell? ⟨g, 0, none⟩ = some (.int .i64 a0) := (blk_cell hbox3 0).trans rfl; have HZ := aM hz; have HB3 := aM hb3; clear hgr hb3 hbox3)
   | (go_at_call 52; (with_reducible refine (perm_degree.calls a0 0 _ HD.out).mono ?_); rintro e w5 ⟨rfl, ⟨nd, rfl⟩⟩))
  go_loopg [16] l1.length (fun kq v16 w' => ∃ i : Int, v16 = .int .i64 i ∧ Aside0 (0 ≤ i) ∧ Aside0 (i.toNat + kq = l1.length) ∧ Aside0 ((l1.take i.toNat).all (fun p => checkL p == 0) = true) ∧ Aside0 (Below w3.heap.size w3 w'))
  case atStart => exact ⟨0, rfl, ⟨by omega⟩, ⟨by simp⟩, ⟨by simp⟩, ⟨pw_below_drewN (Below.refl _ _) _⟩⟩
  case round =>
    clear hz; obtain ⟨i, rfl, HI0, HI1, HA, HBw⟩ := hrel; have i0 := HI0.out
    by_cases d1 : i < (l1.length : Int)
    · have d1b : decide (i < (l1.length : Int)) = true := decide_eq_true d1; have q0 := eq_true i0; have q1 := eq_true d1; have hb0 := below_then HB3.out HB3.out.size HBw.out; obtain ⟨ad, A2, c2, ea, hx1, hl2, hC2⟩ := at_L1 HR.out i i0 d1
      cases ea; replace hx1 := (hb0.cell (World.block_lt_of_cell? w _ hx1)).trans hx1; have HC2 := aM (Kd.C_below hC2 hb0); have HL2 := aM hl2; clear hb0 hC2 hl2
      by_cases hb : checkL (rd_L1 l1 i) = 0
      · have HBo := aM hb; clear hb
        go_wp2_with (first
          | (go_at_call 16; (with_reducible refine (perm_Check.calls A2 c2 (rd_L1 l1 i) 0 _ HC2.out HL2.out (by unfold perm_Check.f; rw [HBo.out])).mono ?_); rintro e w6 ⟨rfl, hb6⟩; have HB6 := aM (below_then HBw.out HBw.out.size hb6); clear hb6))
        obtain ⟨k1, rfl⟩ : ∃ m, gk = m + 1 := ⟨gk - 1, by have := HI1.out; omega⟩
        go_roundg k1
        case measure => omega
        case rel => exact ⟨i + 1, rfl, ⟨by have := HI0.out; omega⟩, ⟨by have := HI1.out; have := HI0.out; omega⟩, ⟨by rw [take_rdL1 HI0.out d1, List.all_append, HA.out]; simp [HBo.out]⟩, HB6⟩
      have HBo := aM hb; have hb1 : (checkL (rd_L1 l1 i) != 0) = true := bne_iff_ne.mpr hb; have HRS := aM (show gensL a0 l1 = checkL (rd_L1 l1 i) by unfold gensL; rw [if_neg HNB.out, find_first i0 d1 HA.out hb]); clear hb
      go_wp2_with (first
        | (go_at_call 16; (with_reducible refine (perm_Check.calls A2 c2 (rd_L1 l1 i) (checkL (rd_L1 l1 i)) _ HC2.out HL2.out rfl).mono ?_); rintro e w6 ⟨rfl, hb6⟩; have HB6 := aM (below_then HBw.out HBw.out.size hb6); clear hb6))
      go_ret
      exact ⟨by rw [HRS.out]; rfl, below_then HB3.out HB3.out.size HB6.out⟩
    have d1b : decide (i < (l1.length : Int)) = false := decide_eq_false d1; have ha := HA.out; rw [List.take_of_length_le (by omega)] at ha; have HA2 := aM ha; have hz1 := (HBw.out.cell (World.block_lt_of_cell? _ _ HZ.out)).trans HZ.out; have HZ1 := aM hz1; have HRw := aM (Kd.C_below HR.out (below_then HB3.out HB3.out.size HBw.out)); clear ha hz1
    cases hb : l1.any (lenB a0) with
    | true =>
      have HBo := aM hb; have HRS := aM (show gensL a0 l1 = 10 by unfold gensL; rw [if_neg HNB.out, find_none HA2.out]; simp [hb]); clear hb
      go_wp2_with (first
        | (go_at_call 79; (with_reducible refine (cont79_calls _ _ l1 g a0 _ HRw.out HZ1.out).mono ?_); rintro e w6 ⟨rfl, hd6⟩; rw [HBo.out]; have HB6 := aM hd6.below; clear hd6))
      go_ret
      exact ⟨by rw [HRS.out]; rfl, below_then HB3.out HB3.out.size (below_then HBw.out HBw.out.size HB6.out)⟩
    | false =>
      have HBo := aM hb; have HRS := aM (show gensL a0 l1 = 0 by unfold gensL; rw [if_neg HNB.out, find_none HA2.out]; simp [hb]); clear hb
      go_wp2_with (first
        | (go_at_call 79; (with_reducible refine (cont79_calls _ _ l1 g a0 _ HRw.out HZ1.out).mono ?_); rintro e w6 ⟨rfl, hd6⟩; rw [HBo.out]; have HB6 := aM hd6.below; clear hd6))
      go_ret
      exact ⟨by rw [HRS.out]; rfl, below_then HB3.out HB3.out.size (below_then HBw.out HBw.out.size HB6.out)⟩
theorem perm_generators.calls (a0 : Int) (A1 : Option Addr) (c1 : Nat) (l1 : List (List Int)) (r : Int) (w : World) (hr1 : Kd.C (Kd.slice 3 (Kd.int .i64)) w A1 l1.length l1) (hc1 : l1.length ≤ c1) (h : perm_generators.f a0 l1 = some r) :
    Calls Try.prog 57 #[.int .i64 a0, .slice A1 l1.length c1] w fun e w' => e = .returned (.int .i64 r) ∧ Below w.heap.size w w' := by
  obtain rfl := Option.some.inj h
  exact gens_post a0 A1 c1 l1 w hr1 hc1
end
section
def buildLoop : Nat → Tw → List (List Int) → Int → Option Tw
  | 0, _, _, _ => none
  | k + 1, T, l, i => if i < (l.length : Int) then (if rd_L1 l i = [] then none else (insertL k T (rd_L1 l i) 0).bind fun T' => buildLoop k T' l (i + 1)) else some T
def perm_Build.f (k : Nat) (a0 : Int) (l1 : List (List Int)) : Option (Int × List S74 × Int) :=
  (perm_generators.f a0 l1).bind fun e => if e = 0 then (if 0 ≤ a0 then (newTowerL k a0.toNat).bind fun T => (buildLoop k T l1 0).bind fun T' => (chainL k T' 0 []).bind fun r => some ((T'.n : Int), r, 0) else none) else some (0, [], e)
theorem stripL.mono : ∀ (k : Nat) (T : Tw) (p : List Int) (b : Int), LeO (stripL k T p b) (stripL (k + 1) T p b) := by
  intro k
  induction k with
  | zero => intro T p b r h; simp [stripL] at h
  | succ k ih =>
    intro T p b; unfold stripL
    repeat' first
      | (with_reducible exact LeO.refl _)
      | (with_reducible exact LeO.none _)
      | (with_reducible refine LeO.ite ?_ ?_)
      | (with_reducible refine LeO.bind ?_ (fun _ => ?_))
      | exact perm_inverse.mono _ _
      | exact perm_then.mono _ _ _
      | exact ih _ _ _
theorem vi.mono : ∀ (k : Nat), (∀ T p b, LeO (visitL k T p b) (visitL (k + 1) T p b)) ∧ (∀ T p b j, LeO (visitLoop k T p b j) (visitLoop (k + 1) T p b j)) ∧ (∀ T p b, LeO (insertL k T p b) (insertL (k + 1) T p b)) ∧ (∀ T rs p b i, LeO (insertLoop k T rs p b i) (insertLoop (k + 1) T rs p b i)) := by
  intro k
  induction k with
  | zero => exact ⟨fun T p b r h => by simp [visitL] at h, fun T p b j r h => by simp [visitLoop] at h, fun T p b r h => by simp [insertL] at h, fun T rs p b i r h => by simp [insertLoop] at h⟩
  | succ k ih =>
    obtain ⟨i1, i2, i3, i4⟩ := ih
    refine ⟨?_, ?_, ?_, ?_⟩
    · intro T p b; unfold visitL
      repeat' first
        | (with_reducible exact LeO.refl _)
        | (with_reducible exact LeO.none _)
        | (with_reducible refine LeO.ite ?_ ?_)
        | (with_reducible refine LeO.bind ?_ (fun _ => ?_))
        | exact perm_inverse.mono _ _
        | exact perm_then.mono _ _ _
        | exact i2 _ _ _ _
        | exact i3 _ _ _
    · intro T p b j; unfold visitLoop
      repeat' first
        | (with_reducible exact LeO.refl _)
        | (with_reducible exact LeO.none _)
        | (with_reducible refine LeO.ite ?_ ?_)
        | (with_reducible refine LeO.bind ?_ (fun _ => ?_))
        | exact perm_then.mono _ _ _
        | exact i1 _ _ _
        | exact i2 _ _ _ _
    · intro T p b; unfold insertL
      repeat' first
        | (with_reducible exact LeO.refl _)
        | (with_reducible exact LeO.none _)
        | (with_reducible refine LeO.ite ?_ ?_)
        | (with_reducible refine LeO.bind ?_ (fun _ => ?_))
        | exact stripL.mono _ _ _ _
        | exact i4 _ _ _ _ _
    · intro T rs p b i; unfold insertLoop
      repeat' first
        | (with_reducible exact LeO.refl _)
        | (with_reducible exact LeO.none _)
        | (with_reducible refine LeO.ite ?_ ?_)
        | (with_reducible refine LeO.bind ?_ (fun _ => ?_))
        | exact perm_then.mono _ _ _
        | exact i1 _ _ _
        | exact i4 _ _ _ _ _
theorem bestL.mono : ∀ (k : Nat) (T : Tw) (c : Int) (p : List Int) (x b : Int), LeO (bestL k T c p x b) (bestL (k + 1) T c p x b) := by
  intro k
  induction k with
  | zero => intro T c p x b r h; simp [bestL] at h
  | succ k ih =>
    intro T c p x b; unfold bestL
    repeat' first
      | (with_reducible exact LeO.refl _)
      | (with_reducible exact LeO.none _)
      | (with_reducible refine LeO.ite ?_ ?_)
      | exact ih _ _ _ _ _
theorem canonL.mono : ∀ (k : Nat) (T : Tw) (p : List Int) (c : Int), LeO (canonL k T p c) (canonL (k + 1) T p c) := by
  intro k
  induction k with
  | zero => intro T p c r h; simp [canonL] at h
  | succ k ih =>
    intro T p c; unfold canonL
    repeat' first
      | (with_reducible exact LeO.refl _)
      | (with_reducible exact LeO.none _)
      | (with_reducible refine LeO.ite ?_ ?_)
      | (with_reducible refine LeO.bind ?_ (fun _ => ?_))
      | exact perm_then.mono _ _ _
      | exact bestL.mono _ _ _ _ _ _
      | exact ih _ _ _
theorem levelL.mono : ∀ (k : Nat) (T : Tw) (b x : Int) (orb : List Int) (reps : List (List Int)), LeO (levelL k T b x orb reps) (levelL (k + 1) T b x orb reps) := by
  intro k
  induction k with
  | zero => intro T b x orb reps r h; simp [levelL] at h
  | succ k ih =>
    intro T b x orb reps; unfold levelL
    repeat' first
      | (with_reducible exact LeO.refl _)
      | (with_reducible exact LeO.none _)
      | (with_reducible refine LeO.ite ?_ ?_)
      | (with_reducible refine LeO.bind ?_ (fun _ => ?_))
      | exact canonL.mono _ _ _ _
      | exact ih _ _ _ _ _
theorem chainL.mono : ∀ (k : Nat) (T : Tw) (b : Int) (lv : List S74), LeO (chainL k T b lv) (chainL (k + 1) T b lv) := by
  intro k
  induction k with
  | zero => intro T b lv r h; simp [chainL] at h
  | succ k ih =>
    intro T b lv; unfold chainL
    repeat' first
      | (with_reducible exact LeO.refl _)
      | (with_reducible exact LeO.none _)
      | (with_reducible refine LeO.ite ?_ ?_)
      | (with_reducible refine LeO.bind ?_ (fun _ => ?_))
      | exact levelL.mono _ _ _ _ _ _
      | exact ih _ _ _
theorem newTowerL.mono (k n : Nat) : LeO (newTowerL k n) (newTowerL (k + 1) n) := by
  unfold newTowerL
  repeat' first
    | (with_reducible exact LeO.refl _)
    | (with_reducible exact LeO.none _)
    | (with_reducible refine LeO.ite ?_ ?_)
    | (with_reducible refine LeO.bind ?_ (fun _ => ?_))
    | exact perm_identity.mono _ _
theorem buildLoop.mono : ∀ (k : Nat) (T : Tw) (l : List (List Int)) (i : Int), LeO (buildLoop k T l i) (buildLoop (k + 1) T l i) := by
  intro k
  induction k with
  | zero => intro T l i r h; simp [buildLoop] at h
  | succ k ih =>
    intro T l i; unfold buildLoop
    repeat' first
      | (with_reducible exact LeO.refl _)
      | (with_reducible exact LeO.none _)
      | (with_reducible refine LeO.ite ?_ ?_)
      | (with_reducible refine LeO.bind ?_ (fun _ => ?_))
      | exact (vi.mono _).2.2.1 _ _ _
      | exact ih _ _ _
def BuildPost (w : World) (r1 : Int) (r2 : List S74) (r3 : Int) (e : Ending) (w' : World) : Prop := ∃ v1_ : Value, e = .returned (.tuple #[.agg #[.int .i64 r1, v1_], .int .i64 r3]) ∧ Kd.N k74 74 w' w.heap.size (fun k_ => w.heap.size ≤ k_) v1_ r2 ∧ Below w.heap.size w w'
theorem leaf_of_C {base : Nat} {w w1 : World} {A : Option Addr} {l : List Int} {c : Nat} (h : (Kd.int .i64).C w A l.length l) (hc : l.length ≤ c) (hb : Below w.heap.size w w1) (hbase : w.heap.size ≤ base) (hl : l ≠ []) : Leaf base w1 (.slice A l.length c) l :=
  ⟨A, c, rfl, hc, Kd.F_mono (Kd.F_below (Kd.C_F (Kd.heap_int _) h) hb) (fun k hk => .inl (Nat.lt_of_lt_of_le hk hbase)), fun e => absurd e hl⟩
theorem build_post (k : Nat) (a0 : Int) (A1 : Option Addr) (c1 : Nat) (l1 : List (List Int)) (r1 : Int) (r2 : List S74) (r3 : Int) (w : World) (hr1 : Kd.C (Kd.slice 3 (Kd.int .i64)) w A1 l1.length l1) (hc1 : l1.length ≤ c1) (h : perm_Build.f k a0 l1 = some (r1, r2, r3)) :
    Calls Try.prog 30 #[.int .i64 a0, .slice A1 l1.length c1] w (BuildPost w r1 r2 r3) := by
  unfold perm_Build.f at h
  replace h := Option.bind_eq_some_iff.mp h
  obtain ⟨e0, he0, h⟩ := h
  have HE := aM he0
  have HR1 := aM hr1
  have HC1 := aM hc1
  clear he0 hr1 hc1
  by_cases c0 : e0 = 0
  · rw [if_pos c0] at h
    have c0b : (e0 != 0) = false := bne_eq_false_iff_eq.mpr c0; clear c0
    by_cases c2 : 0 ≤ a0
    · rw [if_pos c2] at h; obtain ⟨n, rfl⟩ := Int.eq_ofNat_of_zero_le c2; rw [Int.toNat_natCast] at h; replace h := Option.bind_eq_some_iff.mp h; obtain ⟨T0, hT0, h⟩ := h; replace h := Option.bind_eq_some_iff.mp h; obtain ⟨T1, hT1, h⟩ := h; replace h := Option.bind_eq_some_iff.mp h; obtain ⟨lv, hlv, h⟩ := h; simp only [Option.some.injEq, Prod.mk.injEq] at h; obtain ⟨rfl, rfl, rfl⟩ := h; have HT0 := aM hT0; have HT1 := aM hT1; have HLV := aM hlv; clear hT0 hT1 hlv c2
      go_enter Try.func30, Try.ntmps30
      go_wp2_with (first
        | ((with_reducible refine gate_dst (N := 4) rfl ?_); refine box_event ?hg (N := 4) ?hd (cs := #[.int .i64 0, .slice none 0 0]) (t := 46) ?hr ?_; (case hd => rfl); (case hg => rfl); (case hr => first | (go_simp; done) | (go_simp; rfl)); intro gres hgr w3 hbox3 hb3; have HGR := aM (show w.heap.size ≤ gres by omega); have HB3 := aM hb3; have HBX3 := aM hbox3; clear hgr hb3 hbox3)
        | (go_at_call 57; (with_reducible refine (perm_generators.calls n _ _ l1 e0 _ ?s1 ?s2 HE.out).mono ?_); (case s1 => exact Kd.C_below HR1.out HB3.out); (case s2 => exact HC1.out); rintro e w5 ⟨rfl, hb5⟩; have HB5 := aM (below_step HB3.out hb5); have HBX5 := aM (blk_below HBX3.out hb5); clear hb5)
        | (go_at_call 60; (with_reducible refine (newTower_calls k n T0 _ HT0.out).mono ?_); rintro e w6 ⟨bt, bR, bG, rb, vr, vg, rfl, hT6, hK6⟩; have HT6 := aM hT6; have HK6 := aM hK6; clear hT6 hK6))
      go_loopg [21] k (fun kq v21 w' => ∃ (i : Int) (T : Tw) (vr1 : Nat → Nat → Value) (vg1 : Nat → Value), v21 = .int .i64 i ∧ Aside0 (0 ≤ i) ∧ Aside0 (buildLoop kq T l1 i = some T1) ∧ Aside0 (kq ≤ k) ∧ Aside0 (TwAt w5.heap.size w' bt bR bG rb vr1 vg1 T) ∧ Aside0 (Keep w5.heap.size w5 w'))
      case atStart => exact ⟨0, T0, vr, vg, rfl, ⟨by omega⟩, HT1, ⟨Nat.le_refl _⟩, HT6, HK6⟩
      case round =>
        clear HT1 HT6 HK6; obtain ⟨i, T, vr1, vg1, rfl, HI0, HA, HK1, HT, HK⟩ := hrel
        cases gk with
        | zero => exact absurd HA.out (by simp [buildLoop])
        | succ k1 =>
          have H := HA.out; clear HA; simp only [buildLoop] at H; have i0 := HI0.out; have q0 := eq_true i0
          by_cases d1 : i < (l1.length : Int)
          · rw [if_pos d1] at H
            by_cases d2 : rd_L1 l1 i = []
            · rw [if_pos d2] at H; cases H
            rw [if_neg d2] at H; replace H := Option.bind_eq_some_iff.mp H; obtain ⟨T2, hT2, H⟩ := H; have H' := aM H; have HT2 := aM hT2; have d1b : decide (i < (l1.length : Int)) = true := decide_eq_true d1; have hmax : l1.length ≤ 9223372036854775807 := HR1.out.2.1; have q1 := eq_true d1; have hb0 := below_then HB5.out HB5.out.size HK.out.below; obtain ⟨ad, A2, c2, ea, hx1, hl2, hC2⟩ := at_L1 HR1.out i i0 d1
            cases ea; replace hx1 := (hb0.cell (World.block_lt_of_cell? w _ hx1)).trans hx1; have HLf := aM (leaf_of_C hC2 hl2 hb0 HB5.out.size d2); clear H hT2 d2 hl2 hC2 hb0
            go_wp2_with (first
              | (go_at_call 61; (with_reducible refine ((vi_ok k1).2 A2 c2 (rd_L1 l1 i) 0 T2 _ HT.out HLf.out HT2.out).mono ?_); rintro e w8 ⟨rfl, vr8, vg8, hT8, hK8, hF8, hn8⟩; have HT8 := aM hT8; have HK8 := aM (HK.out.trans hK8); clear hT8 hK8 hF8 hn8))
            go_roundg k1
            case measure => omega
            case rel => exact ⟨i + 1, T2, vr8, vg8, rfl, ⟨by have := HI0.out; omega⟩, H', ⟨by have := HK1.out; omega⟩, HT8, HK8⟩
          rw [if_neg d1] at H; obtain rfl := Option.some.inj H; have d1b : decide (i < (l1.length : Int)) = false := decide_eq_false d1; have hbx := (HK.out.below.block gres (lt_of_some HBX5.out)).trans HBX5.out; have hz0 : wr.cell? ⟨gres, 0, none⟩ = some (.int .i64 0) := (blk_cell hbx 0).trans rfl; have HBX := aM hbx; clear hbx hz0
          go_wp2_with (first
            | (go_at_call 62; (with_reducible refine (chain_calls k lv _ HT.out HLV.out).mono ?_); rintro e w9 ⟨v9, rfl, hN9, hb9⟩; have HBX9 := aM (blk_below HBX.out hb9); have hz0 : w9.cell? ⟨gres, 0, none⟩ = some (.int .i64 0) := (blk_cell HBX9.out 0).trans rfl; have hz1 : w9.cell? ⟨gres, 1, none⟩ = some (.slice none 0 0) := (blk_cell HBX9.out 1).trans rfl; have hf0 := blk_frozen HBX9.out 0; have hf1 := blk_frozen HBX9.out 1; obtain ⟨A9, c9, rfl⟩ := N_slice_form hN9; have HN9 := aM hN9; have HB9 := aM hb9; clear hN9 hb9))
          refine bodyPost_ret (results_ct rfl _ _ gres 46 #[.int .i64 T.n, .slice A9 lv.length c9] (0, 0) _ rfl (blk_put (blk_put HBX9.out 0 _ rfl) 1 _ rfl) Try.underlying46 rfl (by kernel_rfl)) rfl ?_; have hsz : w.heap.size ≤ w5.heap.size := HB5.out.size; have hg5 : gres < w5.heap.size := lt_of_some HBX5.out
          refine ⟨_, rfl, ?_, ?_⟩
          · exact Kd.N_lower (Kd.N_mono (Kd.N_far (Kd.N_far (Kd.N_mono HN9.out (ok' := fun k => w5.heap.size ≤ k) (fun k hk => hk)) (p := ⟨gres, 0, none⟩) (fun k hk => by show k ≠ gres; omega) _) (p := ⟨gres, 1, none⟩) (fun k hk => by show k ≠ gres; omega) _) (fun k hk => by omega)) (by have h1_ := HK.out.below.size; omega)
          · exact ((below_then (below_then HB5.out HB5.out.size HK.out.below) (Nat.le_trans HB5.out.size HK.out.below.size) HB9.out).setCell HGR.out _).setCell HGR.out _
    rw [if_neg c2] at h; cases h
  rw [if_neg c0] at h
  simp only [Option.some.injEq, Prod.mk.injEq] at h
  obtain ⟨rfl, rfl, rfl⟩ := h
  have c0b : (e0 != 0) = true := bne_iff_ne.mpr c0
  clear c0
  go_enter Try.func30, Try.ntmps30
  go_wp2_with (first
    | ((with_reducible refine gate_dst (N := 4) rfl ?_); refine box_event ?hg2 (N := 4) ?hd2 (cs := #[.int .i64 0, .slice none 0 0]) (t := 46) ?hr2 ?_; (case hd2 => rfl); (case hg2 => rfl); (case hr2 => first | (go_simp; done) | (go_simp; rfl)); intro gres hgr w3 hbox3 hb3; have HGR := aM (show w.heap.size ≤ gres by omega); have HB3 := aM hb3; have HBX3 := aM hbox3; clear hgr hb3 hbox3)
    | (go_at_call 57; (with_reducible refine (perm_generators.calls a0 _ _ l1 e0 _ ?t1 ?t2 HE.out).mono ?_); (case t1 => exact Kd.C_below HR1.out HB3.out); (case t2 => exact HC1.out); rintro e w5 ⟨rfl, hb5⟩; have HB5 := aM (below_step HB3.out hb5); have HBX5 := aM (blk_below HBX3.out hb5); have hz0 : w5.cell? ⟨gres, 0, none⟩ = some (.int .i64 0) := (blk_cell HBX5.out 0).trans rfl; have hz1 : w5.cell? ⟨gres, 1, none⟩ = some (.slice none 0 0) := (blk_cell HBX5.out 1).trans rfl; have hf0 := blk_frozen HBX5.out 0; have hf1 := blk_frozen HBX5.out 1; clear hb5))
  refine bodyPost_ret (results_ct rfl _ _ gres 46 #[.int .i64 0, .slice none 0 0] (0, 0) _ rfl (blk_put (blk_put HBX5.out 0 _ rfl) 1 _ rfl) Try.underlying46 rfl (by kernel_rfl)) rfl ?_
  exact ⟨_, rfl, Kd.N_nil _ _ _ _ _, (HB5.out.setCell HGR.out _).setCell HGR.out _⟩
theorem perm_Build.calls (k : Nat) (a0 : Int) (A1 : Option Addr) (c1 : Nat) (l1 : List (List Int)) (r1 : Int) (r2 : List S74) (r3 : Int) (w : World) (hr1 : Kd.C (Kd.slice 3 (Kd.int .i64)) w A1 l1.length l1) (hc1 : l1.length ≤ c1) (h : perm_Build.f k a0 l1 = some (r1, r2, r3)) :
    Calls Try.prog 30 #[.int .i64 a0, .slice A1 l1.length c1] w fun e w' => ∃ v1_ : Value, e = .returned (.tuple #[.agg #[.int .i64 r1, v1_], .int .i64 r3]) ∧ Kd.N k74 74 w' w.heap.size (fun k_ => w.heap.size ≤ k_) v1_ r2 ∧ Below w.heap.size w w' :=
  (build_post k a0 A1 c1 l1 r1 r2 r3 w hr1 hc1 h).mono fun _ _ h => h
end
section
theorem dr_trans {w w' w'' : World} (h : Drawn0 w w') (h2 : Drawn0 w' w'') : Drawn0 w w'' := by
  obtain ⟨⟨n, rfl⟩⟩ := h2
  exact h.step n
theorem wrap64_to {n : Int} (h : -9223372036854775808 ≤ n ∧ n ≤ 9223372036854775807) : wrap64 n = n := by unfold wrap64; omega
theorem rd_is (l : List Int) (n : Nat) : rd l (n : Int) = l.getD n 0 := by simp [rd]
theorem take_eq_succ {α : Type} (d : α) {x y : List α} {i : Nat} (hx : i < x.length) (hy : i < y.length) : x.take (i + 1) = y.take (i + 1) ↔ x.take i = y.take i ∧ x.getD i d = y.getD i d := by
  rw [List.take_succ_eq_append_getElem hx, List.take_succ_eq_append_getElem hy]
  have e1 : x.getD i d = x[i] := by simp [List.getD_eq_getElem?_getD, hx]
  have e2 : y.getD i d = y[i] := by simp [List.getD_eq_getElem?_getD, hy]
  rw [e1, e2]
  constructor
  · intro h
    have := List.append_inj h (by simp; omega)
    exact ⟨this.1, by simpa using this.2⟩
  · rintro ⟨h1, h2⟩
    rw [h1, h2]
theorem eq_loop (x y : List Int) (hxy : x.length = y.length) (hb : x.length ≤ 9223372036854775807) : ∀ (m i : Nat), m = x.length - i → i ≤ x.length → x.take i = y.take i → slEq.l0 (m + 1) x y (x.length : Int) (i : Int) = some (decide (x = y))
  | 0, i, hm, hi, ht => by
    rw [slEq.l0, if_neg (by omega)]; have : x = y := by rw [List.take_of_length_le (by omega), List.take_of_length_le (by omega)] at ht; exact ht
    rw [decide_eq_true this]
  | m + 1, i, hm, hi, ht => by
    rw [slEq.l0, if_pos (by omega), if_pos (by omega), if_pos (by omega), if_pos (by omega), rd_is, rd_is, wrap64_to (by omega)]
    by_cases h : x.getD i 0 = y.getD i 0
    · rw [if_pos h]
      exact eq_loop x y hxy hb m (i + 1) (by omega) (by omega) ((take_eq_succ 0 (by omega) (by omega)).2 ⟨ht, h⟩)
    · rw [if_neg h, decide_eq_false (fun e => h (by rw [e]))]
theorem Equal_is (x y : List Int) (hb : x.length ≤ 9223372036854775807) : ∃ k, slEq.f k x y = some (decide (x = y)) := by
  refine ⟨x.length + 1, ?_⟩
  unfold slEq.f
  by_cases h : (x.length : Int) = (y.length : Int)
  · rw [if_pos h]
    exact eq_loop x y (by omega) hb x.length 0 (by omega) (by omega) (by simp)
  rw [if_neg h, decide_eq_false (fun e => h (by rw [e]))]
def slEqF.f (l0 l1 : List (List Int)) : Option Bool := some (decide (l0 = l1))
theorem slEqF.calls (A0 : Option Addr) (c0 : Nat) (l0 : List (List Int)) (A1 : Option Addr) (c1 : Nat) (l1 : List (List Int)) (r : Bool) (w : World) (hr0 : Kd.C (Kd.slice 3 (Kd.int .i64)) w A0 l0.length l0) (hc0 : l0.length ≤ c0) (hr1 : Kd.C (Kd.slice 3 (Kd.int .i64)) w A1 l1.length l1) (hc1 : l1.length ≤ c1) (h : slEqF.f l0 l1 = some r) :
    Calls Try.prog 66 #[.slice A0 l0.length c0, .slice A1 l1.length c1, .func (.func 65) #[] #[]] w fun e w' => e = .returned (.bool r) ∧ Drawn0 w w' := by
  obtain rfl := Option.some.inj h
  have HR0 := aM hr0
  have HR1 := aM hr1
  clear hr0 hr1 hc0 hc1 h
  by_cases hl : (l0.length : Int) = (l1.length : Int)
  · have hlb : ((l0.length : Int) != (l1.length : Int)) = false := bne_eq_false_iff_eq.mpr hl
    have hlc : ((l0.length : Int) == (l1.length : Int)) = true := beq_iff_eq.mpr hl; have HL := aM hl; clear hl
    go_enter Try.func66, Try.ntmps66
    go_wp2
    go_loopg [17] l0.length (fun kq v17 w' => ∃ i : Int, v17 = .int .i64 i ∧ Aside0 (0 ≤ i) ∧ Aside0 (i.toNat + kq = l0.length) ∧ Aside0 (l0.take i.toNat = l1.take i.toNat) ∧ Aside0 (Drawn0 w w'))
    case atStart => exact ⟨0, rfl, ⟨by omega⟩, ⟨by simp⟩, ⟨by simp⟩, ⟨Drawn0.refl _⟩⟩
    case round =>
      obtain ⟨i, rfl, HI0, HI1, HA, HD⟩ := hrel; have i0 := HI0.out
      by_cases d1 : i < (l0.length : Int)
      · have d1b : decide (i < (l0.length : Int)) = true := decide_eq_true d1; have d2 : i < (l1.length : Int) := by have := HL.out; omega
        have q0 := eq_true i0; have q1 := eq_true d1; have q2 := eq_true d2; have hmax : l0.length ≤ 9223372036854775807 := HR0.out.2.1; obtain ⟨ad, A2, c2, ea, hx1, hl2, hC2⟩ := at_L1 HR0.out i i0 d1
        cases ea; replace hx1 := (HD.out.below.cell (World.block_lt_of_cell? w _ hx1)).trans hx1; obtain ⟨ad3, A3, c3, ea3, hx3, hl3, hC3⟩ := at_L1 HR1.out i i0 d2
        cases ea3; replace hx3 := (HD.out.below.cell (World.block_lt_of_cell? w _ hx3)).trans hx3; obtain ⟨k2, hk2⟩ := Equal_is (rd_L1 l0 i) (rd_L1 l1 i) hC2.2.1; have HK2 := aM hk2; have HC2 := aM (Kd.C_below hC2 HD.out.below); have HC3 := aM (Kd.C_below hC3 HD.out.below); have HL2 := aM hl2; have HL3 := aM hl3; have HDD := aM d2; clear hk2 hC2 hC3 hl2 hl3 d2
        have HX : Aside0 (l0.take (i + 1).toNat = l1.take (i + 1).toNat ↔ l0.take i.toNat = l1.take i.toNat ∧ rd_L1 l0 i = rd_L1 l1 i) := ⟨by
          rw [show (i + 1).toNat = i.toNat + 1 by omega]
          exact take_eq_succ [] (by omega) (by have := HDD.out; omega)⟩
        by_cases hb : rd_L1 l0 i = rd_L1 l1 i
        · have hbd : decide (rd_L1 l0 i = rd_L1 l1 i) = true := decide_eq_true hb; have HBo := aM hb; have HBd := aM hbd; clear hb hbd
          go_wp2_with (first
            | (go_at_call 65; (with_reducible refine (slEq.calls k2 A2 c2 (rd_L1 l0 i) A3 c3 (rd_L1 l1 i) _ _ HC2.out HL2.out HC3.out HL3.out HK2.out).mono ?_); rintro e w5 ⟨rfl, hd5⟩; rw [HBd.out]; have HD5 := aM hd5; clear hd5))
          obtain ⟨k1, rfl⟩ : ∃ m, gk = m + 1 := ⟨gk - 1, by have := HI1.out; omega⟩
          go_roundg k1
          case measure => omega
          case rel => exact ⟨i + 1, rfl, ⟨by have := HI0.out; omega⟩, ⟨by have := HI1.out; have := HI0.out; omega⟩, ⟨HX.out.2 ⟨HA.out, HBo.out⟩⟩, ⟨dr_trans HD.out HD5.out⟩⟩
        have hbd : decide (rd_L1 l0 i = rd_L1 l1 i) = false := decide_eq_false hb; have HBo := aM hb; have HBd := aM hbd; clear hb hbd
        go_wp2_with (first
          | (go_at_call 65; (with_reducible refine (slEq.calls k2 A2 c2 (rd_L1 l0 i) A3 c3 (rd_L1 l1 i) _ _ HC2.out HL2.out HC3.out HL3.out HK2.out).mono ?_); rintro e w5 ⟨rfl, hd5⟩; rw [HBd.out]; have HD5 := aM hd5; clear hd5))
        go_ret
        refine ⟨?_, dr_trans HD.out HD5.out⟩; rw [decide_eq_false (fun e => HBo.out (by rw [e]))]; rfl
      have d1b : decide (i < (l0.length : Int)) = false := decide_eq_false d1; have ha := HA.out; rw [List.take_of_length_le (by omega), List.take_of_length_le (by have := HL.out; omega)] at ha; have HA2 := aM ha; clear ha; go_wp2; go_ret
      exact ⟨by rw [decide_eq_true HA2.out]; rfl, HD.out⟩
  have hlb : ((l0.length : Int) != (l1.length : Int)) = true := bne_iff_ne.mpr hl
  have hlc : ((l0.length : Int) == (l1.length : Int)) = false := beq_eq_false_iff_ne.mpr hl
  have HN := aM (show l0 ≠ l1 from fun e => hl (by rw [e]))
  clear hl
  go_enter Try.func66, Try.ntmps66
  go_wp2
  go_ret
  exact ⟨by rw [decide_eq_false HN.out]; rfl, Drawn0.refl _⟩
end
section
attribute [local go_sem] max2_int min2_int max_two min_two max_three min_three max_four min_four
mutual
def perm_CheckChain.l0 : Nat → List (List Int) → List (S74) → Int → Int → Int → List (S74) → Option (Int)
  | 0, _, _, _, _, _, _ => none
  | k + 1, x4, x25, x26, x27, x223000, x223001 => if x27 < x26 then (if 0 ≤ x27 then (if x27 < (x25.length : Int) then (if (((rd_T74 x25 x27).f1).length : Int) > x223000 then (some 5) else (if (((rd_T74 x25 x27).f2).length : Int) = (((rd_T74 x25 x27).f1).length : Int) then (if x4.length + ((rd_T74 x25 x27).f2).length < 5864062014805 then (perm_CheckChain.l0 k (x4 ++ ((rd_T74 x25 x27).f2)) x25 x26 (wrap64 (x27 + 1)) x223000 x223001) else (none)) else (some 5))) else (none)) else (none)) else ((perm_Build.f k x223000 x4).bind fun bt229 => (if bt229.2.2 = 0 then (perm_CheckChain.j1 k ((bt229.2.1.length : Int) != (x223001.length : Int)) x223000 x223001 bt229.1 bt229.2.1) else (perm_CheckChain.j1 k true x223000 x223001 bt229.1 bt229.2.1)))
def perm_CheckChain.j1 : Nat → Bool → Int → List (S74) → Int → List (S74) → Option (Int)
  | 0, _, _, _, _, _ => none
  | k + 1, x68, x223000, x223001, x235000, x235001 => if x68 = true then (some 5) else (perm_CheckChain.l1 k x223001 (x223001.length : Int) 0 x235000 x235001)
def perm_CheckChain.l1 : Nat → List (S74) → Int → Int → Int → List (S74) → Option (Int)
  | 0, _, _, _, _, _ => none
  | k + 1, x70, x71, x72, x235000, x235001 => if x72 < x71 then (if 0 ≤ x72 then (if x72 < (x70.length : Int) then (if x72 < (x235001.length : Int) then (if ((rd_T74 x70 x72).f0) = ((rd_T74 x235001 x72).f0) then ((slEq.f k ((rd_T74 x70 x72).f1) ((rd_T74 x235001 x72).f1)).bind fun t239 => (if t239 = true then ((slEqF.f ((rd_T74 x70 x72).f2) ((rd_T74 x235001 x72).f2)).bind fun t240 => (if t240 = true then (perm_CheckChain.l1 k x70 x71 (wrap64 (x72 + 1)) x235000 x235001) else (some 5))) else (some 5))) else (some 5)) else (none)) else (none)) else (none)) else (some 0)
end
def perm_CheckChain.f (k : Nat) (a0_0 : Int) (l0_1 : List (S74)) : Option (Int) := (perm_degree.f a0_0).bind fun t223 => (if t223 = 0 then (if (l0_1.length : Int) > a0_0 then (some 5) else (perm_CheckChain.l0 k ([] : List (List Int)) l0_1 (l0_1.length : Int) 0 a0_0 l0_1)) else (some t223))
end
section

end
section
def slCl.f (l0 : List Int) : Option (List Int) := if l0.length ≤ 1000000000 then some l0 else none
theorem slCl.calls (A0 : Option Addr) (c0 : Nat) (l0 : List Int) (r : List Int) (w : World) (hr0 : Kd.C (Kd.int .i64) w A0 l0.length l0) (hc0 : l0.length ≤ c0) (h : slCl.f l0 = some r) :
    Calls Try.prog 69 #[.slice A0 l0.length c0] w fun e w' => ∃ v0_ : Value, e = .returned (v0_) ∧ Kd.R (Kd.int .i64) 3 w' w.heap.size (fun _ => True) v0_ r ∧ Below w.heap.size w w' := by
  have HR0 := aM hr0
  have HB := aM (Below.refl w.heap.size w)
  have hq : l0.length ≤ 1000000000 ∧ l0 = r := by
    unfold slCl.f at h
    split at h
    · exact ⟨by assumption, Option.some.inj h⟩
    · cases h
  obtain ⟨hl, rfl⟩ := hq
  have HL := aM hl
  have hn : A0 = none → l0 = [] := by
    intro h0
    rcases l0 with _ | ⟨x, l⟩
    · rfl
    · obtain ⟨ad, he, _⟩ := hr0.2.2 (by simp); rw [h0] at he
      cases he
  have HN := aM hn
  clear hl hr0 h hn hc0
  rcases A0 with _ | ad
  · have := HN.out rfl
    subst this; have hq := fun W => run_eql_nil W none 0 c0
    clear HN
    go_enter Try.func69, Try.ntmps69
    go_wp2; go_ret
    exact ⟨_, rfl, Kd.R_nil _ _ _ _ _, by first | exact HB.out | exact pw_below_drewN HB.out _⟩
  · have hq := fun W => run_eql_nil W (some ad) l0.length c0
    go_enter Try.func69, Try.ntmps69
    go_wp2_with (first
      | ((with_reducible refine gate_dst (N := 5) rfl ?_); refine Kd.R_lit (Kd.int .i64) _ 3 ?hg (N := 5) ?hd (xs := ([] : List Int)) (inner := []) (ok := fun _ => True) (okp := fun _ => True) ?hr ?hp (fun _ hk => hk) trivial (Below.refl _ _) (Nat.le_refl _) (by simp) ?_; (case hd => rfl); (case hg => rfl); (case hr => first | (go_simp; done) | (go_simp; rfl)); (case hp => exact (Reps.none _ _)); intro v1 w1 ho1 hb1 hg_ hnew_; clear hg_ hnew_; have HO1 := aM ho1; have HB1 := aM hb1; clear ho1 hb1)
      | ((with_reducible refine gate_builtin (b := .append) (xs := #[.tmp 5, .tmp 6]) rfl ?_); at_builtin; refine Kd.R_append_rows (Kd.int .i64) (w0 := w) w.heap.size rfl (.tmp 5) (.tmp 6) 22 3 (.int .i64 0) 8 rfl Try.underlying22 info3 rfl (by decide) (by omega) v1 [] l0 _ _ _ (fun _ => True) (fun _ => False) rfl rfl ?aO ?aR (fun _ _ h => h) (fun _ h => h.elim) ?aF ?aB ?aS ?aL ?_; (case aR => exact Kd.C_below HR0.out (HB1.out)); (case aB => exact HB1.out); (case aF => exact (fun _ _ => trivial)); (case aO => exact HO1.out); (case aS => exact HB1.out.size); (case aL => have := HL.out; simp only [List.length_nil]; omega); intro v2 w2 ho2 hb2 hg2 hat2; have HO2 := aM ho2; have HB2 := aM hb2; clear ho2 hb2 hg2 hat2))
    go_ret; have ho2 := HO2.out; rw [List.nil_append] at ho2
    exact ⟨_, rfl, ho2, HB2.out⟩
end
section
attribute [local go_sem] max2_int min2_int max_two min_two max_three min_three max_four min_four
mutual
def perm_Sift.j0 : Nat → List Int → Int → Int → List (S74) → Option (List Int × Int × Int)
  | 0, _, _, _, _ => none
  | k + 1, x1, x7, x270000, x270001 => if x7 = 0 then (perm_Sift.j1 k x1 x7 ((x1.length : Int) != x270000) x270000 x270001) else (perm_Sift.j1 k x1 x7 false x270000 x270001)
def perm_Sift.j1 : Nat → List Int → Int → Bool → Int → List (S74) → Option (List Int × Int × Int)
  | 0, _, _, _, _, _ => none
  | k + 1, x1, x7, x26, x270000, x270001 => if x26 = true then (perm_Sift.j2 k x1 10 x270000 x270001) else (perm_Sift.j2 k x1 x7 x270000 x270001)
def perm_Sift.j2 : Nat → List Int → Int → Int → List (S74) → Option (List Int × Int × Int)
  | 0, _, _, _, _ => none
  | k + 1, x1, x7, x270000, x270001 => if x7 = 0 then ((slCl.f x1).bind fun t272 => (perm_Sift.l0 k t272 x270001 (x270001.length : Int) 0 x270000 x270001)) else (some (([] : List Int), 0, x7))
def perm_Sift.l0 : Nat → List Int → List (S74) → Int → Int → Int → List (S74) → Option (List Int × Int × Int)
  | 0, _, _, _, _, _, _ => none
  | k + 1, x8, x33, x34, x35, x270000, x270001 => if x35 < x34 then (if 0 ≤ x35 then (if x35 < (x33.length : Int) then (if 0 ≤ ((rd_T74 x33 x35).f0) then (if ((rd_T74 x33 x35).f0) < (x8.length : Int) then ((slIx.f k ((rd_T74 x33 x35).f1) (rd x8 ((rd_T74 x33 x35).f0))).bind fun t278 => (if t278 < 0 then (some (x8, x35, 0)) else (if 0 ≤ t278 then (if t278 < (((rd_T74 x33 x35).f2).length : Int) then ((perm_inverse.f k (rd_L1 ((rd_T74 x33 x35).f2) t278)).bind fun t280 => ((perm_then.f k x8 t280).bind fun t283 => (perm_Sift.l0 k t283 x33 x34 (wrap64 (x35 + 1)) x270000 x270001))) else (none)) else (none)))) else (none)) else (none)) else (none)) else (none)) else (some (x8, (x270001.length : Int), 0))
end
def perm_Sift.f (k : Nat) (a0_0 : Int) (l0_1 : List (S74)) (l1 : List Int) : Option (List Int × Int × Int) := (perm_CheckChain.f k a0_0 l0_1).bind fun t270 => (if t270 = 0 then ((perm_Check.f l1).bind fun t271 => (perm_Sift.j0 k l1 t271 a0_0 l0_1)) else (perm_Sift.j0 k l1 t270 a0_0 l0_1))
end
section
attribute [local go_sem] max2_int min2_int max_two min_two max_three min_three max_four min_four
def perm_Has.f (k : Nat) (a0_0 : Int) (l0_1 : List (S74)) (l1 : List Int) : Option (Bool × Int) := (perm_Sift.f k a0_0 l0_1 l1).bind fun bt287 => (if bt287.2.2 = 0 then (if bt287.2.1 = (l0_1.length : Int) then ((perm_identity.f k (bt287.1.length : Int)).bind fun t292 => ((slEq.f k bt287.1 t292).bind fun t295 => (some (t295, bt287.2.2)))) else (some (false, bt287.2.2))) else (some (false, bt287.2.2)))
end
section
def shortL (l : List Int) : List Int := (l.reverse.dropWhile (fun x => x == 0)).reverse
def nat_short.f (l0 : List Int) : Option (List Int) := some (shortL l0)
theorem shortL_snoc0 (l : List Int) : shortL (l ++ [0]) = shortL l := by simp [shortL]
theorem shortL_snoc (l : List Int) {x : Int} (h : x ≠ 0) : shortL (l ++ [x]) = l ++ [x] := by simp [shortL, h]
theorem shortL_take0 (l : List Int) {n : Nat} (hn : n < l.length) (h : rd l (n : Int) = 0) : shortL (l.take (n + 1)) = shortL (l.take n) := by
  have h1 : l[n] = 0 := by simpa [rd, List.getD_eq_getElem?_getD, hn] using h
  rw [List.take_succ_eq_append_getElem hn, h1, shortL_snoc0]
theorem shortL_take (l : List Int) {n : Nat} (hn : n < l.length) (h : rd l (n : Int) ≠ 0) : shortL (l.take (n + 1)) = l.take (n + 1) := by
  have h1 : l[n] ≠ 0 := by simpa [rd, List.getD_eq_getElem?_getD, hn] using h
  rw [List.take_succ_eq_append_getElem hn, shortL_snoc _ h1]
theorem short_slice3 (t e : TypeId) (kl : IntKind) {i : TypeInfo} (ht : Try.prog.underlying t = some (.slice e)) (hi : Try.prog.info? e = some i) (hsz : i.size = 1) (A : Option Addr) (c len : Nat) (n : Nat) (hc : n ≤ c) :
    ∀ W : World, (Instr.slice t (.slice A len c) none (some (.int kl (n : Int))) (some (.int kl (n : Int)))).run Try.prog W = .ok (.slice A n n) W := by
  intro W
  have hel : Try.prog.elem t = e := by simp [Program.elem, ht]
  have hu : Try.prog.underlying t = some (.slice (Try.prog.elem t)) := by rw [hel]; exact ht
  have ha : (A.map fun x => x.add 0) = A := by cases A <;> simp [Addr.add]
  rw [run_slice_hm W t A len c hu kl kl n n (by omega) (by omega) (by omega), hel]
  simp [sizeOf, typeInfo, hi, hsz, sliced, Result.andThen, ha]
theorem nat_short.calls (P0_ : Nat → Prop) (A0 : Option Addr) (c0 : Nat) (l0 : List Int) (r : List Int) (w : World) (hs0 : Kd.V (Kd.int .u32) 72 w w.heap.size (fun k_ => P0_ k_) (.slice A0 l0.length c0) l0) (h : nat_short.f l0 = some r) :
    Calls Try.prog 73 #[.slice A0 l0.length c0] w fun e w' => ∃ v0_ : Value, e = .returned (v0_) ∧ Kd.V (Kd.int .u32) 72 w' w.heap.size (fun k_ => (P0_ k_ ∨ w.heap.size ≤ k_)) v0_ r ∧ Below w.heap.size w w' := by
  have HS := aM hs0
  obtain ⟨_, hc, hC⟩ := Kd.V_reads' hs0
  have hlen : l0.length ≤ 9223372036854775807 := by have := hC.2.1; omega
  have HR0 := aM hC
  have HC0 := aM hc
  have HB := aM (Below.refl w.heap.size w)
  have HQ : Aside0 (shortL (l0.take l0.length) = r) := ⟨by rw [List.take_length]; exact Option.some.inj h⟩
  have HN := aM hlen
  clear h hs0 hc hC hlen
  go_enter Try.func73, Try.ntmps73
  go_wp2
  go_loopg [3] (l0.length + 1) (fun kq v3 w' => ∃ x3 : Int, v3 = .int .i64 x3 ∧ Aside0 (0 ≤ x3 ∧ x3.toNat < kq ∧ x3 ≤ l0.length) ∧ Aside0 (shortL (l0.take x3.toNat) = r) ∧ Aside0 (Below w.heap.size w w'))
  case atStart => exact ⟨(l0.length : Int), rfl, ⟨by omega⟩, by simpa using HQ, HB⟩
  case round =>
    clear HQ; obtain ⟨x3, rfl, HK1, HQ, HB⟩ := hrel
    cases gk with
    | zero => exact absurd HK1.out.2.1 (by omega)
    | succ k1 =>
      have HF : Aside0 (shortL (l0.take x3.toNat) = l0.take x3.toNat → ∀ W, Below w.heap.size w W → Kd.V (Kd.int .u32) 72 W w.heap.size (fun k_ => (P0_ k_ ∨ w.heap.size ≤ k_)) (.slice A0 x3.toNat x3.toNat) r) := by
        refine ⟨?_⟩; intro hq W hW; have hl : (l0.take x3.toNat).length = x3.toNat := by rw [List.length_take]; have := HK1.out; omega
        have := Kd.V_mk (e := 72) (base := w.heap.size) (c := x3.toNat) (by omega) (Kd.F_take (Kd.V_F HS.out) (m := x3.toNat) zz120); rw [hl] at this; rw [← HQ.out, hq]
        exact Kd.V_below (Kd.V_mono this (fun _ hk => .inl hk)) hW
      have hs : ∀ W : World, (Instr.slice 53 (.slice A0 l0.length c0) none (some (.int .i64 x3)) (some (.int .i64 x3))).run Try.prog W = .ok (.slice A0 x3.toNat x3.toNat) W := by
        have h0 := short_slice3 53 72 .i64 Try.underlying53 (info_parts info72).choose_spec.1 (info_parts info72).choose_spec.2.2.1 A0 c0 l0.length x3.toNat (by have := HK1.out; have := HC0.out; omega); rw [show ((x3.toNat : Nat) : Int) = x3 from by have := HK1.out; omega] at h0
        exact h0
      by_cases c2 : x3 > 0
      · have c2b0 : decide (0 < x3) = true := decide_eq_true c2; obtain ⟨ji3, hji3⟩ : ∃ j_ : Int, (wrap64 (x3 - 1)) = j_ := ⟨_, rfl⟩; have hji3w : (IntKind.i64.wrap (x3 - 1)) = ji3 := (i64_w _).trans hji3
        have hj : ji3 = x3 - 1 := by
          rw [← hji3]; have := HN.out; have := HK1.out; unfold wrap64; omega
        have p0 : (0 : Int) ≤ ji3 := by omega
        have q0 : ji3 < (l0.length : Int) := by have := HK1.out; omega
        obtain ⟨ad, e1, hx⟩ := Kd.at_int HR0.out ji3 p0 q0
        cases e1; replace hx := (HB.out.cell (World.block_lt_of_cell? w _ hx)).trans hx; have HJ := aM hj; replace p0 := eq_true p0; replace q0 := eq_true q0; clear hj c2
        by_cases c6 : rd l0 ji3 = 0
        · have c6b0 : (rd l0 ji3 == 0) = true := beq_iff_eq.mpr c6; have HZ := aM c6; clear c6; go_wp2
          go_roundg k1
          case measure => have := HK1.out; omega
          case rel => 
            have p0' : (0:Int) ≤ ji3 := of_eq_true p0; have hjn : x3.toNat = ji3.toNat + 1 := by have := HJ.out; omega
            refine ⟨ji3, (by first | rfl | (simp only [← hji3] <;> (first | rfl | simp)) | (simp [*]; done)), ⟨by have := HK1.out; have := HJ.out; omega⟩, ⟨?_⟩, ⟨by first | exact HB.out | exact pw_below_drewN HB.out _⟩⟩; rw [← HQ.out, hjn]
            exact (shortL_take0 l0 zz120 (by rw [show ((ji3.toNat : Nat) : Int) = ji3 from by omega]; exact HZ.out)).symm
        have c6b0 : (rd l0 ji3 == 0) = false := beq_eq_false_iff_ne.mpr c6; have hjn : x3.toNat = ji3.toNat + 1 := by have := HJ.out; have := of_eq_true p0; omega
        have HE : Aside0 (shortL (l0.take x3.toNat) = l0.take x3.toNat) := ⟨by rw [hjn]; exact shortL_take l0 (by have := HK1.out; have := HJ.out; have := of_eq_true p0; omega) (by rw [show ((ji3.toNat : Nat) : Int) = ji3 from by have := of_eq_true p0; omega]; exact c6)⟩; clear c6 hjn; go_wp2; go_ret
        exact ⟨_, rfl, HF.out HE.out _ (by first | exact HB.out | exact pw_below_drewN HB.out _), by first | exact HB.out | exact pw_below_drewN HB.out _⟩
      have c2b0 : decide (0 < x3) = false := decide_eq_false c2; have HE : Aside0 (shortL (l0.take x3.toNat) = l0.take x3.toNat) := ⟨by rw [show x3.toNat = 0 from by omega]; simp [shortL]⟩; clear c2; go_wp2; go_ret
      exact ⟨_, rfl, HF.out HE.out _ (by first | exact HB.out | exact pw_below_drewN HB.out _), by first | exact HB.out | exact pw_below_drewN HB.out _⟩
end
section
attribute [local go_sem] max2_int min2_int max_two min_two max_three min_three max_four min_four
mutual
def nat_times.l0 : Nat → List Int → List Int → List Int → Int → Int → Option (List Int)
  | 0, _, _, _, _, _ => none
  | k + 1, x1, x5, x18, x19, x20 => if x20 < x19 then (if 0 ≤ x20 then (if x20 < (x18.length : Int) then (nat_times.l1 k x1 x5 x20 (rd x18 x20) 0 x18 x19 x20 x1 (x1.length : Int) 0) else (none)) else (none)) else ((nat_short.f x5).bind fun t225 => (some t225))
def nat_times.l1 : Nat → List Int → List Int → Int → Int → Int → List Int → Int → Int → List Int → Int → Int → Option (List Int)
  | 0, _, _, _, _, _, _, _, _, _, _, _ => none
  | k + 1, x1, x5, x6, x7, x8, x18, x19, x20, x25, x26, x27 => if x27 < x26 then (if 0 ≤ x27 then (if x27 < (x25.length : Int) then (if 0 ≤ (wrap64 (x6 + x27)) then (if (wrap64 (x6 + x27)) < (x5.length : Int) then (nat_times.l1 k x1 (x5.set ((wrap64 (x6 + x27)) : Int).toNat ((IntKind.u64.wrap ((IntKind.u64.wrap ((IntKind.u64.wrap ((IntKind.u64.wrap (x7)) * (IntKind.u64.wrap (rd x25 x27)))) + (IntKind.u64.wrap (rd x5 (wrap64 (x6 + x27)))))) + x8)) % 4294967296)) x6 x7 ((IntKind.u64.wrap ((IntKind.u64.wrap ((IntKind.u64.wrap ((IntKind.u64.wrap (x7)) * (IntKind.u64.wrap (rd x25 x27)))) + (IntKind.u64.wrap (rd x5 (wrap64 (x6 + x27)))))) + x8)) / 4294967296) x18 x19 x20 x25 x26 (wrap64 (x27 + 1))) else (none)) else (none)) else (none)) else (none)) else (if 0 ≤ (wrap64 (x6 + (x1.length : Int))) then (if (wrap64 (x6 + (x1.length : Int))) < (x5.length : Int) then (nat_times.l0 k x1 (x5.set ((wrap64 (x6 + (x1.length : Int))) : Int).toNat ((x8) % 4294967296)) x18 x19 (wrap64 (x20 + 1))) else (none)) else (none))
end
def nat_times.f (k : Nat) (l0 : List Int) (l1 : List Int) : Option (List Int) := if 0 ≤ (wrap64 ((l0.length : Int) + (l1.length : Int))) then (if (wrap64 ((l0.length : Int) + (l1.length : Int)) : Int).toNat ≤ 70368744177664 then (nat_times.l0 k l1 (List.replicate (wrap64 ((l0.length : Int) + (l1.length : Int)) : Int).toNat 0) l0 (l0.length : Int) 0) else (none)) else (none)
theorem nat_times.calls (k : Nat) (A0 : Option Addr) (c0 : Nat) (l0 : List Int) (A1 : Option Addr) (c1 : Nat) (l1 : List Int) (r : List Int) (w : World) (hr0 : Kd.C (Kd.int .u32) w A0 l0.length l0) (hc0 : l0.length ≤ c0) (hr1 : Kd.C (Kd.int .u32) w A1 l1.length l1) (hc1 : l1.length ≤ c1) (h : nat_times.f k l0 l1 = some r) :
    Calls Try.prog 72 #[.slice A0 l0.length c0, .slice A1 l1.length c1] w fun e w' => ∃ v0_ : Value, e = .returned (v0_) ∧ Kd.V (Kd.int .u32) 72 w' w.heap.size (fun k_ => (w.heap.size ≤ k_)) v0_ r ∧ Below w.heap.size w w' := by
  have HR0 := aM hr0
  have HC0 := aM hc0
  clear hr0 hc0
  have HR1 := aM hr1
  have HC1 := aM hc1
  clear hr1 hc1
  have HB := aM (Below.refl w.heap.size w)
  have H : (if 0 ≤ (wrap64 ((l0.length : Int) + (l1.length : Int))) then (if (wrap64 ((l0.length : Int) + (l1.length : Int)) : Int).toNat ≤ 70368744177664 then (nat_times.l0 k l1 (List.replicate (wrap64 ((l0.length : Int) + (l1.length : Int)) : Int).toNat 0) l0 (l0.length : Int) 0) else (none)) else (none)) = some r := h
  clear h
  obtain ⟨ji3, hji3⟩ : ∃ j_ : Int, (wrap64 ((l0.length : Int) + (l1.length : Int))) = j_ := ⟨_, rfl⟩
  replace H : (if 0 ≤ (ji3) then (if (ji3 : Int).toNat ≤ 70368744177664 then (nat_times.l0 k l1 (List.replicate (ji3 : Int).toNat 0) l0 (l0.length : Int) 0) else (none)) else (none)) = some r := by first | (rw [hji3] at H; exact H) | (simp only [hji3] at H ⊢; exact H)
  have hji3w : (IntKind.i64.wrap ((l0.length : Int) + (l1.length : Int))) = ji3 := (i64_w _).trans hji3
  by_cases c4 : 0 ≤ (ji3)
  · rw [if_pos c4] at H
    have c4b0 := eq_true c4; have c4b1 := decide_eq_true c4; clear c4
    by_cases c5 : (ji3 : Int).toNat ≤ 70368744177664
    · rw [if_pos c5] at H; have c5b0 := eq_true c5; have c5b1 := decide_eq_true c5; clear c5; obtain ⟨y222, hy222⟩ : ∃ y_ : List Int, y_ = (List.replicate (ji3 : Int).toNat 0) := ⟨_, rfl⟩; replace H : (nat_times.l0 k l1 y222 l0 (l0.length : Int) 0) = some r := by first | (rw [hy222]; with_reducible exact H) | (have H2_ := (Option.bind_some _ _).symm.trans H; rw [hy222]; with_reducible exact H2_) | (have H2_ := (Option.bind_some _ _).symm.trans H; with_reducible exact H2_) | with_reducible exact H | (rw [hy222]; exact H) | exact H
      have Ny222 := aM hy222; clear hy222; have H' := aM H; clear H
      go_enter Try.func72, Try.ntmps72
      go_wp2_with (first | ((with_reducible refine gate_dst (N := 17) rfl ?_); refine Kd.R_make (Kd.int .u32) _ 72 rfl (N := 17) rfl 53 _ _ rfl ji3 rfl rfl Try.underlying53 (.int .u32 0) 4 info72 rfl (by decide) (by omega) 0 (ok := fun _ => True) (okp := fun _ => True) rfl (fun _ hk => hk) trivial (of_decide_eq_true zz111) (Nat.le_trans (Nat.mul_le_mul_right _ (of_decide_eq_true zz111 : ji3.toNat ≤ 70368744177664)) (by omega)) (Below.refl _ _) (Nat.le_refl _) ?_; intro v223 w6 ho7 hb hg_ hnew_; clear hg_ hnew_; (first | rw [← Ny222.out] at ho7 | (simp only [Int.reduceToNat] at ho7; rw [← Ny222.out] at ho7)); have HO224 := aM (Kd.R_lower (Kd.R_newM (M := fun k_ => (w.heap.size ≤ k_)) ho7 (below_size zz88) (fun k_ h_ => h_)) (below_size zz88)); replace HB := aM (below_step zz88 hb); clear hb ho7))
      go_loopg [20] k (fun kq v20 w' => ∃ (x5_1 : List Int) (x20_1 : Int), v20 = .int .i64 x20_1 ∧ Aside0 (nat_times.l0 kq l1 x5_1 l0 (l0.length : Int) x20_1 = some r) ∧ Aside0 (kq ≤ k) ∧ Aside0 (Kd.R (Kd.int .u32) 72 w' w.heap.size (fun k_ => (w.heap.size ≤ k_)) v223 x5_1) ∧ Aside0 (Below w.heap.size w w'))
      case atStart => exact ⟨(y222), (0), zz112, H', ⟨Nat.le_refl _⟩, ⟨(by (with_reducible repeat (first | apply Kd.R_alloc | apply Kd.R_drewN | apply Kd.R_drew)); exact Kd.R_mono HO224.out (fun _ hk => hk.1))⟩, ⟨zz88⟩⟩
      case round =>
        clear H'; (try clear c1); (try clear p2); (try clear c4); (try clear c4b0); (try clear c4b1); (try clear c5); (try clear c5b0); (try clear c5b1); (try clear p6); (try clear c7); obtain ⟨x5_1, x20_1, rfl, HA, HK1, HO_5, HB⟩ := hrel
        cases gk with
        | zero => exact absurd HA.out (by simp [nat_times.l0])
        | succ k1 =>
          have H := HA.out; clear HA; simp only [nat_times.l0] at H
          by_cases c8 : x20_1 < (l0.length : Int)
          · rw [if_pos c8] at H; have c8b0 := decide_eq_true c8; clear c8
            by_cases c9 : 0 ≤ x20_1
            · rw [if_pos c9] at H; have c9b0 := decide_eq_true c9; clear c9
              by_cases c10 : x20_1 < (l0.length : Int)
              · rw [if_pos c10] at H; have c10b0 := decide_eq_true c10; clear c10; have H' := aM H; clear H; have p228 : 0 ≤ (x20_1 : Int) := of_decide_eq_true zz111; have q228 : x20_1 < (l0.length : Int) := of_decide_eq_true zz111; obtain ⟨ad228, e228, hx228_0⟩ := Kd.at_int HR0.out x20_1 p228 q228
                cases e228; replace hx228_0 := (HB.out.cell (World.block_lt_of_cell? w _ hx228_0)).trans hx228_0; replace p228 := eq_true p228; replace q228 := eq_true q228; go_wp2
                go_loopg [8, 27] k1 (fun kq v8 v27 w' => ∃ (x5_2 : List Int) (x8_2 : Int) (x27_2 : Int), v8 = .int .u64 x8_2 ∧ v27 = .int .i64 x27_2 ∧ Aside0 (nat_times.l1 kq l1 x5_2 x20_1 (rd l0 x20_1) x8_2 l0 (l0.length : Int) x20_1 l1 (l1.length : Int) x27_2 = some r) ∧ Aside0 (kq ≤ k1) ∧ Aside0 (Kd.R (Kd.int .u32) 72 w' w.heap.size (fun k_ => (w.heap.size ≤ k_)) v223 x5_2) ∧ Aside0 (Below w.heap.size w w'))
                case atStart => exact ⟨(x5_1), (0), (0), zz112, zz112, H', ⟨Nat.le_refl _⟩, ⟨(zR HO_5)⟩, ⟨zz88⟩⟩
                case round =>
                  clear H'; (try clear c1); (try clear p2); (try clear q2); (try clear hx2); (try clear c4); (try clear c4b0); (try clear c4b1); (try clear c5); (try clear c5b0); (try clear c5b1); (try clear p6); (try clear c7); (try clear c8); (try clear c8b0); (try clear c9); (try clear c9b0); (try clear c10); (try clear c10b0); (try clear hx228_0); (try clear p2); (try clear p228); (try clear p6); (try clear q228); obtain ⟨x5_2, x8_2, x27_2, rfl, rfl, HA, HK2, HO_5, HB⟩ := hrel
                  cases gk with
                  | zero => exact absurd HA.out (by simp [nat_times.l1])
                  | succ k2 =>
                    have H := HA.out; clear HA; simp only [nat_times.l1] at H
                    by_cases c11 : x27_2 < (l1.length : Int)
                    · rw [if_pos c11] at H; have c11b0 := decide_eq_true c11; clear c11
                      by_cases c12 : 0 ≤ x27_2
                      · rw [if_pos c12] at H; have c12b0 := decide_eq_true c12; clear c12
                        by_cases c13 : x27_2 < (l1.length : Int)
                        · rw [if_pos c13] at H; have c13b0 := decide_eq_true c13; clear c13; obtain ⟨ji14, hji14⟩ : ∃ j_ : Int, (wrap64 (x20_1 + x27_2)) = j_ := ⟨_, rfl⟩; replace H : (if 0 ≤ (ji14) then (if (ji14) < (x5_2.length : Int) then (nat_times.l1 k2 l1 (x5_2.set ((ji14) : Int).toNat ((IntKind.u64.wrap ((IntKind.u64.wrap ((IntKind.u64.wrap ((IntKind.u64.wrap ((rd l0 x20_1))) * (IntKind.u64.wrap (rd l1 x27_2)))) + (IntKind.u64.wrap (rd x5_2 (ji14))))) + x8_2)) % 4294967296)) x20_1 (rd l0 x20_1) ((IntKind.u64.wrap ((IntKind.u64.wrap ((IntKind.u64.wrap ((IntKind.u64.wrap ((rd l0 x20_1))) * (IntKind.u64.wrap (rd l1 x27_2)))) + (IntKind.u64.wrap (rd x5_2 (ji14))))) + x8_2)) / 4294967296) l0 (l0.length : Int) x20_1 l1 (l1.length : Int) (wrap64 (x27_2 + 1))) else (none)) else (none)) = some r := by first | (rw [hji14] at H; exact H) | (simp only [hji14] at H ⊢; exact H)
                          have hji14w : (IntKind.i64.wrap (x20_1 + x27_2)) = ji14 := (i64_w _).trans hji14
                          by_cases c15 : 0 ≤ (ji14)
                          · rw [if_pos c15] at H; have c15b0 := decide_eq_true c15; clear c15
                            by_cases c16 : (ji14) < (x5_2.length : Int)
                            · rw [if_pos c16] at H; have c16b0 := decide_eq_true c16; clear c16; obtain ⟨y231, hy231⟩ : ∃ y_ : List Int, y_ = (x5_2.set ((ji14) : Int).toNat ((IntKind.u64.wrap ((IntKind.u64.wrap ((IntKind.u64.wrap ((IntKind.u64.wrap ((rd l0 x20_1))) * (IntKind.u64.wrap (rd l1 x27_2)))) + (IntKind.u64.wrap (rd x5_2 (ji14))))) + x8_2)) % 4294967296)) := ⟨_, rfl⟩; replace H : (nat_times.l1 k2 l1 y231 x20_1 (rd l0 x20_1) ((IntKind.u64.wrap ((IntKind.u64.wrap ((IntKind.u64.wrap ((IntKind.u64.wrap ((rd l0 x20_1))) * (IntKind.u64.wrap (rd l1 x27_2)))) + (IntKind.u64.wrap (rd x5_2 (ji14))))) + x8_2)) / 4294967296) l0 (l0.length : Int) x20_1 l1 (l1.length : Int) (wrap64 (x27_2 + 1))) = some r := by first | (rw [hy231]; with_reducible exact H) | (have H2_ := (Option.bind_some _ _).symm.trans H; rw [hy231]; with_reducible exact H2_) | (have H2_ := (Option.bind_some _ _).symm.trans H; with_reducible exact H2_) | with_reducible exact H | (rw [hy231]; exact H) | exact H
                              have Ny231 := aM hy231; clear hy231; have H' := aM H; clear H; have p229 : 0 ≤ (x27_2 : Int) := of_decide_eq_true zz111; have q229 : x27_2 < (l1.length : Int) := of_decide_eq_true zz111; obtain ⟨ad229, e229, hx229_0⟩ := Kd.at_int HR1.out x27_2 p229 q229
                              cases e229; replace hx229_0 := (HB.out.cell (World.block_lt_of_cell? w _ hx229_0)).trans hx229_0; replace p229 := eq_true p229; replace q229 := eq_true q229; obtain ⟨Ao18, co18, eo18⟩ := Kd.R_slice HO_5.out; subst eo18; have p230 : 0 ≤ ((ji14) : Int) := of_decide_eq_true zz111; have q230 : (ji14) < (x5_2.length : Int) := of_decide_eq_true zz111; obtain ⟨ad230, e230, hx230_0⟩ := Kd.at_int (Kd.R_reads' HO_5.out).2.2 (ji14) p230 q230
                              cases e230; replace p230 := eq_true p230; replace q230 := eq_true q230; have p17 : 0 ≤ ((ji14) : Int) := of_decide_eq_true zz111; have q17 : ((ji14) : Int) < ((x5_2.length : Int) : Int) := of_decide_eq_true zz111; obtain ⟨go17, co17, eo17, gb17, gl17, cl17, HG17⟩ := Kd.R_form HO_5.out (by omega)
                              (first | cases eo17 | (injection eo17 with ea_ en_ ec_; (first | subst ea_ | (injection ea_ with ea_; subst ea_)); subst ec_; clear en_))
                              have GB17 := aM gb17; have GG17 := aM HG17; clear gb17 gl17 HG17
                              (first | simp only [add_plain] at hx230_0 | skip)
                              obtain ⟨hx17_0, hf17_0⟩ := Kd.R_celln 0 HO_5.out ((ji14) : Int) p17 q17; replace p17 := eq_true p17; replace q17 := eq_true q17; have HP19 := Kd.R_putg HO_5.out ((ji14) : Int) ((IntKind.u64.wrap ((IntKind.u64.wrap ((IntKind.u64.wrap ((IntKind.u64.wrap ((rd l0 x20_1))) * (IntKind.u64.wrap (rd l1 x27_2)))) + (IntKind.u64.wrap (rd x5_2 (ji14))))) + x8_2)) % 4294967296)
                              go_wp2_with (first | ((with_reducible refine gate_store (t := 72) (p := 53) rfl ?_); refine store_event (t := 72) (p := 53) (v := ?vo_w20) (w1 := (wr.setCell ⟨go17, ((ji14) : Int).toNat, none⟩ (.int .u32 ((IntKind.u64.wrap ((IntKind.u64.wrap ((IntKind.u64.wrap ((IntKind.u64.wrap ((rd l0 x20_1))) * (IntKind.u64.wrap (rd l1 x27_2)))) + (IntKind.u64.wrap (rd x5_2 (ji14))))) + x8_2)) % 4294967296)))) ?hg ?ho ?hn ?hr ?_; (case ho => rfl); (case hg => rfl); (case hn => rfl); (case hr => first | (go_simp; done) | (go_simp; rfl)); intro w20 hw; have hg : wr.grownBy w20 (some go17) := (by rw [hw]; exact HP19.2); have hp_ : Kd.R (Kd.int .u32) 72 w20 w.heap.size (fun k_ => (w.heap.size ≤ k_)) (.slice (some ⟨go17, 0, none⟩) x5_2.length co18) y231 := (by rw [hw, Ny231.out]; exact HP19.1); clear HP19; replace HO_5 := aM (hp_); replace HB := aM ((by rw [hw]; exact below_set (HB.out) GB17.out : Below w.heap.size w w20)); clear hg hw hp_))
                              go_roundg k2
                              case measure => have := HK1.out; have := HK2.out; omega
                              case rel => exact ⟨(y231), ((IntKind.u64.wrap ((IntKind.u64.wrap ((IntKind.u64.wrap ((IntKind.u64.wrap ((rd l0 x20_1))) * (IntKind.u64.wrap (rd l1 x27_2)))) + (IntKind.u64.wrap (rd x5_2 (ji14))))) + x8_2)) / 4294967296), (wrap64 (x27_2 + 1)), (by first | rfl | (simp; done) | (simp only [← hji14] <;> (first | rfl | simp)) | (simp [*]; done)), zz112, H', ⟨zz113⟩, ⟨(zR HO_5)⟩, ⟨zz88⟩⟩
                            rw [if_neg c16] at H
                            exact absurd H (by simp)
                          rw [if_neg c15] at H
                          exact absurd H (by simp)
                        rw [if_neg c13] at H
                        exact absurd H (by simp)
                      rw [if_neg c12] at H
                      exact absurd H (by simp)
                    rw [if_neg c11] at H; have c11b0 := decide_eq_false c11; clear c11; obtain ⟨ji21, hji21⟩ : ∃ j_ : Int, (wrap64 (x20_1 + (l1.length : Int))) = j_ := ⟨_, rfl⟩; replace H : (if 0 ≤ (ji21) then (if (ji21) < (x5_2.length : Int) then (nat_times.l0 k2 l1 (x5_2.set ((ji21) : Int).toNat ((x8_2) % 4294967296)) l0 (l0.length : Int) (wrap64 (x20_1 + 1))) else (none)) else (none)) = some r := by first | (rw [hji21] at H; exact H) | (simp only [hji21] at H ⊢; exact H)
                    have hji21w : (IntKind.i64.wrap (x20_1 + (l1.length : Int))) = ji21 := (i64_w _).trans hji21
                    by_cases c22 : 0 ≤ (ji21)
                    · rw [if_pos c22] at H; have c22b0 := decide_eq_true c22; clear c22
                      by_cases c23 : (ji21) < (x5_2.length : Int)
                      · rw [if_pos c23] at H; have c23b0 := decide_eq_true c23; clear c23; obtain ⟨y232, hy232⟩ : ∃ y_ : List Int, y_ = (x5_2.set ((ji21) : Int).toNat ((x8_2) % 4294967296)) := ⟨_, rfl⟩; replace H : (nat_times.l0 k2 l1 y232 l0 (l0.length : Int) (wrap64 (x20_1 + 1))) = some r := by first | (rw [hy232]; with_reducible exact H) | (have H2_ := (Option.bind_some _ _).symm.trans H; rw [hy232]; with_reducible exact H2_) | (have H2_ := (Option.bind_some _ _).symm.trans H; with_reducible exact H2_) | with_reducible exact H | (rw [hy232]; exact H) | exact H
                        have Ny232 := aM hy232; clear hy232; have H' := aM H; clear H; have p24 : 0 ≤ ((ji21) : Int) := of_decide_eq_true zz111; have q24 : ((ji21) : Int) < ((x5_2.length : Int) : Int) := of_decide_eq_true zz111; obtain ⟨go24, co24, eo24, gb24, gl24, cl24, HG24⟩ := Kd.R_form HO_5.out (by omega)
                        (first | cases eo24 | (injection eo24 with ea_ en_ ec_; (first | subst ea_ | (injection ea_ with ea_; subst ea_)); subst ec_; clear en_))
                        have GB24 := aM gb24; have GG24 := aM HG24; clear gb24 gl24 HG24; obtain ⟨hx24_0, hf24_0⟩ := Kd.R_celln 0 HO_5.out ((ji21) : Int) p24 q24; replace p24 := eq_true p24; replace q24 := eq_true q24; have HP25 := Kd.R_putg HO_5.out ((ji21) : Int) ((x8_2) % 4294967296)
                        go_wp2_with (first | ((with_reducible refine gate_store (t := 72) (p := 64) rfl ?_); refine store_event (t := 72) (p := 64) (v := ?vo_w26) (w1 := (wr.setCell ⟨go24, ((ji21) : Int).toNat, none⟩ (.int .u32 ((x8_2) % 4294967296)))) ?hg ?ho ?hn ?hr ?_; (case ho => rfl); (case hg => rfl); (case hn => rfl); (case hr => first | (go_simp; done) | (go_simp; rfl)); intro w26 hw; have hg : wr.grownBy w26 (some go24) := (by rw [hw]; exact HP25.2); have hp_ : Kd.R (Kd.int .u32) 72 w26 w.heap.size (fun k_ => (w.heap.size ≤ k_)) (.slice (some ⟨go24, 0, none⟩) x5_2.length co24) y232 := (by rw [hw, Ny232.out]; exact HP25.1); clear HP25; replace HO_5 := aM (hp_); replace HB := aM ((by rw [hw]; exact below_set (HB.out) GB24.out : Below w.heap.size w w26)); clear hg hw hp_))
                        go_roundg k2
                        case measure => have := HK1.out; have := HK2.out; omega
                        case rel => exact ⟨(y232), (wrap64 (x20_1 + 1)), zz112, H', ⟨zz113⟩, ⟨(zR HO_5)⟩, ⟨zz88⟩⟩
                      rw [if_neg c23] at H
                      exact absurd H (by simp)
                    rw [if_neg c22] at H
                    exact absurd H (by simp)
              rw [if_neg c10] at H
              exact absurd H (by simp)
            rw [if_neg c9] at H
            exact absurd H (by simp)
          rw [if_neg c8] at H; have c8b0 := decide_eq_false c8; clear c8; replace H := Option.bind_eq_some_iff.mp H; obtain ⟨t225, A270, H⟩ := H; replace H : (some t225) = some r := H; have A27 := aM A270; clear A270; obtain rfl := Option.some.inj H; obtain ⟨Ao28, co28, eo28⟩ := Kd.R_slice HO_5.out; subst eo28
          go_wp2_with (first | ((with_reducible refine gate_callee (f := 73) rfl ?_); refine goesL_ (some 67) rfl rfl Try.func73 (by kernel_rfl) rfl #[.slice Ao28 x5_1.length co28] rfl zz87 ?_; (with_reducible refine (nat_short.calls (fun k_ => some k_ = (.slice Ao28 x5_1.length co28 : Value).ownBlock) _ _ x5_1 t225 _ ?side1 A27.out).mono ?_); (case side1 => exact Kd.R_V (Kd.R_tight rfl (HO_5.out))); rintro e w29 ⟨v226, rfl, ho0, hb⟩; refine ⟨_, rfl, ?_⟩; have HO227 := aM (Kd.V_lower (Kd.V_mono (ok' := fun k_ => (w.heap.size ≤ k_)) ho0 (fun k_ hk_ => Or.elim hk_ (fun hs_ => ((HO_5.out).1 k_ hs_.symm)) (fun hn_ => (Nat.le_trans (below_size zz88) hn_)))) (below_size zz88)); replace HO_5 := aM (Kd.R_below (zR HO_5) hb); replace HB := aM (below_step zz88 hb); (try clear hb); (try clear hb2); (try clear hk); (try clear hi); (try clear ho0)))
          go_ret
          exact ⟨_, by first | rfl | (simp [errW_none, errW_some] <;> rfl) | (simp only [← hji3]; first | rfl | (simp [errW_none, errW_some] <;> rfl)) | (simp [*, errW_none, errW_some] <;> rfl), by (with_reducible repeat (first | apply Kd.V_alloc | apply Kd.V_drewN | apply Kd.V_drew)); exact HO227.out, by repeat (first | (with_reducible first | exact HB.out | apply below_alloc | apply pw_below_drewN | apply below_drew1) | exact HB.out)⟩
    rw [if_neg c5] at H
    exact absurd H (by simp)
  rw [if_neg c4] at H
  exact absurd H (by simp)
end
section
theorem shortL_length (l : List Int) : (shortL l).length ≤ l.length := by
  have := List.IsSuffix.length_le (List.dropWhile_suffix (fun x : Int => x == 0) (l := l.reverse))
  simpa [shortL] using this
def nat_Trim.f (l0 : List Int) : Option (List Int) := if l0.length ≤ 1000000000 then some (shortL l0) else none
theorem nat_Trim.calls (A0 : Option Addr) (c0 : Nat) (l0 : List Int) (r : List Int) (w : World) (hr0 : Kd.C (Kd.int .u32) w A0 l0.length l0) (hc0 : l0.length ≤ c0) (h : nat_Trim.f l0 = some r) :
    Calls Try.prog 74 #[.slice A0 l0.length c0] w fun e w' => ∃ v0_ : Value, e = .returned (v0_) ∧ Kd.R (Kd.int .u32) 72 w' w.heap.size (fun _ => True) v0_ r ∧ Below w.heap.size w w' := by
  have HR0 := aM hr0
  have HC0 := aM hc0
  have hq : l0.length ≤ 1000000000 ∧ shortL l0 = r := by
    unfold nat_Trim.f at h
    split at h
    · exact ⟨by assumption, Option.some.inj h⟩
    · cases h
  have HQ := aM hq
  clear hr0 hc0 hq h
  go_enter Try.func74, Try.ntmps74
  go_wp2_with (first
    | (go_at_call 73; (with_reducible refine (nat_short.calls (fun k_ => k_ < w.heap.size) _ _ l0 (shortL l0) _ ?s1 rfl).mono ?_); (case s1 => exact Kd.V_mk HC0.out (Kd.C_F (Kd.heap_int .u32) HR0.out)); rintro e w1 ⟨v1, rfl, ho1, hb1⟩; obtain ⟨A1, c1, rfl⟩ := Kd.V_slice ho1; have HV := aM ho1; have HB1 := aM hb1; clear ho1 hb1)
    | ((with_reducible refine gate_builtin (b := .append) (xs := #[.const (.slice none 0 0), .tmp 4]) rfl ?_); at_builtin; refine Kd.R_append_rows (Kd.int .u32) (w0 := w) w.heap.size rfl (.const (.slice none 0 0)) (.tmp 4) 53 72 (.int .u32 0) 4 rfl Try.underlying53 info72 rfl (by decide) (by omega) (.slice none 0 0) [] (shortL l0) _ _ _ (fun _ => True) (fun _ => False) rfl rfl ?aO ?aR (fun _ _ h => h) (fun _ h => h.elim) ?aF ?aB ?aS ?aL ?_; (case aR => exact (Kd.V_reads' HV.out).2.2); (case aB => exact HB1.out); (case aF => exact (fun _ _ => trivial)); (case aO => exact Kd.R_nil _ _ _ _ _); (case aS => exact HB1.out.size); (case aL => have := HQ.out.1; have := shortL_length l0; simp only [List.length_nil]; omega); intro v2 w2 ho2 hb2 hg2 hat2; have HO2 := aM ho2; have HB2 := aM hb2; clear ho2 hb2 hg2 hat2))
  go_ret
  have ho2 := HO2.out
  rw [List.nil_append, HQ.out.2] at ho2
  exact ⟨_, rfl, ho2, HB2.out⟩
end
section
attribute [local go_sem] max2_int min2_int max_two min_two max_three min_three max_four min_four
def nat_Mul.l0 : Nat → List Int → List (List Int) → Int → Int → Option (List Int)
  | 0, _, _, _, _ => none
  | k + 1, x3, x7, x8, x9 => if x9 < x8 then (if 0 ≤ x9 then (if x9 < (x7.length : Int) then ((nat_short.f (rd_L8 x7 x9)).bind fun t237 => ((nat_times.f k x3 t237).bind fun t240 => (nat_Mul.l0 k t240 x7 x8 (wrap64 (x9 + 1))))) else (none)) else (none)) else ((nat_Trim.f x3).bind fun t243 => (some t243))
def nat_Mul.f (k : Nat) (l0 : List (List Int)) : Option (List Int) := nat_Mul.l0 k (([1] : List Int)) l0 (l0.length : Int) 0
theorem nat_Mul.calls (k : Nat) (A0 : Option Addr) (c0 : Nat) (l0 : List (List Int)) (r : List Int) (w : World) (hr0 : Kd.C (Kd.slice 72 (Kd.int .u32)) w A0 l0.length l0) (hc0 : l0.length ≤ c0) (h : nat_Mul.f k l0 = some r) :
    Calls Try.prog 47 #[.slice A0 l0.length c0] w fun e w' => ∃ v0_ : Value, e = .returned (v0_) ∧ Kd.R (Kd.int .u32) 72 w' w.heap.size (fun _ => True) v0_ r ∧ Below w.heap.size w w' := by
  have HR0 := aM hr0
  have HC0 := aM hc0
  clear hr0 hc0
  have HB := aM (Below.refl w.heap.size w)
  have H : (nat_Mul.l0 k (([1] : List Int)) l0 (l0.length : Int) 0) = some r := h
  clear h
  obtain ⟨y233, hy233⟩ : ∃ y_ : List Int, y_ = (([1] : List Int)) := ⟨_, rfl⟩
  replace H : (nat_Mul.l0 k y233 l0 (l0.length : Int) 0) = some r := by first | (rw [hy233]; with_reducible exact H) | (have H2_ := (Option.bind_some _ _).symm.trans H; rw [hy233]; with_reducible exact H2_) | (have H2_ := (Option.bind_some _ _).symm.trans H; with_reducible exact H2_) | with_reducible exact H | (rw [hy233]; exact H) | exact H
  have Ny233 := aM hy233
  clear hy233
  have H' := aM H
  clear H
  go_enter Try.func47, Try.ntmps47
  go_wp2_with (first | ((with_reducible refine gate_dst (N := 6) rfl ?_); refine Kd.R_lit (Kd.int .u32) _ 72 ?hg (N := 6) ?hd (xs := ([1] : List Int)) (inner := [.int .u32 1]) (ok := fun _ => True) (okp := fun _ => True) ?hr ?hp (fun _ hk => hk) trivial (Below.refl _ _) (Nat.le_refl _) (by simp) ?_; (case hd => rfl); (case hg => rfl); (case hr => first | (go_simp; done) | (go_simp; rfl)); (case hp => exact (Reps.one (show Kd.M (Kd.int .u32) _ _ _ 1 [.int .u32 1] from rfl) (Reps.none _ _))); intro v234 w2 ho3 hb hg_ hnew_; clear hg_ hnew_; (first | rw [← Ny233.out] at ho3 | (simp only [Int.reduceToNat] at ho3; rw [← Ny233.out] at ho3)); have HO235 := aM (Kd.R_lower ho3 (below_size zz88)); replace HB := aM (below_step zz88 hb); clear hb ho3))
  go_loopg [3, 9] k (fun kq v3 v9 w' => ∃ (x3_1 : List Int) (x9_1 : Int), v9 = .int .i64 x9_1 ∧ Aside0 (nat_Mul.l0 kq x3_1 l0 (l0.length : Int) x9_1 = some r) ∧ Aside0 (kq ≤ k) ∧ Aside0 (Kd.V (Kd.int .u32) 72 w' w.heap.size (fun _ => True) v3 x3_1) ∧ Aside0 (Below w.heap.size w w'))
  case atStart => exact ⟨(y233), (0), zz112, H', ⟨Nat.le_refl _⟩, ⟨Kd.R_V (zR HO235)⟩, ⟨zz88⟩⟩
  case round =>
    clear H'; (try clear p2); obtain ⟨x3_1, x9_1, rfl, HA, HK1, HO_3, HB⟩ := hrel
    cases gk with
    | zero => exact absurd HA.out (by simp [nat_Mul.l0])
    | succ k1 =>
      have H := HA.out; clear HA; simp only [nat_Mul.l0] at H
      by_cases c4 : x9_1 < (l0.length : Int)
      · rw [if_pos c4] at H; have c4b0 := decide_eq_true c4; clear c4
        by_cases c5 : 0 ≤ x9_1
        · rw [if_pos c5] at H; have c5b0 := decide_eq_true c5; clear c5
          by_cases c6 : x9_1 < (l0.length : Int)
          · rw [if_pos c6] at H; have c6b0 := decide_eq_true c6; clear c6; replace H := Option.bind_eq_some_iff.mp H; obtain ⟨t237, A70, H⟩ := H; replace H : ((nat_times.f k1 x3_1 t237).bind fun t240 => (nat_Mul.l0 k1 t240 l0 (l0.length : Int) (wrap64 (x9_1 + 1)))) = some r := H; have A7 := aM A70; clear A70; replace H := Option.bind_eq_some_iff.mp H; obtain ⟨t240, A80, H⟩ := H; replace H : (nat_Mul.l0 k1 t240 l0 (l0.length : Int) (wrap64 (x9_1 + 1))) = some r := H; have A8 := aM A80; clear A80; have H' := aM H; clear H; have p236 : 0 ≤ (x9_1 : Int) := of_decide_eq_true zz111; have q236 : x9_1 < (l0.length : Int) := of_decide_eq_true zz111; obtain ⟨ad236, A236_0, c236_0, e236, hx236_0, hl236_0, hi236_0⟩ := at_L8 HR0.out x9_1 p236 q236
            cases e236; replace hx236_0 := (HB.out.cell (World.block_lt_of_cell? w _ hx236_0)).trans hx236_0; have HR236_0 := aM hi236_0; have HC236_0 := aM hl236_0; clear hi236_0 hl236_0; replace p236 := eq_true p236; replace q236 := eq_true q236
            go_wp2_with (first | ((with_reducible refine gate_callee (f := 73) rfl ?_); refine goesL_ (some 15) rfl rfl Try.func73 (by kernel_rfl) rfl #[.slice A236_0 (rd_L8 l0 x9_1).length c236_0] rfl zz87 ?_; (with_reducible refine (nat_short.calls (fun k_ => k_ < w.heap.size) _ _ (rd_L8 l0 x9_1) t237 _ ?side1 A7.out).mono ?_); (case side1 => exact Kd.V_mk HC236_0.out (Kd.F_below (Kd.C_F (Kd.heap_int .u32) HR236_0.out) zz88)); rintro e w9 ⟨v238, rfl, ho0, hb⟩; refine ⟨_, rfl, ?_⟩; replace HO_3 := aM (Kd.V_below (zV HO_3) hb); have HO239 := aM (Kd.V_lower (Kd.V_mono (ok' := fun k_ => True) ho0 (fun k_ hk_ => trivial)) (below_size zz88)); replace HB := aM (below_step zz88 hb); (try clear hb); (try clear hb2); (try clear hk); (try clear hi); (try clear ho0); obtain ⟨Ao10, co10, eo10⟩ := Kd.V_slice HO_3.out; subst eo10; obtain ⟨Ao11, co11, eo11⟩ := Kd.V_slice HO239.out; subst eo11) | ((with_reducible refine gate_callee (f := 72) rfl ?_); refine goesL_ (some 16) rfl rfl Try.func72 (by kernel_rfl) rfl #[.slice Ao10 x3_1.length co10, .slice Ao11 t237.length co11] rfl zz87 ?_; (with_reducible refine (nat_times.calls k1 _ _ x3_1 _ _ t237 t240 _ ?side1 ?side2 ?side3 ?side4 A8.out).mono ?_); (case side1 => repeat (first | exact (Kd.V_reads' HO_3.out).2.2 | (with_reducible refine Kd.C_alloc ?_ _) | (with_reducible refine Kd.C_drewN ?_ _) | (with_reducible refine Kd.C_drew ?_))); (case side2 => exact (Kd.V_reads' HO_3.out).2.1); (case side3 => repeat (first | exact (Kd.V_reads' HO239.out).2.2 | (with_reducible refine Kd.C_alloc ?_ _) | (with_reducible refine Kd.C_drewN ?_ _) | (with_reducible refine Kd.C_drew ?_))); (case side4 => exact (Kd.V_reads' HO239.out).2.1); rintro e w12 ⟨v241, rfl, ho0, hb⟩; refine ⟨_, rfl, ?_⟩; replace HO_3 := aM (Kd.V_below (zV HO_3) hb); replace HO239 := aM (Kd.V_below (zV HO239) hb); have HO242 := aM (Kd.V_lower (Kd.V_mono (ok' := fun k_ => True) ho0 (fun k_ hk_ => trivial)) (below_size zz88)); replace HB := aM (below_step zz88 hb); (try clear hb); (try clear hb2); (try clear hk); (try clear hi); (try clear ho0)))
            go_roundg k1
            case measure => have := HK1.out; omega
            case rel => exact ⟨(t240), (wrap64 (x9_1 + 1)), zz112, H', ⟨zz120⟩, ⟨(zV HO242)⟩, ⟨zz88⟩⟩
          rw [if_neg c6] at H
          exact absurd H (by simp)
        rw [if_neg c5] at H
        exact absurd H (by simp)
      rw [if_neg c4] at H; have c4b0 := decide_eq_false c4; clear c4; replace H := Option.bind_eq_some_iff.mp H; obtain ⟨t243, A130, H⟩ := H; replace H : (some t243) = some r := H; have A13 := aM A130; clear A130; obtain rfl := Option.some.inj H; obtain ⟨Ao14, co14, eo14⟩ := Kd.V_slice HO_3.out; subst eo14
      go_wp2_with (first | ((with_reducible refine gate_callee (f := 74) rfl ?_); refine goesL_ (some 19) rfl rfl Try.func74 (by kernel_rfl) rfl #[.slice Ao14 x3_1.length co14] rfl zz87 ?_; (with_reducible refine (nat_Trim.calls _ _ x3_1 t243 _ ?side1 ?side2 A13.out).mono ?_); (case side1 => repeat (first | exact (Kd.V_reads' HO_3.out).2.2 | (with_reducible refine Kd.C_alloc ?_ _) | (with_reducible refine Kd.C_drewN ?_ _) | (with_reducible refine Kd.C_drew ?_))); (case side2 => exact (Kd.V_reads' HO_3.out).2.1); rintro e w15 ⟨v244, rfl, ho0, hb⟩; refine ⟨_, rfl, ?_⟩; replace HO_3 := aM (Kd.V_elder' (zV HO_3) (Kd.R_base ho0) hb); have HO245 := aM (Kd.R_lower ho0 (below_size zz88)); replace HB := aM (below_step zz88 hb); (try clear hb); (try clear hb2); (try clear hk); (try clear hi); (try clear ho0)))
      go_ret
      exact ⟨_, by first | rfl | (simp [errW_none, errW_some] <;> rfl) | (simp [*, errW_none, errW_some] <;> rfl), by (with_reducible repeat (first | apply Kd.R_alloc | apply Kd.R_drewN | apply Kd.R_drew)); exact HO245.out, by repeat (first | (with_reducible first | exact HB.out | apply below_alloc | apply pw_below_drewN | apply below_drew1) | exact HB.out)⟩
end
section
attribute [local go_sem] max2_int min2_int max_two min_two max_three min_three max_four min_four
def nat_Of.f (a0 : Int) : Option (List Int) := (nat_Trim.f (([(a0) % 4294967296, (a0 / 4294967296) % 4294967296] : List Int))).bind fun t249 => (some t249)
theorem nat_Of.calls (a0 : Int) (r : List Int) (w : World) (h : nat_Of.f a0 = some r) :
    Calls Try.prog 48 #[.int .u64 a0] w fun e w' => ∃ v0_ : Value, e = .returned (v0_) ∧ Kd.R (Kd.int .u32) 72 w' w.heap.size (fun _ => True) v0_ r ∧ Below w.heap.size w w' := by
  have HB := aM (Below.refl w.heap.size w)
  have H : ((nat_Trim.f (([(a0) % 4294967296, (a0 / 4294967296) % 4294967296] : List Int))).bind fun t249 => (some t249)) = some r := h
  clear h
  obtain ⟨y246, hy246⟩ : ∃ y_ : List Int, y_ = (([(a0) % 4294967296, (a0 / 4294967296) % 4294967296] : List Int)) := ⟨_, rfl⟩
  replace H : ((nat_Trim.f y246).bind fun t249 => (some t249)) = some r := by first | (rw [hy246]; with_reducible exact H) | (have H2_ := (Option.bind_some _ _).symm.trans H; rw [hy246]; with_reducible exact H2_) | (have H2_ := (Option.bind_some _ _).symm.trans H; with_reducible exact H2_) | with_reducible exact H | (rw [hy246]; exact H) | exact H
  have Ny246 := aM hy246
  clear hy246
  replace H := Option.bind_eq_some_iff.mp H
  obtain ⟨t249, A20, H⟩ := H
  replace H : (some t249) = some r := H
  have A2 := aM A20
  clear A20
  obtain rfl := Option.some.inj H
  go_enter Try.func48, Try.ntmps48
  go_wp2_with (first | ((with_reducible refine gate_dst (N := 8) rfl ?_); refine Kd.R_lit (Kd.int .u32) _ 72 ?hg (N := 8) ?hd (xs := ([(a0) % 4294967296, (a0 / 4294967296) % 4294967296] : List Int)) (inner := [.int .u32 ((a0) % 4294967296), .int .u32 ((a0 / 4294967296) % 4294967296)]) (ok := fun _ => True) (okp := fun _ => True) ?hr ?hp (fun _ hk => hk) trivial (Below.refl _ _) (Nat.le_refl _) (by simp) ?_; (case hd => rfl); (case hg => rfl); (case hr => first | (go_simp; done) | (go_simp; rfl)); (case hp => exact (Reps.one (show Kd.M (Kd.int .u32) _ _ _ ((a0) % 4294967296) [.int .u32 ((a0) % 4294967296)] from rfl) (Reps.one (show Kd.M (Kd.int .u32) _ _ _ ((a0 / 4294967296) % 4294967296) [.int .u32 ((a0 / 4294967296) % 4294967296)] from rfl) (Reps.none _ _)))); intro v247 w3 ho4 hb hg_ hnew_; clear hg_ hnew_; (first | rw [← Ny246.out] at ho4 | (simp only [Int.reduceToNat] at ho4; rw [← Ny246.out] at ho4)); have HO248 := aM (Kd.R_lower ho4 (below_size zz88)); replace HB := aM (below_step zz88 hb); clear hb ho4; obtain ⟨Ao5, co5, eo5⟩ := Kd.R_slice HO248.out; subst eo5) | ((with_reducible refine gate_callee (f := 74) rfl ?_); refine goesL_ (some 9) rfl rfl Try.func74 (by kernel_rfl) rfl #[.slice Ao5 y246.length co5] rfl zz87 ?_; (with_reducible refine (nat_Trim.calls _ _ y246 t249 _ ?side1 ?side2 A2.out).mono ?_); (case side1 => repeat (first | exact (Kd.R_reads' HO248.out).2.2 | (with_reducible refine Kd.C_alloc ?_ _) | (with_reducible refine Kd.C_drewN ?_ _) | (with_reducible refine Kd.C_drew ?_))); (case side2 => exact (Kd.R_reads' HO248.out).2.1); rintro e w6 ⟨v250, rfl, ho0, hb⟩; refine ⟨_, rfl, ?_⟩; have HO251 := aM (Kd.R_lower (Kd.R_new' ho0 (Kd.R_lt (zR HO248))) (below_size zz88)); replace HO248 := aM (Kd.R_elder' (zR HO248) (Kd.R_base ho0) hb); replace HB := aM (below_step zz88 hb); (try clear hb); (try clear hb2); (try clear hk); (try clear hi); (try clear ho0)))
  go_ret
  exact ⟨_, by first | rfl | (simp [errW_none, errW_some] <;> rfl) | (simp [*, errW_none, errW_some] <;> rfl), by (with_reducible repeat (first | apply Kd.R_alloc | apply Kd.R_drewN | apply Kd.R_drew)); exact Kd.R_mono HO251.out (fun _ hk => trivial), by repeat (first | (with_reducible first | exact HB.out | apply below_alloc | apply pw_below_drewN | apply below_drew1) | exact HB.out)⟩
end
section
attribute [local go_sem] max2_int min2_int max_two min_two max_three min_three max_four min_four
def perm_Size.l0 : Nat → List Int → List (S74) → Int → Int → Option (List Int × Int)
  | 0, _, _, _, _ => none
  | k + 1, x5, x15, x16, x17 => if x17 < x16 then (if 0 ≤ x17 then (if x17 < (x15.length : Int) then ((nat_Of.f (IntKind.u64.wrap ((((rd_T74 x15 x17).f1).length : Int)))).bind fun t259 => ((nat_Mul.f k (([x5, t259] : List (List Int)))).bind fun t265 => (perm_Size.l0 k t265 x15 x16 (wrap64 (x17 + 1))))) else (none)) else (none)) else (some (x5, 0))
def perm_Size.f (k : Nat) (a0_0 : Int) (l0_1 : List (S74)) : Option (List Int × Int) := (perm_CheckChain.f k a0_0 l0_1).bind fun t253 => (if t253 = 0 then ((nat_Of.f 1).bind fun t254 => (perm_Size.l0 k t254 l0_1 (l0_1.length : Int) 0)) else (some (([] : List Int), t253)))
end
section
attribute [local go_sem] max2_int min2_int max_two min_two max_three min_three max_four min_four
theorem sift_j2n {k : Nat} {x1 : List Int} {e n r2 : Int} {c : List S74} {r1 : List Int} (he : e ≠ 0) : perm_Sift.j2 k x1 e n c ≠ some (r1, r2, 0) := by
  cases k with
  | zero => simp [perm_Sift.j2]
  | succ k =>
    simp only [perm_Sift.j2]; rw [if_neg he]; intro h
    exact he (Prod.mk.inj (Prod.mk.inj (Option.some.inj h)).2).2
theorem sift_j1n {k : Nat} {x1 : List Int} {e n r2 : Int} {b : Bool} {c : List S74} {r1 : List Int} (he : e ≠ 0) : perm_Sift.j1 k x1 e b n c ≠ some (r1, r2, 0) := by
  cases k with
  | zero => simp [perm_Sift.j1]
  | succ k =>
    simp only [perm_Sift.j1]
    split
    · exact sift_j2n (by decide)
    · exact sift_j2n he
theorem sift_j0n {k : Nat} {x1 : List Int} {e n r2 : Int} {c : List S74} {r1 : List Int} (he : e ≠ 0) : perm_Sift.j0 k x1 e n c ≠ some (r1, r2, 0) := by
  cases k with
  | zero => simp [perm_Sift.j0]
  | succ k =>
    simp only [perm_Sift.j0]; rw [if_neg he]
    exact sift_j1n he
theorem sift_t0 {k : Nat} {x1 : List Int} {t n r2 r3 : Int} {c : List S74} {r1 : List Int} {A : Option (List Int × Int × Int)} (h : (if t = 0 then A else perm_Sift.j0 k x1 t n c) = some (r1, r2, r3)) (hr : r3 = 0) : t = 0 := by
  apply Classical.byContradiction
  intro hc
  rw [if_neg hc, hr] at h
  exact sift_j0n hc h
theorem perm_CheckChain.callsVz (k : Nat) (a0_0 : Int) (P0_1_ : Nat → Prop) (A0_1 : Option Addr) (c0_1 : Nat) (l0_1 : List (S74)) (r : Int) (w : World) (hs0_1 : Kd.V k74 74 w w.heap.size (fun k_ => P0_1_ k_) (.slice A0_1 l0_1.length c0_1) l0_1) (h : perm_CheckChain.f k a0_0 l0_1 = some r) (hr_ : r = 0) :
    Calls Try.prog 36 #[.agg #[.int .i64 a0_0, .slice A0_1 l0_1.length c0_1]] w fun e w' => e = .returned (.int .i64 r) ∧ Below w.heap.size w w' := by
  have HR_ := aM hr_
  clear hr_
  have hu46 := Try.underlying46
  have hu74 := Try.underlying74
  have HO0_1 := aM (show Kd.V k74 74 w w.heap.size (fun k_ => (P0_1_ k_ ∨ w.heap.size ≤ k_)) (.slice A0_1 l0_1.length c0_1) l0_1 from Kd.V_mono hs0_1 (fun k_ hk => .inl hk))
  have HB := aM (Below.refl w.heap.size w)
  have H : ((perm_degree.f a0_0).bind fun t223 => (if t223 = 0 then (if (l0_1.length : Int) > a0_0 then (some 5) else (perm_CheckChain.l0 k ([] : List (List Int)) l0_1 (l0_1.length : Int) 0 a0_0 l0_1)) else (some t223))) = some r := h
  clear h
  replace H := Option.bind_eq_some_iff.mp H
  obtain ⟨t223, A20, H⟩ := H
  replace H : (if t223 = 0 then (if (l0_1.length : Int) > a0_0 then (some 5) else (perm_CheckChain.l0 k ([] : List (List Int)) l0_1 (l0_1.length : Int) 0 a0_0 l0_1)) else (some t223)) = some r := H
  have A2 := aM A20
  clear A20
  by_cases c3 : t223 = 0
  · rw [if_pos c3] at H
    have c3b0 := beq_iff_eq.mpr c3; have c3b1 := bne_eq_false_iff_eq.mpr c3; clear c3
    by_cases c4 : (l0_1.length : Int) > a0_0
    · rw [if_pos c4] at H; have c4b0 := decide_eq_true c4; clear c4
      exact absurd (Option.some.inj (H.trans (congrArg some HR_.out))) (by decide)
    rw [if_neg c4] at H; have c4b0 := decide_eq_false c4; clear c4; have H' := aM H; clear H
    go_enter Try.func36, Try.ntmps36
    go_wp2_with (first | ((with_reducible refine gate_dst (N := 1) rfl ?_); (try (refine gate_guard (by rfl) ?_; dsimp only)); refine box_event ?hg (N := 1) ?hd (cs := #[.int .i64 a0_0, .slice A0_1 l0_1.length c0_1]) (t := 46) ?hr ?_; (case hd => rfl); (case hg => rfl); (case hr => first | (go_simp; done) | (go_simp; rfl)); intro gb222 hg w7 hbox hb; replace HO0_1 := aM (Kd.V_below (Kd.V_elderB (zV HO0_1) gb222 (Nat.le_of_eq hg.symm)) hb); have BK222 := aM (hbox); have GW222 := aM ((by rw [hg]; exact (below_size zz88) : w.heap.size ≤ gb222)); have GE222 := aM ((by rw [hg]; exact (below_size zz88) : w.heap.size ≤ gb222)); replace HB := aM (below_step zz88 hb); clear hb hbox hg; have hcz8_0 : w7.cell? ⟨gb222, 0, none⟩ = some (.int .i64 a0_0) := (blk_cell BK222.out 0).trans rfl; have hcz8_1 : w7.cell? ⟨gb222, 1, none⟩ = some (.slice A0_1 l0_1.length c0_1) := (blk_cell BK222.out 1).trans rfl; have hfz8_0 := blk_frozen BK222.out 0; have hfz8_1 := blk_frozen BK222.out 1) | ((with_reducible refine gate_callee (f := 52) rfl ?_); refine goesL_ (some 14) rfl rfl Try.func52 (by kernel_rfl) rfl #[.int .i64 a0_0] rfl zz87 ?_; (with_reducible refine (perm_degree.calls a0_0 t223 _ A2.out).mono ?_); rintro e w' ⟨rfl, ⟨nd, rfl⟩⟩; refine ⟨_, rfl, ?_⟩))
    go_loopg [4, 27] k (fun kq v4 v27 w' => ∃ (x4_1 : List (List Int)) (x27_1 : Int), v27 = .int .i64 x27_1 ∧ Aside0 (perm_CheckChain.l0 kq x4_1 l0_1 (l0_1.length : Int) x27_1 a0_0 l0_1 = some r) ∧ Aside0 (kq ≤ k) ∧ Aside0 (Kd.N (Kd.slice 3 (Kd.int .i64)) 22 w' w.heap.size (fun k_ => (P0_1_ k_ ∨ w.heap.size ≤ k_) ∧ k_ ≠ gb222) v4 x4_1) ∧ Aside0 (Kd.V k74 74 w' w.heap.size (fun k_ => (P0_1_ k_ ∨ w.heap.size ≤ k_) ∧ some k_ ≠ (v4 : Value).ownBlock ∧ k_ ≠ gb222) (.slice A0_1 l0_1.length c0_1) l0_1) ∧ Aside0 (Kd.V k74 74 w' w.heap.size (fun k_ => (P0_1_ k_ ∨ w.heap.size ≤ k_) ∧ some k_ ≠ (v4 : Value).ownBlock ∧ k_ ≠ gb222) (.slice A0_1 l0_1.length c0_1) l0_1) ∧ Aside0 (w'.heap[gb222]? = some (.cells #[.int .i64 a0_0, (.slice A0_1 l0_1.length c0_1)] 46 (0, 0))) ∧ Aside0 (Below w.heap.size w w'))
    case atStart => exact ⟨(([] : List (List Int))), (0), zz112, H', ⟨Nat.le_refl _⟩, ⟨zz86⟩, ⟨zz63⟩, ⟨zz63⟩, ⟨(zB BK222)⟩, ⟨zz68⟩⟩
    case round =>
      clear H'; (try clear p2); (try clear c3); (try clear c3b0); (try clear c3b1); (try clear c4); (try clear c4b0); (try clear c5); (try clear hcz6_0); (try clear hcz6_1); (try clear hcz8_0); (try clear hcz8_1); (try clear hfz6_0); (try clear hfz6_1); (try clear hfz8_0); (try clear hfz8_1); obtain ⟨x4_1, x27_1, rfl, HA, HK1, HO_4, HO_25, HO_223001, BK222, HB⟩ := hrel
      cases gk with
      | zero => exact absurd HA.out (by simp [perm_CheckChain.l0])
      | succ k1 =>
        have H := HA.out; clear HA; simp only [perm_CheckChain.l0] at H
        by_cases c9 : x27_1 < (l0_1.length : Int)
        · rw [if_pos c9] at H; have c9b0 := decide_eq_true c9; clear c9
          by_cases c10 : 0 ≤ x27_1
          · rw [if_pos c10] at H; have c10b0 := decide_eq_true c10; clear c10
            by_cases c11 : x27_1 < (l0_1.length : Int)
            · rw [if_pos c11] at H; have c11b0 := decide_eq_true c11; clear c11
              by_cases c12 : (((rd_T74 l0_1 x27_1).f1).length : Int) > a0_0
              · rw [if_pos c12] at H; have c12b0 := decide_eq_true c12; clear c12
                exact absurd (Option.some.inj (H.trans (congrArg some HR_.out))) (by decide)
              rw [if_neg c12] at H; have c12b0 := decide_eq_false c12; clear c12
              by_cases c17 : (((rd_T74 l0_1 x27_1).f2).length : Int) = (((rd_T74 l0_1 x27_1).f1).length : Int)
              · rw [if_pos c17] at H; have c17b0 := beq_iff_eq.mpr c17; have c17b1 := bne_eq_false_iff_eq.mpr c17; have c17b2 : (((rd_T74 l0_1 x27_1).f2).length == ((rd_T74 l0_1 x27_1).f1).length) = true := by first | simpa using c17 | (simp at c17 ⊢; omega)
                clear c17
                by_cases c18 : x4_1.length + ((rd_T74 l0_1 x27_1).f2).length < 5864062014805
                · rw [if_pos c18] at H; have LMc18 := aM c18; clear c18; obtain ⟨y226, hy226⟩ : ∃ y_ : List (List Int), y_ = (x4_1 ++ ((rd_T74 l0_1 x27_1).f2)) := ⟨_, rfl⟩; replace H : (perm_CheckChain.l0 k1 y226 l0_1 (l0_1.length : Int) (wrap64 (x27_1 + 1)) a0_0 l0_1) = some r := by first | (rw [hy226]; with_reducible exact H) | (have H2_ := (Option.bind_some _ _).symm.trans H; rw [hy226]; with_reducible exact H2_) | (have H2_ := (Option.bind_some _ _).symm.trans H; with_reducible exact H2_) | with_reducible exact H | (rw [hy226]; exact H) | exact H
                  have Ny226 := aM hy226; clear hy226; have H' := aM H; clear H; have p224 : 0 ≤ (x27_1 : Int) := of_decide_eq_true zz111; have q224 : x27_1 < (l0_1.length : Int) := of_decide_eq_true zz111; obtain ⟨ad224, A224_1, c224_1, A224_2, c224_2, e224, hx224_0, hx224_1, hx224_2, hl224_1, hi224_1, hl224_2, hi224_2⟩ := at_T74 (Kd.V_reads' HO_25.out).2.2 x27_1 p224 q224
                  cases e224; obtain ⟨ce224, hce224, hMe224, hcc224⟩ := Kd.V_get HO_25.out z74 x27_1 p224 (by first | exact q224 | exact of_decide_eq_true zz111 | (have e_ := (Kd.V_reads' HO_25.out).1; omega)); obtain ⟨ua224_1, uc224_1, ua224_2, uc224_2, rfl, ul224_1, ge224_1, ul224_2, ge224_2⟩ := k74_openF hMe224; have hv224_1 := hcc224 1 _ rfl; rw [add_field _ _ 1 (by omega)] at hv224_1; replace hv224_1 := Option.some.inj (hv224_1.symm.trans hx224_1); injection hv224_1 with hva_ hvn_ hvc_
                  rw [hva_] at ge224_1; rw [hvc_] at ul224_1; have HL224_1 := aM (show Kd.V (Kd.int .i64) 3 _ w.heap.size _ _ ((rd_T74 l0_1 x27_1).f1) from Kd.V_mk ul224_1 ge224_1); clear hva_ hvn_ hvc_ ge224_1 ul224_1; have hv224_2 := hcc224 2 _ rfl; rw [add_field _ _ 2 (by omega)] at hv224_2; replace hv224_2 := Option.some.inj (hv224_2.symm.trans hx224_2); injection hv224_2 with hva_ hvn_ hvc_
                  rw [hva_] at ge224_2; rw [hvc_] at ul224_2; have HL224_2 := aM (show Kd.V (Kd.slice 3 (Kd.int .i64)) 22 _ w.heap.size _ _ ((rd_T74 l0_1 x27_1).f2) from Kd.V_mk ul224_2 ge224_2); clear hva_ hvn_ hvc_ ge224_2 ul224_2; clear hcc224 hce224; have HR224_1 := aM hi224_1; have HC224_1 := aM hl224_1; clear hi224_1 hl224_1; have HR224_2 := aM hi224_2; have HC224_2 := aM hl224_2; clear hi224_2 hl224_2; replace p224 := eq_true p224; replace q224 := eq_true q224
                  go_wp2_with (first | ((with_reducible refine gate_dst (N := 6) rfl ?_); (try (refine gate_guard (by rfl) ?_; dsimp only)); refine box_event ?hg (N := 6) ?hd (cs := #[.int .i64 0, .slice none 0 0, .slice none 0 0]) (t := 74) ?hr ?_; (case hd => rfl); (case hg => rfl); (case hr => first | (go_simp; done) | (go_simp; rfl)); intro gb225 hg w19 hbox hb; replace HO_4 := aM (Kd.N_below (Kd.N_elderB (zN HO_4) gb225 (Nat.le_of_eq hg.symm)) hb); replace HO_25 := aM (Kd.V_below (Kd.V_elderB (zV HO_25) gb225 (Nat.le_of_eq hg.symm)) hb); replace HO_223001 := aM (Kd.V_below (Kd.V_elderB (zV HO_223001) gb225 (Nat.le_of_eq hg.symm)) hb); replace HR224_1 := aM (Kd.C_below (by first | exact (Kd.V_reads' HL224_1.out).2.2 | (repeat (first | (with_reducible exact HR224_1.out) | (with_reducible refine Kd.C_alloc ?_ _) | (with_reducible refine Kd.C_drewN ?_ _) | (with_reducible refine Kd.C_drew ?_) | exact HR224_1.out))) hb); replace HL224_1 := aM (Kd.V_below (Kd.V_elderB (zV HL224_1) gb225 (Nat.le_of_eq hg.symm)) hb); replace HR224_2 := aM (Kd.C_below (by first | exact (Kd.V_reads' HL224_2.out).2.2 | (repeat (first | (with_reducible exact HR224_2.out) | (with_reducible refine Kd.C_alloc ?_ _) | (with_reducible refine Kd.C_drewN ?_ _) | (with_reducible refine Kd.C_drew ?_) | exact HR224_2.out))) hb); replace HL224_2 := aM (Kd.V_below (Kd.V_elderB (zV HL224_2) gb225 (Nat.le_of_eq hg.symm)) hb); have BK225 := aM (hbox); have GW225 := aM ((by rw [hg]; exact (below_size zz68) : w.heap.size ≤ gb225)); have GE225 := aM ((by rw [hg]; exact (below_size zz68) : w.heap.size ≤ gb225)); replace HB := aM (below_step zz68 hb); have NB222_225 := aM ((by rw [hg]; exact Nat.ne_of_lt (blk_lt (g := gb222) (o := .cells #[.int .i64 a0_0, .slice (some ad224) l0_1.length c0_1] 46 (0, 0)) (zB BK222)) : gb222 ≠ gb225)); have NB225_222 := aM ((by rw [hg]; exact Nat.ne_of_gt (blk_lt (g := gb222) (o := .cells #[.int .i64 a0_0, .slice (some ad224) l0_1.length c0_1] 46 (0, 0)) (zB BK222)) : gb225 ≠ gb222)); replace BK222 := aM (blk_below (g := gb222) (o := .cells #[.int .i64 a0_0, .slice (some ad224) l0_1.length c0_1] 46 (0, 0)) (zB BK222) hb); clear hb hbox hg; have hnb20 := NB225_222.out; have hnc20 := NB222_225.out; have hcz21_0 : w19.cell? ⟨gb225, 0, none⟩ = some (.int .i64 0) := (blk_cell BK225.out 0).trans rfl; have hcz21_1 : w19.cell? ⟨gb225, 1, none⟩ = some (.slice none 0 0) := (blk_cell BK225.out 1).trans rfl; have hcz21_2 : w19.cell? ⟨gb225, 2, none⟩ = some (.slice none 0 0) := (blk_cell BK225.out 2).trans rfl; have hfz21_0 := blk_frozen BK225.out 0; have hfz21_1 := blk_frozen BK225.out 1; have hfz21_2 := blk_frozen BK225.out 2; have hcz22_0 : w19.cell? ⟨gb222, 0, none⟩ = some (.int .i64 a0_0) := (blk_cell BK222.out 0).trans rfl; have hcz22_1 : w19.cell? ⟨gb222, 1, none⟩ = some (.slice (some ad224) l0_1.length c0_1) := (blk_cell BK222.out 1).trans rfl; have hfz22_0 := blk_frozen BK222.out 0; have hfz22_1 := blk_frozen BK222.out 1) | ((with_reducible refine gate_builtin (b := .append) (xs := #[.tmp 46, .tmp 48]) rfl ?_); (try (refine gate_guard (by rfl) ?_; dsimp only)); at_builtin; refine Kd.N_append_rows (Kd.slice 3 (Kd.int .i64)) (w0 := w) w.heap.size rfl (.tmp 46) (.tmp 48) 28 22 (.slice none 0 0) 24 rfl Try.underlying28 info22 rfl (by decide) (by omega) u4 x4_1 ((rd_T74 l0_1 x27_1).f2) _ _ _ (fun k_ => (P0_1_ k_ ∨ w.heap.size ≤ k_) ∧ k_ ≠ gb222 ∧ k_ ≠ gb225) (fun k_ => ((fun k_ => (P0_1_ k_ ∨ w.heap.size ≤ k_) ∧ k_ ≠ gb222 ∧ k_ ≠ gb225)) k_ ∧ some k_ ≠ (u4 : Value).ownBlock) rfl rfl ?aO ?aR (fun _ hk => hk) ?aF ?aB ?aS ?aL ?_; (case aR => exact (by skip; exact Kd.V_F (Kd.V_mono (ok' := (fun k_ => ((fun k_ => (P0_1_ k_ ∨ w.heap.size ≤ k_) ∧ k_ ≠ gb222 ∧ k_ ≠ gb225)) k_ ∧ some k_ ≠ (u4 : Value).ownBlock)) ((Kd.V_far (p := ⟨gb225, 2, none⟩) (Kd.V_far (p := ⟨gb225, 1, none⟩) (Kd.V_far (p := ⟨gb225, 0, none⟩) (Kd.V_mono HL224_2.out (fun k_ hk => (⟨hk, hk.2⟩ : _ ∧ k_ ≠ gb225))) (fun _ hk => hk.2) (.int .i64 ((rd_T74 l0_1 x27_1).f0))) (fun _ hk => hk.2) (.slice A224_1 ((rd_T74 l0_1 x27_1).f1).length c224_1)) (fun _ hk => hk.2) (.slice A224_2 ((rd_T74 l0_1 x27_1).f2).length c224_2))) (fun k_ hk => ⟨⟨hk.1.1.1, ⟨hk.1.1.2.2, hk.1.2⟩⟩, hk.1.1.2.1⟩)))); (case aB => exact zz48); (case aF => exact (fun k_ hk => ⟨(.inr (Nat.le_trans (below_size zz48) hk)), Kd.freshB (g := gb222) (o := .cells #[.int .i64 a0_0, .slice (some ad224) l0_1.length c0_1] 46 (0, 0)) zz26 k_ hk, Kd.freshB (g := gb225) (o := .cells #[.int .i64 ((rd_T74 l0_1 x27_1).f0), .slice A224_1 ((rd_T74 l0_1 x27_1).f1).length c224_1, .slice A224_2 ((rd_T74 l0_1 x27_1).f2).length c224_2] 74 (0, 0)) zz5 k_ hk⟩)); (case aO => exact (by (with_reducible repeat (first | apply Kd.N_alloc | apply Kd.N_drewN | apply Kd.N_drew)); exact Kd.N_mono (Kd.N_far (p := ⟨gb225, 2, none⟩) (Kd.N_far (p := ⟨gb225, 1, none⟩) (Kd.N_far (p := ⟨gb225, 0, none⟩) (Kd.N_mono HO_4.out (fun k_ hk => (⟨hk, hk.2⟩ : _ ∧ k_ ≠ gb225))) (fun _ hk => hk.2) (.int .i64 ((rd_T74 l0_1 x27_1).f0))) (fun _ hk => hk.2) (.slice A224_1 ((rd_T74 l0_1 x27_1).f1).length c224_1)) (fun _ hk => hk.2) (.slice A224_2 ((rd_T74 l0_1 x27_1).f2).length c224_2)) (fun _ hk => ⟨hk.1.1.1, ⟨hk.1.1.2, hk.1.2⟩⟩))); (case aS => exact (below_size zz48)); (case aL => have := LMc18.out; omega); intro v227 w23 ho hb hg hat; rw [← Ny226.out] at ho; replace HO_25 := aM (Kd.V_afterv (ok := (fun k_ => (P0_1_ k_ ∨ w.heap.size ≤ k_) ∧ k_ ≠ gb222 ∧ k_ ≠ gb225)) (by (with_reducible repeat (first | apply Kd.V_alloc | apply Kd.V_drewN | apply Kd.V_drew)); exact Kd.V_mono (Kd.V_far (p := ⟨gb225, 2, none⟩) (Kd.V_far (p := ⟨gb225, 1, none⟩) (Kd.V_far (p := ⟨gb225, 0, none⟩) (Kd.V_mono HO_25.out (fun k_ hk => (⟨hk, hk.2⟩ : _ ∧ k_ ≠ gb225))) (fun _ hk => hk.2) (.int .i64 ((rd_T74 l0_1 x27_1).f0))) (fun _ hk => hk.2) (.slice A224_1 ((rd_T74 l0_1 x27_1).f1).length c224_1)) (fun _ hk => hk.2) (.slice A224_2 ((rd_T74 l0_1 x27_1).f2).length c224_2)) (fun _ hk => ⟨⟨hk.1.1.1, ⟨hk.1.1.2.2, hk.1.2⟩⟩, hk.1.1.2.1⟩)) hg hat); replace HO_223001 := aM (Kd.V_afterv (ok := (fun k_ => (P0_1_ k_ ∨ w.heap.size ≤ k_) ∧ k_ ≠ gb222 ∧ k_ ≠ gb225)) (by (with_reducible repeat (first | apply Kd.V_alloc | apply Kd.V_drewN | apply Kd.V_drew)); exact Kd.V_mono (Kd.V_far (p := ⟨gb225, 2, none⟩) (Kd.V_far (p := ⟨gb225, 1, none⟩) (Kd.V_far (p := ⟨gb225, 0, none⟩) (Kd.V_mono HO_223001.out (fun k_ hk => (⟨hk, hk.2⟩ : _ ∧ k_ ≠ gb225))) (fun _ hk => hk.2) (.int .i64 ((rd_T74 l0_1 x27_1).f0))) (fun _ hk => hk.2) (.slice A224_1 ((rd_T74 l0_1 x27_1).f1).length c224_1)) (fun _ hk => hk.2) (.slice A224_2 ((rd_T74 l0_1 x27_1).f2).length c224_2)) (fun _ hk => ⟨⟨hk.1.1.1, ⟨hk.1.1.2.2, hk.1.2⟩⟩, hk.1.1.2.1⟩)) hg hat); replace BK222 := aM (blk_grown (g := gb222) (o := .cells #[.int .i64 a0_0, .slice (some ad224) l0_1.length c0_1] 46 (0, 0)) zz26 hg (Kd.N_ne HO_4.out BK222.out (by decide))); replace HL224_1 := aM (Kd.V_afterv (ok := (fun k_ => (P0_1_ k_ ∨ w.heap.size ≤ k_) ∧ k_ ≠ gb222 ∧ k_ ≠ gb225)) (by (with_reducible repeat (first | apply Kd.V_alloc | apply Kd.V_drewN | apply Kd.V_drew)); exact Kd.V_mono (Kd.V_far (p := ⟨gb225, 2, none⟩) (Kd.V_far (p := ⟨gb225, 1, none⟩) (Kd.V_far (p := ⟨gb225, 0, none⟩) (Kd.V_mono HL224_1.out (fun k_ hk => (⟨hk, hk.2⟩ : _ ∧ k_ ≠ gb225))) (fun _ hk => hk.2) (.int .i64 ((rd_T74 l0_1 x27_1).f0))) (fun _ hk => hk.2) (.slice A224_1 ((rd_T74 l0_1 x27_1).f1).length c224_1)) (fun _ hk => hk.2) (.slice A224_2 ((rd_T74 l0_1 x27_1).f2).length c224_2)) (fun _ hk => ⟨⟨hk.1.1.1, ⟨hk.1.1.2.2, hk.1.2⟩⟩, hk.1.1.2.1⟩)) hg hat); replace HL224_2 := aM (Kd.V_afterv (ok := (fun k_ => (P0_1_ k_ ∨ w.heap.size ≤ k_) ∧ k_ ≠ gb222 ∧ k_ ≠ gb225)) (by (with_reducible repeat (first | apply Kd.V_alloc | apply Kd.V_drewN | apply Kd.V_drew)); exact Kd.V_mono (Kd.V_far (p := ⟨gb225, 2, none⟩) (Kd.V_far (p := ⟨gb225, 1, none⟩) (Kd.V_far (p := ⟨gb225, 0, none⟩) (Kd.V_mono HL224_2.out (fun k_ hk => (⟨hk, hk.2⟩ : _ ∧ k_ ≠ gb225))) (fun _ hk => hk.2) (.int .i64 ((rd_T74 l0_1 x27_1).f0))) (fun _ hk => hk.2) (.slice A224_1 ((rd_T74 l0_1 x27_1).f1).length c224_1)) (fun _ hk => hk.2) (.slice A224_2 ((rd_T74 l0_1 x27_1).f2).length c224_2)) (fun _ hk => ⟨⟨hk.1.1.1, ⟨hk.1.1.2.2, hk.1.2⟩⟩, hk.1.1.2.1⟩)) hg hat); replace BK225 := aM (blk_grown (g := gb225) (o := .cells #[.int .i64 ((rd_T74 l0_1 x27_1).f0), .slice A224_1 ((rd_T74 l0_1 x27_1).f1).length c224_1, .slice A224_2 ((rd_T74 l0_1 x27_1).f2).length c224_2] 74 (0, 0)) zz5 hg (Kd.N_ne HO_4.out BK225.out (by decide))); replace HB := aM (hb); have HO228 := aM (ho); clear HO_4; clear ho hb hg hat))
                  go_roundg k1
                  case measure => have := HK1.out; omega
                  case rel => exact ⟨(y226), (wrap64 (x27_1 + 1)), zz112, H', ⟨zz120⟩, ⟨(by (with_reducible repeat (first | apply Kd.N_alloc | apply Kd.N_drewN | apply Kd.N_drew)); exact Kd.N_mono HO228.out (fun _ hk => ⟨hk.1, hk.2.1⟩))⟩, ⟨(by (with_reducible repeat (first | apply Kd.V_alloc | apply Kd.V_drewN | apply Kd.V_drew)); exact Kd.V_mono HO_25.out (fun _ hk => ⟨hk.1.1, ⟨hk.2, hk.1.2.1⟩⟩))⟩, ⟨(by (with_reducible repeat (first | apply Kd.V_alloc | apply Kd.V_drewN | apply Kd.V_drew)); exact Kd.V_mono HO_223001.out (fun _ hk => ⟨hk.1.1, ⟨hk.2, hk.1.2.1⟩⟩))⟩, ⟨(zB BK222)⟩, ⟨zz48⟩⟩
                rw [if_neg c18] at H
                exact absurd H (by simp)
              rw [if_neg c17] at H; have c17b0 := beq_eq_false_iff_ne.mpr c17; have c17b1 := bne_iff_ne.mpr c17; have c17b2 : (((rd_T74 l0_1 x27_1).f2).length == ((rd_T74 l0_1 x27_1).f1).length) = false := by first | simpa using c17 | (simp at c17 ⊢; omega)
              exact absurd (Option.some.inj (H.trans (congrArg some HR_.out))) (by decide)
            rw [if_neg c11] at H
            exact absurd H (by simp)
          rw [if_neg c10] at H
          exact absurd H (by simp)
        rw [if_neg c9] at H; have c9b0 := decide_eq_false c9; clear c9; replace H := Option.bind_eq_some_iff.mp H; obtain ⟨⟨t229, t230, t233⟩, A280, H⟩ := H; replace H : (if t233 = 0 then (perm_CheckChain.j1 k1 ((t230.length : Int) != (l0_1.length : Int)) a0_0 l0_1 t229 t230) else (perm_CheckChain.j1 k1 true a0_0 l0_1 t229 t230)) = some r := H; have A28 := aM A280; clear A280; have HC29 := aM H; clear H; have hcz30_0 : wr.cell? ⟨gb222, 0, none⟩ = some (.int .i64 a0_0) := (blk_cell BK222.out 0).trans rfl; have hcz30_1 : wr.cell? ⟨gb222, 1, none⟩ = some (.slice A0_1 l0_1.length c0_1) := (blk_cell BK222.out 1).trans rfl; have hfz30_0 := blk_frozen BK222.out 0; have hfz30_1 := blk_frozen BK222.out 1; obtain ⟨Ao31, co31, eo31⟩ := Kd.N_slice HO_4.out; subst eo31
        go_upto_region 15 with (first | ((with_reducible refine gate_callee (f := 30) rfl ?_); refine goesL_ (some 55) rfl rfl Try.func30 (by kernel_rfl) rfl #[.int .i64 a0_0, .slice Ao31 x4_1.length co31] rfl zz87 ?_; (with_reducible refine (perm_Build.calls k1 a0_0 _ _ x4_1 t229 t230 t233 _ ?side1 ?side2 A28.out).mono ?_); (case side1 => repeat (first | exact (Kd.N_reads' HO_4.out).2.2 | (with_reducible refine Kd.C_alloc ?_ _) | (with_reducible refine Kd.C_drewN ?_ _) | (with_reducible refine Kd.C_drew ?_))); (case side2 => exact (Kd.N_reads' HO_4.out).2.1); rintro e w32 ⟨v231, rfl, ho0, hb⟩; refine ⟨_, rfl, ?_⟩; replace HO_25 := aM (Kd.V_elder' (zV HO_25) (Kd.N_base ho0) hb); replace HO_223001 := aM (Kd.V_elder' (zV HO_223001) (Kd.N_base ho0) hb); have HO232 := aM (Kd.N_lower (Kd.N_mono (ok' := fun k_ => (P0_1_ k_ ∨ w.heap.size ≤ k_) ∧ some k_ ≠ (.slice Ao31 x4_1.length co31 : Value).ownBlock ∧ k_ ≠ gb222) ho0 (fun k_ hk_ => ⟨(.inr (Nat.le_trans (below_size zz68) hk_)), (Kd.fresh' (Kd.N_lt (zN HO_4)) k_ hk_), (Kd.freshB (g := gb222) (o := .cells #[.int .i64 a0_0, .slice A0_1 l0_1.length c0_1] 46 (0, 0)) (zB BK222) k_ hk_)⟩)) (below_size zz68)); replace HO_4 := aM (Kd.N_elder' (zN HO_4) (Kd.N_base ho0) hb); replace BK222 := aM (blk_below (g := gb222) (o := .cells #[.int .i64 a0_0, .slice A0_1 l0_1.length c0_1] 46 (0, 0)) (zB BK222) hb); replace HB := aM (below_step zz68 hb); (try clear hb); (try clear hb2); (try clear hk); (try clear hi); (try clear ho0)) | ((with_reducible refine gate_dst (N := 7) rfl ?_); (try (refine gate_guard (by rfl) ?_; dsimp only)); refine box_event ?hg (N := 7) ?hd (cs := #[.int .i64 0, .slice none 0 0]) (t := 46) ?hr ?_; (case hd => rfl); (case hg => rfl); (case hr => first | (go_simp; done) | (go_simp; rfl)); intro gb234 hg w33 hbox hb; replace HO_4 := aM (Kd.N_below (Kd.N_elderB (zN HO_4) gb234 (Nat.le_of_eq hg.symm)) hb); replace HO_25 := aM (Kd.V_below (Kd.V_elderB (zV HO_25) gb234 (Nat.le_of_eq hg.symm)) hb); replace HO_223001 := aM (Kd.V_below (Kd.V_elderB (zV HO_223001) gb234 (Nat.le_of_eq hg.symm)) hb); replace HO232 := aM (Kd.N_below (Kd.N_elderB (zN HO232) gb234 (Nat.le_of_eq hg.symm)) hb); have BK234 := aM (hbox); have GW234 := aM ((by rw [hg]; exact (below_size zz68) : w.heap.size ≤ gb234)); have GE234 := aM ((by rw [hg]; exact (below_size zz68) : w.heap.size ≤ gb234)); replace HB := aM (below_step zz68 hb); have NB222_234 := aM ((by rw [hg]; exact Nat.ne_of_lt (blk_lt (g := gb222) (o := .cells #[.int .i64 a0_0, .slice A0_1 l0_1.length c0_1] 46 (0, 0)) (zB BK222)) : gb222 ≠ gb234)); have NB234_222 := aM ((by rw [hg]; exact Nat.ne_of_gt (blk_lt (g := gb222) (o := .cells #[.int .i64 a0_0, .slice A0_1 l0_1.length c0_1] 46 (0, 0)) (zB BK222)) : gb234 ≠ gb222)); replace BK222 := aM (blk_below (g := gb222) (o := .cells #[.int .i64 a0_0, .slice A0_1 l0_1.length c0_1] 46 (0, 0)) (zB BK222) hb); clear hb hbox hg; have hnb34 := NB234_222.out; have hnc34 := NB222_234.out; have hcz35_0 : w33.cell? ⟨gb234, 0, none⟩ = some (.int .i64 0) := (blk_cell BK234.out 0).trans rfl; have hcz35_1 : w33.cell? ⟨gb234, 1, none⟩ = some (.slice none 0 0) := (blk_cell BK234.out 1).trans rfl; have hfz35_0 := blk_frozen BK234.out 0; have hfz35_1 := blk_frozen BK234.out 1; obtain ⟨Ao36, co36, eo36⟩ := Kd.N_slice HO232.out; subst eo36))
        (try simp only [Act.put, List.setIfInBounds_toArray, List.set_cons_zero, List.set_cons_succ])
        go_cut [68] (fun v68 wc => ∃ (kq : Nat) (x68_28 : Bool), v68 = .bool x68_28 ∧ Aside0 (perm_CheckChain.j1 kq x68_28 a0_0 l0_1 t229 t230 = some r) ∧ Aside0 (kq ≤ k1) ∧ Aside0 (Kd.V k74 74 wc w.heap.size (fun k_ => (P0_1_ k_ ∨ w.heap.size ≤ k_) ∧ some k_ ≠ ((.slice Ao36 t230.length co36) : Value).ownBlock ∧ k_ ≠ gb222 ∧ k_ ≠ gb234) (.slice A0_1 l0_1.length c0_1) l0_1) ∧ Aside0 (Kd.N k74 74 wc w.heap.size (fun k_ => (P0_1_ k_ ∨ w.heap.size ≤ k_) ∧ k_ ≠ gb222 ∧ k_ ≠ gb234) (.slice Ao36 t230.length co36) t230) ∧ Aside0 (wc.heap[gb222]? = some (.cells #[.int .i64 a0_0, (.slice A0_1 l0_1.length c0_1)] 46 (0, 0))) ∧ Aside0 (wc.heap[gb234]? = some (.cells #[.int .i64 t229, (.slice Ao36 t230.length co36)] 46 (0, 0))) ∧ Aside0 (Below w.heap.size w wc))
        case first =>
          have H := HC29.out; clear HC29
          by_cases c37 : t233 = 0
          · rw [if_pos c37] at H; have c37b0 := beq_iff_eq.mpr c37; have c37b1 := bne_eq_false_iff_eq.mpr c37; clear c37
            (first | rw [c37b0] | (simp only [i64_w, i32_w]; rw [c37b0]) | skip)
            have H' := aM H; clear H; have hnb38 := NB234_222.out; have hnc38 := NB222_234.out; have hcz39_0 : w33.cell? ⟨gb234, 0, none⟩ = some (.int .i64 0) := (blk_cell BK234.out 0).trans rfl; have hcz39_1 : w33.cell? ⟨gb234, 1, none⟩ = some (.slice none 0 0) := (blk_cell BK234.out 1).trans rfl; have hfz39_0 := blk_frozen BK234.out 0; have hfz39_1 := blk_frozen BK234.out 1; have hcz40_0 : w33.cell? ⟨gb222, 0, none⟩ = some (.int .i64 a0_0) := (blk_cell BK222.out 0).trans rfl; have hcz40_1 : w33.cell? ⟨gb222, 1, none⟩ = some (.slice A0_1 l0_1.length c0_1) := (blk_cell BK222.out 1).trans rfl; have hfz40_0 := blk_frozen BK222.out 0; have hfz40_1 := blk_frozen BK222.out 1; go_wp2; go_meet
            case rel => exact ⟨_, (((t230.length : Int) != (l0_1.length : Int))), zz112, H', ⟨(by have := HK1.out; first | omega | exact Nat.le_refl _)⟩, ⟨by (with_reducible repeat (first | apply Kd.V_alloc | apply Kd.V_drewN | apply Kd.V_drew)); exact Kd.V_mono (Kd.V_far (p := ⟨gb234, 1, none⟩) (Kd.V_far (p := ⟨gb234, 0, none⟩) (Kd.V_mono HO_223001.out (fun k_ hk => (⟨hk, hk.2⟩ : _ ∧ k_ ≠ gb234))) (fun _ hk => hk.2) (.int .i64 t229)) (fun _ hk => hk.2) (.slice Ao36 t230.length co36)) (fun _ hk => ⟨hk.1.1.1.1, ⟨hk.1.1.2, ⟨hk.1.1.1.2.2, hk.1.2⟩⟩⟩)⟩, ⟨by (with_reducible repeat (first | apply Kd.N_alloc | apply Kd.N_drewN | apply Kd.N_drew)); exact Kd.N_mono (Kd.N_far (p := ⟨gb234, 1, none⟩) (Kd.N_far (p := ⟨gb234, 0, none⟩) (Kd.N_mono HO232.out (fun k_ hk => (⟨hk, hk.2⟩ : _ ∧ k_ ≠ gb234))) (fun _ hk => hk.2) (.int .i64 t229)) (fun _ hk => hk.2) (.slice Ao36 t230.length co36)) (fun _ hk => ⟨hk.1.1.1, ⟨hk.1.1.2.2, hk.1.2⟩⟩)⟩, ⟨(by (with_reducible repeat (first | refine blk_drewN ?_ _ | refine blk_drew ?_ | refine blk_alloc ?_ _)); refine blk_far ?_ NB222_234.out _; (with_reducible repeat (first | refine blk_drewN ?_ _ | refine blk_drew ?_ | refine blk_alloc ?_ _)); refine blk_far ?_ NB222_234.out _; (with_reducible repeat (first | refine blk_drewN ?_ _ | refine blk_drew ?_ | refine blk_alloc ?_ _)); exact BK222.out)⟩, ⟨(by (with_reducible repeat (first | refine blk_drewN ?_ _ | refine blk_drew ?_ | refine blk_alloc ?_ _)); refine blk_put (cs := #[.int .i64 t229, .slice none 0 0]) ?_ 1 _ rfl; (with_reducible repeat (first | refine blk_drewN ?_ _ | refine blk_drew ?_ | refine blk_alloc ?_ _)); refine blk_put (cs := #[.int .i64 0, .slice none 0 0]) ?_ 0 _ rfl; (with_reducible repeat (first | refine blk_drewN ?_ _ | refine blk_drew ?_ | refine blk_alloc ?_ _)); exact BK234.out)⟩, ⟨zz49⟩⟩
          rw [if_neg c37] at H; have c37b0 := beq_eq_false_iff_ne.mpr c37; have c37b1 := bne_iff_ne.mpr c37
          (first | rw [c37b0] | (simp only [i64_w, i32_w]; rw [c37b0]) | skip)
          exact absurd (H.trans (congrArg some HR_.out)) (by cases k1 <;> simp [perm_CheckChain.j1])
        case rest =>
          clear HC29; (try clear c1); (try clear c2); (try clear p2); (try clear q2); (try clear hx2); (try clear c3); (try clear c3b0); (try clear c3b1); (try clear c4); (try clear c4b0); (try clear c5); (try clear p6); (try clear c9); (try clear c9b0); (try clear c10); (try clear c10b0); (try clear c11); (try clear c11b0); (try clear c12); (try clear c12b0); (try clear c14); (try clear c17); (try clear c17b0); (try clear c17b1); (try clear c17b2); (try clear c18); (try clear c20); (try clear c22); (try clear p22); (try clear q22); (try clear hx22); (try clear c25); (try clear c30); (try clear c34); (try clear c36); (try clear c37); (try clear c37b0); (try clear c37b1); (try clear c38); (try clear hcz15_0); (try clear hcz15_1); (try clear hcz15_2); (try clear hcz16_0); (try clear hcz16_1); (try clear hcz21_0); (try clear hcz21_1); (try clear hcz21_2); (try clear hcz22_0); (try clear hcz22_1); (try clear hcz26_0); (try clear hcz26_1); (try clear hcz26_2); (try clear hcz27_0); (try clear hcz27_1); (try clear hcz30_0); (try clear hcz30_1); (try clear hcz35_0); (try clear hcz35_1); (try clear hcz39_0); (try clear hcz39_1); (try clear hcz40_0); (try clear hcz40_1); (try clear hcz6_0); (try clear hcz6_1); (try clear hcz8_0); (try clear hcz8_1); (try clear hfz15_0); (try clear hfz15_1); (try clear hfz15_2); (try clear hfz16_0); (try clear hfz16_1); (try clear hfz21_0); (try clear hfz21_1); (try clear hfz21_2); (try clear hfz22_0); (try clear hfz22_1); (try clear hfz26_0); (try clear hfz26_1); (try clear hfz26_2); (try clear hfz27_0); (try clear hfz27_1); (try clear hfz30_0); (try clear hfz30_1); (try clear hfz35_0); (try clear hfz35_1); (try clear hfz39_0); (try clear hfz39_1); (try clear hfz40_0); (try clear hfz40_1); (try clear hfz6_0); (try clear hfz6_1); (try clear hfz8_0); (try clear hfz8_1); (try clear hx224_0); (try clear hx224_1); (try clear hx224_2); (try clear p2); (try clear p224); (try clear q224); obtain ⟨kq, x68_28, rfl, HA, HJ28, HO_223001, HO_235001, BK222, BK234, HB⟩ := hcut
          cases kq with
          | zero => exact absurd HA.out (by simp [perm_CheckChain.j1])
          | succ kj28 =>
            have H := HA.out; clear HA; simp only [perm_CheckChain.j1] at H
            by_cases c41 : x68_28 = true
            · subst c41; have H1 : (some 5) = some r := by rw [if_pos rfl] at H; exact H
              clear H; have H := H1; clear H1
              exact absurd (Option.some.inj (H.trans (congrArg some HR_.out))) (by decide)
            replace c41 := Bool.eq_false_iff.mpr c41; subst c41; have H1 : (perm_CheckChain.l1 kj28 l0_1 (l0_1.length : Int) 0 t229 t230) = some r := by rw [if_neg (show ¬ (false = true) by decide)] at H; exact H
            clear H; have H := H1; clear H1; have H' := aM H; clear H; have hnb42 := NB222_234.out; have hnc42 := NB234_222.out; have hcz43_0 : wc.cell? ⟨gb222, 0, none⟩ = some (.int .i64 a0_0) := (blk_cell BK222.out 0).trans rfl; have hcz43_1 : wc.cell? ⟨gb222, 1, none⟩ = some (.slice A0_1 l0_1.length c0_1) := (blk_cell BK222.out 1).trans rfl; have hfz43_0 := blk_frozen BK222.out 0; have hfz43_1 := blk_frozen BK222.out 1; go_wp2
            go_loopg [72] kj28 (fun kq v72 w' => ∃ (x72_3 : Int), v72 = .int .i64 x72_3 ∧ Aside0 (perm_CheckChain.l1 kq l0_1 (l0_1.length : Int) x72_3 t229 t230 = some r) ∧ Aside0 (kq ≤ kj28) ∧ Aside0 (Kd.V k74 74 w' w.heap.size (fun k_ => (P0_1_ k_ ∨ w.heap.size ≤ k_) ∧ some k_ ≠ ((.slice Ao36 t230.length co36) : Value).ownBlock ∧ k_ ≠ gb222 ∧ k_ ≠ gb234) (.slice A0_1 l0_1.length c0_1) l0_1) ∧ Aside0 (Kd.V k74 74 w' w.heap.size (fun k_ => (P0_1_ k_ ∨ w.heap.size ≤ k_) ∧ some k_ ≠ ((.slice Ao36 t230.length co36) : Value).ownBlock ∧ k_ ≠ gb222 ∧ k_ ≠ gb234) (.slice A0_1 l0_1.length c0_1) l0_1) ∧ Aside0 (Kd.N k74 74 w' w.heap.size (fun k_ => (P0_1_ k_ ∨ w.heap.size ≤ k_) ∧ k_ ≠ gb222 ∧ k_ ≠ gb234) (.slice Ao36 t230.length co36) t230) ∧ Aside0 (w'.heap[gb222]? = some (.cells #[.int .i64 a0_0, (.slice A0_1 l0_1.length c0_1)] 46 (0, 0))) ∧ Aside0 (w'.heap[gb234]? = some (.cells #[.int .i64 t229, (.slice Ao36 t230.length co36)] 46 (0, 0))) ∧ Aside0 (Below w.heap.size w w'))
            case atStart => exact ⟨(0), zz112, H', ⟨Nat.le_refl _⟩, ⟨(zV HO_223001)⟩, ⟨(zV HO_223001)⟩, ⟨(zN HO_235001)⟩, ⟨(zB BK222)⟩, ⟨(zB BK234)⟩, ⟨zz49⟩⟩
            case round =>
              clear H'; (try clear c1); (try clear c2); (try clear p2); (try clear q2); (try clear hx2); (try clear c3); (try clear c3b0); (try clear c3b1); (try clear c4); (try clear c4b0); (try clear c5); (try clear p6); (try clear c9); (try clear c9b0); (try clear c10); (try clear c10b0); (try clear c11); (try clear c11b0); (try clear c12); (try clear c12b0); (try clear c14); (try clear c17); (try clear c17b0); (try clear c17b1); (try clear c17b2); (try clear c18); (try clear c20); (try clear c22); (try clear p22); (try clear q22); (try clear hx22); (try clear c25); (try clear c30); (try clear c34); (try clear c36); (try clear c37); (try clear c37b0); (try clear c37b1); (try clear c38); (try clear c41); (try clear c42); (try clear hcz15_0); (try clear hcz15_1); (try clear hcz15_2); (try clear hcz16_0); (try clear hcz16_1); (try clear hcz21_0); (try clear hcz21_1); (try clear hcz21_2); (try clear hcz22_0); (try clear hcz22_1); (try clear hcz26_0); (try clear hcz26_1); (try clear hcz26_2); (try clear hcz27_0); (try clear hcz27_1); (try clear hcz30_0); (try clear hcz30_1); (try clear hcz35_0); (try clear hcz35_1); (try clear hcz39_0); (try clear hcz39_1); (try clear hcz40_0); (try clear hcz40_1); (try clear hcz43_0); (try clear hcz43_1); (try clear hcz6_0); (try clear hcz6_1); (try clear hcz8_0); (try clear hcz8_1); (try clear hfz15_0); (try clear hfz15_1); (try clear hfz15_2); (try clear hfz16_0); (try clear hfz16_1); (try clear hfz21_0); (try clear hfz21_1); (try clear hfz21_2); (try clear hfz22_0); (try clear hfz22_1); (try clear hfz26_0); (try clear hfz26_1); (try clear hfz26_2); (try clear hfz27_0); (try clear hfz27_1); (try clear hfz30_0); (try clear hfz30_1); (try clear hfz35_0); (try clear hfz35_1); (try clear hfz39_0); (try clear hfz39_1); (try clear hfz40_0); (try clear hfz40_1); (try clear hfz43_0); (try clear hfz43_1); (try clear hfz6_0); (try clear hfz6_1); (try clear hfz8_0); (try clear hfz8_1); (try clear hx224_0); (try clear hx224_1); (try clear hx224_2); (try clear p2); (try clear p22); (try clear p224); (try clear p6); (try clear q2); (try clear q22); (try clear q224); obtain ⟨x72_3, rfl, HA, HK3, HO_70, HO_223001, HO_235001, BK222, BK234, HB⟩ := hrel
              cases gk with
              | zero => exact absurd HA.out (by simp [perm_CheckChain.l1])
              | succ k3 =>
                have H := HA.out; clear HA; simp only [perm_CheckChain.l1] at H
                by_cases c44 : x72_3 < (l0_1.length : Int)
                · rw [if_pos c44] at H; have c44b0 := decide_eq_true c44; clear c44
                  by_cases c45 : 0 ≤ x72_3
                  · rw [if_pos c45] at H; have c45b0 := decide_eq_true c45; clear c45
                    by_cases c46 : x72_3 < (l0_1.length : Int)
                    · rw [if_pos c46] at H; have c46b0 := decide_eq_true c46; clear c46
                      by_cases c47 : x72_3 < (t230.length : Int)
                      · rw [if_pos c47] at H; have c47b0 := decide_eq_true c47; clear c47
                        by_cases c48 : ((rd_T74 l0_1 x72_3).f0) = ((rd_T74 t230 x72_3).f0)
                        · rw [if_pos c48] at H; have c48b0 := beq_iff_eq.mpr c48; have c48b1 := bne_eq_false_iff_eq.mpr c48; clear c48; replace H := Option.bind_eq_some_iff.mp H; obtain ⟨t239, A490, H⟩ := H; replace H : (if t239 = true then ((slEqF.f ((rd_T74 l0_1 x72_3).f2) ((rd_T74 t230 x72_3).f2)).bind fun t240 => (if t240 = true then (perm_CheckChain.l1 k3 l0_1 (l0_1.length : Int) (wrap64 (x72_3 + 1)) t229 t230) else (some 5))) else (some 5)) = some r := H; have A49 := aM A490; clear A490
                          by_cases c50 : t239 = true
                          · subst c50; have H1 : ((slEqF.f ((rd_T74 l0_1 x72_3).f2) ((rd_T74 t230 x72_3).f2)).bind fun t240 => (if t240 = true then (perm_CheckChain.l1 k3 l0_1 (l0_1.length : Int) (wrap64 (x72_3 + 1)) t229 t230) else (some 5))) = some r := by rw [if_pos rfl] at H; exact H
                            clear H; have H := H1; clear H1; replace H := Option.bind_eq_some_iff.mp H; obtain ⟨t240, A510, H⟩ := H; replace H : (if t240 = true then (perm_CheckChain.l1 k3 l0_1 (l0_1.length : Int) (wrap64 (x72_3 + 1)) t229 t230) else (some 5)) = some r := H; have A51 := aM A510; clear A510
                            by_cases c52 : t240 = true
                            · subst c52; have H1 : (perm_CheckChain.l1 k3 l0_1 (l0_1.length : Int) (wrap64 (x72_3 + 1)) t229 t230) = some r := by rw [if_pos rfl] at H; exact H
                              clear H; have H := H1; clear H1; have H' := aM H; clear H; have p235 : 0 ≤ (x72_3 : Int) := of_decide_eq_true zz111; have q235 : x72_3 < (l0_1.length : Int) := of_decide_eq_true zz111; obtain ⟨ad235, A235_1, c235_1, A235_2, c235_2, e235, hx235_0, hx235_1, hx235_2, hl235_1, hi235_1, hl235_2, hi235_2⟩ := at_T74 (Kd.V_reads' HO_70.out).2.2 x72_3 p235 q235
                              cases e235; obtain ⟨ce235, hce235, hMe235, hcc235⟩ := Kd.V_get HO_70.out z74 x72_3 p235 (by first | exact q235 | exact of_decide_eq_true zz111 | (have e_ := (Kd.V_reads' HO_70.out).1; omega)); obtain ⟨ua235_1, uc235_1, ua235_2, uc235_2, rfl, ul235_1, ge235_1, ul235_2, ge235_2⟩ := k74_openF hMe235; have hv235_1 := hcc235 1 _ rfl; rw [add_field _ _ 1 (by omega)] at hv235_1; replace hv235_1 := Option.some.inj (hv235_1.symm.trans hx235_1); injection hv235_1 with hva_ hvn_ hvc_
                              rw [hva_] at ge235_1; rw [hvc_] at ul235_1; have HL235_1 := aM (show Kd.V (Kd.int .i64) 3 _ w.heap.size _ _ ((rd_T74 l0_1 x72_3).f1) from Kd.V_mk ul235_1 ge235_1); clear hva_ hvn_ hvc_ ge235_1 ul235_1; have hv235_2 := hcc235 2 _ rfl; rw [add_field _ _ 2 (by omega)] at hv235_2; replace hv235_2 := Option.some.inj (hv235_2.symm.trans hx235_2); injection hv235_2 with hva_ hvn_ hvc_
                              rw [hva_] at ge235_2; rw [hvc_] at ul235_2; have HL235_2 := aM (show Kd.V (Kd.slice 3 (Kd.int .i64)) 22 _ w.heap.size _ _ ((rd_T74 l0_1 x72_3).f2) from Kd.V_mk ul235_2 ge235_2); clear hva_ hvn_ hvc_ ge235_2 ul235_2; clear hcc235 hce235; have HR235_1 := aM hi235_1; have HC235_1 := aM hl235_1; clear hi235_1 hl235_1; have HR235_2 := aM hi235_2; have HC235_2 := aM hl235_2; clear hi235_2 hl235_2; replace p235 := eq_true p235; replace q235 := eq_true q235
                              go_wp2_with (first | ((with_reducible refine gate_dst (N := 10) rfl ?_); (try (refine gate_guard (by rfl) ?_; dsimp only)); refine box_event ?hg (N := 10) ?hd (cs := #[.int .i64 0, .slice none 0 0, .slice none 0 0]) (t := 74) ?hr ?_; (case hd => rfl); (case hg => rfl); (case hr => first | (go_simp; done) | (go_simp; rfl)); intro gb236 hg w53 hbox hb; replace HO_70 := aM (Kd.V_below (Kd.V_elderB (zV HO_70) gb236 (Nat.le_of_eq hg.symm)) hb); replace HO_223001 := aM (Kd.V_below (Kd.V_elderB (zV HO_223001) gb236 (Nat.le_of_eq hg.symm)) hb); replace HO_235001 := aM (Kd.N_below (Kd.N_elderB (zN HO_235001) gb236 (Nat.le_of_eq hg.symm)) hb); replace HR235_1 := aM (Kd.C_below zz40 hb); replace HL235_1 := aM (Kd.V_below (Kd.V_elderB (zV HL235_1) gb236 (Nat.le_of_eq hg.symm)) hb); replace HR235_2 := aM (Kd.C_below zz41 hb); replace HL235_2 := aM (Kd.V_below (Kd.V_elderB (zV HL235_2) gb236 (Nat.le_of_eq hg.symm)) hb); have BK236 := aM (hbox); have GW236 := aM ((by rw [hg]; exact (below_size zz49) : w.heap.size ≤ gb236)); have GE236 := aM ((by rw [hg]; exact (below_size zz49) : w.heap.size ≤ gb236)); replace HB := aM (below_step zz49 hb); have NB222_236 := aM ((by rw [hg]; exact Nat.ne_of_lt (blk_lt (g := gb222) (o := .cells #[.int .i64 a0_0, .slice (some ad235) l0_1.length c0_1] 46 (0, 0)) (zB BK222)) : gb222 ≠ gb236)); have NB236_222 := aM ((by rw [hg]; exact Nat.ne_of_gt (blk_lt (g := gb222) (o := .cells #[.int .i64 a0_0, .slice (some ad235) l0_1.length c0_1] 46 (0, 0)) (zB BK222)) : gb236 ≠ gb222)); replace BK222 := aM (blk_below (g := gb222) (o := .cells #[.int .i64 a0_0, .slice (some ad235) l0_1.length c0_1] 46 (0, 0)) (zB BK222) hb); have NB234_236 := aM ((by rw [hg]; exact Nat.ne_of_lt (blk_lt (g := gb234) (o := .cells #[.int .i64 t229, .slice Ao36 t230.length co36] 46 (0, 0)) (zB BK234)) : gb234 ≠ gb236)); have NB236_234 := aM ((by rw [hg]; exact Nat.ne_of_gt (blk_lt (g := gb234) (o := .cells #[.int .i64 t229, .slice Ao36 t230.length co36] 46 (0, 0)) (zB BK234)) : gb236 ≠ gb234)); replace BK234 := aM (blk_below (g := gb234) (o := .cells #[.int .i64 t229, .slice Ao36 t230.length co36] 46 (0, 0)) (zB BK234) hb); clear hb hbox hg; have hnb54 := NB236_222.out; have hnc54 := NB222_236.out; have hnb55 := NB236_234.out; have hnc55 := NB234_236.out; have hcz56_0 : w53.cell? ⟨gb236, 0, none⟩ = some (.int .i64 0) := (blk_cell BK236.out 0).trans rfl; have hcz56_1 : w53.cell? ⟨gb236, 1, none⟩ = some (.slice none 0 0) := (blk_cell BK236.out 1).trans rfl; have hcz56_2 : w53.cell? ⟨gb236, 2, none⟩ = some (.slice none 0 0) := (blk_cell BK236.out 2).trans rfl; have hfz56_0 := blk_frozen BK236.out 0; have hfz56_1 := blk_frozen BK236.out 1; have hfz56_2 := blk_frozen BK236.out 2) | ((with_reducible refine gate_store (t := 74) (p := 10) rfl ?_); refine store_event (t := 74) (p := 10) (v := ?vo_w57) (w1 := (((w53.setCell ⟨gb236, 0, none⟩ (.int .i64 ((rd_T74 l0_1 x72_3).f0))).setCell ⟨gb236, 1, none⟩ (.slice A235_1 ((rd_T74 l0_1 x72_3).f1).length c235_1)).setCell ⟨gb236, 2, none⟩ (.slice A235_2 ((rd_T74 l0_1 x72_3).f2).length c235_2))) ?hg ?ho ?hn ?hr ?_; (case ho => rfl); (case hg => rfl); (case hn => rfl); (case hr => first | (go_simp; done) | (go_simp; rfl)); intro w57 hw; have n0_ : Aside0 (Kd.V k74 74 w57 w.heap.size (fun k_ => (P0_1_ k_ ∨ w.heap.size ≤ k_) ∧ some k_ ≠ (.slice Ao36 t230.length co36 : Value).ownBlock ∧ k_ ≠ gb222 ∧ k_ ≠ gb234 ∧ k_ ≠ gb236) (.slice (some ad235) l0_1.length c0_1) l0_1) := ⟨(by rw [hw]; exact (by (with_reducible repeat (first | apply Kd.V_alloc | apply Kd.V_drewN | apply Kd.V_drew)); exact Kd.V_mono (Kd.V_far (p := ⟨gb236, 2, none⟩) (Kd.V_far (p := ⟨gb236, 1, none⟩) (Kd.V_far (p := ⟨gb236, 0, none⟩) (Kd.V_mono HO_70.out (fun k_ hk => (⟨hk, hk.2⟩ : _ ∧ k_ ≠ gb236))) (fun _ hk => hk.2) (.int .i64 ((rd_T74 l0_1 x72_3).f0))) (fun _ hk => hk.2) (.slice A235_1 ((rd_T74 l0_1 x72_3).f1).length c235_1)) (fun _ hk => hk.2) (.slice A235_2 ((rd_T74 l0_1 x72_3).f2).length c235_2)) (fun _ hk => ⟨hk.1.1.1, ⟨hk.1.1.2.1, ⟨hk.1.1.2.2.1, ⟨hk.1.1.2.2.2, hk.1.2⟩⟩⟩⟩)))⟩; have n1_ : Aside0 (Kd.V k74 74 w57 w.heap.size (fun k_ => (P0_1_ k_ ∨ w.heap.size ≤ k_) ∧ some k_ ≠ (.slice Ao36 t230.length co36 : Value).ownBlock ∧ k_ ≠ gb222 ∧ k_ ≠ gb234 ∧ k_ ≠ gb236) (.slice (some ad235) l0_1.length c0_1) l0_1) := ⟨(by rw [hw]; exact (by (with_reducible repeat (first | apply Kd.V_alloc | apply Kd.V_drewN | apply Kd.V_drew)); exact Kd.V_mono (Kd.V_far (p := ⟨gb236, 2, none⟩) (Kd.V_far (p := ⟨gb236, 1, none⟩) (Kd.V_far (p := ⟨gb236, 0, none⟩) (Kd.V_mono HO_223001.out (fun k_ hk => (⟨hk, hk.2⟩ : _ ∧ k_ ≠ gb236))) (fun _ hk => hk.2) (.int .i64 ((rd_T74 l0_1 x72_3).f0))) (fun _ hk => hk.2) (.slice A235_1 ((rd_T74 l0_1 x72_3).f1).length c235_1)) (fun _ hk => hk.2) (.slice A235_2 ((rd_T74 l0_1 x72_3).f2).length c235_2)) (fun _ hk => ⟨hk.1.1.1, ⟨hk.1.1.2.1, ⟨hk.1.1.2.2.1, ⟨hk.1.1.2.2.2, hk.1.2⟩⟩⟩⟩)))⟩; have n2_ : Aside0 (Kd.N k74 74 w57 w.heap.size (fun k_ => (P0_1_ k_ ∨ w.heap.size ≤ k_) ∧ k_ ≠ gb222 ∧ k_ ≠ gb234 ∧ k_ ≠ gb236) (.slice Ao36 t230.length co36) t230) := ⟨(by rw [hw]; exact (by (with_reducible repeat (first | apply Kd.N_alloc | apply Kd.N_drewN | apply Kd.N_drew)); exact Kd.N_mono (Kd.N_far (p := ⟨gb236, 2, none⟩) (Kd.N_far (p := ⟨gb236, 1, none⟩) (Kd.N_far (p := ⟨gb236, 0, none⟩) (Kd.N_mono HO_235001.out (fun k_ hk => (⟨hk, hk.2⟩ : _ ∧ k_ ≠ gb236))) (fun _ hk => hk.2) (.int .i64 ((rd_T74 l0_1 x72_3).f0))) (fun _ hk => hk.2) (.slice A235_1 ((rd_T74 l0_1 x72_3).f1).length c235_1)) (fun _ hk => hk.2) (.slice A235_2 ((rd_T74 l0_1 x72_3).f2).length c235_2)) (fun _ hk => ⟨hk.1.1.1, ⟨hk.1.1.2.1, ⟨hk.1.1.2.2, hk.1.2⟩⟩⟩)))⟩; have n3_ : Aside0 (Kd.V (Kd.int .i64) 3 w57 w.heap.size (fun k_ => (P0_1_ k_ ∨ w.heap.size ≤ k_) ∧ some k_ ≠ (.slice Ao36 t230.length co36 : Value).ownBlock ∧ k_ ≠ gb222 ∧ k_ ≠ gb234 ∧ k_ ≠ gb236) (.slice A235_1 ((rd_T74 l0_1 x72_3).f1).length c235_1) ((rd_T74 l0_1 x72_3).f1)) := ⟨(by rw [hw]; exact (by (with_reducible repeat (first | apply Kd.V_alloc | apply Kd.V_drewN | apply Kd.V_drew)); exact Kd.V_mono (Kd.V_far (p := ⟨gb236, 2, none⟩) (Kd.V_far (p := ⟨gb236, 1, none⟩) (Kd.V_far (p := ⟨gb236, 0, none⟩) (Kd.V_mono HL235_1.out (fun k_ hk => (⟨hk, hk.2⟩ : _ ∧ k_ ≠ gb236))) (fun _ hk => hk.2) (.int .i64 ((rd_T74 l0_1 x72_3).f0))) (fun _ hk => hk.2) (.slice A235_1 ((rd_T74 l0_1 x72_3).f1).length c235_1)) (fun _ hk => hk.2) (.slice A235_2 ((rd_T74 l0_1 x72_3).f2).length c235_2)) (fun _ hk => ⟨hk.1.1.1, ⟨hk.1.1.2.1, ⟨hk.1.1.2.2.1, ⟨hk.1.1.2.2.2, hk.1.2⟩⟩⟩⟩)))⟩; have n4_ : Aside0 (Kd.V (Kd.slice 3 (Kd.int .i64)) 22 w57 w.heap.size (fun k_ => (P0_1_ k_ ∨ w.heap.size ≤ k_) ∧ some k_ ≠ (.slice Ao36 t230.length co36 : Value).ownBlock ∧ k_ ≠ gb222 ∧ k_ ≠ gb234 ∧ k_ ≠ gb236) (.slice A235_2 ((rd_T74 l0_1 x72_3).f2).length c235_2) ((rd_T74 l0_1 x72_3).f2)) := ⟨(by rw [hw]; exact (by (with_reducible repeat (first | apply Kd.V_alloc | apply Kd.V_drewN | apply Kd.V_drew)); exact Kd.V_mono (Kd.V_far (p := ⟨gb236, 2, none⟩) (Kd.V_far (p := ⟨gb236, 1, none⟩) (Kd.V_far (p := ⟨gb236, 0, none⟩) (Kd.V_mono HL235_2.out (fun k_ hk => (⟨hk, hk.2⟩ : _ ∧ k_ ≠ gb236))) (fun _ hk => hk.2) (.int .i64 ((rd_T74 l0_1 x72_3).f0))) (fun _ hk => hk.2) (.slice A235_1 ((rd_T74 l0_1 x72_3).f1).length c235_1)) (fun _ hk => hk.2) (.slice A235_2 ((rd_T74 l0_1 x72_3).f2).length c235_2)) (fun _ hk => ⟨hk.1.1.1, ⟨hk.1.1.2.1, ⟨hk.1.1.2.2.1, ⟨hk.1.1.2.2.2, hk.1.2⟩⟩⟩⟩)))⟩; have n5_ : Aside0 (w57.heap[gb222]? = some (.cells #[.int .i64 a0_0, .slice (some ad235) l0_1.length c0_1] 46 (0, 0))) := ⟨(by rw [hw]; exact (by (with_reducible repeat (first | refine blk_drewN ?_ _ | refine blk_drew ?_ | refine blk_alloc ?_ _)); refine blk_far ?_ NB222_236.out _; (with_reducible repeat (first | refine blk_drewN ?_ _ | refine blk_drew ?_ | refine blk_alloc ?_ _)); refine blk_far ?_ NB222_236.out _; (with_reducible repeat (first | refine blk_drewN ?_ _ | refine blk_drew ?_ | refine blk_alloc ?_ _)); refine blk_far ?_ NB222_236.out _; (with_reducible repeat (first | refine blk_drewN ?_ _ | refine blk_drew ?_ | refine blk_alloc ?_ _)); exact BK222.out))⟩; have n6_ : Aside0 (w57.heap[gb234]? = some (.cells #[.int .i64 t229, .slice Ao36 t230.length co36] 46 (0, 0))) := ⟨(by rw [hw]; exact (by (with_reducible repeat (first | refine blk_drewN ?_ _ | refine blk_drew ?_ | refine blk_alloc ?_ _)); refine blk_far ?_ NB234_236.out _; (with_reducible repeat (first | refine blk_drewN ?_ _ | refine blk_drew ?_ | refine blk_alloc ?_ _)); refine blk_far ?_ NB234_236.out _; (with_reducible repeat (first | refine blk_drewN ?_ _ | refine blk_drew ?_ | refine blk_alloc ?_ _)); refine blk_far ?_ NB234_236.out _; (with_reducible repeat (first | refine blk_drewN ?_ _ | refine blk_drew ?_ | refine blk_alloc ?_ _)); exact BK234.out))⟩; have n7_ : Aside0 (w57.heap[gb236]? = some (.cells #[.int .i64 ((rd_T74 l0_1 x72_3).f0), .slice A235_1 ((rd_T74 l0_1 x72_3).f1).length c235_1, .slice A235_2 ((rd_T74 l0_1 x72_3).f2).length c235_2] 74 (0, 0))) := ⟨(by rw [hw]; exact (by (with_reducible repeat (first | refine blk_drewN ?_ _ | refine blk_drew ?_ | refine blk_alloc ?_ _)); refine blk_put (cs := #[.int .i64 ((rd_T74 l0_1 x72_3).f0), .slice A235_1 ((rd_T74 l0_1 x72_3).f1).length c235_1, .slice none 0 0]) ?_ 2 _ rfl; (with_reducible repeat (first | refine blk_drewN ?_ _ | refine blk_drew ?_ | refine blk_alloc ?_ _)); refine blk_put (cs := #[.int .i64 ((rd_T74 l0_1 x72_3).f0), .slice none 0 0, .slice none 0 0]) ?_ 1 _ rfl; (with_reducible repeat (first | refine blk_drewN ?_ _ | refine blk_drew ?_ | refine blk_alloc ?_ _)); refine blk_put (cs := #[.int .i64 0, .slice none 0 0, .slice none 0 0]) ?_ 0 _ rfl; (with_reducible repeat (first | refine blk_drewN ?_ _ | refine blk_drew ?_ | refine blk_alloc ?_ _)); exact BK236.out))⟩; have n8_ : Aside0 (Below w.heap.size w w57) := ⟨(by rw [hw]; exact zz43)⟩; clear hw; clear HO_70; clear HO_223001; clear HO_235001; clear HL235_1; clear HL235_2; clear BK222; clear BK234; clear BK236; clear HB; have HO_70 := n0_; have HO_223001 := n1_; have HO_235001 := n2_; have HL235_1 := n3_; have HL235_2 := n4_; have BK222 := n5_; have BK234 := n6_; have BK236 := n7_; have HB := n8_; clear n0_ n1_ n2_ n3_ n4_ n5_ n6_ n7_ n8_; have hnb58 := NB234_222.out; have hnc58 := NB222_234.out; have hcz59_0 : w57.cell? ⟨gb234, 0, none⟩ = some (.int .i64 t229) := (blk_cell BK234.out 0).trans rfl; have hcz59_1 : w57.cell? ⟨gb234, 1, none⟩ = some (.slice Ao36 t230.length co36) := (blk_cell BK234.out 1).trans rfl; have hfz59_0 := blk_frozen BK234.out 0; have hfz59_1 := blk_frozen BK234.out 1; have p237 : 0 ≤ (x72_3 : Int) := of_decide_eq_true zz111; have q237 : x72_3 < (t230.length : Int) := of_decide_eq_true zz111; obtain ⟨ad237, A237_1, c237_1, A237_2, c237_2, e237, hx237_0, hx237_1, hx237_2, hl237_1, hi237_1, hl237_2, hi237_2⟩ := at_T74 (Kd.N_reads' HO_235001.out).2.2 x72_3 p237 q237; cases e237; obtain ⟨ce237, hce237, hMe237, hcc237⟩ := Kd.N_get HO_235001.out z74 x72_3 p237 (by first | exact q237 | exact of_decide_eq_true zz111 | (have e_ := (Kd.N_reads' HO_235001.out).1; omega)); obtain ⟨ua237_1, uc237_1, ua237_2, uc237_2, rfl, ul237_1, ge237_1, ul237_2, ge237_2⟩ := k74_openF hMe237; have hv237_1 := hcc237 1 _ rfl; rw [add_field _ _ 1 (by omega)] at hv237_1; replace hv237_1 := Option.some.inj (hv237_1.symm.trans hx237_1); injection hv237_1 with hva_ hvn_ hvc_; rw [hva_] at ge237_1; rw [hvc_] at ul237_1; have HL237_1 := aM (show Kd.V (Kd.int .i64) 3 _ w.heap.size _ _ ((rd_T74 t230 x72_3).f1) from Kd.V_mk ul237_1 ge237_1); clear hva_ hvn_ hvc_ ge237_1 ul237_1; have hv237_2 := hcc237 2 _ rfl; rw [add_field _ _ 2 (by omega)] at hv237_2; replace hv237_2 := Option.some.inj (hv237_2.symm.trans hx237_2); injection hv237_2 with hva_ hvn_ hvc_; rw [hva_] at ge237_2; rw [hvc_] at ul237_2; have HL237_2 := aM (show Kd.V (Kd.slice 3 (Kd.int .i64)) 22 _ w.heap.size _ _ ((rd_T74 t230 x72_3).f2) from Kd.V_mk ul237_2 ge237_2); clear hva_ hvn_ hvc_ ge237_2 ul237_2; clear hcc237 hce237; have HR237_1 := aM hi237_1; have HC237_1 := aM hl237_1; clear hi237_1 hl237_1; have HR237_2 := aM hi237_2; have HC237_2 := aM hl237_2; clear hi237_2 hl237_2; replace p237 := eq_true p237; replace q237 := eq_true q237) | ((with_reducible refine gate_dst (N := 11) rfl ?_); (try (refine gate_guard (by rfl) ?_; dsimp only)); refine box_event ?hg (N := 11) ?hd (cs := #[.int .i64 0, .slice none 0 0, .slice none 0 0]) (t := 74) ?hr ?_; (case hd => rfl); (case hg => rfl); (case hr => first | (go_simp; done) | (go_simp; rfl)); intro gb238 hg w60 hbox hb; replace HO_70 := aM (Kd.V_below (Kd.V_elderB (zV HO_70) gb238 (Nat.le_of_eq hg.symm)) hb); replace HO_223001 := aM (Kd.V_below (Kd.V_elderB (zV HO_223001) gb238 (Nat.le_of_eq hg.symm)) hb); replace HO_235001 := aM (Kd.N_below (Kd.N_elderB (zN HO_235001) gb238 (Nat.le_of_eq hg.symm)) hb); replace HR235_1 := aM (Kd.C_below zz40 hb); replace HL235_1 := aM (Kd.V_below (Kd.V_elderB (zV HL235_1) gb238 (Nat.le_of_eq hg.symm)) hb); replace HR235_2 := aM (Kd.C_below zz41 hb); replace HL235_2 := aM (Kd.V_below (Kd.V_elderB (zV HL235_2) gb238 (Nat.le_of_eq hg.symm)) hb); replace HR237_1 := aM (Kd.C_below (by first | exact (Kd.V_reads' HL237_1.out).2.2 | (repeat (first | (with_reducible exact HR237_1.out) | (with_reducible refine Kd.C_alloc ?_ _) | (with_reducible refine Kd.C_drewN ?_ _) | (with_reducible refine Kd.C_drew ?_) | exact HR237_1.out))) hb); replace HL237_1 := aM (Kd.V_below (Kd.V_elderB (zV HL237_1) gb238 (Nat.le_of_eq hg.symm)) hb); replace HR237_2 := aM (Kd.C_below (by first | exact (Kd.V_reads' HL237_2.out).2.2 | (repeat (first | (with_reducible exact HR237_2.out) | (with_reducible refine Kd.C_alloc ?_ _) | (with_reducible refine Kd.C_drewN ?_ _) | (with_reducible refine Kd.C_drew ?_) | exact HR237_2.out))) hb); replace HL237_2 := aM (Kd.V_below (Kd.V_elderB (zV HL237_2) gb238 (Nat.le_of_eq hg.symm)) hb); have BK238 := aM (hbox); have GW238 := aM ((by rw [hg]; exact (below_size zz43) : w.heap.size ≤ gb238)); have GE238 := aM ((by rw [hg]; exact (below_size zz43) : w.heap.size ≤ gb238)); replace HB := aM (below_step zz43 hb); have NB222_238 := aM ((by rw [hg]; exact Nat.ne_of_lt (blk_lt (g := gb222) (o := .cells #[.int .i64 a0_0, .slice (some ad235) l0_1.length c0_1] 46 (0, 0)) (zB BK222)) : gb222 ≠ gb238)); have NB238_222 := aM ((by rw [hg]; exact Nat.ne_of_gt (blk_lt (g := gb222) (o := .cells #[.int .i64 a0_0, .slice (some ad235) l0_1.length c0_1] 46 (0, 0)) (zB BK222)) : gb238 ≠ gb222)); replace BK222 := aM (blk_below (g := gb222) (o := .cells #[.int .i64 a0_0, .slice (some ad235) l0_1.length c0_1] 46 (0, 0)) (zB BK222) hb); have NB234_238 := aM ((by rw [hg]; exact Nat.ne_of_lt (blk_lt (g := gb234) (o := .cells #[.int .i64 t229, .slice (some ad237) t230.length co36] 46 (0, 0)) (zB BK234)) : gb234 ≠ gb238)); have NB238_234 := aM ((by rw [hg]; exact Nat.ne_of_gt (blk_lt (g := gb234) (o := .cells #[.int .i64 t229, .slice (some ad237) t230.length co36] 46 (0, 0)) (zB BK234)) : gb238 ≠ gb234)); replace BK234 := aM (blk_below (g := gb234) (o := .cells #[.int .i64 t229, .slice (some ad237) t230.length co36] 46 (0, 0)) (zB BK234) hb); have NB236_238 := aM ((by rw [hg]; exact Nat.ne_of_lt (blk_lt (g := gb236) (o := .cells #[.int .i64 ((rd_T74 l0_1 x72_3).f0), .slice A235_1 ((rd_T74 l0_1 x72_3).f1).length c235_1, .slice A235_2 ((rd_T74 l0_1 x72_3).f2).length c235_2] 74 (0, 0)) (zB BK236)) : gb236 ≠ gb238)); have NB238_236 := aM ((by rw [hg]; exact Nat.ne_of_gt (blk_lt (g := gb236) (o := .cells #[.int .i64 ((rd_T74 l0_1 x72_3).f0), .slice A235_1 ((rd_T74 l0_1 x72_3).f1).length c235_1, .slice A235_2 ((rd_T74 l0_1 x72_3).f2).length c235_2] 74 (0, 0)) (zB BK236)) : gb238 ≠ gb236)); replace BK236 := aM (blk_below (g := gb236) (o := .cells #[.int .i64 ((rd_T74 l0_1 x72_3).f0), .slice A235_1 ((rd_T74 l0_1 x72_3).f1).length c235_1, .slice A235_2 ((rd_T74 l0_1 x72_3).f2).length c235_2] 74 (0, 0)) (zB BK236) hb); clear hb hbox hg; have hnb61 := NB238_222.out; have hnc61 := NB222_238.out; have hnb62 := NB238_234.out; have hnc62 := NB234_238.out; have hnb63 := NB238_236.out; have hnc63 := NB236_238.out; have hcz64_0 : w60.cell? ⟨gb238, 0, none⟩ = some (.int .i64 0) := (blk_cell BK238.out 0).trans rfl; have hcz64_1 : w60.cell? ⟨gb238, 1, none⟩ = some (.slice none 0 0) := (blk_cell BK238.out 1).trans rfl; have hcz64_2 : w60.cell? ⟨gb238, 2, none⟩ = some (.slice none 0 0) := (blk_cell BK238.out 2).trans rfl; have hfz64_0 := blk_frozen BK238.out 0; have hfz64_1 := blk_frozen BK238.out 1; have hfz64_2 := blk_frozen BK238.out 2; have hcz65_0 : w60.cell? ⟨gb236, 0, none⟩ = some (.int .i64 ((rd_T74 l0_1 x72_3).f0)) := (blk_cell BK236.out 0).trans rfl; have hcz65_1 : w60.cell? ⟨gb236, 1, none⟩ = some (.slice A235_1 ((rd_T74 l0_1 x72_3).f1).length c235_1) := (blk_cell BK236.out 1).trans rfl; have hcz65_2 : w60.cell? ⟨gb236, 2, none⟩ = some (.slice A235_2 ((rd_T74 l0_1 x72_3).f2).length c235_2) := (blk_cell BK236.out 2).trans rfl; have hfz65_0 := blk_frozen BK236.out 0; have hfz65_1 := blk_frozen BK236.out 1; have hfz65_2 := blk_frozen BK236.out 2) | (go_at_call 65; (with_reducible refine (slEq.calls k3 _ _ ((rd_T74 l0_1 x72_3).f1) _ _ ((rd_T74 t230 x72_3).f1) true _ ?side1 ?side2 ?side3 ?side4 A49.out).mono ?_); (case side1 => repeat (first | exact ((Kd.V_reads' (by (with_reducible repeat (first | apply Kd.V_alloc | apply Kd.V_drewN | apply Kd.V_drew)); exact (Kd.V_mono (Kd.V_far (p := ⟨gb238, 2, none⟩) (Kd.V_far (p := ⟨gb238, 1, none⟩) (Kd.V_far (p := ⟨gb238, 0, none⟩) (Kd.V_mono HL235_1.out (fun k_ hk => (⟨hk, hk.2⟩ : _ ∧ k_ ≠ gb238))) (fun _ hk => hk.2) (.int .i64 ((rd_T74 t230 x72_3).f0))) (fun _ hk => hk.2) (.slice A237_1 ((rd_T74 t230 x72_3).f1).length c237_1)) (fun _ hk => hk.2) (.slice A237_2 ((rd_T74 t230 x72_3).f2).length c237_2)) (fun _ h_ => h_.1)))).2.2) | (with_reducible refine Kd.C_alloc ?_ _) | (with_reducible refine Kd.C_drewN ?_ _) | (with_reducible refine Kd.C_drew ?_))); (case side2 => exact HC235_1.out); (case side3 => repeat (first | exact ((Kd.V_reads' (by (with_reducible repeat (first | apply Kd.V_alloc | apply Kd.V_drewN | apply Kd.V_drew)); exact (Kd.V_mono (Kd.V_far (p := ⟨gb238, 2, none⟩) (Kd.V_far (p := ⟨gb238, 1, none⟩) (Kd.V_far (p := ⟨gb238, 0, none⟩) (Kd.V_mono HL237_1.out (fun k_ hk => (⟨hk, hk.2⟩ : _ ∧ k_ ≠ gb238))) (fun _ hk => hk.2) (.int .i64 ((rd_T74 t230 x72_3).f0))) (fun _ hk => hk.2) (.slice A237_1 ((rd_T74 t230 x72_3).f1).length c237_1)) (fun _ hk => hk.2) (.slice A237_2 ((rd_T74 t230 x72_3).f2).length c237_2)) (fun _ h_ => h_.1)))).2.2) | (with_reducible refine Kd.C_alloc ?_ _) | (with_reducible refine Kd.C_drewN ?_ _) | (with_reducible refine Kd.C_drew ?_))); (case side4 => exact HC237_1.out); rintro e w' ⟨rfl, ⟨nd, rfl⟩⟩) | (go_at_call 66; (with_reducible refine (slEqF.calls _ _ ((rd_T74 l0_1 x72_3).f2) _ _ ((rd_T74 t230 x72_3).f2) true _ ?side1 ?side2 ?side3 ?side4 A51.out).mono ?_); (case side1 => repeat (first | exact ((Kd.V_reads' (by (with_reducible repeat (first | apply Kd.V_alloc | apply Kd.V_drewN | apply Kd.V_drew)); exact (Kd.V_mono (Kd.V_far (p := ⟨gb238, 2, none⟩) (Kd.V_far (p := ⟨gb238, 1, none⟩) (Kd.V_far (p := ⟨gb238, 0, none⟩) (Kd.V_mono HL235_2.out (fun k_ hk => (⟨hk, hk.2⟩ : _ ∧ k_ ≠ gb238))) (fun _ hk => hk.2) (.int .i64 ((rd_T74 t230 x72_3).f0))) (fun _ hk => hk.2) (.slice A237_1 ((rd_T74 t230 x72_3).f1).length c237_1)) (fun _ hk => hk.2) (.slice A237_2 ((rd_T74 t230 x72_3).f2).length c237_2)) (fun _ h_ => h_.1)))).2.2) | (with_reducible refine Kd.C_alloc ?_ _) | (with_reducible refine Kd.C_drewN ?_ _) | (with_reducible refine Kd.C_drew ?_))); (case side2 => exact HC235_2.out); (case side3 => repeat (first | exact ((Kd.V_reads' (by (with_reducible repeat (first | apply Kd.V_alloc | apply Kd.V_drewN | apply Kd.V_drew)); exact (Kd.V_mono (Kd.V_far (p := ⟨gb238, 2, none⟩) (Kd.V_far (p := ⟨gb238, 1, none⟩) (Kd.V_far (p := ⟨gb238, 0, none⟩) (Kd.V_mono HL237_2.out (fun k_ hk => (⟨hk, hk.2⟩ : _ ∧ k_ ≠ gb238))) (fun _ hk => hk.2) (.int .i64 ((rd_T74 t230 x72_3).f0))) (fun _ hk => hk.2) (.slice A237_1 ((rd_T74 t230 x72_3).f1).length c237_1)) (fun _ hk => hk.2) (.slice A237_2 ((rd_T74 t230 x72_3).f2).length c237_2)) (fun _ h_ => h_.1)))).2.2) | (with_reducible refine Kd.C_alloc ?_ _) | (with_reducible refine Kd.C_drewN ?_ _) | (with_reducible refine Kd.C_drew ?_))); (case side4 => exact HC237_2.out); rintro e w' ⟨rfl, ⟨nd, rfl⟩⟩))
                              go_roundg k3
                              case measure => have := HK1.out; have := HJ28.out; have := HK3.out; omega
                              case rel => exact ⟨(wrap64 (x72_3 + 1)), zz112, H', ⟨(by have := HK1.out; have := HJ28.out; have := HK3.out; omega)⟩, ⟨by (with_reducible repeat (first | apply Kd.V_alloc | apply Kd.V_drewN | apply Kd.V_drew)); exact Kd.V_mono (Kd.V_far (p := ⟨gb238, 2, none⟩) (Kd.V_far (p := ⟨gb238, 1, none⟩) (Kd.V_far (p := ⟨gb238, 0, none⟩) (Kd.V_mono HO_70.out (fun k_ hk => (⟨hk, hk.2⟩ : _ ∧ k_ ≠ gb238))) (fun _ hk => hk.2) (.int .i64 ((rd_T74 t230 x72_3).f0))) (fun _ hk => hk.2) (.slice A237_1 ((rd_T74 t230 x72_3).f1).length c237_1)) (fun _ hk => hk.2) (.slice A237_2 ((rd_T74 t230 x72_3).f2).length c237_2)) (fun _ hk => ⟨hk.1.1.1, ⟨hk.1.1.2.1, ⟨hk.1.1.2.2.1, hk.1.1.2.2.2.1⟩⟩⟩)⟩, ⟨by (with_reducible repeat (first | apply Kd.V_alloc | apply Kd.V_drewN | apply Kd.V_drew)); exact Kd.V_mono (Kd.V_far (p := ⟨gb238, 2, none⟩) (Kd.V_far (p := ⟨gb238, 1, none⟩) (Kd.V_far (p := ⟨gb238, 0, none⟩) (Kd.V_mono HO_223001.out (fun k_ hk => (⟨hk, hk.2⟩ : _ ∧ k_ ≠ gb238))) (fun _ hk => hk.2) (.int .i64 ((rd_T74 t230 x72_3).f0))) (fun _ hk => hk.2) (.slice A237_1 ((rd_T74 t230 x72_3).f1).length c237_1)) (fun _ hk => hk.2) (.slice A237_2 ((rd_T74 t230 x72_3).f2).length c237_2)) (fun _ hk => ⟨hk.1.1.1, ⟨hk.1.1.2.1, ⟨hk.1.1.2.2.1, hk.1.1.2.2.2.1⟩⟩⟩)⟩, ⟨by (with_reducible repeat (first | apply Kd.N_alloc | apply Kd.N_drewN | apply Kd.N_drew)); exact Kd.N_mono (Kd.N_far (p := ⟨gb238, 2, none⟩) (Kd.N_far (p := ⟨gb238, 1, none⟩) (Kd.N_far (p := ⟨gb238, 0, none⟩) (Kd.N_mono HO_235001.out (fun k_ hk => (⟨hk, hk.2⟩ : _ ∧ k_ ≠ gb238))) (fun _ hk => hk.2) (.int .i64 ((rd_T74 t230 x72_3).f0))) (fun _ hk => hk.2) (.slice A237_1 ((rd_T74 t230 x72_3).f1).length c237_1)) (fun _ hk => hk.2) (.slice A237_2 ((rd_T74 t230 x72_3).f2).length c237_2)) (fun _ hk => ⟨hk.1.1.1, ⟨hk.1.1.2.1, hk.1.1.2.2.1⟩⟩)⟩, ⟨(by (with_reducible repeat (first | refine blk_drewN ?_ _ | refine blk_drew ?_ | refine blk_alloc ?_ _)); refine blk_far ?_ NB222_238.out _; (with_reducible repeat (first | refine blk_drewN ?_ _ | refine blk_drew ?_ | refine blk_alloc ?_ _)); refine blk_far ?_ NB222_238.out _; (with_reducible repeat (first | refine blk_drewN ?_ _ | refine blk_drew ?_ | refine blk_alloc ?_ _)); refine blk_far ?_ NB222_238.out _; (with_reducible repeat (first | refine blk_drewN ?_ _ | refine blk_drew ?_ | refine blk_alloc ?_ _)); exact BK222.out)⟩, ⟨(by (with_reducible repeat (first | refine blk_drewN ?_ _ | refine blk_drew ?_ | refine blk_alloc ?_ _)); refine blk_far ?_ NB234_238.out _; (with_reducible repeat (first | refine blk_drewN ?_ _ | refine blk_drew ?_ | refine blk_alloc ?_ _)); refine blk_far ?_ NB234_238.out _; (with_reducible repeat (first | refine blk_drewN ?_ _ | refine blk_drew ?_ | refine blk_alloc ?_ _)); refine blk_far ?_ NB234_238.out _; (with_reducible repeat (first | refine blk_drewN ?_ _ | refine blk_drew ?_ | refine blk_alloc ?_ _)); exact BK234.out)⟩, ⟨(by repeat (first | (with_reducible first | exact HB.out | apply below_alloc | apply pw_below_drewN | apply below_drew1 | refine below_set ?_ GE222.out | refine below_set ?_ GE234.out | refine below_set ?_ GE236.out | refine below_set ?_ GE238.out) | exact HB.out))⟩⟩
                            replace c52 := Bool.eq_false_iff.mpr c52; subst c52; have H1 : (some 5) = some r := by rw [if_neg (show ¬ (false = true) by decide)] at H; exact H
                            clear H; have H := H1; clear H1
                            exact absurd (Option.some.inj (H.trans (congrArg some HR_.out))) (by decide)
                          replace c50 := Bool.eq_false_iff.mpr c50; subst c50; have H1 : (some 5) = some r := by rw [if_neg (show ¬ (false = true) by decide)] at H; exact H
                          clear H; have H := H1; clear H1
                          exact absurd (Option.some.inj (H.trans (congrArg some HR_.out))) (by decide)
                        rw [if_neg c48] at H; have c48b0 := beq_eq_false_iff_ne.mpr c48; have c48b1 := bne_iff_ne.mpr c48
                        exact absurd (Option.some.inj (H.trans (congrArg some HR_.out))) (by decide)
                      rw [if_neg c47] at H
                      exact absurd H (by simp)
                    rw [if_neg c46] at H
                    exact absurd H (by simp)
                  rw [if_neg c45] at H
                  exact absurd H (by simp)
                rw [if_neg c44] at H; have c44b0 := decide_eq_false c44; clear c44; obtain rfl := Option.some.inj H; go_wp2; go_ret
                exact ⟨by first | rfl | (simp [errW_none, errW_some] <;> rfl) | (simp [*, errW_none, errW_some] <;> rfl), by repeat (first | (with_reducible first | exact HB.out | apply below_alloc | apply pw_below_drewN | apply below_drew1 | refine below_set ?_ GE222.out | refine below_set ?_ GE234.out) | exact HB.out)⟩
  rw [if_neg c3] at H
  have c3b0 := beq_eq_false_iff_ne.mpr c3
  have c3b1 := bne_iff_ne.mpr c3
  exact absurd ((Option.some.inj H).trans HR_.out) c3
theorem perm_CheckChain.callsz (k : Nat) (a0_0 : Int) (A0_1 : Option Addr) (c0_1 : Nat) (l0_1 : List S74) (r : Int) (w : World) (hr0_1 : Kd.C k74 w A0_1 l0_1.length l0_1) (hc0_1 : l0_1.length ≤ c0_1) (h : perm_CheckChain.f k a0_0 l0_1 = some r) (hr_ : r = 0) :
    Calls Try.prog 36 #[.agg #[.int .i64 a0_0, .slice A0_1 l0_1.length c0_1]] w fun e w' => e = .returned (.int .i64 r) ∧ Below w.heap.size w w' :=
  perm_CheckChain.callsVz k a0_0 (fun k_ => k_ < w.heap.size) A0_1 c0_1 l0_1 r w (Kd.V_mk hc0_1 (Kd.C_F k74_heap hr0_1)) h hr_
theorem perm_Size.callsz (k : Nat) (a0_0 : Int) (A0_1 : Option Addr) (c0_1 : Nat) (l0_1 : List (S74)) (r1 : List Int) (r2 : Int) (w : World) (hr0_1 : Kd.C k74 w A0_1 l0_1.length l0_1) (hc0_1 : l0_1.length ≤ c0_1) (h : perm_Size.f k a0_0 l0_1 = some (r1, r2)) (hr_ : r2 = 0) :
    Calls Try.prog 35 #[.agg #[.int .i64 a0_0, .slice A0_1 l0_1.length c0_1]] w fun e w' => ∃ v0_ : Value, e = .returned (.tuple #[v0_, .int .i64 r2]) ∧ Kd.R (Kd.int .u32) 72 w' w.heap.size (fun _ => True) v0_ r1 ∧ Below w.heap.size w w' := by
  have HR_ := aM hr_
  clear hr_
  have hu46 := Try.underlying46
  have hu74 := Try.underlying74
  have HR0_1 := aM hr0_1
  have HC0_1 := aM hc0_1
  clear hr0_1 hc0_1
  have HB := aM (Below.refl w.heap.size w)
  have H : ((perm_CheckChain.f k a0_0 l0_1).bind fun t253 => (if t253 = 0 then ((nat_Of.f 1).bind fun t254 => (perm_Size.l0 k t254 l0_1 (l0_1.length : Int) 0)) else (some (([] : List Int), t253)))) = some (r1, r2) := h
  clear h
  replace H := Option.bind_eq_some_iff.mp H
  obtain ⟨t253, A20, H⟩ := H
  replace H : (if t253 = 0 then ((nat_Of.f 1).bind fun t254 => (perm_Size.l0 k t254 l0_1 (l0_1.length : Int) 0)) else (some (([] : List Int), t253))) = some (r1, r2) := H
  have A2 := aM A20
  clear A20
  by_cases c3 : t253 = 0
  · rw [if_pos c3] at H
    have c3b0 := beq_iff_eq.mpr c3; have c3b1 := bne_eq_false_iff_eq.mpr c3; clear c3; replace H := Option.bind_eq_some_iff.mp H; obtain ⟨t254, A40, H⟩ := H; replace H : (perm_Size.l0 k t254 l0_1 (l0_1.length : Int) 0) = some (r1, r2) := H; have A4 := aM A40; clear A40; have H' := aM H; clear H
    go_enter Try.func35, Try.ntmps35
    go_wp2_with (first | ((with_reducible refine gate_dst (N := 1) rfl ?_); refine box_event ?hg (N := 1) ?hd (cs := #[.int .i64 a0_0, .slice A0_1 l0_1.length c0_1]) (t := 46) ?hr ?_; (case hd => rfl); (case hg => rfl); (case hr => first | (go_simp; done) | (go_simp; rfl)); intro gb252 hg w5 hbox hb; have BK252 := aM (hbox); have GW252 := aM ((by rw [hg]; exact (below_size zz88) : w.heap.size ≤ gb252)); have GE252 := aM ((by rw [hg]; exact (below_size zz88) : w.heap.size ≤ gb252)); replace HB := aM (below_step zz88 hb); clear hb hbox hg; have hcz6_0 : w5.cell? ⟨gb252, 0, none⟩ = some (.int .i64 a0_0) := (blk_cell BK252.out 0).trans rfl; have hcz6_1 : w5.cell? ⟨gb252, 1, none⟩ = some (.slice A0_1 l0_1.length c0_1) := (blk_cell BK252.out 1).trans rfl; have hfz6_0 := blk_frozen BK252.out 0; have hfz6_1 := blk_frozen BK252.out 1) | ((with_reducible refine gate_callee (f := 36) rfl ?_); refine goesL_ (some 9) rfl rfl Try.func36 (by kernel_rfl) rfl #[.agg #[.int .i64 a0_0, .slice A0_1 l0_1.length c0_1]] rfl zz87 ?_; (with_reducible refine (perm_CheckChain.callsz k a0_0 _ _ l0_1 t253 _ ?side1 ?side2 A2.out zz98).mono ?_); (case side1 => repeat (first | exact (Kd.C_below HR0_1.out HB.out) | (with_reducible refine Kd.C_alloc ?_ _) | (with_reducible refine Kd.C_drewN ?_ _) | (with_reducible refine Kd.C_drew ?_))); (case side2 => exact HC0_1.out); rintro e w7 ⟨rfl, hb⟩; refine ⟨_, rfl, ?_⟩; replace BK252 := aM (blk_below (g := gb252) (o := .cells #[.int .i64 a0_0, .slice A0_1 l0_1.length c0_1] 46 (0, 0)) (zB BK252) hb); replace HB := aM (below_step zz69 hb); (try clear hb); (try clear hb2); (try clear hk); (try clear hi)) | ((with_reducible refine gate_callee (f := 48) rfl ?_); refine goesL_ (some 13) rfl rfl Try.func48 (by kernel_rfl) rfl #[.int .u64 1] rfl zz87 ?_; (with_reducible refine (nat_Of.calls 1 t254 _ A4.out).mono ?_); rintro e w8 ⟨v255, rfl, ho0, hb⟩; refine ⟨_, rfl, ?_⟩; have HO256 := aM (Kd.R_lower ho0 (below_size zz69)); replace BK252 := aM (blk_below (g := gb252) (o := .cells #[.int .i64 a0_0, .slice A0_1 l0_1.length c0_1] 46 (0, 0)) (zB BK252) hb); replace HB := aM (below_step zz69 hb); (try clear hb); (try clear hb2); (try clear hk); (try clear hi); (try clear ho0); have hcz9_0 : w8.cell? ⟨gb252, 0, none⟩ = some (.int .i64 a0_0) := (blk_cell BK252.out 0).trans rfl; have hcz9_1 : w8.cell? ⟨gb252, 1, none⟩ = some (.slice A0_1 l0_1.length c0_1) := (blk_cell BK252.out 1).trans rfl; have hfz9_0 := blk_frozen BK252.out 0; have hfz9_1 := blk_frozen BK252.out 1))
    go_loopg [5, 17] k (fun kq v5 v17 w' => ∃ (x5_1 : List Int) (x17_1 : Int), v17 = .int .i64 x17_1 ∧ Aside0 (perm_Size.l0 kq x5_1 l0_1 (l0_1.length : Int) x17_1 = some (r1, r2)) ∧ Aside0 (kq ≤ k) ∧ Aside0 (Kd.R (Kd.int .u32) 72 w' w.heap.size (fun _ => True) v5 x5_1) ∧ Aside0 (w'.heap[gb252]? = some (.cells #[.int .i64 a0_0, (.slice A0_1 l0_1.length c0_1)] 46 (0, 0))) ∧ Aside0 (Below w.heap.size w w'))
    case atStart => exact ⟨(t254), (0), zz112, H', ⟨Nat.le_refl _⟩, ⟨(zR HO256)⟩, ⟨(zB BK252)⟩, ⟨zz69⟩⟩
    case round =>
      clear H'; (try clear p2); (try clear c3); (try clear c3b0); (try clear c3b1); (try clear c4); (try clear hcz6_0); (try clear hcz6_1); (try clear hcz9_0); (try clear hcz9_1); (try clear hfz6_0); (try clear hfz6_1); (try clear hfz9_0); (try clear hfz9_1); obtain ⟨x5_1, x17_1, rfl, HA, HK1, HO_5, BK252, HB⟩ := hrel
      cases gk with
      | zero => exact absurd HA.out (by simp [perm_Size.l0])
      | succ k1 =>
        have H := HA.out; clear HA; simp only [perm_Size.l0] at H
        by_cases c10 : x17_1 < (l0_1.length : Int)
        · rw [if_pos c10] at H; have c10b0 := decide_eq_true c10; clear c10
          by_cases c11 : 0 ≤ x17_1
          · rw [if_pos c11] at H; have c11b0 := decide_eq_true c11; clear c11
            by_cases c12 : x17_1 < (l0_1.length : Int)
            · rw [if_pos c12] at H; have c12b0 := decide_eq_true c12; clear c12; replace H := Option.bind_eq_some_iff.mp H; obtain ⟨t259, A130, H⟩ := H; replace H : ((nat_Mul.f k1 (([x5_1, t259] : List (List Int)))).bind fun t265 => (perm_Size.l0 k1 t265 l0_1 (l0_1.length : Int) (wrap64 (x17_1 + 1)))) = some (r1, r2) := H; have A13 := aM A130; clear A130; obtain ⟨y262, hy262⟩ : ∃ y_ : List (List Int), y_ = (([x5_1, t259] : List (List Int))) := ⟨_, rfl⟩; replace H : ((nat_Mul.f k1 y262).bind fun t265 => (perm_Size.l0 k1 t265 l0_1 (l0_1.length : Int) (wrap64 (x17_1 + 1)))) = some (r1, r2) := by first | (rw [hy262]; with_reducible exact H) | (have H2_ := (Option.bind_some _ _).symm.trans H; rw [hy262]; with_reducible exact H2_) | (have H2_ := (Option.bind_some _ _).symm.trans H; with_reducible exact H2_) | with_reducible exact H | (rw [hy262]; exact H) | exact H
              have Ny262 := aM hy262; clear hy262; replace H := Option.bind_eq_some_iff.mp H; obtain ⟨t265, A140, H⟩ := H; replace H : (perm_Size.l0 k1 t265 l0_1 (l0_1.length : Int) (wrap64 (x17_1 + 1))) = some (r1, r2) := H; have A14 := aM A140; clear A140; have H' := aM H; clear H; have p257 : 0 ≤ (x17_1 : Int) := of_decide_eq_true zz111; have q257 : x17_1 < (l0_1.length : Int) := of_decide_eq_true zz111; obtain ⟨ad257, A257_1, c257_1, A257_2, c257_2, e257, hx257_0, hx257_1, hx257_2, hl257_1, hi257_1, hl257_2, hi257_2⟩ := at_T74 HR0_1.out x17_1 p257 q257
              cases e257; replace hx257_0 := (HB.out.cell (World.block_lt_of_cell? w _ hx257_0)).trans hx257_0; replace hx257_1 := (HB.out.cell (World.block_lt_of_cell? w _ hx257_1)).trans hx257_1; replace hx257_2 := (HB.out.cell (World.block_lt_of_cell? w _ hx257_2)).trans hx257_2; have HR257_1 := aM hi257_1; have HC257_1 := aM hl257_1; clear hi257_1 hl257_1; have HR257_2 := aM hi257_2; have HC257_2 := aM hl257_2; clear hi257_2 hl257_2; replace p257 := eq_true p257; replace q257 := eq_true q257
              go_wp2_with (first | ((with_reducible refine gate_dst (N := 7) rfl ?_); refine box_event ?hg (N := 7) ?hd (cs := #[.int .i64 0, .slice none 0 0, .slice none 0 0]) (t := 74) ?hr ?_; (case hd => rfl); (case hg => rfl); (case hr => first | (go_simp; done) | (go_simp; rfl)); intro gb258 hg w15 hbox hb; replace HO_5 := aM (Kd.R_below (zR HO_5) hb); have BK258 := aM (hbox); have GW258 := aM ((by rw [hg]; exact (below_size zz69) : w.heap.size ≤ gb258)); have GE258 := aM ((by rw [hg]; exact (below_size zz69) : w.heap.size ≤ gb258)); replace HB := aM (below_step zz69 hb); have NB252_258 := aM ((by rw [hg]; exact Nat.ne_of_lt (blk_lt (g := gb252) (o := .cells #[.int .i64 a0_0, .slice (some ad257) l0_1.length c0_1] 46 (0, 0)) (zB BK252)) : gb252 ≠ gb258)); have NB258_252 := aM ((by rw [hg]; exact Nat.ne_of_gt (blk_lt (g := gb252) (o := .cells #[.int .i64 a0_0, .slice (some ad257) l0_1.length c0_1] 46 (0, 0)) (zB BK252)) : gb258 ≠ gb252)); replace BK252 := aM (blk_below (g := gb252) (o := .cells #[.int .i64 a0_0, .slice (some ad257) l0_1.length c0_1] 46 (0, 0)) (zB BK252) hb); clear hb hbox hg; have hnb16 := NB258_252.out; have hnc16 := NB252_258.out; have hcz17_0 : w15.cell? ⟨gb258, 0, none⟩ = some (.int .i64 0) := (blk_cell BK258.out 0).trans rfl; have hcz17_1 : w15.cell? ⟨gb258, 1, none⟩ = some (.slice none 0 0) := (blk_cell BK258.out 1).trans rfl; have hcz17_2 : w15.cell? ⟨gb258, 2, none⟩ = some (.slice none 0 0) := (blk_cell BK258.out 2).trans rfl; have hfz17_0 := blk_frozen BK258.out 0; have hfz17_1 := blk_frozen BK258.out 1; have hfz17_2 := blk_frozen BK258.out 2) | ((with_reducible refine gate_callee (f := 48) rfl ?_); refine goesL_ (some 26) rfl rfl Try.func48 (by kernel_rfl) rfl #[.int .u64 (IntKind.u64.wrap ((((rd_T74 l0_1 x17_1).f1).length : Int)))] rfl zz87 ?_; (with_reducible refine (nat_Of.calls (IntKind.u64.wrap ((((rd_T74 l0_1 x17_1).f1).length : Int))) t259 _ A13.out).mono ?_); rintro e w18 ⟨v260, rfl, ho0, hb⟩; refine ⟨_, rfl, ?_⟩; have HO261 := aM (Kd.R_lower (Kd.R_new' ho0 (Kd.R_lt zz32)) (below_size zz50)); replace HO_5 := aM (Kd.R_elder' zz32 (Kd.R_base ho0) hb); replace BK252 := aM (blk_below (g := gb252) (o := .cells #[.int .i64 a0_0, .slice (some ad257) l0_1.length c0_1] 46 (0, 0)) (by (with_reducible repeat (first | refine blk_drewN ?_ _ | refine blk_drew ?_ | refine blk_alloc ?_ _)); refine blk_far ?_ NB252_258.out _; (with_reducible repeat (first | refine blk_drewN ?_ _ | refine blk_drew ?_ | refine blk_alloc ?_ _)); refine blk_far ?_ NB252_258.out _; (with_reducible repeat (first | refine blk_drewN ?_ _ | refine blk_drew ?_ | refine blk_alloc ?_ _)); refine blk_far ?_ NB252_258.out _; (with_reducible repeat (first | refine blk_drewN ?_ _ | refine blk_drew ?_ | refine blk_alloc ?_ _)); exact BK252.out) hb); replace BK258 := aM (blk_below (g := gb258) (o := .cells #[.int .i64 ((rd_T74 l0_1 x17_1).f0), .slice A257_1 ((rd_T74 l0_1 x17_1).f1).length c257_1, .slice A257_2 ((rd_T74 l0_1 x17_1).f2).length c257_2] 74 (0, 0)) (by (with_reducible repeat (first | refine blk_drewN ?_ _ | refine blk_drew ?_ | refine blk_alloc ?_ _)); refine blk_put (cs := #[.int .i64 ((rd_T74 l0_1 x17_1).f0), .slice A257_1 ((rd_T74 l0_1 x17_1).f1).length c257_1, .slice none 0 0]) ?_ 2 _ rfl; (with_reducible repeat (first | refine blk_drewN ?_ _ | refine blk_drew ?_ | refine blk_alloc ?_ _)); refine blk_put (cs := #[.int .i64 ((rd_T74 l0_1 x17_1).f0), .slice none 0 0, .slice none 0 0]) ?_ 1 _ rfl; (with_reducible repeat (first | refine blk_drewN ?_ _ | refine blk_drew ?_ | refine blk_alloc ?_ _)); refine blk_put (cs := #[.int .i64 0, .slice none 0 0, .slice none 0 0]) ?_ 0 _ rfl; (with_reducible repeat (first | refine blk_drewN ?_ _ | refine blk_drew ?_ | refine blk_alloc ?_ _)); exact BK258.out) hb); replace HB := aM (below_step zz50 hb); (try clear hb); (try clear hb2); (try clear hk); (try clear hi); (try clear ho0); obtain ⟨Ao19, co19, eo19⟩ := Kd.R_slice HO_5.out; subst eo19; obtain ⟨Ao20, co20, eo20⟩ := Kd.R_slice HO261.out; subst eo20) | ((with_reducible refine gate_dst (N := 27) rfl ?_); refine Kd.N_lit (Kd.slice 72 (Kd.int .u32)) _ 53 ?hg (N' := 27) ?hd (xs := ([x5_1, t259] : List (List Int))) (inner := [.slice Ao19 x5_1.length co19, .slice Ao20 t259.length co20]) (ok := (fun k_ => k_ ≠ gb252 ∧ k_ ≠ gb258)) (okp := (fun k_ => k_ ≠ gb252 ∧ k_ ≠ gb258)) ?hr ?hp (fun _ hk => hk) ((show ∀ k_, w18.heap.size ≤ k_ → (fun k_ => k_ ≠ gb252 ∧ k_ ≠ gb258) k_ from fun k_ hk => ⟨Kd.freshB (g := gb252) (o := .cells #[.int .i64 a0_0, .slice (some ad257) l0_1.length c0_1] 46 (0, 0)) (zB BK252) k_ hk, Kd.freshB (g := gb258) (o := .cells #[.int .i64 ((rd_T74 l0_1 x17_1).f0), .slice A257_1 ((rd_T74 l0_1 x17_1).f1).length c257_1, .slice A257_2 ((rd_T74 l0_1 x17_1).f2).length c257_2] 74 (0, 0)) (zB BK258) k_ hk⟩) _ (Nat.le_refl _)) (Below.refl _ _) (Nat.le_refl _) (by simp) ?_; (case hd => rfl); (case hg => rfl); (case hr => first | (go_simp; done) | (go_simp; rfl)); (case hp => exact (Reps.one (show Kd.FK (Kd.slice 72 (Kd.int .u32)) _ _ x5_1 [.slice Ao19 x5_1.length co19] from (Kd.FK_slice_mk (Kd.R_reads' (Kd.R_mono (ok' := (fun k_ => k_ ≠ gb252 ∧ k_ ≠ gb258)) (Kd.R_types (Kd.R_types (HO_5.out) BK252.out (by decide)) BK258.out (by decide)) (fun k_ hk => ⟨hk.1.2, hk.2⟩))).2.1 (Kd.R_F (Kd.R_mono (ok' := (fun k_ => k_ ≠ gb252 ∧ k_ ≠ gb258)) (Kd.R_types (Kd.R_types (HO_5.out) BK252.out (by decide)) BK258.out (by decide)) (fun k_ hk => ⟨hk.1.2, hk.2⟩))))) (Reps.one (show Kd.FK (Kd.slice 72 (Kd.int .u32)) _ _ t259 [.slice Ao20 t259.length co20] from (Kd.FK_slice_mk (Kd.R_reads' (Kd.R_mono (ok' := (fun k_ => k_ ≠ gb252 ∧ k_ ≠ gb258)) (Kd.R_types (Kd.R_types (HO261.out) BK252.out (by decide)) BK258.out (by decide)) (fun k_ hk => ⟨hk.1.2, hk.2⟩))).2.1 (Kd.R_F (Kd.R_mono (ok' := (fun k_ => k_ ≠ gb252 ∧ k_ ≠ gb258)) (Kd.R_types (Kd.R_types (HO261.out) BK252.out (by decide)) BK258.out (by decide)) (fun k_ hk => ⟨hk.1.2, hk.2⟩))))) (Reps.none _ _)))); intro v263 w21 ho22 hb hg_ hnew_; clear hg_ hnew_; (first | rw [← Ny262.out] at ho22 | (simp only [Int.reduceToNat] at ho22; rw [← Ny262.out] at ho22)); have HO264 := aM (Kd.N_lower ho22 (below_size zz50)); replace BK252 := aM (blk_below (g := gb252) (o := .cells #[.int .i64 a0_0, .slice (some ad257) l0_1.length c0_1] 46 (0, 0)) (zB BK252) hb); replace BK258 := aM (blk_below (g := gb258) (o := .cells #[.int .i64 ((rd_T74 l0_1 x17_1).f0), .slice A257_1 ((rd_T74 l0_1 x17_1).f1).length c257_1, .slice A257_2 ((rd_T74 l0_1 x17_1).f2).length c257_2] 74 (0, 0)) (zB BK258) hb); replace HB := aM (below_step zz50 hb); clear HO261 HO_5; clear hb ho22; obtain ⟨Ao23, co23, eo23⟩ := Kd.N_slice HO264.out; subst eo23) | ((with_reducible refine gate_callee (f := 47) rfl ?_); refine goesL_ (some 28) rfl rfl Try.func47 (by kernel_rfl) rfl #[.slice Ao23 y262.length co23] rfl zz87 ?_; (with_reducible refine (nat_Mul.calls k1 _ _ y262 t265 _ ?side1 ?side2 A14.out).mono ?_); (case side1 => repeat (first | exact (Kd.N_reads' HO264.out).2.2 | (with_reducible refine Kd.C_alloc ?_ _) | (with_reducible refine Kd.C_drewN ?_ _) | (with_reducible refine Kd.C_drew ?_))); (case side2 => exact (Kd.N_reads' HO264.out).2.1); rintro e w24 ⟨v266, rfl, ho0, hb⟩; refine ⟨_, rfl, ?_⟩; replace HO264 := aM (Kd.N_elder' (zN HO264) (Kd.R_base ho0) hb); have HO267 := aM (Kd.R_lower ho0 (below_size zz50)); replace BK252 := aM (blk_below (g := gb252) (o := .cells #[.int .i64 a0_0, .slice (some ad257) l0_1.length c0_1] 46 (0, 0)) (zB BK252) hb); replace BK258 := aM (blk_below (g := gb258) (o := .cells #[.int .i64 ((rd_T74 l0_1 x17_1).f0), .slice A257_1 ((rd_T74 l0_1 x17_1).f1).length c257_1, .slice A257_2 ((rd_T74 l0_1 x17_1).f2).length c257_2] 74 (0, 0)) (zB BK258) hb); replace HB := aM (below_step zz50 hb); (try clear hb); (try clear hb2); (try clear hk); (try clear hi); (try clear ho0)))
              go_roundg k1
              case measure => have := HK1.out; omega
              case rel => exact ⟨(t265), (wrap64 (x17_1 + 1)), zz112, H', ⟨zz120⟩, ⟨(zR HO267)⟩, ⟨(zB BK252)⟩, ⟨zz50⟩⟩
            rw [if_neg c12] at H
            exact absurd H (by simp)
          rw [if_neg c11] at H
          exact absurd H (by simp)
        rw [if_neg c10] at H; have c10b0 := decide_eq_false c10; clear c10; simp only [Option.some.injEq, Prod.mk.injEq] at H; obtain ⟨rfl, rfl⟩ := H; go_wp2
        go_ret2
        exact ⟨_, by first | rfl | (simp [errW_none, errW_some] <;> rfl) | (simp [*, errW_none, errW_some] <;> rfl), by (with_reducible repeat (first | apply Kd.R_alloc | apply Kd.R_drewN | apply Kd.R_drew)); exact HO_5.out, by repeat (first | (with_reducible first | exact HB.out | apply below_alloc | apply pw_below_drewN | apply below_drew1 | refine below_set ?_ GE252.out) | exact HB.out)⟩
  rw [if_neg c3] at H
  have c3b0 := beq_eq_false_iff_ne.mpr c3
  have c3b1 := bne_iff_ne.mpr c3
  exact absurd ((Prod.mk.inj (Option.some.inj H)).2.trans HR_.out) c3
theorem perm_Sift.callsz (k : Nat) (a0_0 : Int) (A0_1 : Option Addr) (c0_1 : Nat) (l0_1 : List (S74)) (A1 : Option Addr) (c1 : Nat) (l1 : List Int) (r1 : List Int) (r2 : Int) (r3 : Int) (w : World) (hr0_1 : Kd.C k74 w A0_1 l0_1.length l0_1) (hc0_1 : l0_1.length ≤ c0_1) (hr1 : Kd.C (Kd.int .i64) w A1 l1.length l1) (hc1 : l1.length ≤ c1) (h : perm_Sift.f k a0_0 l0_1 l1 = some (r1, r2, r3)) (hr_ : r3 = 0) :
    Calls Try.prog 39 #[.agg #[.int .i64 a0_0, .slice A0_1 l0_1.length c0_1], .slice A1 l1.length c1] w fun e w' => ∃ v0_ : Value, e = .returned (.tuple #[v0_, .int .i64 r2, .int .i64 r3]) ∧ Kd.R (Kd.int .i64) 3 w' w.heap.size (fun _ => True) v0_ r1 ∧ Below w.heap.size w w' := by
  have HR_ := aM hr_
  clear hr_
  have hu46 := Try.underlying46
  have hu74 := Try.underlying74
  have HR0_1 := aM hr0_1
  have HC0_1 := aM hc0_1
  clear hr0_1 hc0_1
  have HR1 := aM hr1
  have HC1 := aM hc1
  clear hr1 hc1
  have HB := aM (Below.refl w.heap.size w)
  have H : ((perm_CheckChain.f k a0_0 l0_1).bind fun t270 => (if t270 = 0 then ((perm_Check.f l1).bind fun t271 => (perm_Sift.j0 k l1 t271 a0_0 l0_1)) else (perm_Sift.j0 k l1 t270 a0_0 l0_1))) = some (r1, r2, r3) := h
  clear h
  replace H := Option.bind_eq_some_iff.mp H
  obtain ⟨t270, A30, H⟩ := H
  replace H : (if t270 = 0 then ((perm_Check.f l1).bind fun t271 => (perm_Sift.j0 k l1 t271 a0_0 l0_1)) else (perm_Sift.j0 k l1 t270 a0_0 l0_1)) = some (r1, r2, r3) := H
  have A3 := aM A30
  clear A30
  have HC4 := aM H
  clear H
  go_enter Try.func39, Try.ntmps39
  go_upto_if 15 with (first | ((with_reducible refine gate_dst (N := 2) rfl ?_); (try (refine gate_guard (by rfl) ?_; dsimp only)); refine box_event ?hg (N := 2) ?hd (cs := #[.int .i64 a0_0, .slice A0_1 l0_1.length c0_1]) (t := 46) ?hr ?_; (case hd => rfl); (case hg => rfl); (case hr => first | (go_simp; done) | (go_simp; rfl)); intro gb269 hg w5 hbox hb; have BK269 := aM (hbox); have GW269 := aM ((by rw [hg]; exact (below_size zz88) : w.heap.size ≤ gb269)); have GE269 := aM ((by rw [hg]; exact (below_size zz88) : w.heap.size ≤ gb269)); replace HB := aM (below_step zz88 hb); clear hb hbox hg; have hcz6_0 : w5.cell? ⟨gb269, 0, none⟩ = some (.int .i64 a0_0) := (blk_cell BK269.out 0).trans rfl; have hcz6_1 : w5.cell? ⟨gb269, 1, none⟩ = some (.slice A0_1 l0_1.length c0_1) := (blk_cell BK269.out 1).trans rfl; have hfz6_0 := blk_frozen BK269.out 0; have hfz6_1 := blk_frozen BK269.out 1) | (go_at_call 36; (with_reducible refine (perm_CheckChain.callsz k a0_0 _ _ l0_1 t270 _ ?side1 ?side2 A3.out (sift_t0 HC4.out HR_.out)).mono ?_); (case side1 => repeat (first | exact (Kd.C_below HR0_1.out HB.out) | (with_reducible refine Kd.C_alloc ?_ _) | (with_reducible refine Kd.C_drewN ?_ _) | (with_reducible refine Kd.C_drew ?_))); (case side2 => exact HC0_1.out); rintro e w7 ⟨rfl, hb⟩; replace BK269 := aM (blk_below (g := gb269) (o := .cells #[.int .i64 a0_0, .slice A0_1 l0_1.length c0_1] 46 (0, 0)) (zB BK269) hb); replace HB := aM (below_step zz70 hb); (try clear hb); (try clear hb2); (try clear hk); (try clear hi)))
  repeat (go_quiet (first | ((with_reducible refine gate_dst (N := 2) rfl ?_); (try (refine gate_guard (by rfl) ?_; dsimp only)); refine box_event ?hg (N := 2) ?hd (cs := #[.int .i64 a0_0, .slice A0_1 l0_1.length c0_1]) (t := 46) ?hr ?_; (case hd => rfl); (case hg => rfl); (case hr => first | (go_simp; done) | (go_simp; rfl)); intro gb269 hg w5 hbox hb; have BK269 := aM (hbox); have GW269 := aM ((by rw [hg]; exact (below_size zz88) : w.heap.size ≤ gb269)); have GE269 := aM ((by rw [hg]; exact (below_size zz88) : w.heap.size ≤ gb269)); replace HB := aM (below_step zz88 hb); clear hb hbox hg; have hcz6_0 : w5.cell? ⟨gb269, 0, none⟩ = some (.int .i64 a0_0) := (blk_cell BK269.out 0).trans rfl; have hcz6_1 : w5.cell? ⟨gb269, 1, none⟩ = some (.slice A0_1 l0_1.length c0_1) := (blk_cell BK269.out 1).trans rfl; have hfz6_0 := blk_frozen BK269.out 0; have hfz6_1 := blk_frozen BK269.out 1) | (go_at_call 36; (with_reducible refine (perm_CheckChain.callsz k a0_0 _ _ l0_1 t270 _ ?side1 ?side2 A3.out (sift_t0 HC4.out HR_.out)).mono ?_); (case side1 => repeat (first | exact (Kd.C_below HR0_1.out HB.out) | (with_reducible refine Kd.C_alloc ?_ _) | (with_reducible refine Kd.C_drewN ?_ _) | (with_reducible refine Kd.C_drew ?_))); (case side2 => exact HC0_1.out); rintro e w7 ⟨rfl, hb⟩; replace BK269 := aM (blk_below (g := gb269) (o := .cells #[.int .i64 a0_0, .slice A0_1 l0_1.length c0_1] 46 (0, 0)) (zB BK269) hb); replace HB := aM (below_step zz70 hb); (try clear hb); (try clear hb2); (try clear hk); (try clear hi))); go_upto_if 15 with (first | ((with_reducible refine gate_dst (N := 2) rfl ?_); (try (refine gate_guard (by rfl) ?_; dsimp only)); refine box_event ?hg (N := 2) ?hd (cs := #[.int .i64 a0_0, .slice A0_1 l0_1.length c0_1]) (t := 46) ?hr ?_; (case hd => rfl); (case hg => rfl); (case hr => first | (go_simp; done) | (go_simp; rfl)); intro gb269 hg w5 hbox hb; have BK269 := aM (hbox); have GW269 := aM ((by rw [hg]; exact (below_size zz88) : w.heap.size ≤ gb269)); have GE269 := aM ((by rw [hg]; exact (below_size zz88) : w.heap.size ≤ gb269)); replace HB := aM (below_step zz88 hb); clear hb hbox hg; have hcz6_0 : w5.cell? ⟨gb269, 0, none⟩ = some (.int .i64 a0_0) := (blk_cell BK269.out 0).trans rfl; have hcz6_1 : w5.cell? ⟨gb269, 1, none⟩ = some (.slice A0_1 l0_1.length c0_1) := (blk_cell BK269.out 1).trans rfl; have hfz6_0 := blk_frozen BK269.out 0; have hfz6_1 := blk_frozen BK269.out 1) | (go_at_call 36; (with_reducible refine (perm_CheckChain.callsz k a0_0 _ _ l0_1 t270 _ ?side1 ?side2 A3.out (sift_t0 HC4.out HR_.out)).mono ?_); (case side1 => repeat (first | exact (Kd.C_below HR0_1.out HB.out) | (with_reducible refine Kd.C_alloc ?_ _) | (with_reducible refine Kd.C_drewN ?_ _) | (with_reducible refine Kd.C_drew ?_))); (case side2 => exact HC0_1.out); rintro e w7 ⟨rfl, hb⟩; replace BK269 := aM (blk_below (g := gb269) (o := .cells #[.int .i64 a0_0, .slice A0_1 l0_1.length c0_1] 46 (0, 0)) (zB BK269) hb); replace HB := aM (below_step zz70 hb); (try clear hb); (try clear hb2); (try clear hk); (try clear hi))))
  (try simp only [Act.put, List.setIfInBounds_toArray, List.set_cons_zero, List.set_cons_succ])
  go_cut [7] (fun v7 wc => ∃ (kq : Nat) (x7_3 : Int), v7 = .int .i64 x7_3 ∧ Aside0 (perm_Sift.j0 kq l1 x7_3 a0_0 l0_1 = some (r1, r2, r3)) ∧ Aside0 (kq ≤ k) ∧ Aside0 (wc.heap[gb269]? = some (.cells #[.int .i64 a0_0, (.slice A0_1 l0_1.length c0_1)] 46 (0, 0))) ∧ Aside0 (Below w.heap.size w wc))
  case first =>
    have H := HC4.out; clear HC4
    by_cases c8 : t270 = 0
    · rw [if_pos c8] at H; have c8b0 := beq_iff_eq.mpr c8; have c8b1 := bne_eq_false_iff_eq.mpr c8; clear c8
      (first | rw [c8b0] | (simp only [i64_w, i32_w]; rw [c8b0]) | skip)
      replace H := Option.bind_eq_some_iff.mp H; obtain ⟨t271, A90, H⟩ := H; replace H : (perm_Sift.j0 k l1 t271 a0_0 l0_1) = some (r1, r2, r3) := H; have A9 := aM A90; clear A90; have H' := aM H; clear H
      go_wp2_with (first | (go_at_call 16; (with_reducible refine (perm_Check.calls _ _ l1 t271 _ ?side1 ?side2 A9.out).mono ?_); (case side1 => repeat (first | exact (Kd.C_below HR1.out HB.out) | (with_reducible refine Kd.C_alloc ?_ _) | (with_reducible refine Kd.C_drewN ?_ _) | (with_reducible refine Kd.C_drew ?_))); (case side2 => exact HC1.out); rintro e w10 ⟨rfl, hb⟩; replace BK269 := aM (blk_below (g := gb269) (o := .cells #[.int .i64 a0_0, .slice A0_1 l0_1.length c0_1] 46 (0, 0)) (zB BK269) hb); replace HB := aM (below_step zz70 hb); (try clear hb); (try clear hb2); (try clear hk); (try clear hi)))
      repeat (go_quiet (first | (go_at_call 16; (with_reducible refine (perm_Check.calls _ _ l1 t271 _ ?side1 ?side2 A9.out).mono ?_); (case side1 => repeat (first | exact (Kd.C_below HR1.out HB.out) | (with_reducible refine Kd.C_alloc ?_ _) | (with_reducible refine Kd.C_drewN ?_ _) | (with_reducible refine Kd.C_drew ?_))); (case side2 => exact HC1.out); rintro e w10 ⟨rfl, hb⟩; replace BK269 := aM (blk_below (g := gb269) (o := .cells #[.int .i64 a0_0, .slice A0_1 l0_1.length c0_1] 46 (0, 0)) (zB BK269) hb); replace HB := aM (below_step zz70 hb); (try clear hb); (try clear hb2); (try clear hk); (try clear hi))); try go_wp2_with (first | (go_at_call 16; (with_reducible refine (perm_Check.calls _ _ l1 t271 _ ?side1 ?side2 A9.out).mono ?_); (case side1 => repeat (first | exact (Kd.C_below HR1.out HB.out) | (with_reducible refine Kd.C_alloc ?_ _) | (with_reducible refine Kd.C_drewN ?_ _) | (with_reducible refine Kd.C_drew ?_))); (case side2 => exact HC1.out); rintro e w10 ⟨rfl, hb⟩; replace BK269 := aM (blk_below (g := gb269) (o := .cells #[.int .i64 a0_0, .slice A0_1 l0_1.length c0_1] 46 (0, 0)) (zB BK269) hb); replace HB := aM (below_step zz70 hb); (try clear hb); (try clear hb2); (try clear hk); (try clear hi))))
      go_meet
      case rel => exact ⟨_, (t271), zz112, H', ⟨zz114⟩, ⟨(zB BK269)⟩, ⟨zz70⟩⟩
    rw [if_neg c8] at H; have c8b0 := beq_eq_false_iff_ne.mpr c8; have c8b1 := bne_iff_ne.mpr c8
    (first | rw [c8b0] | (simp only [i64_w, i32_w]; rw [c8b0]) | skip)
    exact absurd (H.trans (congrArg (fun z_ => some (r1, r2, z_)) HR_.out)) (sift_j0n c8)
  case rest =>
    clear HC4; (try clear c1); (try clear p2); (try clear c3); (try clear c8); (try clear c8b0); (try clear c8b1); (try clear hcz6_0); (try clear hcz6_1); (try clear hfz6_0); (try clear hfz6_1); obtain ⟨kq, x7_3, rfl, HA, HJ3, BK269, HB⟩ := hcut
    cases kq with
    | zero => exact absurd HA.out (by simp [perm_Sift.j0])
    | succ kj3 =>
      have H := HA.out; clear HA; simp only [perm_Sift.j0] at H; have HC11 := aM H; clear H
      go_upto_region 4 with (fail)
      repeat (go_quiet (fail); go_upto_region 4 with (fail))
      go_cut [26] (fun v26 wc => ∃ (kq : Nat) (x26_10 : Bool), v26 = .bool x26_10 ∧ Aside0 (perm_Sift.j1 kq l1 x7_3 x26_10 a0_0 l0_1 = some (r1, r2, r3)) ∧ Aside0 (kq ≤ kj3) ∧ Aside0 (wc.heap[gb269]? = some (.cells #[.int .i64 a0_0, (.slice A0_1 l0_1.length c0_1)] 46 (0, 0))) ∧ Aside0 (Below w.heap.size w wc))
      case first =>
        have H := HC11.out; clear HC11
        by_cases c12 : x7_3 = 0
        · rw [if_pos c12] at H; have c12b0 := beq_iff_eq.mpr c12; have c12b1 := bne_eq_false_iff_eq.mpr c12; clear c12
          (first | rw [c12b0] | (simp only [i64_w, i32_w]; rw [c12b0]) | skip)
          have H' := aM H; clear H; have hcz13_0 : wc.cell? ⟨gb269, 0, none⟩ = some (.int .i64 a0_0) := (blk_cell BK269.out 0).trans rfl; have hcz13_1 : wc.cell? ⟨gb269, 1, none⟩ = some (.slice A0_1 l0_1.length c0_1) := (blk_cell BK269.out 1).trans rfl; have hfz13_0 := blk_frozen BK269.out 0; have hfz13_1 := blk_frozen BK269.out 1; go_wp2
          repeat (go_quiet (fail); try go_wp2)
          go_meet
          case rel => exact ⟨_, (((l1.length : Int) != a0_0)), zz112, H', ⟨(by have := HJ3.out; first | omega | exact Nat.le_refl _)⟩, ⟨(zB BK269)⟩, ⟨zz70⟩⟩
        rw [if_neg c12] at H; have c12b0 := beq_eq_false_iff_ne.mpr c12; have c12b1 := bne_iff_ne.mpr c12
        (first | rw [c12b0] | (simp only [i64_w, i32_w]; rw [c12b0]) | skip)
        exact absurd (H.trans (congrArg (fun z_ => some (r1, r2, z_)) HR_.out)) (sift_j1n c12)
      case rest =>
        clear HC11; (try clear c1); (try clear p2); (try clear c3); (try clear c8); (try clear c8b0); (try clear c8b1); (try clear c12); (try clear c12b0); (try clear c12b1); (try clear hcz13_0); (try clear hcz13_1); (try clear hcz6_0); (try clear hcz6_1); (try clear hfz13_0); (try clear hfz13_1); (try clear hfz6_0); (try clear hfz6_1); (try clear p2); obtain ⟨kq, x26_10, rfl, HA, HJ10, BK269, HB⟩ := hcut
        cases kq with
        | zero => exact absurd HA.out (by simp [perm_Sift.j1])
        | succ kj10 =>
          have H := HA.out; clear HA; simp only [perm_Sift.j1] at H; have HC14 := aM H; clear H
          go_upto_if 26 with (fail)
          repeat (go_quiet (fail); go_upto_if 26 with (fail))
          go_cut [7] (fun v7 wc => ∃ (kq : Nat) (x7_13 : Int), v7 = .int .i64 x7_13 ∧ Aside0 (perm_Sift.j2 kq l1 x7_13 a0_0 l0_1 = some (r1, r2, r3)) ∧ Aside0 (kq ≤ kj10) ∧ Aside0 (wc.heap[gb269]? = some (.cells #[.int .i64 a0_0, (.slice A0_1 l0_1.length c0_1)] 46 (0, 0))) ∧ Aside0 (Below w.heap.size w wc))
          case first =>
            have H := HC14.out; clear HC14
            by_cases c15 : x26_10 = true
            · subst c15; have H1 : (perm_Sift.j2 kj10 l1 10 a0_0 l0_1) = some (r1, r2, r3) := by rw [if_pos rfl] at H; exact H
              clear H; have H := H1; clear H1
              exact absurd (H.trans (congrArg (fun z_ => some (r1, r2, z_)) HR_.out)) (sift_j2n (by decide))
            replace c15 := Bool.eq_false_iff.mpr c15; subst c15; have H1 : (perm_Sift.j2 kj10 l1 x7_3 a0_0 l0_1) = some (r1, r2, r3) := by rw [if_neg (show ¬ (false = true) by decide)] at H; exact H
            clear H; have H := H1; clear H1; have H' := aM H; clear H; go_wp2
            repeat (go_quiet (fail); try go_wp2)
            go_meet
            case rel => exact ⟨_, (x7_3), zz112, H', ⟨(by have := HJ3.out; have := HJ10.out; first | omega | exact Nat.le_refl _)⟩, ⟨(zB BK269)⟩, ⟨zz70⟩⟩
          case rest =>
            clear HC14; (try clear c1); (try clear p2); (try clear c3); (try clear c8); (try clear c8b0); (try clear c8b1); (try clear c12); (try clear c12b0); (try clear c12b1); (try clear c15); (try clear hcz13_0); (try clear hcz13_1); (try clear hcz6_0); (try clear hcz6_1); (try clear hfz13_0); (try clear hfz13_1); (try clear hfz6_0); (try clear hfz6_1); (try clear p2); obtain ⟨kq, x7_13, rfl, HA, HJ13, BK269, HB⟩ := hcut
            cases kq with
            | zero => exact absurd HA.out (by simp [perm_Sift.j2])
            | succ kj13 =>
              have H := HA.out; clear HA; simp only [perm_Sift.j2] at H
              by_cases c16 : x7_13 = 0
              · rw [if_pos c16] at H; have c16b0 := beq_iff_eq.mpr c16; have c16b1 := bne_eq_false_iff_eq.mpr c16; clear c16; replace H := Option.bind_eq_some_iff.mp H; obtain ⟨t272, A170, H⟩ := H; replace H : (perm_Sift.l0 kj13 t272 l0_1 (l0_1.length : Int) 0 a0_0 l0_1) = some (r1, r2, r3) := H; have A17 := aM A170; clear A170; have H' := aM H; clear H
                go_wp2_with (first | (go_at_call 69; (with_reducible refine (slCl.calls _ _ l1 t272 _ ?side1 ?side2 A17.out).mono ?_); (case side1 => repeat (first | exact (Kd.C_below HR1.out HB.out) | (with_reducible refine Kd.C_alloc ?_ _) | (with_reducible refine Kd.C_drewN ?_ _) | (with_reducible refine Kd.C_drew ?_))); (case side2 => exact HC1.out); rintro e w18 ⟨v273, rfl, ho0, hb⟩; have HO274 := aM (Kd.R_lower ho0 (below_size zz70)); replace BK269 := aM (blk_below (g := gb269) (o := .cells #[.int .i64 a0_0, .slice A0_1 l0_1.length c0_1] 46 (0, 0)) (zB BK269) hb); replace HB := aM (below_step zz70 hb); (try clear hb); (try clear hb2); (try clear hk); (try clear hi); (try clear ho0); have hcz19_0 : w18.cell? ⟨gb269, 0, none⟩ = some (.int .i64 a0_0) := (blk_cell BK269.out 0).trans rfl; have hcz19_1 : w18.cell? ⟨gb269, 1, none⟩ = some (.slice A0_1 l0_1.length c0_1) := (blk_cell BK269.out 1).trans rfl; have hfz19_0 := blk_frozen BK269.out 0; have hfz19_1 := blk_frozen BK269.out 1))
                repeat (go_quiet (first | (go_at_call 69; (with_reducible refine (slCl.calls _ _ l1 t272 _ ?side1 ?side2 A17.out).mono ?_); (case side1 => repeat (first | exact (Kd.C_below HR1.out HB.out) | (with_reducible refine Kd.C_alloc ?_ _) | (with_reducible refine Kd.C_drewN ?_ _) | (with_reducible refine Kd.C_drew ?_))); (case side2 => exact HC1.out); rintro e w18 ⟨v273, rfl, ho0, hb⟩; have HO274 := aM (Kd.R_lower ho0 (below_size zz70)); replace BK269 := aM (blk_below (g := gb269) (o := .cells #[.int .i64 a0_0, .slice A0_1 l0_1.length c0_1] 46 (0, 0)) (zB BK269) hb); replace HB := aM (below_step zz70 hb); (try clear hb); (try clear hb2); (try clear hk); (try clear hi); (try clear ho0); have hcz19_0 : w18.cell? ⟨gb269, 0, none⟩ = some (.int .i64 a0_0) := (blk_cell BK269.out 0).trans rfl; have hcz19_1 : w18.cell? ⟨gb269, 1, none⟩ = some (.slice A0_1 l0_1.length c0_1) := (blk_cell BK269.out 1).trans rfl; have hfz19_0 := blk_frozen BK269.out 0; have hfz19_1 := blk_frozen BK269.out 1)); try go_wp2_with (first | (go_at_call 69; (with_reducible refine (slCl.calls _ _ l1 t272 _ ?side1 ?side2 A17.out).mono ?_); (case side1 => repeat (first | exact (Kd.C_below HR1.out HB.out) | (with_reducible refine Kd.C_alloc ?_ _) | (with_reducible refine Kd.C_drewN ?_ _) | (with_reducible refine Kd.C_drew ?_))); (case side2 => exact HC1.out); rintro e w18 ⟨v273, rfl, ho0, hb⟩; have HO274 := aM (Kd.R_lower ho0 (below_size zz70)); replace BK269 := aM (blk_below (g := gb269) (o := .cells #[.int .i64 a0_0, .slice A0_1 l0_1.length c0_1] 46 (0, 0)) (zB BK269) hb); replace HB := aM (below_step zz70 hb); (try clear hb); (try clear hb2); (try clear hk); (try clear hi); (try clear ho0); have hcz19_0 : w18.cell? ⟨gb269, 0, none⟩ = some (.int .i64 a0_0) := (blk_cell BK269.out 0).trans rfl; have hcz19_1 : w18.cell? ⟨gb269, 1, none⟩ = some (.slice A0_1 l0_1.length c0_1) := (blk_cell BK269.out 1).trans rfl; have hfz19_0 := blk_frozen BK269.out 0; have hfz19_1 := blk_frozen BK269.out 1)))
                go_loopg [8, 35] kj13 (fun kq v8 v35 w' => ∃ (x8_4 : List Int) (x35_4 : Int), v35 = .int .i64 x35_4 ∧ Aside0 (perm_Sift.l0 kq x8_4 l0_1 (l0_1.length : Int) x35_4 a0_0 l0_1 = some (r1, r2, r3)) ∧ Aside0 (kq ≤ kj13) ∧ Aside0 (Kd.R (Kd.int .i64) 3 w' w.heap.size (fun _ => True) v8 x8_4) ∧ Aside0 (w'.heap[gb269]? = some (.cells #[.int .i64 a0_0, (.slice A0_1 l0_1.length c0_1)] 46 (0, 0))) ∧ Aside0 (Below w.heap.size w w'))
                case atStart => exact ⟨(t272), (0), zz112, H', ⟨Nat.le_refl _⟩, ⟨(zR HO274)⟩, ⟨(zB BK269)⟩, ⟨zz70⟩⟩
                case round =>
                  clear H'; (try clear c1); (try clear p2); (try clear c3); (try clear c8); (try clear c8b0); (try clear c8b1); (try clear c12); (try clear c12b0); (try clear c12b1); (try clear c15); (try clear c16); (try clear c16b0); (try clear c16b1); (try clear hcz13_0); (try clear hcz13_1); (try clear hcz19_0); (try clear hcz19_1); (try clear hcz6_0); (try clear hcz6_1); (try clear hfz13_0); (try clear hfz13_1); (try clear hfz19_0); (try clear hfz19_1); (try clear hfz6_0); (try clear hfz6_1); (try clear p2); obtain ⟨x8_4, x35_4, rfl, HA, HK4, HO_8, BK269, HB⟩ := hrel
                  cases gk with
                  | zero => exact absurd HA.out (by simp [perm_Sift.l0])
                  | succ k4 =>
                    have H := HA.out; clear HA; simp only [perm_Sift.l0] at H
                    by_cases c20 : x35_4 < (l0_1.length : Int)
                    · rw [if_pos c20] at H; have c20b0 := decide_eq_true c20; clear c20
                      by_cases c21 : 0 ≤ x35_4
                      · rw [if_pos c21] at H; have c21b0 := decide_eq_true c21; clear c21
                        by_cases c22 : x35_4 < (l0_1.length : Int)
                        · rw [if_pos c22] at H; have c22b0 := decide_eq_true c22; clear c22
                          by_cases c23 : 0 ≤ ((rd_T74 l0_1 x35_4).f0)
                          · rw [if_pos c23] at H; have c23b0 := decide_eq_true c23; clear c23
                            by_cases c24 : ((rd_T74 l0_1 x35_4).f0) < (x8_4.length : Int)
                            · rw [if_pos c24] at H; have c24b0 := decide_eq_true c24; clear c24; replace H := Option.bind_eq_some_iff.mp H; obtain ⟨t278, A250, H⟩ := H; replace H : (if t278 < 0 then (some (x8_4, x35_4, 0)) else (if 0 ≤ t278 then (if t278 < (((rd_T74 l0_1 x35_4).f2).length : Int) then ((perm_inverse.f k4 (rd_L1 ((rd_T74 l0_1 x35_4).f2) t278)).bind fun t280 => ((perm_then.f k4 x8_4 t280).bind fun t283 => (perm_Sift.l0 k4 t283 l0_1 (l0_1.length : Int) (wrap64 (x35_4 + 1)) a0_0 l0_1))) else (none)) else (none))) = some (r1, r2, r3) := H; have A25 := aM A250; clear A250
                              by_cases c26 : t278 < 0
                              · rw [if_pos c26] at H; have c26b0 := decide_eq_true c26; clear c26; simp only [Option.some.injEq, Prod.mk.injEq] at H; obtain ⟨rfl, rfl, rfl⟩ := H; have p275 : 0 ≤ (x35_4 : Int) := of_decide_eq_true zz111; have q275 : x35_4 < (l0_1.length : Int) := of_decide_eq_true zz111; obtain ⟨ad275, A275_1, c275_1, A275_2, c275_2, e275, hx275_0, hx275_1, hx275_2, hl275_1, hi275_1, hl275_2, hi275_2⟩ := at_T74 HR0_1.out x35_4 p275 q275
                                cases e275; replace hx275_0 := (HB.out.cell (World.block_lt_of_cell? w _ hx275_0)).trans hx275_0; replace hx275_1 := (HB.out.cell (World.block_lt_of_cell? w _ hx275_1)).trans hx275_1; replace hx275_2 := (HB.out.cell (World.block_lt_of_cell? w _ hx275_2)).trans hx275_2; have HR275_1 := aM hi275_1; have HC275_1 := aM hl275_1; clear hi275_1 hl275_1; have HR275_2 := aM hi275_2; have HC275_2 := aM hl275_2; clear hi275_2 hl275_2; replace p275 := eq_true p275; replace q275 := eq_true q275
                                go_wp2_with (first | ((with_reducible refine gate_dst (N := 10) rfl ?_); (try (refine gate_guard (by rfl) ?_; dsimp only)); refine box_event ?hg (N := 10) ?hd (cs := #[.int .i64 0, .slice none 0 0, .slice none 0 0]) (t := 74) ?hr ?_; (case hd => rfl); (case hg => rfl); (case hr => first | (go_simp; done) | (go_simp; rfl)); intro gb276 hg w27 hbox hb; replace HO_8 := aM (Kd.R_below (zR HO_8) hb); have BK276 := aM (hbox); have GW276 := aM ((by rw [hg]; exact (below_size zz70) : w.heap.size ≤ gb276)); have GE276 := aM ((by rw [hg]; exact (below_size zz70) : w.heap.size ≤ gb276)); replace HB := aM (below_step zz70 hb); have NB269_276 := aM ((by rw [hg]; exact Nat.ne_of_lt (blk_lt (g := gb269) (o := .cells #[.int .i64 a0_0, .slice (some ad275) l0_1.length c0_1] 46 (0, 0)) (zB BK269)) : gb269 ≠ gb276)); have NB276_269 := aM ((by rw [hg]; exact Nat.ne_of_gt (blk_lt (g := gb269) (o := .cells #[.int .i64 a0_0, .slice (some ad275) l0_1.length c0_1] 46 (0, 0)) (zB BK269)) : gb276 ≠ gb269)); replace BK269 := aM (blk_below (g := gb269) (o := .cells #[.int .i64 a0_0, .slice (some ad275) l0_1.length c0_1] 46 (0, 0)) (zB BK269) hb); clear hb hbox hg; have hnb28 := NB276_269.out; have hnc28 := NB269_276.out; have hcz29_0 : w27.cell? ⟨gb276, 0, none⟩ = some (.int .i64 0) := (blk_cell BK276.out 0).trans rfl; have hcz29_1 : w27.cell? ⟨gb276, 1, none⟩ = some (.slice none 0 0) := (blk_cell BK276.out 1).trans rfl; have hcz29_2 : w27.cell? ⟨gb276, 2, none⟩ = some (.slice none 0 0) := (blk_cell BK276.out 2).trans rfl; have hfz29_0 := blk_frozen BK276.out 0; have hfz29_1 := blk_frozen BK276.out 1; have hfz29_2 := blk_frozen BK276.out 2; obtain ⟨Ao30, co30, eo30⟩ := Kd.R_slice HO_8.out; subst eo30; have p277 : 0 ≤ (((rd_T74 l0_1 x35_4).f0) : Int) := of_decide_eq_true zz111; have q277 : ((rd_T74 l0_1 x35_4).f0) < (x8_4.length : Int) := of_decide_eq_true zz111; obtain ⟨ad277, e277, hx277_0⟩ := Kd.at_int (Kd.R_reads' HO_8.out).2.2 ((rd_T74 l0_1 x35_4).f0) p277 q277; cases e277; have hn277_0 : ad277.block ≠ gb276 := Kd.own_blk (Kd.R_ne HO_8.out BK276.out (by decide)); have hn277_1 : ad277.block ≠ gb276 := Kd.own_blk (Kd.R_ne HO_8.out BK276.out (by decide)); have hn277_2 : ad277.block ≠ gb276 := Kd.own_blk (Kd.R_ne HO_8.out BK276.out (by decide)); replace hx277_0 := (cell_far (p := ⟨gb276, 0, none⟩) zz90 (.int .i64 ((rd_T74 l0_1 x35_4).f0))).trans hx277_0; replace hx277_0 := (cell_far (p := ⟨gb276, 1, none⟩) zz91 (.slice A275_1 ((rd_T74 l0_1 x35_4).f1).length c275_1)).trans hx277_0; replace hx277_0 := (cell_far (p := ⟨gb276, 2, none⟩) zz92 (.slice A275_2 ((rd_T74 l0_1 x35_4).f2).length c275_2)).trans hx277_0; (try have hy277_0 := fun (n_ : Nat) => (show (((((w27.drewN n_).setCell ⟨gb276, 0, none⟩ (.int .i64 ((rd_T74 l0_1 x35_4).f0))).setCell ⟨gb276, 1, none⟩ (.slice A275_1 ((rd_T74 l0_1 x35_4).f1).length c275_1)).setCell ⟨gb276, 2, none⟩ (.slice A275_2 ((rd_T74 l0_1 x35_4).f2).length c275_2))).cell? _ = some _ from hx277_0)); clear hn277_0; clear hn277_1; clear hn277_2; replace p277 := eq_true p277; replace q277 := eq_true q277) | (go_at_call 70; (with_reducible refine (slIx.calls k4 _ _ ((rd_T74 l0_1 x35_4).f1) (rd x8_4 ((rd_T74 l0_1 x35_4).f0)) t278 _ ?side1 ?side2 A25.out).mono ?_); (case side1 => exact Kd.C_below HR275_1.out zz51); (case side2 => exact HC275_1.out); rintro e w' ⟨rfl, ⟨nd, rfl⟩⟩; (try first | exact ⟨rfl, _, World.drewN_drewN _ _ _⟩ | exact ⟨rfl, _, Eq.trans (World.drewN_drewN _ _ _) (congrArg (World.drewN _) (Nat.add_assoc _ _ _))⟩)))
                                repeat (go_quiet (first | ((with_reducible refine gate_dst (N := 10) rfl ?_); (try (refine gate_guard (by rfl) ?_; dsimp only)); refine box_event ?hg (N := 10) ?hd (cs := #[.int .i64 0, .slice none 0 0, .slice none 0 0]) (t := 74) ?hr ?_; (case hd => rfl); (case hg => rfl); (case hr => first | (go_simp; done) | (go_simp; rfl)); intro gb276 hg w27 hbox hb; replace HO_8 := aM (Kd.R_below (zR HO_8) hb); have BK276 := aM (hbox); have GW276 := aM ((by rw [hg]; exact (below_size zz70) : w.heap.size ≤ gb276)); have GE276 := aM ((by rw [hg]; exact (below_size zz70) : w.heap.size ≤ gb276)); replace HB := aM (below_step zz70 hb); have NB269_276 := aM ((by rw [hg]; exact Nat.ne_of_lt (blk_lt (g := gb269) (o := .cells #[.int .i64 a0_0, .slice (some ad275) l0_1.length c0_1] 46 (0, 0)) (zB BK269)) : gb269 ≠ gb276)); have NB276_269 := aM ((by rw [hg]; exact Nat.ne_of_gt (blk_lt (g := gb269) (o := .cells #[.int .i64 a0_0, .slice (some ad275) l0_1.length c0_1] 46 (0, 0)) (zB BK269)) : gb276 ≠ gb269)); replace BK269 := aM (blk_below (g := gb269) (o := .cells #[.int .i64 a0_0, .slice (some ad275) l0_1.length c0_1] 46 (0, 0)) (zB BK269) hb); clear hb hbox hg; have hnb28 := NB276_269.out; have hnc28 := NB269_276.out; have hcz29_0 : w27.cell? ⟨gb276, 0, none⟩ = some (.int .i64 0) := (blk_cell BK276.out 0).trans rfl; have hcz29_1 : w27.cell? ⟨gb276, 1, none⟩ = some (.slice none 0 0) := (blk_cell BK276.out 1).trans rfl; have hcz29_2 : w27.cell? ⟨gb276, 2, none⟩ = some (.slice none 0 0) := (blk_cell BK276.out 2).trans rfl; have hfz29_0 := blk_frozen BK276.out 0; have hfz29_1 := blk_frozen BK276.out 1; have hfz29_2 := blk_frozen BK276.out 2; obtain ⟨Ao30, co30, eo30⟩ := Kd.R_slice HO_8.out; subst eo30; have p277 : 0 ≤ (((rd_T74 l0_1 x35_4).f0) : Int) := of_decide_eq_true zz111; have q277 : ((rd_T74 l0_1 x35_4).f0) < (x8_4.length : Int) := of_decide_eq_true zz111; obtain ⟨ad277, e277, hx277_0⟩ := Kd.at_int (Kd.R_reads' HO_8.out).2.2 ((rd_T74 l0_1 x35_4).f0) p277 q277; cases e277; have hn277_0 : ad277.block ≠ gb276 := Kd.own_blk (Kd.R_ne HO_8.out BK276.out (by decide)); have hn277_1 : ad277.block ≠ gb276 := Kd.own_blk (Kd.R_ne HO_8.out BK276.out (by decide)); have hn277_2 : ad277.block ≠ gb276 := Kd.own_blk (Kd.R_ne HO_8.out BK276.out (by decide)); replace hx277_0 := (cell_far (p := ⟨gb276, 0, none⟩) zz90 (.int .i64 ((rd_T74 l0_1 x35_4).f0))).trans hx277_0; replace hx277_0 := (cell_far (p := ⟨gb276, 1, none⟩) zz91 (.slice A275_1 ((rd_T74 l0_1 x35_4).f1).length c275_1)).trans hx277_0; replace hx277_0 := (cell_far (p := ⟨gb276, 2, none⟩) zz92 (.slice A275_2 ((rd_T74 l0_1 x35_4).f2).length c275_2)).trans hx277_0; (try have hy277_0 := fun (n_ : Nat) => (show (((((w27.drewN n_).setCell ⟨gb276, 0, none⟩ (.int .i64 ((rd_T74 l0_1 x35_4).f0))).setCell ⟨gb276, 1, none⟩ (.slice A275_1 ((rd_T74 l0_1 x35_4).f1).length c275_1)).setCell ⟨gb276, 2, none⟩ (.slice A275_2 ((rd_T74 l0_1 x35_4).f2).length c275_2))).cell? _ = some _ from hx277_0)); clear hn277_0; clear hn277_1; clear hn277_2; replace p277 := eq_true p277; replace q277 := eq_true q277) | (go_at_call 70; (with_reducible refine (slIx.calls k4 _ _ ((rd_T74 l0_1 x35_4).f1) (rd x8_4 ((rd_T74 l0_1 x35_4).f0)) t278 _ ?side1 ?side2 A25.out).mono ?_); (case side1 => exact Kd.C_below HR275_1.out zz51); (case side2 => exact HC275_1.out); rintro e w' ⟨rfl, ⟨nd, rfl⟩⟩; (try first | exact ⟨rfl, _, World.drewN_drewN _ _ _⟩ | exact ⟨rfl, _, Eq.trans (World.drewN_drewN _ _ _) (congrArg (World.drewN _) (Nat.add_assoc _ _ _))⟩))); try go_wp2_with (first | ((with_reducible refine gate_dst (N := 10) rfl ?_); (try (refine gate_guard (by rfl) ?_; dsimp only)); refine box_event ?hg (N := 10) ?hd (cs := #[.int .i64 0, .slice none 0 0, .slice none 0 0]) (t := 74) ?hr ?_; (case hd => rfl); (case hg => rfl); (case hr => first | (go_simp; done) | (go_simp; rfl)); intro gb276 hg w27 hbox hb; replace HO_8 := aM (Kd.R_below (zR HO_8) hb); have BK276 := aM (hbox); have GW276 := aM ((by rw [hg]; exact (below_size zz70) : w.heap.size ≤ gb276)); have GE276 := aM ((by rw [hg]; exact (below_size zz70) : w.heap.size ≤ gb276)); replace HB := aM (below_step zz70 hb); have NB269_276 := aM ((by rw [hg]; exact Nat.ne_of_lt (blk_lt (g := gb269) (o := .cells #[.int .i64 a0_0, .slice (some ad275) l0_1.length c0_1] 46 (0, 0)) (zB BK269)) : gb269 ≠ gb276)); have NB276_269 := aM ((by rw [hg]; exact Nat.ne_of_gt (blk_lt (g := gb269) (o := .cells #[.int .i64 a0_0, .slice (some ad275) l0_1.length c0_1] 46 (0, 0)) (zB BK269)) : gb276 ≠ gb269)); replace BK269 := aM (blk_below (g := gb269) (o := .cells #[.int .i64 a0_0, .slice (some ad275) l0_1.length c0_1] 46 (0, 0)) (zB BK269) hb); clear hb hbox hg; have hnb28 := NB276_269.out; have hnc28 := NB269_276.out; have hcz29_0 : w27.cell? ⟨gb276, 0, none⟩ = some (.int .i64 0) := (blk_cell BK276.out 0).trans rfl; have hcz29_1 : w27.cell? ⟨gb276, 1, none⟩ = some (.slice none 0 0) := (blk_cell BK276.out 1).trans rfl; have hcz29_2 : w27.cell? ⟨gb276, 2, none⟩ = some (.slice none 0 0) := (blk_cell BK276.out 2).trans rfl; have hfz29_0 := blk_frozen BK276.out 0; have hfz29_1 := blk_frozen BK276.out 1; have hfz29_2 := blk_frozen BK276.out 2; obtain ⟨Ao30, co30, eo30⟩ := Kd.R_slice HO_8.out; subst eo30; have p277 : 0 ≤ (((rd_T74 l0_1 x35_4).f0) : Int) := of_decide_eq_true zz111; have q277 : ((rd_T74 l0_1 x35_4).f0) < (x8_4.length : Int) := of_decide_eq_true zz111; obtain ⟨ad277, e277, hx277_0⟩ := Kd.at_int (Kd.R_reads' HO_8.out).2.2 ((rd_T74 l0_1 x35_4).f0) p277 q277; cases e277; have hn277_0 : ad277.block ≠ gb276 := Kd.own_blk (Kd.R_ne HO_8.out BK276.out (by decide)); have hn277_1 : ad277.block ≠ gb276 := Kd.own_blk (Kd.R_ne HO_8.out BK276.out (by decide)); have hn277_2 : ad277.block ≠ gb276 := Kd.own_blk (Kd.R_ne HO_8.out BK276.out (by decide)); replace hx277_0 := (cell_far (p := ⟨gb276, 0, none⟩) zz90 (.int .i64 ((rd_T74 l0_1 x35_4).f0))).trans hx277_0; replace hx277_0 := (cell_far (p := ⟨gb276, 1, none⟩) zz91 (.slice A275_1 ((rd_T74 l0_1 x35_4).f1).length c275_1)).trans hx277_0; replace hx277_0 := (cell_far (p := ⟨gb276, 2, none⟩) zz92 (.slice A275_2 ((rd_T74 l0_1 x35_4).f2).length c275_2)).trans hx277_0; (try have hy277_0 := fun (n_ : Nat) => (show (((((w27.drewN n_).setCell ⟨gb276, 0, none⟩ (.int .i64 ((rd_T74 l0_1 x35_4).f0))).setCell ⟨gb276, 1, none⟩ (.slice A275_1 ((rd_T74 l0_1 x35_4).f1).length c275_1)).setCell ⟨gb276, 2, none⟩ (.slice A275_2 ((rd_T74 l0_1 x35_4).f2).length c275_2))).cell? _ = some _ from hx277_0)); clear hn277_0; clear hn277_1; clear hn277_2; replace p277 := eq_true p277; replace q277 := eq_true q277) | (go_at_call 70; (with_reducible refine (slIx.calls k4 _ _ ((rd_T74 l0_1 x35_4).f1) (rd x8_4 ((rd_T74 l0_1 x35_4).f0)) t278 _ ?side1 ?side2 A25.out).mono ?_); (case side1 => exact Kd.C_below HR275_1.out zz51); (case side2 => exact HC275_1.out); rintro e w' ⟨rfl, ⟨nd, rfl⟩⟩; (try first | exact ⟨rfl, _, World.drewN_drewN _ _ _⟩ | exact ⟨rfl, _, Eq.trans (World.drewN_drewN _ _ _) (congrArg (World.drewN _) (Nat.add_assoc _ _ _))⟩))))
                                go_ret3
                                exact ⟨_, by first | rfl | (simp [errW_none, errW_some] <;> rfl) | (simp [*, errW_none, errW_some] <;> rfl), by (with_reducible repeat (first | apply Kd.R_alloc | apply Kd.R_drewN | apply Kd.R_drew)); exact Kd.R_mono (Kd.R_far (p := ⟨gb276, 2, none⟩) (Kd.R_far (p := ⟨gb276, 1, none⟩) (Kd.R_far (p := ⟨gb276, 0, none⟩) (Kd.R_types HO_8.out BK276.out (by decide)) (fun _ hk => hk.2) (.int .i64 ((rd_T74 l0_1 x35_4).f0))) (fun _ hk => hk.2) (.slice A275_1 ((rd_T74 l0_1 x35_4).f1).length c275_1)) (fun _ hk => hk.2) (.slice A275_2 ((rd_T74 l0_1 x35_4).f2).length c275_2)) (fun _ hk => trivial), by repeat (first | (with_reducible first | exact HB.out | apply below_alloc | apply pw_below_drewN | apply below_drew1 | refine below_set ?_ GE269.out | refine below_set ?_ GE276.out) | exact HB.out)⟩
                              rw [if_neg c26] at H; have c26b0 := decide_eq_false c26; clear c26
                              by_cases c31 : 0 ≤ t278
                              · rw [if_pos c31] at H; have c31b0 := decide_eq_true c31; clear c31
                                by_cases c32 : t278 < (((rd_T74 l0_1 x35_4).f2).length : Int)
                                · rw [if_pos c32] at H; have c32b0 := decide_eq_true c32; clear c32; replace H := Option.bind_eq_some_iff.mp H; obtain ⟨t280, A330, H⟩ := H; replace H : ((perm_then.f k4 x8_4 t280).bind fun t283 => (perm_Sift.l0 k4 t283 l0_1 (l0_1.length : Int) (wrap64 (x35_4 + 1)) a0_0 l0_1)) = some (r1, r2, r3) := H; have A33 := aM A330; clear A330; replace H := Option.bind_eq_some_iff.mp H; obtain ⟨t283, A340, H⟩ := H; replace H : (perm_Sift.l0 k4 t283 l0_1 (l0_1.length : Int) (wrap64 (x35_4 + 1)) a0_0 l0_1) = some (r1, r2, r3) := H; have A34 := aM A340; clear A340; have H' := aM H; clear H; have p275 : 0 ≤ (x35_4 : Int) := of_decide_eq_true zz111; have q275 : x35_4 < (l0_1.length : Int) := of_decide_eq_true zz111; obtain ⟨ad275, A275_1, c275_1, A275_2, c275_2, e275, hx275_0, hx275_1, hx275_2, hl275_1, hi275_1, hl275_2, hi275_2⟩ := at_T74 HR0_1.out x35_4 p275 q275
                                  cases e275; replace hx275_0 := (HB.out.cell (World.block_lt_of_cell? w _ hx275_0)).trans hx275_0; replace hx275_1 := (HB.out.cell (World.block_lt_of_cell? w _ hx275_1)).trans hx275_1; replace hx275_2 := (HB.out.cell (World.block_lt_of_cell? w _ hx275_2)).trans hx275_2; have HR275_1 := aM hi275_1; have HC275_1 := aM hl275_1; clear hi275_1 hl275_1; have HR275_2 := aM hi275_2; have HC275_2 := aM hl275_2; clear hi275_2 hl275_2; replace p275 := eq_true p275; replace q275 := eq_true q275
                                  go_wp2_with (first | ((with_reducible refine gate_dst (N := 10) rfl ?_); (try (refine gate_guard (by rfl) ?_; dsimp only)); refine box_event ?hg (N := 10) ?hd (cs := #[.int .i64 0, .slice none 0 0, .slice none 0 0]) (t := 74) ?hr ?_; (case hd => rfl); (case hg => rfl); (case hr => first | (go_simp; done) | (go_simp; rfl)); intro gb276 hg w35 hbox hb; replace HO_8 := aM (Kd.R_below (zR HO_8) hb); have BK276 := aM (hbox); have GW276 := aM ((by rw [hg]; exact (below_size zz70) : w.heap.size ≤ gb276)); have GE276 := aM ((by rw [hg]; exact (below_size zz70) : w.heap.size ≤ gb276)); replace HB := aM (below_step zz70 hb); have NB269_276 := aM ((by rw [hg]; exact Nat.ne_of_lt (blk_lt (g := gb269) (o := .cells #[.int .i64 a0_0, .slice (some ad275) l0_1.length c0_1] 46 (0, 0)) (zB BK269)) : gb269 ≠ gb276)); have NB276_269 := aM ((by rw [hg]; exact Nat.ne_of_gt (blk_lt (g := gb269) (o := .cells #[.int .i64 a0_0, .slice (some ad275) l0_1.length c0_1] 46 (0, 0)) (zB BK269)) : gb276 ≠ gb269)); replace BK269 := aM (blk_below (g := gb269) (o := .cells #[.int .i64 a0_0, .slice (some ad275) l0_1.length c0_1] 46 (0, 0)) (zB BK269) hb); clear hb hbox hg; have hnb36 := NB276_269.out; have hnc36 := NB269_276.out; have hcz37_0 : w35.cell? ⟨gb276, 0, none⟩ = some (.int .i64 0) := (blk_cell BK276.out 0).trans rfl; have hcz37_1 : w35.cell? ⟨gb276, 1, none⟩ = some (.slice none 0 0) := (blk_cell BK276.out 1).trans rfl; have hcz37_2 : w35.cell? ⟨gb276, 2, none⟩ = some (.slice none 0 0) := (blk_cell BK276.out 2).trans rfl; have hfz37_0 := blk_frozen BK276.out 0; have hfz37_1 := blk_frozen BK276.out 1; have hfz37_2 := blk_frozen BK276.out 2; obtain ⟨Ao38, co38, eo38⟩ := Kd.R_slice HO_8.out; subst eo38; have p277 : 0 ≤ (((rd_T74 l0_1 x35_4).f0) : Int) := of_decide_eq_true zz111; have q277 : ((rd_T74 l0_1 x35_4).f0) < (x8_4.length : Int) := of_decide_eq_true zz111; obtain ⟨ad277, e277, hx277_0⟩ := Kd.at_int (Kd.R_reads' HO_8.out).2.2 ((rd_T74 l0_1 x35_4).f0) p277 q277; cases e277; have hn277_0 : ad277.block ≠ gb276 := Kd.own_blk (Kd.R_ne HO_8.out BK276.out (by decide)); have hn277_1 : ad277.block ≠ gb276 := Kd.own_blk (Kd.R_ne HO_8.out BK276.out (by decide)); have hn277_2 : ad277.block ≠ gb276 := Kd.own_blk (Kd.R_ne HO_8.out BK276.out (by decide)); replace hx277_0 := (cell_far (p := ⟨gb276, 0, none⟩) zz90 (.int .i64 ((rd_T74 l0_1 x35_4).f0))).trans hx277_0; replace hx277_0 := (cell_far (p := ⟨gb276, 1, none⟩) zz91 (.slice A275_1 ((rd_T74 l0_1 x35_4).f1).length c275_1)).trans hx277_0; replace hx277_0 := (cell_far (p := ⟨gb276, 2, none⟩) zz92 (.slice A275_2 ((rd_T74 l0_1 x35_4).f2).length c275_2)).trans hx277_0; (try have hy277_0 := fun (n_ : Nat) => (show (((((w35.drewN n_).setCell ⟨gb276, 0, none⟩ (.int .i64 ((rd_T74 l0_1 x35_4).f0))).setCell ⟨gb276, 1, none⟩ (.slice A275_1 ((rd_T74 l0_1 x35_4).f1).length c275_1)).setCell ⟨gb276, 2, none⟩ (.slice A275_2 ((rd_T74 l0_1 x35_4).f2).length c275_2))).cell? _ = some _ from hx277_0)); clear hn277_0; clear hn277_1; clear hn277_2; replace p277 := eq_true p277; replace q277 := eq_true q277) | (go_at_call 70; (with_reducible refine (slIx.calls k4 _ _ ((rd_T74 l0_1 x35_4).f1) (rd x8_4 ((rd_T74 l0_1 x35_4).f0)) t278 _ ?side1 ?side2 A25.out).mono ?_); (case side1 => exact Kd.C_below HR275_1.out zz51); (case side2 => exact HC275_1.out); rintro e w' ⟨rfl, ⟨nd, rfl⟩⟩; (try first | exact ⟨rfl, _, World.drewN_drewN _ _ _⟩ | exact ⟨rfl, _, Eq.trans (World.drewN_drewN _ _ _) (congrArg (World.drewN _) (Nat.add_assoc _ _ _))⟩); have p279 : 0 ≤ (t278 : Int) := of_decide_eq_true zz111; have q279 : t278 < (((rd_T74 l0_1 x35_4).f2).length : Int) := of_decide_eq_true zz111; obtain ⟨ad279, A279_0, c279_0, e279, hx279_0, hl279_0, hi279_0⟩ := at_L1 HR275_2.out t278 p279 q279; cases e279; have hn279_0 : ad279.block ≠ gb276 := Nat.ne_of_lt (Nat.lt_of_lt_of_le zz100 GW276.out); have hn279_1 : ad279.block ≠ gb276 := Nat.ne_of_lt (Nat.lt_of_lt_of_le zz100 GW276.out); have hn279_2 : ad279.block ≠ gb276 := Nat.ne_of_lt (Nat.lt_of_lt_of_le zz100 GW276.out); replace hx279_0 := (HB.out.cell (World.block_lt_of_cell? w _ hx279_0)).trans hx279_0; have HR279_0 := aM hi279_0; have HC279_0 := aM hl279_0; clear hi279_0 hl279_0; replace hx279_0 := (cell_far (p := ⟨gb276, 0, none⟩) zz93 (.int .i64 ((rd_T74 l0_1 x35_4).f0))).trans hx279_0; replace hx279_0 := (cell_far (p := ⟨gb276, 1, none⟩) zz94 (.slice A275_1 ((rd_T74 l0_1 x35_4).f1).length c275_1)).trans hx279_0; replace hx279_0 := (cell_far (p := ⟨gb276, 2, none⟩) zz95 (.slice (some ad279) ((rd_T74 l0_1 x35_4).f2).length c275_2)).trans hx279_0; (try have hy279_0 := fun (n_ : Nat) => (show (((((w35.drewN n_).setCell ⟨gb276, 0, none⟩ (.int .i64 ((rd_T74 l0_1 x35_4).f0))).setCell ⟨gb276, 1, none⟩ (.slice A275_1 ((rd_T74 l0_1 x35_4).f1).length c275_1)).setCell ⟨gb276, 2, none⟩ (.slice (some ad279) ((rd_T74 l0_1 x35_4).f2).length c275_2))).cell? _ = some _ from hx279_0)); clear hn279_0; clear hn279_1; clear hn279_2; replace p279 := eq_true p279; replace q279 := eq_true q279) | (go_at_call 55; (with_reducible refine (perm_inverse.calls k4 _ _ (rd_L1 ((rd_T74 l0_1 x35_4).f2) t278) t280 _ ?side1 ?side2 A33.out).mono ?_); (case side1 => exact Kd.C_below HR279_0.out zz51); (case side2 => exact HC279_0.out); rintro e w39 ⟨v281, rfl, ho0, hb⟩; have HO282 := aM (Kd.R_lower (Kd.R_new' ho0 (Kd.R_lt zz31)) (below_size zz51)); replace HO_8 := aM (Kd.R_elder' zz31 (Kd.R_base ho0) hb); replace BK269 := aM (blk_below (g := gb269) (o := .cells #[.int .i64 a0_0, .slice (some ad275) l0_1.length c0_1] 46 (0, 0)) zz27 hb); replace BK276 := aM (blk_below (g := gb276) (o := .cells #[.int .i64 ((rd_T74 l0_1 x35_4).f0), .slice A275_1 ((rd_T74 l0_1 x35_4).f1).length c275_1, .slice (some ad279) ((rd_T74 l0_1 x35_4).f2).length c275_2] 74 (0, 0)) zz6 hb); replace HB := aM (below_step zz51 hb); (try clear hb); (try clear hb2); (try clear hk); (try clear hi); (try clear ho0); obtain ⟨Ao40, co40, eo40⟩ := Kd.R_slice HO282.out; subst eo40) | (go_at_call 50; (with_reducible refine (perm_then.calls k4 _ _ x8_4 _ _ t280 t283 _ ?side1 ?side2 ?side3 ?side4 A34.out).mono ?_); (case side1 => repeat (first | exact (Kd.R_reads' HO_8.out).2.2 | (with_reducible refine Kd.C_alloc ?_ _) | (with_reducible refine Kd.C_drewN ?_ _) | (with_reducible refine Kd.C_drew ?_))); (case side2 => exact (Kd.R_reads' HO_8.out).2.1); (case side3 => repeat (first | exact (Kd.R_reads' HO282.out).2.2 | (with_reducible refine Kd.C_alloc ?_ _) | (with_reducible refine Kd.C_drewN ?_ _) | (with_reducible refine Kd.C_drew ?_))); (case side4 => exact (Kd.R_reads' HO282.out).2.1); rintro e w41 ⟨v284, rfl, ho0, hb⟩; have HO285 := aM (Kd.R_lower (Kd.R_new' (Kd.R_new' ho0 (Kd.R_lt (zR HO_8))) (Kd.R_lt (zR HO282))) (below_size zz51)); replace HO_8 := aM (Kd.R_elder' (zR HO_8) (Kd.R_base ho0) hb); replace HO282 := aM (Kd.R_elder' (zR HO282) (Kd.R_base ho0) hb); replace BK269 := aM (blk_below (g := gb269) (o := .cells #[.int .i64 a0_0, .slice (some ad275) l0_1.length c0_1] 46 (0, 0)) (zB BK269) hb); replace BK276 := aM (blk_below (g := gb276) (o := .cells #[.int .i64 ((rd_T74 l0_1 x35_4).f0), .slice A275_1 ((rd_T74 l0_1 x35_4).f1).length c275_1, .slice (some ad279) ((rd_T74 l0_1 x35_4).f2).length c275_2] 74 (0, 0)) (zB BK276) hb); replace HB := aM (below_step zz51 hb); (try clear hb); (try clear hb2); (try clear hk); (try clear hi); (try clear ho0)))
                                  repeat (go_quiet (first | ((with_reducible refine gate_dst (N := 10) rfl ?_); (try (refine gate_guard (by rfl) ?_; dsimp only)); refine box_event ?hg (N := 10) ?hd (cs := #[.int .i64 0, .slice none 0 0, .slice none 0 0]) (t := 74) ?hr ?_; (case hd => rfl); (case hg => rfl); (case hr => first | (go_simp; done) | (go_simp; rfl)); intro gb276 hg w35 hbox hb; replace HO_8 := aM (Kd.R_below (zR HO_8) hb); have BK276 := aM (hbox); have GW276 := aM ((by rw [hg]; exact (below_size zz70) : w.heap.size ≤ gb276)); have GE276 := aM ((by rw [hg]; exact (below_size zz70) : w.heap.size ≤ gb276)); replace HB := aM (below_step zz70 hb); have NB269_276 := aM ((by rw [hg]; exact Nat.ne_of_lt (blk_lt (g := gb269) (o := .cells #[.int .i64 a0_0, .slice (some ad275) l0_1.length c0_1] 46 (0, 0)) (zB BK269)) : gb269 ≠ gb276)); have NB276_269 := aM ((by rw [hg]; exact Nat.ne_of_gt (blk_lt (g := gb269) (o := .cells #[.int .i64 a0_0, .slice (some ad275) l0_1.length c0_1] 46 (0, 0)) (zB BK269)) : gb276 ≠ gb269)); replace BK269 := aM (blk_below (g := gb269) (o := .cells #[.int .i64 a0_0, .slice (some ad275) l0_1.length c0_1] 46 (0, 0)) (zB BK269) hb); clear hb hbox hg; have hnb36 := NB276_269.out; have hnc36 := NB269_276.out; have hcz37_0 : w35.cell? ⟨gb276, 0, none⟩ = some (.int .i64 0) := (blk_cell BK276.out 0).trans rfl; have hcz37_1 : w35.cell? ⟨gb276, 1, none⟩ = some (.slice none 0 0) := (blk_cell BK276.out 1).trans rfl; have hcz37_2 : w35.cell? ⟨gb276, 2, none⟩ = some (.slice none 0 0) := (blk_cell BK276.out 2).trans rfl; have hfz37_0 := blk_frozen BK276.out 0; have hfz37_1 := blk_frozen BK276.out 1; have hfz37_2 := blk_frozen BK276.out 2; obtain ⟨Ao38, co38, eo38⟩ := Kd.R_slice HO_8.out; subst eo38; have p277 : 0 ≤ (((rd_T74 l0_1 x35_4).f0) : Int) := of_decide_eq_true zz111; have q277 : ((rd_T74 l0_1 x35_4).f0) < (x8_4.length : Int) := of_decide_eq_true zz111; obtain ⟨ad277, e277, hx277_0⟩ := Kd.at_int (Kd.R_reads' HO_8.out).2.2 ((rd_T74 l0_1 x35_4).f0) p277 q277; cases e277; have hn277_0 : ad277.block ≠ gb276 := Kd.own_blk (Kd.R_ne HO_8.out BK276.out (by decide)); have hn277_1 : ad277.block ≠ gb276 := Kd.own_blk (Kd.R_ne HO_8.out BK276.out (by decide)); have hn277_2 : ad277.block ≠ gb276 := Kd.own_blk (Kd.R_ne HO_8.out BK276.out (by decide)); replace hx277_0 := (cell_far (p := ⟨gb276, 0, none⟩) zz90 (.int .i64 ((rd_T74 l0_1 x35_4).f0))).trans hx277_0; replace hx277_0 := (cell_far (p := ⟨gb276, 1, none⟩) zz91 (.slice A275_1 ((rd_T74 l0_1 x35_4).f1).length c275_1)).trans hx277_0; replace hx277_0 := (cell_far (p := ⟨gb276, 2, none⟩) zz92 (.slice A275_2 ((rd_T74 l0_1 x35_4).f2).length c275_2)).trans hx277_0; (try have hy277_0 := fun (n_ : Nat) => (show (((((w35.drewN n_).setCell ⟨gb276, 0, none⟩ (.int .i64 ((rd_T74 l0_1 x35_4).f0))).setCell ⟨gb276, 1, none⟩ (.slice A275_1 ((rd_T74 l0_1 x35_4).f1).length c275_1)).setCell ⟨gb276, 2, none⟩ (.slice A275_2 ((rd_T74 l0_1 x35_4).f2).length c275_2))).cell? _ = some _ from hx277_0)); clear hn277_0; clear hn277_1; clear hn277_2; replace p277 := eq_true p277; replace q277 := eq_true q277) | (go_at_call 70; (with_reducible refine (slIx.calls k4 _ _ ((rd_T74 l0_1 x35_4).f1) (rd x8_4 ((rd_T74 l0_1 x35_4).f0)) t278 _ ?side1 ?side2 A25.out).mono ?_); (case side1 => exact Kd.C_below HR275_1.out zz51); (case side2 => exact HC275_1.out); rintro e w' ⟨rfl, ⟨nd, rfl⟩⟩; (try first | exact ⟨rfl, _, World.drewN_drewN _ _ _⟩ | exact ⟨rfl, _, Eq.trans (World.drewN_drewN _ _ _) (congrArg (World.drewN _) (Nat.add_assoc _ _ _))⟩); have p279 : 0 ≤ (t278 : Int) := of_decide_eq_true zz111; have q279 : t278 < (((rd_T74 l0_1 x35_4).f2).length : Int) := of_decide_eq_true zz111; obtain ⟨ad279, A279_0, c279_0, e279, hx279_0, hl279_0, hi279_0⟩ := at_L1 HR275_2.out t278 p279 q279; cases e279; have hn279_0 : ad279.block ≠ gb276 := Nat.ne_of_lt (Nat.lt_of_lt_of_le zz100 GW276.out); have hn279_1 : ad279.block ≠ gb276 := Nat.ne_of_lt (Nat.lt_of_lt_of_le zz100 GW276.out); have hn279_2 : ad279.block ≠ gb276 := Nat.ne_of_lt (Nat.lt_of_lt_of_le zz100 GW276.out); replace hx279_0 := (HB.out.cell (World.block_lt_of_cell? w _ hx279_0)).trans hx279_0; have HR279_0 := aM hi279_0; have HC279_0 := aM hl279_0; clear hi279_0 hl279_0; replace hx279_0 := (cell_far (p := ⟨gb276, 0, none⟩) zz93 (.int .i64 ((rd_T74 l0_1 x35_4).f0))).trans hx279_0; replace hx279_0 := (cell_far (p := ⟨gb276, 1, none⟩) zz94 (.slice A275_1 ((rd_T74 l0_1 x35_4).f1).length c275_1)).trans hx279_0; replace hx279_0 := (cell_far (p := ⟨gb276, 2, none⟩) zz95 (.slice (some ad279) ((rd_T74 l0_1 x35_4).f2).length c275_2)).trans hx279_0; (try have hy279_0 := fun (n_ : Nat) => (show (((((w35.drewN n_).setCell ⟨gb276, 0, none⟩ (.int .i64 ((rd_T74 l0_1 x35_4).f0))).setCell ⟨gb276, 1, none⟩ (.slice A275_1 ((rd_T74 l0_1 x35_4).f1).length c275_1)).setCell ⟨gb276, 2, none⟩ (.slice (some ad279) ((rd_T74 l0_1 x35_4).f2).length c275_2))).cell? _ = some _ from hx279_0)); clear hn279_0; clear hn279_1; clear hn279_2; replace p279 := eq_true p279; replace q279 := eq_true q279) | (go_at_call 55; (with_reducible refine (perm_inverse.calls k4 _ _ (rd_L1 ((rd_T74 l0_1 x35_4).f2) t278) t280 _ ?side1 ?side2 A33.out).mono ?_); (case side1 => exact Kd.C_below HR279_0.out zz51); (case side2 => exact HC279_0.out); rintro e w39 ⟨v281, rfl, ho0, hb⟩; have HO282 := aM (Kd.R_lower (Kd.R_new' ho0 (Kd.R_lt zz31)) (below_size zz51)); replace HO_8 := aM (Kd.R_elder' zz31 (Kd.R_base ho0) hb); replace BK269 := aM (blk_below (g := gb269) (o := .cells #[.int .i64 a0_0, .slice (some ad275) l0_1.length c0_1] 46 (0, 0)) zz27 hb); replace BK276 := aM (blk_below (g := gb276) (o := .cells #[.int .i64 ((rd_T74 l0_1 x35_4).f0), .slice A275_1 ((rd_T74 l0_1 x35_4).f1).length c275_1, .slice (some ad279) ((rd_T74 l0_1 x35_4).f2).length c275_2] 74 (0, 0)) zz6 hb); replace HB := aM (below_step zz51 hb); (try clear hb); (try clear hb2); (try clear hk); (try clear hi); (try clear ho0); obtain ⟨Ao40, co40, eo40⟩ := Kd.R_slice HO282.out; subst eo40) | (go_at_call 50; (with_reducible refine (perm_then.calls k4 _ _ x8_4 _ _ t280 t283 _ ?side1 ?side2 ?side3 ?side4 A34.out).mono ?_); (case side1 => repeat (first | exact (Kd.R_reads' HO_8.out).2.2 | (with_reducible refine Kd.C_alloc ?_ _) | (with_reducible refine Kd.C_drewN ?_ _) | (with_reducible refine Kd.C_drew ?_))); (case side2 => exact (Kd.R_reads' HO_8.out).2.1); (case side3 => repeat (first | exact (Kd.R_reads' HO282.out).2.2 | (with_reducible refine Kd.C_alloc ?_ _) | (with_reducible refine Kd.C_drewN ?_ _) | (with_reducible refine Kd.C_drew ?_))); (case side4 => exact (Kd.R_reads' HO282.out).2.1); rintro e w41 ⟨v284, rfl, ho0, hb⟩; have HO285 := aM (Kd.R_lower (Kd.R_new' (Kd.R_new' ho0 (Kd.R_lt (zR HO_8))) (Kd.R_lt (zR HO282))) (below_size zz51)); replace HO_8 := aM (Kd.R_elder' (zR HO_8) (Kd.R_base ho0) hb); replace HO282 := aM (Kd.R_elder' (zR HO282) (Kd.R_base ho0) hb); replace BK269 := aM (blk_below (g := gb269) (o := .cells #[.int .i64 a0_0, .slice (some ad275) l0_1.length c0_1] 46 (0, 0)) (zB BK269) hb); replace BK276 := aM (blk_below (g := gb276) (o := .cells #[.int .i64 ((rd_T74 l0_1 x35_4).f0), .slice A275_1 ((rd_T74 l0_1 x35_4).f1).length c275_1, .slice (some ad279) ((rd_T74 l0_1 x35_4).f2).length c275_2] 74 (0, 0)) (zB BK276) hb); replace HB := aM (below_step zz51 hb); (try clear hb); (try clear hb2); (try clear hk); (try clear hi); (try clear ho0))); try go_wp2_with (first | ((with_reducible refine gate_dst (N := 10) rfl ?_); (try (refine gate_guard (by rfl) ?_; dsimp only)); refine box_event ?hg (N := 10) ?hd (cs := #[.int .i64 0, .slice none 0 0, .slice none 0 0]) (t := 74) ?hr ?_; (case hd => rfl); (case hg => rfl); (case hr => first | (go_simp; done) | (go_simp; rfl)); intro gb276 hg w35 hbox hb; replace HO_8 := aM (Kd.R_below (zR HO_8) hb); have BK276 := aM (hbox); have GW276 := aM ((by rw [hg]; exact (below_size zz70) : w.heap.size ≤ gb276)); have GE276 := aM ((by rw [hg]; exact (below_size zz70) : w.heap.size ≤ gb276)); replace HB := aM (below_step zz70 hb); have NB269_276 := aM ((by rw [hg]; exact Nat.ne_of_lt (blk_lt (g := gb269) (o := .cells #[.int .i64 a0_0, .slice (some ad275) l0_1.length c0_1] 46 (0, 0)) (zB BK269)) : gb269 ≠ gb276)); have NB276_269 := aM ((by rw [hg]; exact Nat.ne_of_gt (blk_lt (g := gb269) (o := .cells #[.int .i64 a0_0, .slice (some ad275) l0_1.length c0_1] 46 (0, 0)) (zB BK269)) : gb276 ≠ gb269)); replace BK269 := aM (blk_below (g := gb269) (o := .cells #[.int .i64 a0_0, .slice (some ad275) l0_1.length c0_1] 46 (0, 0)) (zB BK269) hb); clear hb hbox hg; have hnb36 := NB276_269.out; have hnc36 := NB269_276.out; have hcz37_0 : w35.cell? ⟨gb276, 0, none⟩ = some (.int .i64 0) := (blk_cell BK276.out 0).trans rfl; have hcz37_1 : w35.cell? ⟨gb276, 1, none⟩ = some (.slice none 0 0) := (blk_cell BK276.out 1).trans rfl; have hcz37_2 : w35.cell? ⟨gb276, 2, none⟩ = some (.slice none 0 0) := (blk_cell BK276.out 2).trans rfl; have hfz37_0 := blk_frozen BK276.out 0; have hfz37_1 := blk_frozen BK276.out 1; have hfz37_2 := blk_frozen BK276.out 2; obtain ⟨Ao38, co38, eo38⟩ := Kd.R_slice HO_8.out; subst eo38; have p277 : 0 ≤ (((rd_T74 l0_1 x35_4).f0) : Int) := of_decide_eq_true zz111; have q277 : ((rd_T74 l0_1 x35_4).f0) < (x8_4.length : Int) := of_decide_eq_true zz111; obtain ⟨ad277, e277, hx277_0⟩ := Kd.at_int (Kd.R_reads' HO_8.out).2.2 ((rd_T74 l0_1 x35_4).f0) p277 q277; cases e277; have hn277_0 : ad277.block ≠ gb276 := Kd.own_blk (Kd.R_ne HO_8.out BK276.out (by decide)); have hn277_1 : ad277.block ≠ gb276 := Kd.own_blk (Kd.R_ne HO_8.out BK276.out (by decide)); have hn277_2 : ad277.block ≠ gb276 := Kd.own_blk (Kd.R_ne HO_8.out BK276.out (by decide)); replace hx277_0 := (cell_far (p := ⟨gb276, 0, none⟩) zz90 (.int .i64 ((rd_T74 l0_1 x35_4).f0))).trans hx277_0; replace hx277_0 := (cell_far (p := ⟨gb276, 1, none⟩) zz91 (.slice A275_1 ((rd_T74 l0_1 x35_4).f1).length c275_1)).trans hx277_0; replace hx277_0 := (cell_far (p := ⟨gb276, 2, none⟩) zz92 (.slice A275_2 ((rd_T74 l0_1 x35_4).f2).length c275_2)).trans hx277_0; (try have hy277_0 := fun (n_ : Nat) => (show (((((w35.drewN n_).setCell ⟨gb276, 0, none⟩ (.int .i64 ((rd_T74 l0_1 x35_4).f0))).setCell ⟨gb276, 1, none⟩ (.slice A275_1 ((rd_T74 l0_1 x35_4).f1).length c275_1)).setCell ⟨gb276, 2, none⟩ (.slice A275_2 ((rd_T74 l0_1 x35_4).f2).length c275_2))).cell? _ = some _ from hx277_0)); clear hn277_0; clear hn277_1; clear hn277_2; replace p277 := eq_true p277; replace q277 := eq_true q277) | (go_at_call 70; (with_reducible refine (slIx.calls k4 _ _ ((rd_T74 l0_1 x35_4).f1) (rd x8_4 ((rd_T74 l0_1 x35_4).f0)) t278 _ ?side1 ?side2 A25.out).mono ?_); (case side1 => exact Kd.C_below HR275_1.out zz51); (case side2 => exact HC275_1.out); rintro e w' ⟨rfl, ⟨nd, rfl⟩⟩; (try first | exact ⟨rfl, _, World.drewN_drewN _ _ _⟩ | exact ⟨rfl, _, Eq.trans (World.drewN_drewN _ _ _) (congrArg (World.drewN _) (Nat.add_assoc _ _ _))⟩); have p279 : 0 ≤ (t278 : Int) := of_decide_eq_true zz111; have q279 : t278 < (((rd_T74 l0_1 x35_4).f2).length : Int) := of_decide_eq_true zz111; obtain ⟨ad279, A279_0, c279_0, e279, hx279_0, hl279_0, hi279_0⟩ := at_L1 HR275_2.out t278 p279 q279; cases e279; have hn279_0 : ad279.block ≠ gb276 := Nat.ne_of_lt (Nat.lt_of_lt_of_le zz100 GW276.out); have hn279_1 : ad279.block ≠ gb276 := Nat.ne_of_lt (Nat.lt_of_lt_of_le zz100 GW276.out); have hn279_2 : ad279.block ≠ gb276 := Nat.ne_of_lt (Nat.lt_of_lt_of_le zz100 GW276.out); replace hx279_0 := (HB.out.cell (World.block_lt_of_cell? w _ hx279_0)).trans hx279_0; have HR279_0 := aM hi279_0; have HC279_0 := aM hl279_0; clear hi279_0 hl279_0; replace hx279_0 := (cell_far (p := ⟨gb276, 0, none⟩) zz93 (.int .i64 ((rd_T74 l0_1 x35_4).f0))).trans hx279_0; replace hx279_0 := (cell_far (p := ⟨gb276, 1, none⟩) zz94 (.slice A275_1 ((rd_T74 l0_1 x35_4).f1).length c275_1)).trans hx279_0; replace hx279_0 := (cell_far (p := ⟨gb276, 2, none⟩) zz95 (.slice (some ad279) ((rd_T74 l0_1 x35_4).f2).length c275_2)).trans hx279_0; (try have hy279_0 := fun (n_ : Nat) => (show (((((w35.drewN n_).setCell ⟨gb276, 0, none⟩ (.int .i64 ((rd_T74 l0_1 x35_4).f0))).setCell ⟨gb276, 1, none⟩ (.slice A275_1 ((rd_T74 l0_1 x35_4).f1).length c275_1)).setCell ⟨gb276, 2, none⟩ (.slice (some ad279) ((rd_T74 l0_1 x35_4).f2).length c275_2))).cell? _ = some _ from hx279_0)); clear hn279_0; clear hn279_1; clear hn279_2; replace p279 := eq_true p279; replace q279 := eq_true q279) | (go_at_call 55; (with_reducible refine (perm_inverse.calls k4 _ _ (rd_L1 ((rd_T74 l0_1 x35_4).f2) t278) t280 _ ?side1 ?side2 A33.out).mono ?_); (case side1 => exact Kd.C_below HR279_0.out zz51); (case side2 => exact HC279_0.out); rintro e w39 ⟨v281, rfl, ho0, hb⟩; have HO282 := aM (Kd.R_lower (Kd.R_new' ho0 (Kd.R_lt zz31)) (below_size zz51)); replace HO_8 := aM (Kd.R_elder' zz31 (Kd.R_base ho0) hb); replace BK269 := aM (blk_below (g := gb269) (o := .cells #[.int .i64 a0_0, .slice (some ad275) l0_1.length c0_1] 46 (0, 0)) zz27 hb); replace BK276 := aM (blk_below (g := gb276) (o := .cells #[.int .i64 ((rd_T74 l0_1 x35_4).f0), .slice A275_1 ((rd_T74 l0_1 x35_4).f1).length c275_1, .slice (some ad279) ((rd_T74 l0_1 x35_4).f2).length c275_2] 74 (0, 0)) zz6 hb); replace HB := aM (below_step zz51 hb); (try clear hb); (try clear hb2); (try clear hk); (try clear hi); (try clear ho0); obtain ⟨Ao40, co40, eo40⟩ := Kd.R_slice HO282.out; subst eo40) | (go_at_call 50; (with_reducible refine (perm_then.calls k4 _ _ x8_4 _ _ t280 t283 _ ?side1 ?side2 ?side3 ?side4 A34.out).mono ?_); (case side1 => repeat (first | exact (Kd.R_reads' HO_8.out).2.2 | (with_reducible refine Kd.C_alloc ?_ _) | (with_reducible refine Kd.C_drewN ?_ _) | (with_reducible refine Kd.C_drew ?_))); (case side2 => exact (Kd.R_reads' HO_8.out).2.1); (case side3 => repeat (first | exact (Kd.R_reads' HO282.out).2.2 | (with_reducible refine Kd.C_alloc ?_ _) | (with_reducible refine Kd.C_drewN ?_ _) | (with_reducible refine Kd.C_drew ?_))); (case side4 => exact (Kd.R_reads' HO282.out).2.1); rintro e w41 ⟨v284, rfl, ho0, hb⟩; have HO285 := aM (Kd.R_lower (Kd.R_new' (Kd.R_new' ho0 (Kd.R_lt (zR HO_8))) (Kd.R_lt (zR HO282))) (below_size zz51)); replace HO_8 := aM (Kd.R_elder' (zR HO_8) (Kd.R_base ho0) hb); replace HO282 := aM (Kd.R_elder' (zR HO282) (Kd.R_base ho0) hb); replace BK269 := aM (blk_below (g := gb269) (o := .cells #[.int .i64 a0_0, .slice (some ad275) l0_1.length c0_1] 46 (0, 0)) (zB BK269) hb); replace BK276 := aM (blk_below (g := gb276) (o := .cells #[.int .i64 ((rd_T74 l0_1 x35_4).f0), .slice A275_1 ((rd_T74 l0_1 x35_4).f1).length c275_1, .slice (some ad279) ((rd_T74 l0_1 x35_4).f2).length c275_2] 74 (0, 0)) (zB BK276) hb); replace HB := aM (below_step zz51 hb); (try clear hb); (try clear hb2); (try clear hk); (try clear hi); (try clear ho0))))
                                  go_roundg k4
                                  case measure => have := HJ3.out; have := HJ10.out; have := HJ13.out; have := HK4.out; omega
                                  case rel => exact ⟨(t283), (wrap64 (x35_4 + 1)), zz112, H', ⟨(by have := HJ3.out; have := HJ10.out; have := HJ13.out; have := HK4.out; omega)⟩, ⟨(by (with_reducible repeat (first | apply Kd.R_alloc | apply Kd.R_drewN | apply Kd.R_drew)); exact Kd.R_mono HO285.out (fun _ hk => trivial))⟩, ⟨(zB BK269)⟩, ⟨zz51⟩⟩
                                rw [if_neg c32] at H
                                exact absurd H (by simp)
                              rw [if_neg c31] at H
                              exact absurd H (by simp)
                            rw [if_neg c24] at H
                            exact absurd H (by simp)
                          rw [if_neg c23] at H
                          exact absurd H (by simp)
                        rw [if_neg c22] at H
                        exact absurd H (by simp)
                      rw [if_neg c21] at H
                      exact absurd H (by simp)
                    rw [if_neg c20] at H; have c20b0 := decide_eq_false c20; clear c20; simp only [Option.some.injEq, Prod.mk.injEq] at H; obtain ⟨rfl, rfl, rfl⟩ := H; have hcz42_0 : wr.cell? ⟨gb269, 0, none⟩ = some (.int .i64 a0_0) := (blk_cell BK269.out 0).trans rfl; have hcz42_1 : wr.cell? ⟨gb269, 1, none⟩ = some (.slice A0_1 l0_1.length c0_1) := (blk_cell BK269.out 1).trans rfl; have hfz42_0 := blk_frozen BK269.out 0; have hfz42_1 := blk_frozen BK269.out 1; go_wp2
                    repeat (go_quiet (fail); try go_wp2)
                    go_ret3
                    exact ⟨_, by first | rfl | (simp [errW_none, errW_some] <;> rfl) | (simp [*, errW_none, errW_some] <;> rfl), by (with_reducible repeat (first | apply Kd.R_alloc | apply Kd.R_drewN | apply Kd.R_drew)); exact HO_8.out, by repeat (first | (with_reducible first | exact HB.out | apply below_alloc | apply pw_below_drewN | apply below_drew1 | refine below_set ?_ GE269.out) | exact HB.out)⟩
              rw [if_neg c16] at H; have c16b0 := beq_eq_false_iff_ne.mpr c16; have c16b1 := bne_iff_ne.mpr c16
              exact absurd ((Prod.mk.inj (Prod.mk.inj (Option.some.inj H)).2).2.trans HR_.out) c16
theorem perm_Has.callsz (k : Nat) (a0_0 : Int) (A0_1 : Option Addr) (c0_1 : Nat) (l0_1 : List (S74)) (A1 : Option Addr) (c1 : Nat) (l1 : List Int) (r1 : Bool) (r2 : Int) (w : World) (hr0_1 : Kd.C k74 w A0_1 l0_1.length l0_1) (hc0_1 : l0_1.length ≤ c0_1) (hr1 : Kd.C (Kd.int .i64) w A1 l1.length l1) (hc1 : l1.length ≤ c1) (h : perm_Has.f k a0_0 l0_1 l1 = some (r1, r2)) (hr_ : r2 = 0) :
    Calls Try.prog 40 #[.agg #[.int .i64 a0_0, .slice A0_1 l0_1.length c0_1], .slice A1 l1.length c1] w fun e w' => e = .returned (.tuple #[.bool r1, .int .i64 r2]) ∧ Below w.heap.size w w' := by
  have HR_ := aM hr_
  clear hr_
  have hu46 := Try.underlying46
  have HR0_1 := aM hr0_1
  have HC0_1 := aM hc0_1
  clear hr0_1 hc0_1
  have HR1 := aM hr1
  have HC1 := aM hc1
  clear hr1 hc1
  have HB := aM (Below.refl w.heap.size w)
  have H : ((perm_Sift.f k a0_0 l0_1 l1).bind fun bt287 => (if bt287.2.2 = 0 then (if bt287.2.1 = (l0_1.length : Int) then ((perm_identity.f k (bt287.1.length : Int)).bind fun t292 => ((slEq.f k bt287.1 t292).bind fun t295 => (some (t295, bt287.2.2)))) else (some (false, bt287.2.2))) else (some (false, bt287.2.2)))) = some (r1, r2) := h
  clear h
  replace H := Option.bind_eq_some_iff.mp H
  obtain ⟨⟨t287, t290, t291⟩, A30, H⟩ := H
  replace H : (if t291 = 0 then (if t290 = (l0_1.length : Int) then ((perm_identity.f k (t287.length : Int)).bind fun t292 => ((slEq.f k t287 t292).bind fun t295 => (some (t295, t291)))) else (some (false, t291))) else (some (false, t291))) = some (r1, r2) := H
  have A3 := aM A30
  clear A30
  by_cases c4 : t291 = 0
  · rw [if_pos c4] at H
    have c4b0 := beq_iff_eq.mpr c4; have c4b1 := bne_eq_false_iff_eq.mpr c4; clear c4
    by_cases c5 : t290 = (l0_1.length : Int)
    · rw [if_pos c5] at H; have c5b0 := beq_iff_eq.mpr c5; have c5b1 := bne_eq_false_iff_eq.mpr c5; clear c5; replace H := Option.bind_eq_some_iff.mp H; obtain ⟨t292, A60, H⟩ := H; replace H : ((slEq.f k t287 t292).bind fun t295 => (some (t295, t291))) = some (r1, r2) := H; have A6 := aM A60; clear A60; replace H := Option.bind_eq_some_iff.mp H; obtain ⟨t295, A70, H⟩ := H; replace H : (some (t295, t291)) = some (r1, r2) := H; have A7 := aM A70; clear A70; simp only [Option.some.injEq, Prod.mk.injEq] at H; obtain ⟨rfl, rfl⟩ := H
      go_enter Try.func40, Try.ntmps40
      go_wp2_with (first | ((with_reducible refine gate_dst (N := 2) rfl ?_); (try (refine gate_guard (by rfl) ?_; dsimp only)); refine box_event ?hg (N := 2) ?hd (cs := #[.int .i64 a0_0, .slice A0_1 l0_1.length c0_1]) (t := 46) ?hr ?_; (case hd => rfl); (case hg => rfl); (case hr => first | (go_simp; done) | (go_simp; rfl)); intro gb286 hg w8 hbox hb; have BK286 := aM (hbox); have GW286 := aM ((by rw [hg]; exact (below_size zz88) : w.heap.size ≤ gb286)); have GE286 := aM ((by rw [hg]; exact (below_size zz88) : w.heap.size ≤ gb286)); replace HB := aM (below_step zz88 hb); clear hb hbox hg; have hcz9_0 : w8.cell? ⟨gb286, 0, none⟩ = some (.int .i64 a0_0) := (blk_cell BK286.out 0).trans rfl; have hcz9_1 : w8.cell? ⟨gb286, 1, none⟩ = some (.slice A0_1 l0_1.length c0_1) := (blk_cell BK286.out 1).trans rfl; have hfz9_0 := blk_frozen BK286.out 0; have hfz9_1 := blk_frozen BK286.out 1) | ((with_reducible refine gate_callee (f := 39) rfl ?_); refine goesL_ (some 12) rfl rfl Try.func39 (by kernel_rfl) rfl #[.agg #[.int .i64 a0_0, .slice A0_1 l0_1.length c0_1], .slice A1 l1.length c1] rfl zz87 ?_; (with_reducible refine (perm_Sift.callsz k a0_0 _ _ l0_1 _ _ l1 t287 t290 t291 _ ?side1 ?side2 ?side3 ?side4 A3.out zz98).mono ?_); (case side1 => repeat (first | exact (Kd.C_below HR0_1.out HB.out) | (with_reducible refine Kd.C_alloc ?_ _) | (with_reducible refine Kd.C_drewN ?_ _) | (with_reducible refine Kd.C_drew ?_))); (case side2 => exact HC0_1.out); (case side3 => repeat (first | exact (Kd.C_below HR1.out HB.out) | (with_reducible refine Kd.C_alloc ?_ _) | (with_reducible refine Kd.C_drewN ?_ _) | (with_reducible refine Kd.C_drew ?_))); (case side4 => exact HC1.out); rintro e w10 ⟨v288, rfl, ho0, hb⟩; refine ⟨_, rfl, ?_⟩; have HO289 := aM (Kd.R_lower ho0 (below_size zz71)); replace BK286 := aM (blk_below (g := gb286) (o := .cells #[.int .i64 a0_0, .slice A0_1 l0_1.length c0_1] 46 (0, 0)) (zB BK286) hb); replace HB := aM (below_step zz71 hb); (try clear hb); (try clear hb2); (try clear hk); (try clear hi); (try clear ho0); have hcz11_0 : w10.cell? ⟨gb286, 0, none⟩ = some (.int .i64 a0_0) := (blk_cell BK286.out 0).trans rfl; have hcz11_1 : w10.cell? ⟨gb286, 1, none⟩ = some (.slice A0_1 l0_1.length c0_1) := (blk_cell BK286.out 1).trans rfl; have hfz11_0 := blk_frozen BK286.out 0; have hfz11_1 := blk_frozen BK286.out 1; obtain ⟨Ao12, co12, eo12⟩ := Kd.R_slice HO289.out; subst eo12) | (go_at_call 49; (with_reducible refine (perm_identity.calls k (t287.length : Int) t292 _ A6.out).mono ?_); rintro e w13 ⟨v293, rfl, ho0, hb⟩; have HO294 := aM (Kd.R_lower (Kd.R_new' ho0 (Kd.R_lt (zR HO289))) (below_size zz71)); replace HO289 := aM (Kd.R_elder' (zR HO289) (Kd.R_base ho0) hb); replace BK286 := aM (blk_below (g := gb286) (o := .cells #[.int .i64 a0_0, .slice A0_1 l0_1.length c0_1] 46 (0, 0)) (zB BK286) hb); replace HB := aM (below_step zz71 hb); (try clear hb); (try clear hb2); (try clear hk); (try clear hi); (try clear ho0); obtain ⟨Ao14, co14, eo14⟩ := Kd.R_slice HO294.out; subst eo14) | (go_at_call 65; (with_reducible refine (slEq.calls k _ _ t287 _ _ t292 t295 _ ?side1 ?side2 ?side3 ?side4 A7.out).mono ?_); (case side1 => repeat (first | exact (Kd.R_reads' HO289.out).2.2 | (with_reducible refine Kd.C_alloc ?_ _) | (with_reducible refine Kd.C_drewN ?_ _) | (with_reducible refine Kd.C_drew ?_))); (case side2 => exact (Kd.R_reads' HO289.out).2.1); (case side3 => repeat (first | exact (Kd.R_reads' HO294.out).2.2 | (with_reducible refine Kd.C_alloc ?_ _) | (with_reducible refine Kd.C_drewN ?_ _) | (with_reducible refine Kd.C_drew ?_))); (case side4 => exact (Kd.R_reads' HO294.out).2.1); rintro e w' ⟨rfl, ⟨nd, rfl⟩⟩))
      go_ret2
      exact ⟨by first | rfl | (simp [errW_none, errW_some] <;> rfl) | (simp [*, errW_none, errW_some] <;> rfl), by repeat (first | (with_reducible first | exact HB.out | apply below_alloc | apply pw_below_drewN | apply below_drew1 | refine below_set ?_ GE286.out) | exact HB.out)⟩
    rw [if_neg c5] at H; have c5b0 := beq_eq_false_iff_ne.mpr c5; have c5b1 := bne_iff_ne.mpr c5; simp only [Option.some.injEq, Prod.mk.injEq] at H; obtain ⟨rfl, rfl⟩ := H
    go_enter Try.func40, Try.ntmps40
    go_wp2_with (first | ((with_reducible refine gate_dst (N := 2) rfl ?_); (try (refine gate_guard (by rfl) ?_; dsimp only)); refine box_event ?hg (N := 2) ?hd (cs := #[.int .i64 a0_0, .slice A0_1 l0_1.length c0_1]) (t := 46) ?hr ?_; (case hd => rfl); (case hg => rfl); (case hr => first | (go_simp; done) | (go_simp; rfl)); intro gb286 hg w15 hbox hb; have BK286 := aM (hbox); have GW286 := aM ((by rw [hg]; exact (below_size zz88) : w.heap.size ≤ gb286)); have GE286 := aM ((by rw [hg]; exact (below_size zz88) : w.heap.size ≤ gb286)); replace HB := aM (below_step zz88 hb); clear hb hbox hg; have hcz16_0 : w15.cell? ⟨gb286, 0, none⟩ = some (.int .i64 a0_0) := (blk_cell BK286.out 0).trans rfl; have hcz16_1 : w15.cell? ⟨gb286, 1, none⟩ = some (.slice A0_1 l0_1.length c0_1) := (blk_cell BK286.out 1).trans rfl; have hfz16_0 := blk_frozen BK286.out 0; have hfz16_1 := blk_frozen BK286.out 1) | ((with_reducible refine gate_callee (f := 39) rfl ?_); refine goesL_ (some 12) rfl rfl Try.func39 (by kernel_rfl) rfl #[.agg #[.int .i64 a0_0, .slice A0_1 l0_1.length c0_1], .slice A1 l1.length c1] rfl zz87 ?_; (with_reducible refine (perm_Sift.callsz k a0_0 _ _ l0_1 _ _ l1 t287 t290 t291 _ ?side1 ?side2 ?side3 ?side4 A3.out zz98).mono ?_); (case side1 => repeat (first | exact (Kd.C_below HR0_1.out HB.out) | (with_reducible refine Kd.C_alloc ?_ _) | (with_reducible refine Kd.C_drewN ?_ _) | (with_reducible refine Kd.C_drew ?_))); (case side2 => exact HC0_1.out); (case side3 => repeat (first | exact (Kd.C_below HR1.out HB.out) | (with_reducible refine Kd.C_alloc ?_ _) | (with_reducible refine Kd.C_drewN ?_ _) | (with_reducible refine Kd.C_drew ?_))); (case side4 => exact HC1.out); rintro e w17 ⟨v288, rfl, ho0, hb⟩; refine ⟨_, rfl, ?_⟩; have HO289 := aM (Kd.R_lower ho0 (below_size zz71)); replace BK286 := aM (blk_below (g := gb286) (o := .cells #[.int .i64 a0_0, .slice A0_1 l0_1.length c0_1] 46 (0, 0)) (zB BK286) hb); replace HB := aM (below_step zz71 hb); (try clear hb); (try clear hb2); (try clear hk); (try clear hi); (try clear ho0); have hcz18_0 : w17.cell? ⟨gb286, 0, none⟩ = some (.int .i64 a0_0) := (blk_cell BK286.out 0).trans rfl; have hcz18_1 : w17.cell? ⟨gb286, 1, none⟩ = some (.slice A0_1 l0_1.length c0_1) := (blk_cell BK286.out 1).trans rfl; have hfz18_0 := blk_frozen BK286.out 0; have hfz18_1 := blk_frozen BK286.out 1))
    go_ret2
    exact ⟨by first | rfl | (simp [errW_none, errW_some] <;> rfl) | (simp [*, errW_none, errW_some] <;> rfl), by repeat (first | (with_reducible first | exact HB.out | apply below_alloc | apply pw_below_drewN | apply below_drew1 | refine below_set ?_ GE286.out) | exact HB.out)⟩
  rw [if_neg c4] at H
  have c4b0 := beq_eq_false_iff_ne.mpr c4
  have c4b1 := bne_iff_ne.mpr c4
  exact absurd ((Prod.mk.inj (Option.some.inj H)).2.trans HR_.out) c4
end
end Go.Proofs.Ytjjlhbgpdncpcaa.P
