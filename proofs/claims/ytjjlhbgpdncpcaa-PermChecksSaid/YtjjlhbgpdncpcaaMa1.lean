/- What the claim's theorem is built on, part 1: words, walks of the code, and what they tell. -/
import Derived.Test.YtjjlhbgpdncpcaaProg
import Derived.Below
import Derived.Deep.Draws
import Derived.Deep.AppendLies
import Derived.Maps.AppendAt
import Derived.OwnWalk
import Derived.Laws.BytesArg
import Derived.Laws.MakeOwn
import Derived.Laws.OwnMore
import Derived.Deep.OwnRows
import Derived.Tactics
import Derived.Lib.ConvBytes
import Derived.Laws.Slices
import Derived.WalkKit
import Derived.KernelRfl
import Derived.RowKit3
import Derived.Deep.LoopGhost
import Derived.Deep.QuietTactic
import Derived.BigQuiet
import Derived.WideLaws
import Derived.Deep.DeepCutAuto
import Derived.Deep.CutBlock
import Derived.Deep.RegionHeld3
import Derived.Laws.Rows
import Derived.Lib.AppendStr
import Derived.ArgAppend
import Derived.Laws.IdiomCopy
import Derived.OrdersHeld
import Derived.Laws.BitsLemmas
import Derived.RowKit
import Derived.Test.YtjjlhbgpdncpcaaMa0
namespace Go.Proofs.Ytjjlhbgpdncpcaa.P
open Go.RowKit Go.Proofs.YtjjlhbgpdncpcaaW.PrintWords Go.Proofs.YtjjlhbgpdncpcaaW.PrintLast Go.Proofs.YtjjlhbgpdncpcaaW.PrintMore
set_option linter.unusedVariables false
set_option linter.unusedSimpArgs false
set_option maxHeartbeats 8000000
set_option maxRecDepth 100000
section
attribute [local go_sem] max2_int min2_int max_two min_two max_three min_three max_four min_four
def errW : Option Int → Value
  | none => .nilIface
  | some c => .iface 0 (.int .i64 c)
theorem errW_none : errW none = .nilIface := rfl
theorem errW_some (c : Int) : errW (some c) = .iface 0 (.int .i64 c) := rfl
theorem info3 : (Try.prog.info? 3).map (fun i => (i.zero, i.size, i.bytes)) = some (some (.int .i64 0), 1, 8) := by kernel_rfl
theorem info4 : (Try.prog.info? 4).map (fun i => (i.zero, i.size, i.bytes)) = some (some (.bool false), 1, 1) := by kernel_rfl
theorem info22 : (Try.prog.info? 22).map (fun i => (i.zero, i.size, i.bytes)) = some (some (.slice none 0 0), 1, 24) := by kernel_rfl
theorem info72 : (Try.prog.info? 72).map (fun i => (i.zero, i.size, i.bytes)) = some (some (.int .u32 0), 1, 4) := by kernel_rfl
theorem info74 : (Try.prog.info? 74).map (fun i => (i.zero, i.size, i.bytes)) = some (some (.agg #[(.int .i64 0), (.slice none 0 0), (.slice none 0 0)]), 3, 56) := by kernel_rfl
def rd_L1 (xs : List (List Int)) (i : Int) : (List Int) := xs.getD i.toNat ([] : List Int)
theorem at_L1 {w : World} {A : Option Addr} {n : Nat} {xs : List (List Int)} (h : Kd.C (Kd.slice 3 (Kd.int .i64)) w A n xs) (i : Int) (h0 : 0 ≤ i) (h1 : i < n) : ∃ ad A0 c0, A = some ad ∧ w.cell? (ad.add i.toNat) = some (.slice A0 (rd_L1 xs i).length c0) ∧ (rd_L1 xs i).length ≤ c0 ∧ (Kd.int .i64).C w A0 (rd_L1 xs i).length (rd_L1 xs i) := by
  obtain ⟨ad, c, e, _, hK, hc0⟩ := Kd.C_get h ([] : List Int) i h0 h1
  have hc : ∀ j u, c[j]? = some u → w.cell? (ad.add (i.toNat * 1 + j)) = some u := hc0
  obtain ⟨A0, c0, rfl, l0, g0⟩ := hK
  exact ⟨ad, A0, c0, e, by have hq := hc 0 _ rfl; rwa [Nat.mul_one, Nat.add_zero] at hq, l0, g0⟩
structure S74 where
  f0 : Int
  f1 : (List Int)
  f2 : (List (List Int))
def z74 : S74 := ⟨(0 : Int), ([] : List Int), ([] : List (List Int))⟩
def k74 : Kd S74 := Kd.iso (Kd.pair (Kd.int .i64) (Kd.pair (Kd.slice 3 (Kd.int .i64)) (Kd.slice 22 (Kd.slice 3 (Kd.int .i64))))) (fun x : S74 => (x.f0, x.f1, x.f2))
theorem k74_heap : Kd.Heap k74 := Kd.heap_iso _ (Kd.heap_pair (Kd.heap_int .i64) (Kd.heap_pair (Kd.heap_slice 3 (Kd.heap_int .i64)) (Kd.heap_slice 22 (Kd.heap_slice 3 (Kd.heap_int .i64)))))
theorem k74_open {w : World} {x : S74} {cs : List Value} (h : k74.K w x cs) : ∃ A1 c1 A2 c2, cs = [.int .i64 x.f0, .slice A1 x.f1.length c1, .slice A2 x.f2.length c2] ∧ x.f1.length ≤ c1 ∧ (Kd.int .i64).C w A1 x.f1.length x.f1 ∧ x.f2.length ≤ c2 ∧ (Kd.slice 3 (Kd.int .i64)).C w A2 x.f2.length x.f2 := by
  obtain ⟨_, _, rfl, rfl, ⟨_, _, rfl, ⟨A1, c1, rfl, l1, g1⟩, ⟨A2, c2, rfl, l2, g2⟩⟩⟩ := h
  exact ⟨A1, c1, A2, c2, rfl, l1, g1, l2, g2⟩
theorem k74_mk (w : World) (x : S74) {A1 : Option Addr} {c1 : Nat} (l1 : x.f1.length ≤ c1) (g1 : (Kd.int .i64).C w A1 x.f1.length x.f1) {A2 : Option Addr} {c2 : Nat} (l2 : x.f2.length ≤ c2) (g2 : (Kd.slice 3 (Kd.int .i64)).C w A2 x.f2.length x.f2) : k74.K w x [.int .i64 x.f0, .slice A1 x.f1.length c1, .slice A2 x.f2.length c2] := ⟨[.int .i64 x.f0], [.slice A1 x.f1.length c1, .slice A2 x.f2.length c2], rfl, rfl, ⟨[.slice A1 x.f1.length c1], [.slice A2 x.f2.length c2], rfl, ⟨A1, c1, rfl, l1, g1⟩, ⟨A2, c2, rfl, l2, g2⟩⟩⟩
theorem k74_openF {W : World} {ok : Nat → Prop} {x : S74} {cs : List Value} (h : Kd.FK k74 W ok x cs) : ∃ A1 c1 A2 c2, cs = [.int .i64 x.f0, .slice A1 x.f1.length c1, .slice A2 x.f2.length c2] ∧ x.f1.length ≤ c1 ∧ Kd.F (Kd.int .i64) W ok A1 x.f1.length x.f1 ∧ x.f2.length ≤ c2 ∧ Kd.F (Kd.slice 3 (Kd.int .i64)) W ok A2 x.f2.length x.f2 := by
  obtain ⟨A1, c1, A2, c2, rfl, l1, _, l2, _⟩ := k74_open (Kd.FK_now h)
  exact ⟨A1, c1, A2, c2, rfl, l1, (fun W' hW => by obtain ⟨A1_, c1_, A2_, c2_, he, l1_, g1_, l2_, g2_⟩ := k74_open (h W' hW); injection (Option.some.inj (show some (Value.slice A1 x.f1.length c1) = some (Value.slice A1_ x.f1.length c1_) from congrArg (fun l => l[1]?) he)) with ha_ _ _; rw [ha_]; exact g1_), l2, (fun W' hW => by obtain ⟨A1_, c1_, A2_, c2_, he, l1_, g1_, l2_, g2_⟩ := k74_open (h W' hW); injection (Option.some.inj (show some (Value.slice A2 x.f2.length c2) = some (Value.slice A2_ x.f2.length c2_) from congrArg (fun l => l[2]?) he)) with ha_ _ _; rw [ha_]; exact g2_)⟩
theorem k74_mkF (W : World) (ok : Nat → Prop) (x : S74) {A1 : Option Addr} {c1 : Nat} (l1 : x.f1.length ≤ c1) (g1 : Kd.F (Kd.int .i64) W ok A1 x.f1.length x.f1) {A2 : Option Addr} {c2 : Nat} (l2 : x.f2.length ≤ c2) (g2 : Kd.F (Kd.slice 3 (Kd.int .i64)) W ok A2 x.f2.length x.f2) : Kd.FK k74 W ok x [.int .i64 x.f0, .slice A1 x.f1.length c1, .slice A2 x.f2.length c2] := fun W2 hW => k74_mk W2 x l1 (g1 W2 hW) l2 (g2 W2 hW)
def rd_T74 (xs : List S74) (i : Int) : S74 := xs.getD i.toNat z74
theorem at_T74 {w : World} {A : Option Addr} {n : Nat} {xs : List S74} (h : Kd.C k74 w A n xs) (i : Int) (h0 : 0 ≤ i) (h1 : i < n) : ∃ ad A1 c1 A2 c2, A = some ad ∧ w.cell? (ad.add (i.toNat * 3)) = some (.int .i64 (rd_T74 xs i).f0) ∧ w.cell? ⟨(ad.add (i.toNat * 3)).block, (ad.add (i.toNat * 3)).off + 1, none⟩ = some (.slice A1 (rd_T74 xs i).f1.length c1) ∧ w.cell? ⟨(ad.add (i.toNat * 3)).block, (ad.add (i.toNat * 3)).off + 2, none⟩ = some (.slice A2 (rd_T74 xs i).f2.length c2) ∧ (rd_T74 xs i).f1.length ≤ c1 ∧ (Kd.int .i64).C w A1 (rd_T74 xs i).f1.length (rd_T74 xs i).f1 ∧ (rd_T74 xs i).f2.length ≤ c2 ∧ (Kd.slice 3 (Kd.int .i64)).C w A2 (rd_T74 xs i).f2.length (rd_T74 xs i).f2 := by
  obtain ⟨ad, c, e, _, hK, hc0⟩ := Kd.C_get h z74 i h0 h1
  have hc : ∀ j u, c[j]? = some u → w.cell? (ad.add (i.toNat * 3 + j)) = some u := hc0
  obtain ⟨A1, c1, A2, c2, rfl, l1, g1, l2, g2⟩ := k74_open hK
  exact ⟨ad, A1, c1, A2, c2, e, hc 0 _ rfl, by rw [← add_field _ _ 1 (by omega)]; exact hc 1 _ rfl, by rw [← add_field _ _ 2 (by omega)]; exact hc 2 _ rfl, l1, g1, l2, g2⟩
structure S46 where
  f0 : Int
  f1 : (List S74)
def z46 : S46 := ⟨(0 : Int), ([] : List S74)⟩
def rd_L8 (xs : List (List Int)) (i : Int) : (List Int) := xs.getD i.toNat ([] : List Int)
theorem at_L8 {w : World} {A : Option Addr} {n : Nat} {xs : List (List Int)} (h : Kd.C (Kd.slice 72 (Kd.int .u32)) w A n xs) (i : Int) (h0 : 0 ≤ i) (h1 : i < n) : ∃ ad A0 c0, A = some ad ∧ w.cell? (ad.add i.toNat) = some (.slice A0 (rd_L8 xs i).length c0) ∧ (rd_L8 xs i).length ≤ c0 ∧ (Kd.int .u32).C w A0 (rd_L8 xs i).length (rd_L8 xs i) := by
  obtain ⟨ad, c, e, _, hK, hc0⟩ := Kd.C_get h ([] : List Int) i h0 h1
  have hc : ∀ j u, c[j]? = some u → w.cell? (ad.add (i.toNat * 1 + j)) = some u := hc0
  obtain ⟨A0, c0, rfl, l0, g0⟩ := hK
  exact ⟨ad, A0, c0, e, by have hq := hc 0 _ rfl; rwa [Nat.mul_one, Nat.add_zero] at hq, l0, g0⟩
theorem zR {p q : Prop} (a : Aside0 q) (h : q → p := by intro a_; (with_reducible repeat (first | apply Kd.R_alloc | apply Kd.R_drewN | apply Kd.R_drew)); exact a_) : p := h a.out
theorem zV {p q : Prop} (a : Aside0 q) (h : q → p := by intro a_; (with_reducible repeat (first | apply Kd.V_alloc | apply Kd.V_drewN | apply Kd.V_drew)); exact a_) : p := h a.out
theorem zN {p q : Prop} (a : Aside0 q) (h : q → p := by intro a_; (with_reducible repeat (first | apply Kd.N_alloc | apply Kd.N_drewN | apply Kd.N_drew)); exact a_) : p := h a.out
theorem zS {p q : Prop} (a : Aside0 q) (h : q → p := by intro a_; (with_reducible repeat (first | apply Kd.S_alloc | apply Kd.S_drewN | apply Kd.S_drew)); exact a_) : p := h a.out
theorem zB {p q : Prop} (a : Aside0 q) (h : q → p := by intro a_; (with_reducible repeat (first | refine blk_drewN ?_ _ | refine blk_drew ?_ | refine blk_alloc ?_ _)); exact a_) : p := h a.out
theorem zz0 {p : Prop} (h : p := by (with_reducible repeat (first | apply Kd.N_alloc | apply Kd.N_drewN | apply Kd.N_drew)); exact (Kd.N_mono (Kd.N_far (p := ⟨gb395, 1, none⟩) (Kd.N_far (p := ⟨gb395, 0, none⟩) (Kd.N_mono HO_340001.out (fun k_ hk => (⟨hk, hk.2⟩ : _ ∧ k_ ≠ gb395))) (fun _ hk => by first | exact hk.2 | ((repeat' apply And.intro) <;> (first | exact hk | exact hk.1 | exact hk.2 | exact hk.1.1 | exact hk.1.2 | exact hk.2.1 | exact hk.2.2 | exact hk.1.1.1 | exact hk.1.1.2 | exact hk.1.2.1 | exact hk.1.2.2 | exact hk.2.1.1 | exact hk.2.1.2 | exact hk.2.2.1 | exact hk.2.2.2 | exact hk.1.1.1.1 | exact hk.1.1.1.2 | exact hk.2.2.2.1 | exact hk.2.2.2.2))) (.int .i64 4)) (fun _ hk => by first | exact hk.2 | ((repeat' apply And.intro) <;> (first | exact hk | exact hk.1 | exact hk.2 | exact hk.1.1 | exact hk.1.2 | exact hk.2.1 | exact hk.2.2 | exact hk.1.1.1 | exact hk.1.1.2 | exact hk.1.2.1 | exact hk.1.2.2 | exact hk.2.1.1 | exact hk.2.1.2 | exact hk.2.2.1 | exact hk.2.2.2 | exact hk.1.1.1.1 | exact hk.1.1.1.2 | exact hk.2.2.2.1 | exact hk.2.2.2.2))) (.slice Ao146 y392.length co146)) (fun _ h_ => h_.1))) : p := h
theorem zz1 {p : Prop} (h : p := by rw [hw]; exact (by (with_reducible repeat (first | refine blk_drewN ?_ _ | refine blk_drew ?_ | refine blk_alloc ?_ _)); refine blk_put (cs := #[.int .i64 ((rd_T74 l0_1 x72_3).f0), .slice A235_1 ((rd_T74 l0_1 x72_3).f1).length c235_1, .slice none 0 0]) ?_ 2 _ rfl; (with_reducible repeat (first | refine blk_drewN ?_ _ | refine blk_drew ?_ | refine blk_alloc ?_ _)); refine blk_put (cs := #[.int .i64 ((rd_T74 l0_1 x72_3).f0), .slice none 0 0, .slice none 0 0]) ?_ 1 _ rfl; (with_reducible repeat (first | refine blk_drewN ?_ _ | refine blk_drew ?_ | refine blk_alloc ?_ _)); refine blk_put (cs := #[.int .i64 0, .slice none 0 0, .slice none 0 0]) ?_ 0 _ rfl; (with_reducible repeat (first | refine blk_drewN ?_ _ | refine blk_drew ?_ | refine blk_alloc ?_ _)); exact BK236.out)) : p := h
theorem zz2 {p : Prop} (h : p := by (with_reducible repeat (first | refine blk_drewN ?_ _ | refine blk_drew ?_ | refine blk_alloc ?_ _)); refine blk_put (cs := #[.int .i64 ((rd_T74 l0_1 x27_1).f0), .slice A224_1 ((rd_T74 l0_1 x27_1).f1).length c224_1, .slice none 0 0]) ?_ 2 _ rfl; (with_reducible repeat (first | refine blk_drewN ?_ _ | refine blk_drew ?_ | refine blk_alloc ?_ _)); refine blk_put (cs := #[.int .i64 ((rd_T74 l0_1 x27_1).f0), .slice none 0 0, .slice none 0 0]) ?_ 1 _ rfl; (with_reducible repeat (first | refine blk_drewN ?_ _ | refine blk_drew ?_ | refine blk_alloc ?_ _)); refine blk_put (cs := #[.int .i64 0, .slice none 0 0, .slice none 0 0]) ?_ 0 _ rfl; (with_reducible repeat (first | refine blk_drewN ?_ _ | refine blk_drew ?_ | refine blk_alloc ?_ _)); exact BK225.out) : p := h
theorem zz4 {p : Prop} (h : p := by (with_reducible repeat (first | refine blk_drewN ?_ _ | refine blk_drew ?_ | refine blk_alloc ?_ _)); refine blk_put (cs := #[.int .i64 ((rd_T74 l0_1 x35_4).f0), .slice A275_1 ((rd_T74 l0_1 x35_4).f1).length c275_1, .slice none 0 0]) ?_ 2 _ rfl; (with_reducible repeat (first | refine blk_drewN ?_ _ | refine blk_drew ?_ | refine blk_alloc ?_ _)); refine blk_put (cs := #[.int .i64 ((rd_T74 l0_1 x35_4).f0), .slice none 0 0, .slice none 0 0]) ?_ 1 _ rfl; (with_reducible repeat (first | refine blk_drewN ?_ _ | refine blk_drew ?_ | refine blk_alloc ?_ _)); refine blk_put (cs := #[.int .i64 0, .slice none 0 0, .slice none 0 0]) ?_ 0 _ rfl; (with_reducible repeat (first | refine blk_drewN ?_ _ | refine blk_drew ?_ | refine blk_alloc ?_ _)); exact BK276.out) : p := h
theorem zz5 {p : Prop} (h : p := by rw [hw]; exact (by (with_reducible repeat (first | apply Kd.V_alloc | apply Kd.V_drewN | apply Kd.V_drew)); exact Kd.V_mono (Kd.V_far (p := ⟨gb236, 2, none⟩) (Kd.V_far (p := ⟨gb236, 1, none⟩) (Kd.V_far (p := ⟨gb236, 0, none⟩) (Kd.V_mono HO_223001.out (fun k_ hk => (⟨hk, hk.2⟩ : _ ∧ k_ ≠ gb236))) (fun _ hk => hk.2) (.int .i64 ((rd_T74 l0_1 x72_3).f0))) (fun _ hk => hk.2) (.slice A235_1 ((rd_T74 l0_1 x72_3).f1).length c235_1)) (fun _ hk => hk.2) (.slice A235_2 ((rd_T74 l0_1 x72_3).f2).length c235_2)) (fun _ hk => ⟨hk.1.1.1, ⟨hk.1.1.2.1, ⟨hk.1.1.2.2.1, ⟨hk.1.1.2.2.2, hk.1.2⟩⟩⟩⟩))) : p := h
theorem zz6 {p : Prop} (h : p := by rw [hw]; exact (by (with_reducible repeat (first | apply Kd.V_alloc | apply Kd.V_drewN | apply Kd.V_drew)); exact Kd.V_mono (Kd.V_far (p := ⟨gb236, 2, none⟩) (Kd.V_far (p := ⟨gb236, 1, none⟩) (Kd.V_far (p := ⟨gb236, 0, none⟩) (Kd.V_mono HL235_1.out (fun k_ hk => (⟨hk, hk.2⟩ : _ ∧ k_ ≠ gb236))) (fun _ hk => hk.2) (.int .i64 ((rd_T74 l0_1 x72_3).f0))) (fun _ hk => hk.2) (.slice A235_1 ((rd_T74 l0_1 x72_3).f1).length c235_1)) (fun _ hk => hk.2) (.slice A235_2 ((rd_T74 l0_1 x72_3).f2).length c235_2)) (fun _ hk => ⟨hk.1.1.1, ⟨hk.1.1.2.1, ⟨hk.1.1.2.2.1, ⟨hk.1.1.2.2.2, hk.1.2⟩⟩⟩⟩))) : p := h
theorem zz7 {p : Prop} (h : p := by rw [hw]; exact (by (with_reducible repeat (first | apply Kd.V_alloc | apply Kd.V_drewN | apply Kd.V_drew)); exact Kd.V_mono (Kd.V_far (p := ⟨gb236, 2, none⟩) (Kd.V_far (p := ⟨gb236, 1, none⟩) (Kd.V_far (p := ⟨gb236, 0, none⟩) (Kd.V_mono HL235_2.out (fun k_ hk => (⟨hk, hk.2⟩ : _ ∧ k_ ≠ gb236))) (fun _ hk => hk.2) (.int .i64 ((rd_T74 l0_1 x72_3).f0))) (fun _ hk => hk.2) (.slice A235_1 ((rd_T74 l0_1 x72_3).f1).length c235_1)) (fun _ hk => hk.2) (.slice A235_2 ((rd_T74 l0_1 x72_3).f2).length c235_2)) (fun _ hk => ⟨hk.1.1.1, ⟨hk.1.1.2.1, ⟨hk.1.1.2.2.1, ⟨hk.1.1.2.2.2, hk.1.2⟩⟩⟩⟩))) : p := h
theorem zz8 {p : Prop} (h : p := by rw [hw]; exact (by (with_reducible repeat (first | apply Kd.V_alloc | apply Kd.V_drewN | apply Kd.V_drew)); exact Kd.V_mono (Kd.V_far (p := ⟨gb236, 2, none⟩) (Kd.V_far (p := ⟨gb236, 1, none⟩) (Kd.V_far (p := ⟨gb236, 0, none⟩) (Kd.V_mono HO_70.out (fun k_ hk => (⟨hk, hk.2⟩ : _ ∧ k_ ≠ gb236))) (fun _ hk => hk.2) (.int .i64 ((rd_T74 l0_1 x72_3).f0))) (fun _ hk => hk.2) (.slice A235_1 ((rd_T74 l0_1 x72_3).f1).length c235_1)) (fun _ hk => hk.2) (.slice A235_2 ((rd_T74 l0_1 x72_3).f2).length c235_2)) (fun _ hk => ⟨hk.1.1.1, ⟨hk.1.1.2.1, ⟨hk.1.1.2.2.1, ⟨hk.1.1.2.2.2, hk.1.2⟩⟩⟩⟩))) : p := h
theorem zz9 {p : Prop} (h : p := by rw [hw]; exact (by (with_reducible repeat (first | apply Kd.N_alloc | apply Kd.N_drewN | apply Kd.N_drew)); exact Kd.N_mono (Kd.N_far (p := ⟨gb236, 2, none⟩) (Kd.N_far (p := ⟨gb236, 1, none⟩) (Kd.N_far (p := ⟨gb236, 0, none⟩) (Kd.N_mono HO_235001.out (fun k_ hk => (⟨hk, hk.2⟩ : _ ∧ k_ ≠ gb236))) (fun _ hk => hk.2) (.int .i64 ((rd_T74 l0_1 x72_3).f0))) (fun _ hk => hk.2) (.slice A235_1 ((rd_T74 l0_1 x72_3).f1).length c235_1)) (fun _ hk => hk.2) (.slice A235_2 ((rd_T74 l0_1 x72_3).f2).length c235_2)) (fun _ hk => ⟨hk.1.1.1, ⟨hk.1.1.2.1, ⟨hk.1.1.2.2, hk.1.2⟩⟩⟩))) : p := h
theorem zz14 {p : Prop} (h : p := by rw [hw]; exact (by (with_reducible repeat (first | refine blk_drewN ?_ _ | refine blk_drew ?_ | refine blk_alloc ?_ _)); refine blk_far ?_ NB222_236.out _; (with_reducible repeat (first | refine blk_drewN ?_ _ | refine blk_drew ?_ | refine blk_alloc ?_ _)); refine blk_far ?_ NB222_236.out _; (with_reducible repeat (first | refine blk_drewN ?_ _ | refine blk_drew ?_ | refine blk_alloc ?_ _)); refine blk_far ?_ NB222_236.out _; (with_reducible repeat (first | refine blk_drewN ?_ _ | refine blk_drew ?_ | refine blk_alloc ?_ _)); exact BK222.out)) : p := h
theorem zz15 {p : Prop} (h : p := by rw [hw]; exact (by (with_reducible repeat (first | refine blk_drewN ?_ _ | refine blk_drew ?_ | refine blk_alloc ?_ _)); refine blk_far ?_ NB234_236.out _; (with_reducible repeat (first | refine blk_drewN ?_ _ | refine blk_drew ?_ | refine blk_alloc ?_ _)); refine blk_far ?_ NB234_236.out _; (with_reducible repeat (first | refine blk_drewN ?_ _ | refine blk_drew ?_ | refine blk_alloc ?_ _)); refine blk_far ?_ NB234_236.out _; (with_reducible repeat (first | refine blk_drewN ?_ _ | refine blk_drew ?_ | refine blk_alloc ?_ _)); exact BK234.out)) : p := h
theorem zz17 {p : Prop} (h : p := by (with_reducible repeat (first | refine blk_drewN ?_ _ | refine blk_drew ?_ | refine blk_alloc ?_ _)); refine blk_far ?_ NB222_225.out _; (with_reducible repeat (first | refine blk_drewN ?_ _ | refine blk_drew ?_ | refine blk_alloc ?_ _)); refine blk_far ?_ NB222_225.out _; (with_reducible repeat (first | refine blk_drewN ?_ _ | refine blk_drew ?_ | refine blk_alloc ?_ _)); refine blk_far ?_ NB222_225.out _; (with_reducible repeat (first | refine blk_drewN ?_ _ | refine blk_drew ?_ | refine blk_alloc ?_ _)); exact BK222.out) : p := h
theorem zz20 {p : Prop} (h : p := by (with_reducible repeat (first | refine blk_drewN ?_ _ | refine blk_drew ?_ | refine blk_alloc ?_ _)); refine blk_far ?_ NB269_276.out _; (with_reducible repeat (first | refine blk_drewN ?_ _ | refine blk_drew ?_ | refine blk_alloc ?_ _)); refine blk_far ?_ NB269_276.out _; (with_reducible repeat (first | refine blk_drewN ?_ _ | refine blk_drew ?_ | refine blk_alloc ?_ _)); refine blk_far ?_ NB269_276.out _; (with_reducible repeat (first | refine blk_drewN ?_ _ | refine blk_drew ?_ | refine blk_alloc ?_ _)); exact BK269.out) : p := h
theorem zz21 {p : Prop} (h : p := by (with_reducible repeat (first | apply Kd.V_alloc | apply Kd.V_drewN | apply Kd.V_drew)); exact (Kd.V_mono (Kd.V_far (p := ⟨gb238, 2, none⟩) (Kd.V_far (p := ⟨gb238, 1, none⟩) (Kd.V_far (p := ⟨gb238, 0, none⟩) (Kd.V_mono HL235_1.out (fun k_ hk => (⟨hk, hk.2⟩ : _ ∧ k_ ≠ gb238))) (fun _ hk => hk.2) (.int .i64 ((rd_T74 t230 x72_3).f0))) (fun _ hk => hk.2) (.slice A237_1 ((rd_T74 t230 x72_3).f1).length c237_1)) (fun _ hk => hk.2) (.slice A237_2 ((rd_T74 t230 x72_3).f2).length c237_2)) (fun _ h_ => h_.1))) : p := h
theorem zz22 {p : Prop} (h : p := by (with_reducible repeat (first | apply Kd.V_alloc | apply Kd.V_drewN | apply Kd.V_drew)); exact (Kd.V_mono (Kd.V_far (p := ⟨gb238, 2, none⟩) (Kd.V_far (p := ⟨gb238, 1, none⟩) (Kd.V_far (p := ⟨gb238, 0, none⟩) (Kd.V_mono HL237_1.out (fun k_ hk => (⟨hk, hk.2⟩ : _ ∧ k_ ≠ gb238))) (fun _ hk => hk.2) (.int .i64 ((rd_T74 t230 x72_3).f0))) (fun _ hk => hk.2) (.slice A237_1 ((rd_T74 t230 x72_3).f1).length c237_1)) (fun _ hk => hk.2) (.slice A237_2 ((rd_T74 t230 x72_3).f2).length c237_2)) (fun _ h_ => h_.1))) : p := h
theorem zz23 {p : Prop} (h : p := by (with_reducible repeat (first | apply Kd.V_alloc | apply Kd.V_drewN | apply Kd.V_drew)); exact (Kd.V_mono (Kd.V_far (p := ⟨gb238, 2, none⟩) (Kd.V_far (p := ⟨gb238, 1, none⟩) (Kd.V_far (p := ⟨gb238, 0, none⟩) (Kd.V_mono HL235_2.out (fun k_ hk => (⟨hk, hk.2⟩ : _ ∧ k_ ≠ gb238))) (fun _ hk => hk.2) (.int .i64 ((rd_T74 t230 x72_3).f0))) (fun _ hk => hk.2) (.slice A237_1 ((rd_T74 t230 x72_3).f1).length c237_1)) (fun _ hk => hk.2) (.slice A237_2 ((rd_T74 t230 x72_3).f2).length c237_2)) (fun _ h_ => h_.1))) : p := h
theorem zz24 {p : Prop} (h : p := by (with_reducible repeat (first | apply Kd.V_alloc | apply Kd.V_drewN | apply Kd.V_drew)); exact (Kd.V_mono (Kd.V_far (p := ⟨gb238, 2, none⟩) (Kd.V_far (p := ⟨gb238, 1, none⟩) (Kd.V_far (p := ⟨gb238, 0, none⟩) (Kd.V_mono HL237_2.out (fun k_ hk => (⟨hk, hk.2⟩ : _ ∧ k_ ≠ gb238))) (fun _ hk => hk.2) (.int .i64 ((rd_T74 t230 x72_3).f0))) (fun _ hk => hk.2) (.slice A237_1 ((rd_T74 t230 x72_3).f1).length c237_1)) (fun _ hk => hk.2) (.slice A237_2 ((rd_T74 t230 x72_3).f2).length c237_2)) (fun _ h_ => h_.1))) : p := h
theorem zz25 {p : Prop} (h : p := by (with_reducible repeat (first | apply Kd.R_alloc | apply Kd.R_drewN | apply Kd.R_drew)); exact (Kd.R_mono (Kd.R_far (p := ⟨gb276, 2, none⟩) (Kd.R_far (p := ⟨gb276, 1, none⟩) (Kd.R_far (p := ⟨gb276, 0, none⟩) (Kd.R_types HO_8.out BK276.out (by decide)) (fun _ hk => hk.2) (.int .i64 ((rd_T74 l0_1 x35_4).f0))) (fun _ hk => hk.2) (.slice A275_1 ((rd_T74 l0_1 x35_4).f1).length c275_1)) (fun _ hk => hk.2) (.slice (some ad279) ((rd_T74 l0_1 x35_4).f2).length c275_2)) (fun _ h_ => h_.1))) : p := h
theorem zz26 {p : Prop} (h : p := by (with_reducible repeat (first | apply Kd.R_alloc | apply Kd.R_drewN | apply Kd.R_drew)); exact (Kd.R_mono (Kd.R_far (p := ⟨gb258, 2, none⟩) (Kd.R_far (p := ⟨gb258, 1, none⟩) (Kd.R_far (p := ⟨gb258, 0, none⟩) (Kd.R_types HO_5.out BK258.out (by decide)) (fun _ hk => hk.2) (.int .i64 ((rd_T74 l0_1 x17_1).f0))) (fun _ hk => hk.2) (.slice A257_1 ((rd_T74 l0_1 x17_1).f1).length c257_1)) (fun _ hk => hk.2) (.slice A257_2 ((rd_T74 l0_1 x17_1).f2).length c257_2)) (fun _ h_ => h_.1))) : p := h
theorem zz27 {p : Prop} (h : p := by repeat (first | (with_reducible first | exact HB.out | apply below_alloc | apply pw_below_drewN | apply below_drew1 | refine below_set ?_ GE212.out | refine below_set ?_ GE213.out | refine below_set ?_ GE216.out | refine below_set ?_ GE217.out) | exact HB.out)) : p := h
theorem zz28 {p : Prop} (h : p := by rw [hw]; exact (by repeat (first | (with_reducible first | exact HB.out | apply below_alloc | apply pw_below_drewN | apply below_drew1 | refine below_set ?_ GE222.out | refine below_set ?_ GE234.out | refine below_set ?_ GE236.out) | exact HB.out))) : p := h
theorem zz29 {p : Prop} (h : p := by first | exact (Kd.V_reads' HL224_1.out).2.2 | (repeat (first | (with_reducible exact HR224_1.out) | (with_reducible refine Kd.C_alloc ?_ _) | (with_reducible refine Kd.C_drewN ?_ _) | (with_reducible refine Kd.C_drew ?_) | exact HR224_1.out))) : p := h
theorem zz30 {p : Prop} (h : p := by first | exact (Kd.V_reads' HL224_2.out).2.2 | (repeat (first | (with_reducible exact HR224_2.out) | (with_reducible refine Kd.C_alloc ?_ _) | (with_reducible refine Kd.C_drewN ?_ _) | (with_reducible refine Kd.C_drew ?_) | exact HR224_2.out))) : p := h
theorem zz31 {p : Prop} (h : p := by first | exact (Kd.V_reads' HL235_1.out).2.2 | (repeat (first | (with_reducible exact HR235_1.out) | (with_reducible refine Kd.C_alloc ?_ _) | (with_reducible refine Kd.C_drewN ?_ _) | (with_reducible refine Kd.C_drew ?_) | exact HR235_1.out))) : p := h
theorem zz32 {p : Prop} (h : p := by first | exact (Kd.V_reads' HL235_2.out).2.2 | (repeat (first | (with_reducible exact HR235_2.out) | (with_reducible refine Kd.C_alloc ?_ _) | (with_reducible refine Kd.C_drewN ?_ _) | (with_reducible refine Kd.C_drew ?_) | exact HR235_2.out))) : p := h
theorem zz33 {p : Prop} (h : p := by first | exact (Kd.V_reads' HL237_1.out).2.2 | (repeat (first | (with_reducible exact HR237_1.out) | (with_reducible refine Kd.C_alloc ?_ _) | (with_reducible refine Kd.C_drewN ?_ _) | (with_reducible refine Kd.C_drew ?_) | exact HR237_1.out))) : p := h
theorem zz34 {p : Prop} (h : p := by first | exact (Kd.V_reads' HL237_2.out).2.2 | (repeat (first | (with_reducible exact HR237_2.out) | (with_reducible refine Kd.C_alloc ?_ _) | (with_reducible refine Kd.C_drewN ?_ _) | (with_reducible refine Kd.C_drew ?_) | exact HR237_2.out))) : p := h
theorem zz35 {p : Prop} (h : p := by repeat (first | (with_reducible first | exact HB.out | apply below_alloc | apply pw_below_drewN | apply below_drew1 | refine below_set ?_ GE212.out | refine below_set ?_ GE213.out | refine below_set ?_ GE216.out) | exact HB.out)) : p := h
theorem zz36 {p : Prop} (h : p := by repeat (first | (with_reducible first | exact HB.out | apply below_alloc | apply pw_below_drewN | apply below_drew1 | refine below_set ?_ GE212.out | refine below_set ?_ GE213.out | refine below_set ?_ GE217.out) | exact HB.out)) : p := h
theorem zz37 {p : Prop} (h : p := by repeat (first | (with_reducible first | exact HB.out | apply below_alloc | apply pw_below_drewN | apply below_drew1 | refine below_set ?_ GE222.out | refine below_set ?_ GE234.out | refine below_set ?_ GE236.out) | exact HB.out)) : p := h
theorem zz38 {p : Prop} (h : p := by repeat (first | (with_reducible first | exact HB.out | apply below_alloc | apply pw_below_drewN | apply below_drew1 | refine below_set ?_ GE212.out | refine below_set ?_ GE213.out) | exact HB.out)) : p := h
theorem zz39 {p : Prop} (h : p := by repeat (first | (with_reducible first | exact HB.out | apply below_alloc | apply pw_below_drewN | apply below_drew1 | refine below_set ?_ GE222.out | refine below_set ?_ GE225.out) | exact HB.out)) : p := h
theorem zz40 {p : Prop} (h : p := by repeat (first | (with_reducible first | exact HB.out | apply below_alloc | apply pw_below_drewN | apply below_drew1 | refine below_set ?_ GE222.out | refine below_set ?_ GE234.out) | exact HB.out)) : p := h
theorem zz41 {p : Prop} (h : p := by repeat (first | (with_reducible first | exact HB.out | apply below_alloc | apply pw_below_drewN | apply below_drew1 | refine below_set ?_ GE252.out | refine below_set ?_ GE258.out) | exact HB.out)) : p := h
theorem zz42 {p : Prop} (h : p := by repeat (first | (with_reducible first | exact HB.out | apply below_alloc | apply pw_below_drewN | apply below_drew1 | refine below_set ?_ GE269.out | refine below_set ?_ GE276.out) | exact HB.out)) : p := h
theorem zz43 {p : Prop} (h : p := by repeat (first | (with_reducible first | exact HB.out | apply below_alloc | apply pw_below_drewN | apply below_drew1 | refine below_set ?_ GE339.out | refine below_set ?_ GE395.out) | exact HB.out)) : p := h
theorem zz44 {p : Prop} (h : p := by repeat (first | (with_reducible first | exact HB.out | apply below_alloc | apply pw_below_drewN | apply below_drew1 | refine below_set ?_ GE212.out) | exact HB.out)) : p := h
theorem zz45 {p : Prop} (h : p := by repeat (first | (with_reducible first | exact HB.out | apply below_alloc | apply pw_below_drewN | apply below_drew1 | refine below_set ?_ GE222.out) | exact HB.out)) : p := h
theorem zz46 {p : Prop} (h : p := by repeat (first | (with_reducible first | exact HB.out | apply below_alloc | apply pw_below_drewN | apply below_drew1 | refine below_set ?_ GE252.out) | exact HB.out)) : p := h
theorem zz47 {p : Prop} (h : p := by repeat (first | (with_reducible first | exact HB.out | apply below_alloc | apply pw_below_drewN | apply below_drew1 | refine below_set ?_ GE269.out) | exact HB.out)) : p := h
theorem zz48 {p : Prop} (h : p := by repeat (first | (with_reducible first | exact HB.out | apply below_alloc | apply pw_below_drewN | apply below_drew1 | refine below_set ?_ GE286.out) | exact HB.out)) : p := h
theorem zz49 {p : Prop} (h : p := by repeat (first | (with_reducible first | exact HB.out | apply below_alloc | apply pw_below_drewN | apply below_drew1 | refine below_set ?_ GE339.out) | exact HB.out)) : p := h
theorem zz50 {p : Prop} (h : p := by first | exact q237 | exact of_decide_eq_true (by first | (with_reducible assumption) | assumption) | (have e_ := (Kd.N_reads' HO_235001.out).1; omega)) : p := h
theorem zz51 {p : Prop} (h : p := by first | exact q224 | exact of_decide_eq_true (by first | (with_reducible assumption) | assumption) | (have e_ := (Kd.V_reads' HO_25.out).1; omega)) : p := h
theorem zz52 {p : Prop} (h : p := by first | exact q235 | exact of_decide_eq_true (by first | (with_reducible assumption) | assumption) | (have e_ := (Kd.V_reads' HO_70.out).1; omega)) : p := h
theorem zz53 {p : Prop} (h : p := by first | exact q363 | exact of_decide_eq_true (by first | (with_reducible assumption) | assumption) | (have e_ := (Kd.S_reads' HO_4.out).1; omega)) : p := h
theorem zz54 {p : Prop} (h : p := by (try simp only [List.map_toArray, List.map_cons, List.map_nil]); first | done | rfl | (simp only [List.length_drop, List.length_take]; rfl)) : p := h
theorem zz55 {p : Prop} (h : p := by repeat (first | (with_reducible first | exact HB.out | apply below_alloc | apply pw_below_drewN | apply below_drew1) | exact HB.out)) : p := h
theorem zz56 {p : Prop} (h : p := by first | (rw [add_block]; exact hn277_0) | (show (Addr.add _ _).block ≠ _; rw [add_block]; exact hn277_0) | exact hn277_0) : p := h
theorem zz57 {p : Prop} (h : p := by first | (rw [add_block]; exact hn277_1) | (show (Addr.add _ _).block ≠ _; rw [add_block]; exact hn277_1) | exact hn277_1) : p := h
theorem zz58 {p : Prop} (h : p := by first | (rw [add_block]; exact hn277_2) | (show (Addr.add _ _).block ≠ _; rw [add_block]; exact hn277_2) | exact hn277_2) : p := h
theorem zz59 {p : Prop} (h : p := by first | (rw [add_block]; exact hn279_0) | (show (Addr.add _ _).block ≠ _; rw [add_block]; exact hn279_0) | exact hn279_0) : p := h
theorem zz60 {p : Prop} (h : p := by first | (rw [add_block]; exact hn279_1) | (show (Addr.add _ _).block ≠ _; rw [add_block]; exact hn279_1) | exact hn279_1) : p := h
theorem zz61 {p : Prop} (h : p := by first | (rw [add_block]; exact hn279_2) | (show (Addr.add _ _).block ≠ _; rw [add_block]; exact hn279_2) | exact hn279_2) : p := h
theorem zz62 {p : Prop} (h : p := by have h1_ := HGR.out; have h2_ := lt_of_some HT.out.ht; have h3_ := HB3.out.size; show bt ≠ gout; omega) : p := h
theorem zz63 {p : Prop} (h : p := by first | exact Kd.N_base ho0 | exact Kd.N_base (Kd.S_N ho0) | exact Kd.N_base (Kd.S_N (Kd.S_bound ho0))) : p := h
theorem zz64 {p : Prop} (h : p := by simp only [putAll, Act.put, List.setIfInBounds_toArray, List.set_cons_zero, List.set_cons_succ]) : p := h
theorem zz65 {p : Prop} (h : p := by first | (with_reducible assumption) | assumption) : p := h
theorem zz66 {p : Prop} (h : p := by cases kj6 <;> simp [codewrightlaw30_awakeW.j1]) : p := h
theorem zz67 {p : Prop} (h : p := by first | rfl | (simp; done) | (simp [*]; done)) : p := h
theorem zz68 {p : Prop} (h : p := by cases k <;> simp [codewrightlaw30_awakeW.j0]) : p := h
theorem zz69 {p : Prop} (h : p := by simp only [List.length_cons]; omega) : p := h
theorem zz70 {p : Prop} (h : p := by rw [List.length_set]; exact hx) : p := h
theorem zz71 {p : Prop} (h : p := by simp [Kd.int, Kd.scalar]) : p := h
theorem zz72 {p : Prop} (h : p := by have := HK1.out; omega) : p := h
end
section
attribute [local go_sem] max2_int min2_int max_two min_two max_three min_three max_four min_four
def perm_identity.l0 : Nat → List Int → Int → Int → Option (List Int)
  | 0, _, _, _ => none
  | k + 1, x3, x8, x9 => if x9 < x8 then (if 0 ≤ x9 then (if x9 < (x3.length : Int) then (perm_identity.l0 k (x3.set (x9 : Int).toNat x9) x8 (wrap64 (x9 + 1))) else (none)) else (none)) else (some x3)
def perm_identity.f (k : Nat) (a0 : Int) : Option (List Int) := if 0 ≤ a0 then (if (a0 : Int).toNat ≤ 35184372088832 then ((some (List.replicate (a0 : Int).toNat 0 : List Int)).bind fun y101 => (perm_identity.l0 k y101 (y101.length : Int) 0)) else (none)) else (none)
theorem perm_identity.mono_l : ∀ k, (∀ y0 y1 y2, LeO (perm_identity.l0 k y0 y1 y2) (perm_identity.l0 (k + 1) y0 y1 y2))
  | 0 => fun _ _ _ r h => by simp [perm_identity.l0] at h
  | k + 1 => by
    have ih0 := perm_identity.mono_l k
    · intro y0 y1 y2
      unfold perm_identity.l0
      repeat' first
      | (with_reducible exact ih0 _ _ _)
      | (with_reducible exact LeO.refl _)
      | (with_reducible exact LeO.none _)
      | (with_reducible refine LeO.ite ?_ ?_)
      | (with_reducible refine LeO.bind ?_ (fun _ => ?_))
theorem perm_identity.mono : ∀ a0 k, LeO (perm_identity.f k a0) (perm_identity.f (k + 1) a0) := by
  intro a0 k
  have ih0 := perm_identity.mono_l k
  unfold perm_identity.f
  repeat' first
      | (with_reducible exact ih0 _ _ _)
      | (with_reducible exact LeO.refl _)
      | (with_reducible exact LeO.none _)
      | (with_reducible refine LeO.ite ?_ ?_)
      | (with_reducible refine LeO.bind ?_ (fun _ => ?_))
theorem perm_identity.calls (k : Nat) (a0 : Int) (r : List Int) (w : World) (h : perm_identity.f k a0 = some r) :
    Calls Try.prog 49 #[.int .i64 a0] w fun e w' => ∃ v0_ : Value, e = .returned (v0_) ∧ Kd.R (Kd.int .i64) 3 w' w.heap.size (fun _ => True) v0_ r ∧ Below w.heap.size w w' := by
  have HB := Aside0.mk (Below.refl w.heap.size w)
  have H : (if 0 ≤ a0 then (if (a0 : Int).toNat ≤ 35184372088832 then ((some (List.replicate (a0 : Int).toNat 0 : List Int)).bind fun y101 => (perm_identity.l0 k y101 (y101.length : Int) 0)) else (none)) else (none)) = some r := h
  clear h
  by_cases c2 : 0 ≤ a0
  · rw [if_pos c2] at H
    have c2b0 := eq_true c2; have c2b1 : decide (0 ≤ a0) = true := decide_eq_true c2; clear c2
    by_cases c3 : (a0 : Int).toNat ≤ 35184372088832
    · rw [if_pos c3] at H; have c3b0 := eq_true c3; have c3b1 : decide ((a0 : Int).toNat ≤ 35184372088832) = true := decide_eq_true c3; clear c3; obtain ⟨y101, hy101⟩ : ∃ y_ : List Int, y_ = (List.replicate (a0 : Int).toNat 0) := ⟨_, rfl⟩; replace H : (perm_identity.l0 k y101 (y101.length : Int) 0) = some r := by first | (rw [hy101]; with_reducible exact H) | (have H2_ := (Option.bind_some _ _).symm.trans H; rw [hy101]; with_reducible exact H2_) | (have H2_ := (Option.bind_some _ _).symm.trans H; with_reducible exact H2_) | with_reducible exact H | (rw [hy101]; exact H) | exact H
      have Ny101 := Aside0.mk hy101; clear hy101; have H' := Aside0.mk H; clear H
      go_enter Try.func49, Try.ntmps49
      go_wp2_with (first | ((with_reducible refine gate_dst (N := 6) rfl ?_); refine Kd.R_make (Kd.int .i64) _ 3 rfl (N := 6) rfl 22 _ _ rfl a0 rfl rfl Try.underlying22 (.int .i64 0) 8 info3 rfl (by decide) (by omega) 0 (ok := fun _ => True) (okp := fun _ => True) rfl (fun _ hk => hk) trivial (of_decide_eq_true zz65) (Nat.le_trans (Nat.mul_le_mul_right _ (of_decide_eq_true zz65 : a0.toNat ≤ 35184372088832)) (by omega)) (Below.refl _ _) (Nat.le_refl _) ?_; intro v102 w4 ho5 hb hg_ hnew_; clear hg_ hnew_; (first | rw [← Ny101.out] at ho5 | (simp only [Int.reduceToNat] at ho5; rw [← Ny101.out] at ho5)); have n0_ := Aside0.mk (Kd.R_lower ho5 (below_size zz55)); have n1_ := Aside0.mk (below_step zz55 hb); clear HB; have HO103 := n0_; have HB := n1_; clear n0_ n1_; clear hb ho5; obtain ⟨Ao6, co6, eo6⟩ := Kd.R_slice HO103.out; subst eo6))
      go_loopg [9] k (fun kq v9 w' => ∃ (x3_1 : List Int) (x9_1 : Int), v9 = .int .i64 x9_1 ∧ Aside0 (perm_identity.l0 kq x3_1 (y101.length : Int) x9_1 = some r) ∧ Aside0 (kq ≤ k) ∧ Aside0 (Kd.R (Kd.int .i64) 3 w' w.heap.size (fun _ => True) (.slice Ao6 y101.length co6) x3_1) ∧ Aside0 (Below w.heap.size w w'))
      case atStart => exact ⟨(y101), (0), zz67, H', ⟨Nat.le_refl _⟩, ⟨by (with_reducible repeat (first | apply Kd.R_alloc | apply Kd.R_drewN | apply Kd.R_drew)); exact HO103.out⟩, ⟨by repeat (first | (with_reducible first | exact HB.out | apply below_alloc | apply pw_below_drewN | apply below_drew1) | exact HB.out)⟩⟩
      case round =>
        clear H'; (try clear c2); (try clear c2b0); (try clear c2b1); (try clear p2); (try clear c3); (try clear c3b0); (try clear c3b1); (try clear c4); obtain ⟨x3_1, x9_1, rfl, HA, HK1, HO_3, HB⟩ := hrel; have hl3_1 := (Kd.R_reads' HO_3.out).1; rw [hl3_1] at HO_3
        (try simp only [hl3_1])
        cases gk with
        | zero => exact absurd HA.out (by simp [perm_identity.l0])
        | succ k1 =>
          have H := HA.out; clear HA; simp only [perm_identity.l0] at H
          by_cases c7 : x9_1 < (y101.length : Int)
          · rw [if_pos c7] at H; have c7b0 : decide (x9_1 < (y101.length : Int)) = true := decide_eq_true c7; clear c7
            by_cases c8 : 0 ≤ x9_1
            · rw [if_pos c8] at H; have c8b0 : decide (0 ≤ x9_1) = true := decide_eq_true c8; clear c8
              by_cases c9 : x9_1 < (x3_1.length : Int)
              · rw [if_pos c9] at H; have c9b0 : decide (x9_1 < (x3_1.length : Int)) = true := decide_eq_true c9; clear c9; obtain ⟨y104, hy104⟩ : ∃ y_ : List Int, y_ = (x3_1.set (x9_1 : Int).toNat x9_1) := ⟨_, rfl⟩; replace H : (perm_identity.l0 k1 y104 (y101.length : Int) (wrap64 (x9_1 + 1))) = some r := by first | (rw [hy104]; with_reducible exact H) | (have H2_ := (Option.bind_some _ _).symm.trans H; rw [hy104]; with_reducible exact H2_) | (have H2_ := (Option.bind_some _ _).symm.trans H; with_reducible exact H2_) | with_reducible exact H | (rw [hy104]; exact H) | exact H
                have Ny104 := Aside0.mk hy104; clear hy104; have H' := Aside0.mk H; clear H; have p10 : 0 ≤ (x9_1 : Int) := of_decide_eq_true zz65; have q10 : (x9_1 : Int) < ((x3_1.length : Int) : Int) := of_decide_eq_true zz65; obtain ⟨go10, co10, eo10, gb10, gl10, cl10, HG10⟩ := Kd.R_form HO_3.out (by omega)
                (first | cases eo10 | (injection eo10 with ea_ en_ ec_; (first | subst ea_ | (injection ea_ with ea_; subst ea_)); subst ec_; clear en_))
                have GB10 := Aside0.mk gb10; have GG10 := Aside0.mk HG10; clear gb10 gl10 HG10; obtain ⟨hx10_0, hf10_0⟩ := Kd.R_celln 0 HO_3.out (x9_1 : Int) p10 q10; replace p10 := eq_true p10; replace q10 := eq_true q10; have HP11 := Kd.R_putg HO_3.out (x9_1 : Int) x9_1
                go_wp2_with (first | ((with_reducible refine gate_store (t := 3) (p := 15) rfl ?_); refine store_event (t := 3) (p := 15) (v := ?vo_w12) (w1 := (wr.setCell ⟨go10, (x9_1 : Int).toNat, none⟩ (.int .i64 x9_1))) ?hg ?ho ?hn ?hr ?_; (case ho => rfl); (case hg => rfl); (case hn => rfl); (case hr => first | (go_simp; done) | (go_simp; rfl)); intro w12 hw; have hg : wr.grownBy w12 (some go10) := (by rw [hw]; exact HP11.2); have hp_ : Kd.R (Kd.int .i64) 3 w12 w.heap.size (fun _ => True) (.slice (some ⟨go10, 0, none⟩) x3_1.length co6) y104 := (by rw [hw, Ny104.out]; exact HP11.1); clear HP11; have n0_ := Aside0.mk (hp_); have n1_ := Aside0.mk ((by rw [hw]; exact below_set (HB.out) GB10.out : Below w.heap.size w w12)); clear HO_3; clear HB; have HO_3 := n0_; have HB := n1_; clear n0_ n1_; clear hg hw hp_))
                (try simp only [← hl3_1])
                go_roundg k1
                case measure => have := HK1.out; omega
                case rel => exact ⟨(y104), (wrap64 (x9_1 + 1)), zz67, H', ⟨by have := HK1.out; omega⟩, ⟨by (try simp only [hl3_1]); (with_reducible repeat (first | apply Kd.R_alloc | apply Kd.R_drewN | apply Kd.R_drew)); exact HO_3.out⟩, ⟨by repeat (first | (with_reducible first | exact HB.out | apply below_alloc | apply pw_below_drewN | apply below_drew1) | exact HB.out)⟩⟩
              rw [if_neg c9] at H
              exact absurd H (by simp)
            rw [if_neg c8] at H
            exact absurd H (by simp)
          rw [if_neg c7] at H; have c7b0 : decide (x9_1 < (y101.length : Int)) = false := decide_eq_false c7; have c7b1 : decide (x9_1 < (x3_1.length : Int)) = false := by rw [← hl3_1]; exact c7b0
          clear c7; obtain rfl := Option.some.inj H; go_wp2; go_ret
          exact ⟨_, by first | rfl | (simp [errW_none, errW_some] <;> rfl) | (simp [*, errW_none, errW_some] <;> rfl), by (with_reducible repeat (first | apply Kd.R_alloc | apply Kd.R_drewN | apply Kd.R_drew)); exact HO_3.out, by repeat (first | (with_reducible first | exact HB.out | apply below_alloc | apply pw_below_drewN | apply below_drew1) | exact HB.out)⟩
    rw [if_neg c3] at H
    exact absurd H (by simp)
  rw [if_neg c2] at H
  exact absurd H (by simp)
end
section
attribute [local go_sem] max2_int min2_int max_two min_two max_three min_three max_four min_four
def perm_then.l0 : Nat → List Int → List Int → List Int → Int → Int → Option (List Int)
  | 0, _, _, _, _, _ => none
  | k + 1, x1, x5, x11, x12, x13 => if x13 < x12 then (if 0 ≤ x13 then (if x13 < (x11.length : Int) then (if 0 ≤ (rd x11 x13) then (if (rd x11 x13) < (x1.length : Int) then (if x13 < (x5.length : Int) then (perm_then.l0 k x1 (x5.set (x13 : Int).toNat (rd x1 (rd x11 x13))) x11 x12 (wrap64 (x13 + 1))) else (none)) else (none)) else (none)) else (none)) else (none)) else (some x5)
def perm_then.f (k : Nat) (l0 : List Int) (l1 : List Int) : Option (List Int) := if 0 ≤ (l0.length : Int) then (if ((l0.length : Int) : Int).toNat ≤ 35184372088832 then (perm_then.l0 k l1 (List.replicate ((l0.length : Int) : Int).toNat 0) l0 (l0.length : Int) 0) else (none)) else (none)
theorem perm_then.mono_l : ∀ k, (∀ y0 y1 y2 y3 y4, LeO (perm_then.l0 k y0 y1 y2 y3 y4) (perm_then.l0 (k + 1) y0 y1 y2 y3 y4))
  | 0 => fun _ _ _ _ _ r h => by simp [perm_then.l0] at h
  | k + 1 => by
    have ih0 := perm_then.mono_l k
    · intro y0 y1 y2 y3 y4
      unfold perm_then.l0
      repeat' first
      | (with_reducible exact ih0 _ _ _ _ _)
      | (with_reducible exact LeO.refl _)
      | (with_reducible exact LeO.none _)
      | (with_reducible refine LeO.ite ?_ ?_)
      | (with_reducible refine LeO.bind ?_ (fun _ => ?_))
theorem perm_then.mono : ∀ a0 a1 k, LeO (perm_then.f k a0 a1) (perm_then.f (k + 1) a0 a1) := by
  intro a0 a1 k
  have ih0 := perm_then.mono_l k
  unfold perm_then.f
  repeat' first
      | (with_reducible exact ih0 _ _ _ _ _)
      | (with_reducible exact LeO.refl _)
      | (with_reducible exact LeO.none _)
      | (with_reducible refine LeO.ite ?_ ?_)
      | (with_reducible refine LeO.bind ?_ (fun _ => ?_))
theorem perm_then.calls (k : Nat) (A0 : Option Addr) (c0 : Nat) (l0 : List Int) (A1 : Option Addr) (c1 : Nat) (l1 : List Int) (r : List Int) (w : World) (hr0 : Kd.C (Kd.int .i64) w A0 l0.length l0) (hc0 : l0.length ≤ c0) (hr1 : Kd.C (Kd.int .i64) w A1 l1.length l1) (hc1 : l1.length ≤ c1) (h : perm_then.f k l0 l1 = some r) :
    Calls Try.prog 50 #[.slice A0 l0.length c0, .slice A1 l1.length c1] w fun e w' => ∃ v0_ : Value, e = .returned (v0_) ∧ Kd.R (Kd.int .i64) 3 w' w.heap.size (fun _ => True) v0_ r ∧ Below w.heap.size w w' := by
  have HR0 := Aside0.mk hr0
  have HC0 := Aside0.mk hc0
  clear hr0 hc0
  have HR1 := Aside0.mk hr1
  have HC1 := Aside0.mk hc1
  clear hr1 hc1
  have HB := Aside0.mk (Below.refl w.heap.size w)
  have H : (if 0 ≤ (l0.length : Int) then (if ((l0.length : Int) : Int).toNat ≤ 35184372088832 then (perm_then.l0 k l1 (List.replicate ((l0.length : Int) : Int).toNat 0) l0 (l0.length : Int) 0) else (none)) else (none)) = some r := h
  clear h
  by_cases c3 : 0 ≤ (l0.length : Int)
  · rw [if_pos c3] at H
    have c3b0 := eq_true c3; have c3b1 : decide (0 ≤ (l0.length : Int)) = true := decide_eq_true c3; clear c3
    by_cases c4 : ((l0.length : Int) : Int).toNat ≤ 35184372088832
    · rw [if_pos c4] at H; have c4b0 := eq_true c4; have c4b1 : decide (((l0.length : Int) : Int).toNat ≤ 35184372088832) = true := decide_eq_true c4; clear c4; obtain ⟨y105, hy105⟩ : ∃ y_ : List Int, y_ = (List.replicate ((l0.length : Int) : Int).toNat 0) := ⟨_, rfl⟩; replace H : (perm_then.l0 k l1 y105 l0 (l0.length : Int) 0) = some r := by first | (rw [hy105]; with_reducible exact H) | (have H2_ := (Option.bind_some _ _).symm.trans H; rw [hy105]; with_reducible exact H2_) | (have H2_ := (Option.bind_some _ _).symm.trans H; with_reducible exact H2_) | with_reducible exact H | (rw [hy105]; exact H) | exact H
      have Ny105 := Aside0.mk hy105; clear hy105; have H' := Aside0.mk H; clear H
      go_enter Try.func50, Try.ntmps50
      go_wp2_with (first | ((with_reducible refine gate_dst (N := 10) rfl ?_); refine Kd.R_make (Kd.int .i64) _ 3 rfl (N := 10) rfl 22 _ _ rfl (l0.length : Int) rfl rfl Try.underlying22 (.int .i64 0) 8 info3 rfl (by decide) (by omega) 0 (ok := fun _ => True) (okp := fun _ => True) rfl (fun _ hk => hk) trivial (of_decide_eq_true zz65) (Nat.le_trans (Nat.mul_le_mul_right _ (of_decide_eq_true zz65 : (l0.length : Int).toNat ≤ 35184372088832)) (by omega)) (Below.refl _ _) (Nat.le_refl _) ?_; intro v106 w5 ho6 hb hg_ hnew_; clear hg_ hnew_; (first | rw [← Ny105.out] at ho6 | (simp only [Int.reduceToNat] at ho6; rw [← Ny105.out] at ho6)); have n0_ := Aside0.mk (Kd.R_lower ho6 (below_size zz55)); have n1_ := Aside0.mk (below_step zz55 hb); clear HB; have HO107 := n0_; have HB := n1_; clear n0_ n1_; clear hb ho6))
      go_loopg [13] k (fun kq v13 w' => ∃ (x5_1 : List Int) (x13_1 : Int), v13 = .int .i64 x13_1 ∧ Aside0 (perm_then.l0 kq l1 x5_1 l0 (l0.length : Int) x13_1 = some r) ∧ Aside0 (kq ≤ k) ∧ Aside0 (Kd.R (Kd.int .i64) 3 w' w.heap.size (fun _ => True) v106 x5_1) ∧ Aside0 (Below w.heap.size w w'))
      case atStart => exact ⟨(y105), (0), zz67, H', ⟨Nat.le_refl _⟩, ⟨by (with_reducible repeat (first | apply Kd.R_alloc | apply Kd.R_drewN | apply Kd.R_drew)); exact HO107.out⟩, ⟨by repeat (first | (with_reducible first | exact HB.out | apply below_alloc | apply pw_below_drewN | apply below_drew1) | exact HB.out)⟩⟩
      case round =>
        clear H'; (try clear c1); (try clear p2); (try clear c3); (try clear c3b0); (try clear c3b1); (try clear c4); (try clear c4b0); (try clear c4b1); (try clear c5); obtain ⟨x5_1, x13_1, rfl, HA, HK1, HO_5, HB⟩ := hrel
        cases gk with
        | zero => exact absurd HA.out (by simp [perm_then.l0])
        | succ k1 =>
          have H := HA.out; clear HA; simp only [perm_then.l0] at H
          by_cases c7 : x13_1 < (l0.length : Int)
          · rw [if_pos c7] at H; have c7b0 : decide (x13_1 < (l0.length : Int)) = true := decide_eq_true c7; clear c7
            by_cases c8 : 0 ≤ x13_1
            · rw [if_pos c8] at H; have c8b0 : decide (0 ≤ x13_1) = true := decide_eq_true c8; clear c8
              by_cases c9 : x13_1 < (l0.length : Int)
              · rw [if_pos c9] at H; have c9b0 : decide (x13_1 < (l0.length : Int)) = true := decide_eq_true c9; clear c9
                by_cases c10 : 0 ≤ (rd l0 x13_1)
                · rw [if_pos c10] at H; have c10b0 : decide (0 ≤ (rd l0 x13_1)) = true := decide_eq_true c10; clear c10
                  by_cases c11 : (rd l0 x13_1) < (l1.length : Int)
                  · rw [if_pos c11] at H; have c11b0 : decide ((rd l0 x13_1) < (l1.length : Int)) = true := decide_eq_true c11; clear c11
                    by_cases c12 : x13_1 < (x5_1.length : Int)
                    · rw [if_pos c12] at H; have c12b0 : decide (x13_1 < (x5_1.length : Int)) = true := decide_eq_true c12; clear c12; obtain ⟨y110, hy110⟩ : ∃ y_ : List Int, y_ = (x5_1.set (x13_1 : Int).toNat (rd l1 (rd l0 x13_1))) := ⟨_, rfl⟩; replace H : (perm_then.l0 k1 l1 y110 l0 (l0.length : Int) (wrap64 (x13_1 + 1))) = some r := by first | (rw [hy110]; with_reducible exact H) | (have H2_ := (Option.bind_some _ _).symm.trans H; rw [hy110]; with_reducible exact H2_) | (have H2_ := (Option.bind_some _ _).symm.trans H; with_reducible exact H2_) | with_reducible exact H | (rw [hy110]; exact H) | exact H
                      have Ny110 := Aside0.mk hy110; clear hy110; have H' := Aside0.mk H; clear H; have p108 : 0 ≤ (x13_1 : Int) := of_decide_eq_true zz65; have q108 : x13_1 < (l0.length : Int) := of_decide_eq_true zz65; obtain ⟨ad108, e108, hx108_0⟩ := Kd.at_int HR0.out x13_1 p108 q108
                      cases e108; replace hx108_0 := (HB.out.cell (World.block_lt_of_cell? w _ hx108_0)).trans hx108_0; replace p108 := eq_true p108; replace q108 := eq_true q108; have p109 : 0 ≤ ((rd l0 x13_1) : Int) := of_decide_eq_true zz65; have q109 : (rd l0 x13_1) < (l1.length : Int) := of_decide_eq_true zz65; obtain ⟨ad109, e109, hx109_0⟩ := Kd.at_int HR1.out (rd l0 x13_1) p109 q109
                      cases e109; replace hx109_0 := (HB.out.cell (World.block_lt_of_cell? w _ hx109_0)).trans hx109_0; replace p109 := eq_true p109; replace q109 := eq_true q109; have p13 : 0 ≤ (x13_1 : Int) := of_decide_eq_true zz65; have q13 : (x13_1 : Int) < ((x5_1.length : Int) : Int) := of_decide_eq_true zz65; obtain ⟨go13, co13, eo13, gb13, gl13, cl13, HG13⟩ := Kd.R_form HO_5.out (by omega)
                      (first | cases eo13 | (injection eo13 with ea_ en_ ec_; (first | subst ea_ | (injection ea_ with ea_; subst ea_)); subst ec_; clear en_))
                      have GB13 := Aside0.mk gb13; have GG13 := Aside0.mk HG13; clear gb13 gl13 HG13; obtain ⟨hx13_0, hf13_0⟩ := Kd.R_celln 0 HO_5.out (x13_1 : Int) p13 q13; replace p13 := eq_true p13; replace q13 := eq_true q13; have HP14 := Kd.R_putg HO_5.out (x13_1 : Int) (rd l1 (rd l0 x13_1))
                      go_wp2_with (first | ((with_reducible refine gate_store (t := 3) (p := 24) rfl ?_); refine store_event (t := 3) (p := 24) (v := ?vo_w15) (w1 := (wr.setCell ⟨go13, (x13_1 : Int).toNat, none⟩ (.int .i64 (rd l1 (rd l0 x13_1))))) ?hg ?ho ?hn ?hr ?_; (case ho => rfl); (case hg => rfl); (case hn => rfl); (case hr => first | (go_simp; done) | (go_simp; rfl)); intro w15 hw; have hg : wr.grownBy w15 (some go13) := (by rw [hw]; exact HP14.2); have hp_ : Kd.R (Kd.int .i64) 3 w15 w.heap.size (fun _ => True) (.slice (some ⟨go13, 0, none⟩) x5_1.length co13) y110 := (by rw [hw, Ny110.out]; exact HP14.1); clear HP14; have n0_ := Aside0.mk (hp_); have n1_ := Aside0.mk ((by rw [hw]; exact below_set (HB.out) GB13.out : Below w.heap.size w w15)); clear HO_5; clear HB; have HO_5 := n0_; have HB := n1_; clear n0_ n1_; clear hg hw hp_))
                      go_roundg k1
                      case measure => have := HK1.out; omega
                      case rel => exact ⟨(y110), (wrap64 (x13_1 + 1)), zz67, H', ⟨by have := HK1.out; omega⟩, ⟨by (with_reducible repeat (first | apply Kd.R_alloc | apply Kd.R_drewN | apply Kd.R_drew)); exact HO_5.out⟩, ⟨by repeat (first | (with_reducible first | exact HB.out | apply below_alloc | apply pw_below_drewN | apply below_drew1) | exact HB.out)⟩⟩
                    rw [if_neg c12] at H
                    exact absurd H (by simp)
                  rw [if_neg c11] at H
                  exact absurd H (by simp)
                rw [if_neg c10] at H
                exact absurd H (by simp)
              rw [if_neg c9] at H
              exact absurd H (by simp)
            rw [if_neg c8] at H
            exact absurd H (by simp)
          rw [if_neg c7] at H; have c7b0 : decide (x13_1 < (l0.length : Int)) = false := decide_eq_false c7; clear c7; obtain rfl := Option.some.inj H; go_wp2; go_ret
          exact ⟨_, by first | rfl | (simp [errW_none, errW_some] <;> rfl) | (simp [*, errW_none, errW_some] <;> rfl), by (with_reducible repeat (first | apply Kd.R_alloc | apply Kd.R_drewN | apply Kd.R_drew)); exact HO_5.out, by repeat (first | (with_reducible first | exact HB.out | apply below_alloc | apply pw_below_drewN | apply below_drew1) | exact HB.out)⟩
    rw [if_neg c4] at H
    exact absurd H (by simp)
  rw [if_neg c3] at H
  exact absurd H (by simp)
end
section
attribute [local go_sem] max2_int min2_int max_two min_two max_three min_three max_four min_four
def perm_degree.f (a0 : Int) : Option (Int) := if a0 < 1 then (some 4) else (if a0 > 64 then (some 4) else (some 0))
theorem perm_degree.calls (a0 : Int) (r : Int) (w : World) (h : perm_degree.f a0 = some r) :
    Calls Try.prog 52 #[.int .i64 a0] w fun e w' => e = .returned (.int .i64 r) ∧ Drawn0 w w' := by
  have H : (if a0 < 1 then (some 4) else (if a0 > 64 then (some 4) else (some 0))) = some r := h
  clear h
  by_cases c2 : a0 < 1
  · rw [if_pos c2] at H
    have c2b0 : decide (a0 < 1) = true := decide_eq_true c2; clear c2; obtain rfl := Option.some.inj H
    go_enter Try.func52, Try.ntmps52
    go_wp2; go_ret
    exact ⟨by first | rfl | (simp; done) | (simp [*]; done), by repeat (first | exact Drawn0.refl _ | apply Drawn0.step)⟩
  rw [if_neg c2] at H
  have c2b0 : decide (a0 < 1) = false := decide_eq_false c2
  clear c2
  by_cases c3 : a0 > 64
  · rw [if_pos c3] at H
    have c3b0 : decide (64 < a0) = true := decide_eq_true c3; clear c3; obtain rfl := Option.some.inj H
    go_enter Try.func52, Try.ntmps52
    go_wp2; go_ret
    exact ⟨by first | rfl | (simp; done) | (simp [*]; done), by repeat (first | exact Drawn0.refl _ | apply Drawn0.step)⟩
  rw [if_neg c3] at H
  have c3b0 : decide (64 < a0) = false := decide_eq_false c3
  clear c3
  obtain rfl := Option.some.inj H
  go_enter Try.func52, Try.ntmps52
  go_wp2
  go_ret
  exact ⟨by first | rfl | (simp; done) | (simp [*]; done), by repeat (first | exact Drawn0.refl _ | apply Drawn0.step)⟩
end
section
def permOk (n : Nat) (l : List Int) : Prop := l.length = n ∧ (∀ x ∈ l, 0 ≤ x ∧ x < n) ∧ l.Nodup
instance (n : Nat) (l : List Int) : Decidable (permOk n l) := by unfold permOk; infer_instance
def checkL (l : List Int) : Int := if l.length < 1 ∨ 64 < l.length then 4 else if ∃ x ∈ l, x < 0 ∨ (l.length : Int) ≤ x then 6 else if l.Nodup then 0 else 18
def perm_Check.f (l0 : List Int) : Option Int := some (checkL l0)
def outB (n : Nat) (x : Int) : Bool := decide (x < 0) || decide ((n : Int) ≤ x)
theorem check1_lo (x : Int) (g n c : Nat) (A : Option Addr) (w : World) (hcell : w.cell? ⟨g, 0, none⟩ = some (.slice A n c)) (hx : x < 0) :
    Calls Try.prog 54 #[.int .i64 x, .pointer (some ⟨g, 0, none⟩)] w fun e w' => e = .returned (.bool true) ∧ w = w' := by
  have h1 : decide (x < 0) = true := decide_eq_true hx
  go_enter Try.func54, Try.ntmps54
  go_wp2
  go_ret
  exact ⟨rfl, rfl⟩
theorem check1_hi (x : Int) (g n c : Nat) (A : Option Addr) (w : World) (hcell : w.cell? ⟨g, 0, none⟩ = some (.slice A n c)) (hx : 0 ≤ x) (b : Bool) (hb : decide ((n : Int) ≤ x) = b) :
    Calls Try.prog 54 #[.int .i64 x, .pointer (some ⟨g, 0, none⟩)] w fun e w' => e = .returned (.bool b) ∧ w = w' := by
  have h1 : decide (x < 0) = false := decide_eq_false (by omega)
  have Hb := Aside0.mk hb
  clear hb
  go_enter Try.func54, Try.ntmps54
  go_wp2
  go_ret
  exact ⟨by rw [← Hb.out]; rfl, rfl⟩
theorem check1 (x : Int) (g n c : Nat) (A : Option Addr) (w : World) (hcell : w.cell? ⟨g, 0, none⟩ = some (.slice A n c)) :
    Calls Try.prog 54 #[.int .i64 x, .pointer (some ⟨g, 0, none⟩)] w fun e w' => e = .returned (.bool (outB n x)) ∧ w = w' := by
  unfold outB
  by_cases hx : x < 0
  · rw [decide_eq_true hx]; exact check1_lo x g n c A w hcell hx
  rw [decide_eq_false hx, Bool.false_or]; exact check1_hi x g n c A w hcell (by omega) _ rfl
theorem rd_mem {l : List Int} {i : Int} (h0 : 0 ≤ i) (h1 : i < (l.length : Int)) : rd l i ∈ l := by
  unfold rd
  rw [List.getD_eq_getElem?_getD, List.getElem?_eq_getElem (by omega)]
  exact List.getElem_mem _
theorem take_rd {l : List Int} {i : Int} (h0 : 0 ≤ i) (h1 : i < (l.length : Int)) : l.take (i + 1).toNat = l.take i.toNat ++ [rd l i] := by
  have e : (i + 1).toNat = i.toNat + 1 := by omega
  rw [e, List.take_succ_eq_append_getElem (by omega)]
  congr 2
  unfold rd
  rw [List.getD_eq_getElem?_getD, List.getElem?_eq_getElem (by omega)]
  rfl
def IdxPost (p : Int → Bool) (l : List Int) (w : World) (e : Ending) (w' : World) : Prop := ∃ r : Int, e = .returned (.int .i64 r) ∧ decide (0 ≤ r) = l.any p ∧ Drawn0 w w'
theorem idx75_calls (A0 : Option Addr) (c0 : Nat) (l0 : List Int) (g n c : Nat) (A : Option Addr) (w : World) (hr0 : Kd.C (Kd.int .i64) w A0 l0.length l0) (hcell : w.cell? ⟨g, 0, none⟩ = some (.slice A n c)) :
    Calls Try.prog 75 #[.slice A0 l0.length c0, .func (Fn.func 54) #[] #[.pointer (some ⟨g, 0, none⟩)]] w (IdxPost (outB n) l0 w) := by
  have HR := Aside0.mk hr0
  have HC := Aside0.mk hcell
  clear hr0 hcell
  go_enter Try.func75, Try.ntmps75
  go_wp2
  go_loopg [8] l0.length (fun kq v8 w' => ∃ i : Int, v8 = .int .i64 i ∧ Aside0 (0 ≤ i) ∧ Aside0 (i.toNat + kq = l0.length) ∧ Aside0 ((l0.take i.toNat).any (outB n) = false) ∧ Aside0 (Drawn0 w w'))
  case atStart => exact ⟨0, rfl, ⟨by omega⟩, ⟨by simp⟩, ⟨by simp⟩, ⟨Drawn0.refl _⟩⟩
  case round =>
    obtain ⟨i, rfl, HI0, HI1, HA, HD⟩ := hrel; have i0 := HI0.out
    by_cases d1 : i < (l0.length : Int)
    · have d1b : decide (i < (l0.length : Int)) = true := decide_eq_true d1; have q0 := eq_true i0; have q1 := eq_true d1; have hmax : l0.length ≤ 9223372036854775807 := HR.out.2.1; obtain ⟨ad, ea, hx1⟩ := Kd.at_int HR.out i i0 d1
      cases ea; replace hx1 := (HD.out.below.cell (World.block_lt_of_cell? w _ hx1)).trans hx1; have hc1 := (HD.out.below.cell (World.block_lt_of_cell? w _ HC.out)).trans HC.out; have HC1 := Aside0.mk hc1; clear hc1
      cases hb : outB n (rd l0 i) with
      | true =>
        have HBo := Aside0.mk hb; clear hb
        go_wp2_with (first
          | (go_at_call 54; (with_reducible refine (check1 (rd l0 i) g n c A _ HC1.out).mono ?_); rintro e w5 ⟨rfl, rfl⟩; rw [HBo.out]))
        go_ret
        exact ⟨i, rfl, by rw [decide_eq_true HI0.out]; exact (List.any_eq_true.2 ⟨_, rd_mem HI0.out d1, HBo.out⟩).symm, HD.out⟩
      | false =>
        have HBo := Aside0.mk hb; clear hb
        go_wp2_with (first
          | (go_at_call 54; (with_reducible refine (check1 (rd l0 i) g n c A _ HC1.out).mono ?_); rintro e w5 ⟨rfl, rfl⟩; rw [HBo.out]))
        obtain ⟨k1, rfl⟩ : ∃ m, gk = m + 1 := ⟨gk - 1, by have := HI1.out; omega⟩
        go_roundg k1
        case measure => omega
        case rel => exact ⟨i + 1, rfl, ⟨by have := HI0.out; omega⟩, ⟨by have := HI1.out; have := HI0.out; omega⟩, ⟨by rw [take_rd HI0.out d1, List.any_append, HA.out]; simp [HBo.out]⟩, HD⟩
    have d1b : decide (i < (l0.length : Int)) = false := decide_eq_false d1; have ha := HA.out; rw [List.take_of_length_le (by omega)] at ha; have HA2 := Aside0.mk ha; clear ha; go_wp2; go_ret
    exact ⟨-1, rfl, by rw [HA2.out]; rfl, HD.out⟩
def ContPost (p : Int → Bool) (l : List Int) (w : World) (e : Ending) (w' : World) : Prop := e = .returned (.bool (l.any p)) ∧ Drawn0 w w'
theorem cont53_calls (A0 : Option Addr) (c0 : Nat) (l0 : List Int) (g n c : Nat) (A : Option Addr) (w : World) (hr0 : Kd.C (Kd.int .i64) w A0 l0.length l0) (hcell : w.cell? ⟨g, 0, none⟩ = some (.slice A n c)) :
    Calls Try.prog 53 #[.slice A0 l0.length c0, .func (Fn.func 54) #[] #[.pointer (some ⟨g, 0, none⟩)]] w (ContPost (outB n) l0 w) := by
  have HR := Aside0.mk hr0
  have HC := Aside0.mk hcell
  clear hr0 hcell
  go_enter Try.func53, Try.ntmps53
  go_wp2_with (first
    | (go_at_call 75; (with_reducible refine (idx75_calls _ _ l0 g n c A _ HR.out HC.out).mono ?_); rintro e w5 ⟨r, rfl, hr, hd⟩; have HDr := Aside0.mk (And.intro hr hd); clear hr hd))
  go_ret
  exact ⟨by rw [← HDr.out.1]; rfl, HDr.out.2⟩
theorem any_out (l : List Int) : l.any (outB l.length) = true ↔ ∃ x ∈ l, x < 0 ∨ (l.length : Int) ≤ x := by
  simp [List.any_eq_true, outB]
def SeenOk (l : List Int) (i : Int) (sx : List Bool) : Prop := sx.length = l.length ∧ (l.take i.toNat).Nodup ∧ ∀ y : Int, 0 ≤ y → y < l.length → (rdOf false sx y = true ↔ y ∈ l.take i.toNat)
theorem seen_start (l : List Int) : SeenOk l 0 (List.replicate l.length false) := by
  refine ⟨by simp, by simp, fun y h0 h1 => ?_⟩
  simp [rdOf, List.getD_eq_getElem?_getD, show y.toNat < l.length by omega]
theorem seen_next {l : List Int} {i : Int} {sx : List Bool} (h : SeenOk l i sx) (h0 : 0 ≤ i) (h1 : i < l.length) (hx0 : 0 ≤ rd l i) (hx1 : rd l i < l.length) (hs : rdOf false sx (rd l i) = false) : SeenOk l (i + 1) (sx.set (rd l i).toNat true) := by
  obtain ⟨hl, hn, hy⟩ := h
  have hnot : rd l i ∉ l.take i.toNat := fun hm => by
    have := (hy (rd l i) hx0 hx1).2 hm; rw [hs] at this
    cases this
  refine ⟨by simpa using hl, ?_, fun y y0 y1 => ?_⟩
  · rw [take_rd h0 h1, List.nodup_append]
    exact ⟨hn, by simp, fun a ha b hb => by rw [List.mem_singleton.1 hb]; exact fun e => hnot (e ▸ ha)⟩
  · rw [take_rd h0 h1, List.mem_append, List.mem_singleton]
    by_cases e : y = rd l i
    · subst e
      simp [rdOf, List.getD_eq_getElem?_getD, show (rd l i).toNat < sx.length by omega]
    have e' : (rd l i).toNat ≠ y.toNat := by omega
    have := hy y y0 y1; simp only [rdOf, List.getD_eq_getElem?_getD] at this ⊢; rw [List.getElem?_set_ne e']; rw [this]
    simp [e]
theorem seen_dup {l : List Int} {i : Int} {sx : List Bool} (h : SeenOk l i sx) (h0 : 0 ≤ i) (h1 : i < l.length) (hx0 : 0 ≤ rd l i) (hx1 : rd l i < l.length) (hs : rdOf false sx (rd l i) = true) : ¬ l.Nodup := by
  obtain ⟨hl, hn, hy⟩ := h
  have hm := (hy (rd l i) hx0 hx1).1 hs
  intro hd
  have h2 : (l.take (i + 1).toNat).Nodup := hd.sublist (List.take_sublist _ _)
  rw [take_rd h0 h1, List.nodup_append] at h2
  exact h2.2.2 _ hm _ (List.mem_singleton.2 rfl) rfl
theorem degree_ok (n : Int) (h1 : 1 ≤ n) (h2 : n ≤ 64) : perm_degree.f n = some 0 := by
  unfold perm_degree.f
  rw [if_neg (by omega), if_neg (by omega)]
theorem degree_bad (n : Int) (h : n < 1 ∨ 64 < n) : perm_degree.f n = some 4 := by
  unfold perm_degree.f
  by_cases h1 : n < 1
  · rw [if_pos h1]
  rw [if_neg h1, if_pos (by omega)]
theorem check_bad (A0 : Option Addr) (c0 : Nat) (l0 : List Int) (w : World) (hr0 : Kd.C (Kd.int .i64) w A0 l0.length l0) (hb : l0.length < 1 ∨ 64 < l0.length) :
    Calls Try.prog 16 #[.slice A0 l0.length c0] w fun e w' => e = .returned (.int .i64 4) ∧ Below w.heap.size w w' := by
  have hd := degree_bad l0.length (by omega)
  have HD := Aside0.mk hd
  clear hd hb hr0
  go_enter Try.func16, Try.ntmps16
  go_wp2_with (first
   | ((with_reducible refine gate_dst (N := 1) rfl ?_); refine box_event ?hg (N := 1) ?hd (cs := #[.slice A0 l0.length c0]) (t := 22) ?hr ?_; (case hd => rfl); (case hg => rfl); (case hr => first | (go_simp; done) | (go_simp; rfl)); intro g hgr w3 hbox3 hb3; have hz : w3.cell? ⟨g, 0, none⟩ = some (.slice A0 l0.length c0) := (blk_cell hbox3 0).trans rfl; have HB3 := Aside0.mk hb3; clear hgr hb3 hbox3)
   | (go_at_call 52; (with_reducible refine (perm_degree.calls l0.length 4 _ HD.out).mono ?_); rintro e w5 ⟨rfl, ⟨nd, rfl⟩⟩))
  go_ret
  exact ⟨rfl, pw_below_drewN HB3.out _⟩
theorem check_range (A0 : Option Addr) (c0 : Nat) (l0 : List Int) (w : World) (hr0 : Kd.C (Kd.int .i64) w A0 l0.length l0) (h1 : 1 ≤ l0.length) (h2 : l0.length ≤ 64) (ho : l0.any (outB l0.length) = true) :
    Calls Try.prog 16 #[.slice A0 l0.length c0] w fun e w' => e = .returned (.int .i64 6) ∧ Below w.heap.size w w' := by
  have HD := Aside0.mk (degree_ok l0.length (by omega) (by omega))
  have HO := Aside0.mk ho
  have HR := Aside0.mk hr0
  clear ho hr0
  go_enter Try.func16, Try.ntmps16
  go_wp2_with (first
   | ((with_reducible refine gate_dst (N := 1) rfl ?_); refine box_event ?hg (N := 1) ?hd (cs := #[.slice A0 l0.length c0]) (t := 22) ?hr ?_; (case hd => rfl); (case hg => rfl); (case hr => first | (go_simp; done) | (go_simp; rfl)); intro g hgr w3 hbox3 hb3; have hz : w3.cell? ⟨g, 0, none⟩ = some (.slice A0 l0.length c0) := (blk_cell hbox3 0).trans rfl; have HZ := Aside0.mk hz; have HB3 := Aside0.mk hb3; clear hgr hb3 hbox3)
   | (go_at_call 52; (with_reducible refine (perm_degree.calls l0.length 0 _ HD.out).mono ?_); rintro e w5 ⟨rfl, ⟨nd, rfl⟩⟩)
   | (go_at_call 53; (with_reducible refine (cont53_calls _ _ l0 g l0.length c0 A0 _ ?s1 ?s2).mono ?_); (case s1 => exact Kd.C_drewN (Kd.C_below HR.out HB3.out) _); (case s2 => exact HZ.out); rintro e w6 ⟨rfl, hd6⟩; rw [HO.out]; have HB6 := Aside0.mk (below_step (pw_below_drewN HB3.out nd) hd6.below); clear hd6))
  go_ret
  exact ⟨rfl, HB6.out⟩
theorem perm_Check.calls (A0 : Option Addr) (c0 : Nat) (l0 : List Int) (r : Int) (w : World) (hr0 : Kd.C (Kd.int .i64) w A0 l0.length l0) (hc0 : l0.length ≤ c0) (h : perm_Check.f l0 = some r) :
    Calls Try.prog 16 #[.slice A0 l0.length c0] w fun e w' => e = .returned (.int .i64 r) ∧ Below w.heap.size w w' := by
  unfold perm_Check.f at h
  obtain rfl := Option.some.inj h
  clear h
  unfold checkL
  by_cases hb : l0.length < 1 ∨ 64 < l0.length
  · rw [if_pos hb]
    exact check_bad A0 c0 l0 w hr0 hb
  rw [if_neg hb]
  have h1 : 1 ≤ l0.length := by omega
  have h2 : l0.length ≤ 64 := by omega
  clear hb
  cases ho : l0.any (outB l0.length) with
  | true =>
    rw [if_pos ((any_out l0).1 ho)]
    exact check_range A0 c0 l0 w hr0 h1 h2 ho
  | false =>
  have hno : ¬ ∃ x ∈ l0, x < 0 ∨ (l0.length : Int) ≤ x := fun h => by rw [(any_out l0).2 h] at ho; cases ho
  rw [if_neg hno]
  have HIN := Aside0.mk (show ∀ i : Int, 0 ≤ i → i < l0.length → 0 ≤ rd l0 i ∧ rd l0 i < l0.length from fun i a b => by
    have hm := rd_mem a b
    refine ⟨?_, ?_⟩
    · apply Classical.byContradiction; intro hc; exact hno ⟨_, hm, .inl (by omega)⟩
    · apply Classical.byContradiction; intro hc; exact hno ⟨_, hm, .inr (by omega)⟩)
  have HD := Aside0.mk (degree_ok l0.length (by omega) (by omega))
  have HO := Aside0.mk ho
  have HR := Aside0.mk hr0
  have HC := Aside0.mk hc0
  have HST := Aside0.mk (seen_start l0)
  clear ho hr0 hno hc0
  generalize hres : (if l0.Nodup then (0 : Int) else 18) = res
  have HRES := Aside0.mk hres
  clear hres
  go_enter Try.func16, Try.ntmps16
  go_wp2_with (first
   | ((with_reducible refine gate_dst (N := 1) rfl ?_); refine box_event ?hg (N := 1) ?hd (cs := #[.slice A0 l0.length c0]) (t := 22) ?hr ?_; (case hd => rfl); (case hg => rfl); (case hr => first | (go_simp; done) | (go_simp; rfl)); intro g hgr w3 hbox3 hb3; have hz : w3.cell? ⟨g, 0, none⟩ = some (.slice A0 l0.length c0) := (blk_cell hbox3 0).trans rfl; have HZ := Aside0.mk hz; have HB3 := Aside0.mk hb3; clear hgr hb3 hbox3)
   | (go_at_call 52; (with_reducible refine (perm_degree.calls l0.length 0 _ HD.out).mono ?_); rintro e w5 ⟨rfl, ⟨nd, rfl⟩⟩)
   | (go_at_call 53; (with_reducible refine (cont53_calls _ _ l0 g l0.length c0 A0 _ ?s1 ?s2).mono ?_); (case s1 => exact Kd.C_drewN (Kd.C_below HR.out HB3.out) _); (case s2 => exact HZ.out); rintro e w6 ⟨rfl, ⟨nd6, rfl⟩⟩; rw [HO.out])
   | ((with_reducible refine gate_dst (N := 18) rfl ?_); refine Kd.R_make Kd.bool _ 4 rfl (N := 18) rfl 83 _ _ rfl (l0.length : Int) rfl rfl Try.underlying83 (.bool false) 1 info4 rfl (by decide) (by omega) false (ok := fun _ => True) (okp := fun _ => True) rfl (fun _ hk => hk) trivial (by omega) (by omega) (Below.refl _ _) (Nat.le_refl _) ?_; intro v7 w7 ho7 hb7 hg_ hnew_; clear hg_ hnew_; rw [Int.toNat_natCast] at ho7; have HO7 := Aside0.mk (Kd.R_lower ho7 (show w.heap.size ≤ w3.heap.size from HB3.out.size)); have HB7 := Aside0.mk (below_step (pw_below_drewN HB3.out _) hb7); have hz7 := (hb7.cell (World.block_lt_of_cell? _ _ HZ.out)).trans HZ.out; clear ho7 hb7))
  go_loopg [21] l0.length (fun kq v21 w' => ∃ (i : Int) (sx : List Bool), v21 = .int .i64 i ∧ Aside0 (0 ≤ i) ∧ Aside0 (i.toNat + kq = l0.length) ∧ Aside0 (SeenOk l0 i sx) ∧ Aside0 (Kd.R Kd.bool 4 w' w.heap.size (fun _ => True) v7 sx) ∧ Aside0 (Below w.heap.size w w'))
  case atStart => exact ⟨0, _, rfl, ⟨by omega⟩, ⟨by simp⟩, HST, HO7, HB7⟩
  case round =>
    clear HO7 HB7 hz7 hz; obtain ⟨i, sx, rfl, HI0, HI1, HS, HO7, HB7⟩ := hrel; have i0 := HI0.out
    by_cases d1 : i < (l0.length : Int)
    · have d1b : decide (i < (l0.length : Int)) = true := decide_eq_true d1; have q0 := eq_true i0; have q1 := eq_true d1; obtain ⟨ad, ea, hx1⟩ := Kd.at_int HR.out i i0 d1
      cases ea; replace hx1 := (HB7.out.cell (World.block_lt_of_cell? w _ hx1)).trans hx1; obtain ⟨x0, x1⟩ := HIN.out i i0 d1; have hsl := HS.out.1; have x2 : rd l0 i < (sx.length : Int) := by omega
      obtain ⟨go, co, eo, gb, gl, cl, HG⟩ := Kd.R_form HO7.out (by omega); subst eo; obtain ⟨hx2, hf2⟩ := Kd.R_celln false HO7.out (rd l0 i) x0 x2; have GB := Aside0.mk gb; have HSL := Aside0.mk hsl; have p0 := eq_true x0; have p2 := eq_true x2; clear gb gl HG hsl
      cases hb : rdOf false sx (rd l0 i) with
      | true =>
        rw [hb] at hx2; have HBo := Aside0.mk hb; clear hb; go_wp2; go_ret
        exact ⟨by rw [← HRES.out, if_neg (seen_dup HS.out i0 d1 x0 x1 HBo.out)]; rfl, HB7.out⟩
      | false =>
        rw [hb] at hx2; have HBo := Aside0.mk hb; clear hb; have HP14 := Aside0.mk (Kd.R_putg HO7.out (rd l0 i) true); have HSn := Aside0.mk (seen_next HS.out i0 d1 x0 x1 HBo.out); go_wp2; obtain ⟨k1, rfl⟩ : ∃ m, gk = m + 1 := ⟨gk - 1, by have := HI1.out; omega⟩
        go_roundg k1
        case measure => omega
        case rel => exact ⟨i + 1, _, rfl, ⟨by have := HI0.out; omega⟩, ⟨by have := HI1.out; have := HI0.out; omega⟩, HSn, ⟨HP14.out.1⟩, ⟨below_set HB7.out GB.out⟩⟩
    have d1b : decide (i < (l0.length : Int)) = false := decide_eq_false d1; have hn := HS.out.2.1; rw [List.take_of_length_le (by omega)] at hn; have HN := Aside0.mk hn; clear hn; go_wp2; go_ret
    exact ⟨by rw [← HRES.out, if_pos HN.out]; rfl, HB7.out⟩
end
section
attribute [local go_sem] max2_int min2_int max_two min_two max_three min_three max_four min_four
mutual
def perm_Compose.l0 : Nat → List (List Int) → List (List Int) → Int → Int → Option (List Int × Int)
  | 0, _, _, _, _ => none
  | k + 1, x0, x13, x14, x15 => if x15 < x14 then (if 0 ≤ x15 then (if x15 < (x13.length : Int) then ((perm_Check.f (rd_L1 x13 x15)).bind fun t112 => (if t112 = 0 then (perm_Compose.l0 k x0 x13 x14 (wrap64 (x15 + 1))) else (some (([] : List Int), t112)))) else (none)) else (none)) else (if 0 < (x0.length : Int) then ((perm_identity.f k ((rd_L1 x0 0).length : Int)).bind fun t114 => (perm_Compose.l1 k t114 x0 (x0.length : Int) 0)) else (none))
def perm_Compose.l1 : Nat → List Int → List (List Int) → Int → Int → Option (List Int × Int)
  | 0, _, _, _, _ => none
  | k + 1, x7, x30, x31, x32 => if x32 < x31 then (if 0 ≤ x32 then (if x32 < (x30.length : Int) then (if ((rd_L1 x30 x32).length : Int) = (x7.length : Int) then ((perm_then.f k x7 (rd_L1 x30 x32)).bind fun t118 => (perm_Compose.l1 k t118 x30 x31 (wrap64 (x32 + 1)))) else (some (([] : List Int), 10))) else (none)) else (none)) else (some (x7, 0))
end
def perm_Compose.f (k : Nat) (l0 : List (List Int)) : Option (List Int × Int) := if (l0.length : Int) = 0 then (some (([] : List Int), 11)) else (perm_Compose.l0 k l0 l0 (l0.length : Int) 0)
theorem perm_Compose.calls (k : Nat) (A0 : Option Addr) (c0 : Nat) (l0 : List (List Int)) (r1 : List Int) (r2 : Int) (w : World) (hr0 : Kd.C (Kd.slice 3 (Kd.int .i64)) w A0 l0.length l0) (hc0 : l0.length ≤ c0) (h : perm_Compose.f k l0 = some (r1, r2)) :
    Calls Try.prog 13 #[.slice A0 l0.length c0] w fun e w' => ∃ v0_ : Value, e = .returned (.tuple #[v0_, .int .i64 r2]) ∧ Kd.R (Kd.int .i64) 3 w' w.heap.size (fun _ => True) v0_ r1 ∧ Below w.heap.size w w' := by
  have HR0 := Aside0.mk hr0
  have HC0 := Aside0.mk hc0
  clear hr0 hc0
  have HB := Aside0.mk (Below.refl w.heap.size w)
  have H : (if (l0.length : Int) = 0 then (some (([] : List Int), 11)) else (perm_Compose.l0 k l0 l0 (l0.length : Int) 0)) = some (r1, r2) := h
  clear h
  by_cases c2 : (l0.length : Int) = 0
  · rw [if_pos c2] at H
    have c2b0 : ((l0.length : Int) == 0) = true := beq_iff_eq.mpr c2; have c2b1 : ((l0.length : Int) != 0) = false := bne_eq_false_iff_eq.mpr c2; clear c2; simp only [Option.some.injEq, Prod.mk.injEq] at H; obtain ⟨rfl, rfl⟩ := H
    go_enter Try.func13, Try.ntmps13
    go_wp2
    go_ret2
    exact ⟨_, by first | rfl | (simp [errW_none, errW_some] <;> rfl) | (simp [*, errW_none, errW_some] <;> rfl), by first | exact Kd.R_nil _ _ _ _ _ | exact Kd.N_nil _ _ _ _ _ | exact Kd.V_nil _ _ _ _ _ | exact Kd.Q_nil _ _ _ _ _ | exact Kd.S_nil _ _ _ _ _, by repeat (first | (with_reducible first | exact HB.out | apply below_alloc | apply pw_below_drewN | apply below_drew1) | exact HB.out)⟩
  rw [if_neg c2] at H
  have c2b0 : ((l0.length : Int) == 0) = false := beq_eq_false_iff_ne.mpr c2
  have c2b1 : ((l0.length : Int) != 0) = true := bne_iff_ne.mpr c2
  have c2b2 : ¬ (l0 = []) := fun h_ => c2 (by rw [h_]; rfl)
  have H' := Aside0.mk H
  clear H
  go_enter Try.func13, Try.ntmps13
  go_wp2
  go_loopg [15] k (fun kq v15 w' => ∃ (x15_1 : Int), v15 = .int .i64 x15_1 ∧ Aside0 (perm_Compose.l0 kq l0 l0 (l0.length : Int) x15_1 = some (r1, r2)) ∧ Aside0 (kq ≤ k) ∧ Aside0 (Below w.heap.size w w'))
  case atStart => exact ⟨(0), zz67, H', ⟨Nat.le_refl _⟩, ⟨by repeat (first | (with_reducible first | exact HB.out | apply below_alloc | apply pw_below_drewN | apply below_drew1) | exact HB.out)⟩⟩
  case round =>
    clear H'; (try clear c1); (try clear c2); (try clear c2b0); (try clear c2b1); (try clear c2b2); (try clear p2); obtain ⟨x15_1, rfl, HA, HK1, HB⟩ := hrel
    cases gk with
    | zero => exact absurd HA.out (by simp [perm_Compose.l0])
    | succ k1 =>
      have H := HA.out; clear HA; simp only [perm_Compose.l0] at H
      by_cases c3 : x15_1 < (l0.length : Int)
      · rw [if_pos c3] at H; have c3b0 : decide (x15_1 < (l0.length : Int)) = true := decide_eq_true c3; clear c3
        by_cases c4 : 0 ≤ x15_1
        · rw [if_pos c4] at H; have c4b0 : decide (0 ≤ x15_1) = true := decide_eq_true c4; clear c4
          by_cases c5 : x15_1 < (l0.length : Int)
          · rw [if_pos c5] at H; have c5b0 : decide (x15_1 < (l0.length : Int)) = true := decide_eq_true c5; clear c5; replace H := Option.bind_eq_some_iff.mp H; obtain ⟨t112, A60, H⟩ := H; replace H : (if t112 = 0 then (perm_Compose.l0 k1 l0 l0 (l0.length : Int) (wrap64 (x15_1 + 1))) else (some (([] : List Int), t112))) = some (r1, r2) := H; have A6 := Aside0.mk A60; clear A60
            by_cases c7 : t112 = 0
            · rw [if_pos c7] at H; have c7b0 : (t112 == 0) = true := beq_iff_eq.mpr c7; have c7b1 : (t112 != 0) = false := bne_eq_false_iff_eq.mpr c7; clear c7; have H' := Aside0.mk H; clear H; have p111 : 0 ≤ (x15_1 : Int) := of_decide_eq_true zz65; have q111 : x15_1 < (l0.length : Int) := of_decide_eq_true zz65; obtain ⟨ad111, A111_0, c111_0, e111, hx111_0, hl111_0, hi111_0⟩ := at_L1 HR0.out x15_1 p111 q111
              cases e111; replace hx111_0 := (HB.out.cell (World.block_lt_of_cell? w _ hx111_0)).trans hx111_0; have HR111_0 := Aside0.mk hi111_0; have HC111_0 := Aside0.mk hl111_0; clear hi111_0 hl111_0; replace p111 := eq_true p111; replace q111 := eq_true q111
              go_wp2_with (first | ((with_reducible refine gate_callee (f := 16) rfl ?_); refine goesL_ (some 20) rfl rfl Try.func16 (by kernel_rfl) rfl #[.slice A111_0 (rd_L1 l0 x15_1).length c111_0] rfl zz54 ?_; (with_reducible refine (perm_Check.calls _ _ (rd_L1 l0 x15_1) t112 _ ?side1 ?side2 A6.out).mono ?_); (case side1 => repeat (first | exact (Kd.C_below HR111_0.out HB.out) | (with_reducible refine Kd.C_alloc ?_ _) | (with_reducible refine Kd.C_drewN ?_ _) | (with_reducible refine Kd.C_drew ?_))); (case side2 => exact HC111_0.out); rintro e w8 ⟨rfl, hb⟩; refine ⟨_, rfl, ?_⟩; have n0_ := Aside0.mk (below_step zz55 hb); clear HB; have HB := n0_; clear n0_; (try clear hb); (try clear hb2); (try clear hk); (try clear hi)))
              go_roundg k1
              case measure => have := HK1.out; omega
              case rel => exact ⟨(wrap64 (x15_1 + 1)), zz67, H', ⟨by have := HK1.out; omega⟩, ⟨by repeat (first | (with_reducible first | exact HB.out | apply below_alloc | apply pw_below_drewN | apply below_drew1) | exact HB.out)⟩⟩
            rw [if_neg c7] at H; have c7b0 : (t112 == 0) = false := beq_eq_false_iff_ne.mpr c7; have c7b1 : (t112 != 0) = true := bne_iff_ne.mpr c7; simp only [Option.some.injEq, Prod.mk.injEq] at H; obtain ⟨rfl, rfl⟩ := H; have p111 : 0 ≤ (x15_1 : Int) := of_decide_eq_true zz65; have q111 : x15_1 < (l0.length : Int) := of_decide_eq_true zz65; obtain ⟨ad111, A111_0, c111_0, e111, hx111_0, hl111_0, hi111_0⟩ := at_L1 HR0.out x15_1 p111 q111
            cases e111; replace hx111_0 := (HB.out.cell (World.block_lt_of_cell? w _ hx111_0)).trans hx111_0; have HR111_0 := Aside0.mk hi111_0; have HC111_0 := Aside0.mk hl111_0; clear hi111_0 hl111_0; replace p111 := eq_true p111; replace q111 := eq_true q111
            go_wp2_with (first | ((with_reducible refine gate_callee (f := 16) rfl ?_); refine goesL_ (some 20) rfl rfl Try.func16 (by kernel_rfl) rfl #[.slice A111_0 (rd_L1 l0 x15_1).length c111_0] rfl zz54 ?_; (with_reducible refine (perm_Check.calls _ _ (rd_L1 l0 x15_1) t112 _ ?side1 ?side2 A6.out).mono ?_); (case side1 => repeat (first | exact (Kd.C_below HR111_0.out HB.out) | (with_reducible refine Kd.C_alloc ?_ _) | (with_reducible refine Kd.C_drewN ?_ _) | (with_reducible refine Kd.C_drew ?_))); (case side2 => exact HC111_0.out); rintro e w9 ⟨rfl, hb⟩; refine ⟨_, rfl, ?_⟩; have n0_ := Aside0.mk (below_step zz55 hb); clear HB; have HB := n0_; clear n0_; (try clear hb); (try clear hb2); (try clear hk); (try clear hi)))
            go_ret2
            exact ⟨_, by first | rfl | (simp [errW_none, errW_some] <;> rfl) | (simp [*, errW_none, errW_some] <;> rfl), by first | exact Kd.R_nil _ _ _ _ _ | exact Kd.N_nil _ _ _ _ _ | exact Kd.V_nil _ _ _ _ _ | exact Kd.Q_nil _ _ _ _ _ | exact Kd.S_nil _ _ _ _ _, by repeat (first | (with_reducible first | exact HB.out | apply below_alloc | apply pw_below_drewN | apply below_drew1) | exact HB.out)⟩
          rw [if_neg c5] at H
          exact absurd H (by simp)
        rw [if_neg c4] at H
        exact absurd H (by simp)
      rw [if_neg c3] at H; have c3b0 : decide (x15_1 < (l0.length : Int)) = false := decide_eq_false c3; clear c3
      by_cases c10 : 0 < (l0.length : Int)
      · rw [if_pos c10] at H; have c10b0 : decide (0 < (l0.length : Int)) = true := decide_eq_true c10; have c10b1 : decide (0 < l0.length) = true := decide_eq_true (by omega); clear c10; replace H := Option.bind_eq_some_iff.mp H; obtain ⟨t114, A110, H⟩ := H; replace H : (perm_Compose.l1 k1 t114 l0 (l0.length : Int) 0) = some (r1, r2) := H; have A11 := Aside0.mk A110; clear A110; have H' := Aside0.mk H; clear H; have p113 : 0 ≤ (0 : Int) := (by omega); have q113 : 0 < (l0.length : Int) := of_decide_eq_true zz65; obtain ⟨ad113, A113_0, c113_0, e113, hx113_0, hl113_0, hi113_0⟩ := at_L1 HR0.out 0 p113 q113
        cases e113; have qi113 : (0 < l0.length) = True := eq_true (by omega)
        (try rw [show ((0 : Int)).toNat = 0 from rfl] at hx113_0)
        (try rw [Addr.add_zero'] at hx113_0)
        replace hx113_0 := (HB.out.cell (World.block_lt_of_cell? w _ hx113_0)).trans hx113_0; have HR113_0 := Aside0.mk hi113_0; have HC113_0 := Aside0.mk hl113_0; clear hi113_0 hl113_0; replace p113 := eq_true p113; replace q113 := eq_true q113
        go_wp2_with (first | ((with_reducible refine gate_callee (f := 49) rfl ?_); refine goesL_ (some 29) rfl rfl Try.func49 (by kernel_rfl) rfl #[.int .i64 ((rd_L1 l0 0).length : Int)] rfl zz54 ?_; (with_reducible refine (perm_identity.calls k1 ((rd_L1 l0 0).length : Int) t114 _ A11.out).mono ?_); rintro e w12 ⟨v115, rfl, ho0, hb⟩; refine ⟨_, rfl, ?_⟩; have n0_ := Aside0.mk (Kd.R_lower ho0 (below_size zz55)); have n1_ := Aside0.mk (below_step zz55 hb); clear HB; have HO116 := n0_; have HB := n1_; clear n0_ n1_; (try clear hb); (try clear hb2); (try clear hk); (try clear hi); (try clear ho0)))
        go_loopg [7, 32] k1 (fun kq v7 v32 w' => ∃ (x7_2 : List Int) (x32_2 : Int), v32 = .int .i64 x32_2 ∧ Aside0 (perm_Compose.l1 kq x7_2 l0 (l0.length : Int) x32_2 = some (r1, r2)) ∧ Aside0 (kq ≤ k1) ∧ Aside0 (Kd.R (Kd.int .i64) 3 w' w.heap.size (fun _ => True) v7 x7_2) ∧ Aside0 (Below w.heap.size w w'))
        case atStart => exact ⟨(t114), (0), zz67, H', ⟨Nat.le_refl _⟩, ⟨by (with_reducible repeat (first | apply Kd.R_alloc | apply Kd.R_drewN | apply Kd.R_drew)); exact HO116.out⟩, ⟨by repeat (first | (with_reducible first | exact HB.out | apply below_alloc | apply pw_below_drewN | apply below_drew1) | exact HB.out)⟩⟩
        case round =>
          clear H'; (try clear c1); (try clear p1); (try clear q1); (try clear hx1); (try clear qi1); (try clear c2); (try clear c2b0); (try clear c2b1); (try clear c2b2); (try clear p2); (try clear c3); (try clear c3b0); (try clear c4); (try clear c4b0); (try clear c5); (try clear c5b0); (try clear p6); (try clear c7); (try clear c7b0); (try clear c7b1); (try clear c10); (try clear c10b0); (try clear c10b1); (try clear c11); (try clear p11); (try clear q11); (try clear hx11); (try clear qi11); (try clear hx111_0); (try clear hx113_0); (try clear p111); (try clear p113); (try clear p2); (try clear q111); (try clear q113); obtain ⟨x7_2, x32_2, rfl, HA, HK2, HO_7, HB⟩ := hrel
          cases gk with
          | zero => exact absurd HA.out (by simp [perm_Compose.l1])
          | succ k2 =>
            have H := HA.out; clear HA; simp only [perm_Compose.l1] at H
            by_cases c13 : x32_2 < (l0.length : Int)
            · rw [if_pos c13] at H; have c13b0 : decide (x32_2 < (l0.length : Int)) = true := decide_eq_true c13; clear c13
              by_cases c14 : 0 ≤ x32_2
              · rw [if_pos c14] at H; have c14b0 : decide (0 ≤ x32_2) = true := decide_eq_true c14; clear c14
                by_cases c15 : x32_2 < (l0.length : Int)
                · rw [if_pos c15] at H; have c15b0 : decide (x32_2 < (l0.length : Int)) = true := decide_eq_true c15; clear c15
                  by_cases c16 : ((rd_L1 l0 x32_2).length : Int) = (x7_2.length : Int)
                  · rw [if_pos c16] at H; have c16b0 : (((rd_L1 l0 x32_2).length : Int) == (x7_2.length : Int)) = true := beq_iff_eq.mpr c16; have c16b1 : (((rd_L1 l0 x32_2).length : Int) != (x7_2.length : Int)) = false := bne_eq_false_iff_eq.mpr c16; have c16b2 : ((rd_L1 l0 x32_2).length == x7_2.length) = true := by first | simpa using c16 | (simp at c16 ⊢; omega)
                    clear c16; replace H := Option.bind_eq_some_iff.mp H; obtain ⟨t118, A170, H⟩ := H; replace H : (perm_Compose.l1 k2 t118 l0 (l0.length : Int) (wrap64 (x32_2 + 1))) = some (r1, r2) := H; have A17 := Aside0.mk A170; clear A170; have H' := Aside0.mk H; clear H; have p117 : 0 ≤ (x32_2 : Int) := of_decide_eq_true zz65; have q117 : x32_2 < (l0.length : Int) := of_decide_eq_true zz65; obtain ⟨ad117, A117_0, c117_0, e117, hx117_0, hl117_0, hi117_0⟩ := at_L1 HR0.out x32_2 p117 q117; obtain rfl : ad113 = ad117 := (by injection e117); replace hx117_0 := (HB.out.cell (World.block_lt_of_cell? w _ hx117_0)).trans hx117_0; have HR117_0 := Aside0.mk hi117_0; have HC117_0 := Aside0.mk hl117_0; clear hi117_0 hl117_0; replace p117 := eq_true p117; replace q117 := eq_true q117; obtain ⟨Ao18, co18, eo18⟩ := Kd.R_slice HO_7.out; subst eo18
                    go_wp2_with (first | ((with_reducible refine gate_callee (f := 50) rfl ?_); refine goesL_ (some 43) rfl rfl Try.func50 (by kernel_rfl) rfl #[.slice Ao18 x7_2.length co18, .slice A117_0 (rd_L1 l0 x32_2).length c117_0] rfl zz54 ?_; (with_reducible refine (perm_then.calls k2 _ _ x7_2 _ _ (rd_L1 l0 x32_2) t118 _ ?side1 ?side2 ?side3 ?side4 A17.out).mono ?_); (case side1 => repeat (first | exact (Kd.R_reads' HO_7.out).2.2 | (with_reducible refine Kd.C_alloc ?_ _) | (with_reducible refine Kd.C_drewN ?_ _) | (with_reducible refine Kd.C_drew ?_))); (case side2 => exact (Kd.R_reads' HO_7.out).2.1); (case side3 => repeat (first | exact (Kd.C_below HR117_0.out HB.out) | (with_reducible refine Kd.C_alloc ?_ _) | (with_reducible refine Kd.C_drewN ?_ _) | (with_reducible refine Kd.C_drew ?_))); (case side4 => exact HC117_0.out); rintro e w19 ⟨v119, rfl, ho0, hb⟩; refine ⟨_, rfl, ?_⟩; have n0_ := Aside0.mk (Kd.R_elder' (zR HO_7) (Kd.R_base ho0) hb); have n1_ := Aside0.mk (Kd.R_lower (Kd.R_new' ho0 (Kd.R_lt (zR HO_7))) (below_size zz55)); have n2_ := Aside0.mk (below_step zz55 hb); clear HO_7; clear HB; have HO_7 := n0_; have HO120 := n1_; have HB := n2_; clear n0_ n1_ n2_; (try clear hb); (try clear hb2); (try clear hk); (try clear hi); (try clear ho0)))
                    go_roundg k2
                    case measure => have := HK1.out; have := HK2.out; omega
                    case rel => exact ⟨(t118), (wrap64 (x32_2 + 1)), zz67, H', ⟨by have := HK1.out; have := HK2.out; omega⟩, ⟨by (with_reducible repeat (first | apply Kd.R_alloc | apply Kd.R_drewN | apply Kd.R_drew)); exact Kd.R_mono HO120.out (fun _ hk => trivial)⟩, ⟨by repeat (first | (with_reducible first | exact HB.out | apply below_alloc | apply pw_below_drewN | apply below_drew1) | exact HB.out)⟩⟩
                  rw [if_neg c16] at H; have c16b0 : (((rd_L1 l0 x32_2).length : Int) == (x7_2.length : Int)) = false := beq_eq_false_iff_ne.mpr c16; have c16b1 : (((rd_L1 l0 x32_2).length : Int) != (x7_2.length : Int)) = true := bne_iff_ne.mpr c16; have c16b2 : ((rd_L1 l0 x32_2).length == x7_2.length) = false := by first | simpa using c16 | (simp at c16 ⊢; omega)
                  simp only [Option.some.injEq, Prod.mk.injEq] at H; obtain ⟨rfl, rfl⟩ := H; have p117 : 0 ≤ (x32_2 : Int) := of_decide_eq_true zz65; have q117 : x32_2 < (l0.length : Int) := of_decide_eq_true zz65; obtain ⟨ad117, A117_0, c117_0, e117, hx117_0, hl117_0, hi117_0⟩ := at_L1 HR0.out x32_2 p117 q117; obtain rfl : ad113 = ad117 := (by injection e117); replace hx117_0 := (HB.out.cell (World.block_lt_of_cell? w _ hx117_0)).trans hx117_0; have HR117_0 := Aside0.mk hi117_0; have HC117_0 := Aside0.mk hl117_0; clear hi117_0 hl117_0; replace p117 := eq_true p117; replace q117 := eq_true q117; obtain ⟨Ao20, co20, eo20⟩ := Kd.R_slice HO_7.out; subst eo20; go_wp2
                  go_ret2
                  exact ⟨_, by first | rfl | (simp [errW_none, errW_some] <;> rfl) | (simp [*, errW_none, errW_some] <;> rfl), by first | exact Kd.R_nil _ _ _ _ _ | exact Kd.N_nil _ _ _ _ _ | exact Kd.V_nil _ _ _ _ _ | exact Kd.Q_nil _ _ _ _ _ | exact Kd.S_nil _ _ _ _ _, by repeat (first | (with_reducible first | exact HB.out | apply below_alloc | apply pw_below_drewN | apply below_drew1) | exact HB.out)⟩
                rw [if_neg c15] at H
                exact absurd H (by simp)
              rw [if_neg c14] at H
              exact absurd H (by simp)
            rw [if_neg c13] at H; have c13b0 : decide (x32_2 < (l0.length : Int)) = false := decide_eq_false c13; clear c13; simp only [Option.some.injEq, Prod.mk.injEq] at H; obtain ⟨rfl, rfl⟩ := H; go_wp2
            go_ret2
            exact ⟨_, by first | rfl | (simp [errW_none, errW_some] <;> rfl) | (simp [*, errW_none, errW_some] <;> rfl), by (with_reducible repeat (first | apply Kd.R_alloc | apply Kd.R_drewN | apply Kd.R_drew)); exact HO_7.out, by repeat (first | (with_reducible first | exact HB.out | apply below_alloc | apply pw_below_drewN | apply below_drew1) | exact HB.out)⟩
      rw [if_neg c10] at H
      exact absurd H (by simp)
end
section
attribute [local go_sem] max2_int min2_int max_two min_two max_three min_three max_four min_four
def codewrightref09_SameInts.l0 : Nat → List Int → List Int → Int → Option (Bool)
  | 0, _, _, _ => none
  | k + 1, x0, x1, x5 => if x5 < (x0.length : Int) then (if 0 ≤ x5 then (if x5 < (x1.length : Int) then (if (rd x0 x5) = (rd x1 x5) then (codewrightref09_SameInts.l0 k x0 x1 (wrap64 (x5 + 1))) else (some false)) else (none)) else (none)) else (some true)
def codewrightref09_SameInts.f (k : Nat) (l0 : List Int) (l1 : List Int) : Option (Bool) := if (l0.length : Int) = (l1.length : Int) then (codewrightref09_SameInts.l0 k l0 l1 0) else (some false)
theorem codewrightref09_SameInts.calls (k : Nat) (A0 : Option Addr) (c0 : Nat) (l0 : List Int) (A1 : Option Addr) (c1 : Nat) (l1 : List Int) (r : Bool) (w : World) (hr0 : Kd.C (Kd.int .i64) w A0 l0.length l0) (hc0 : l0.length ≤ c0) (hr1 : Kd.C (Kd.int .i64) w A1 l1.length l1) (hc1 : l1.length ≤ c1) (h : codewrightref09_SameInts.f k l0 l1 = some r) :
    Calls Try.prog 15 #[.slice A0 l0.length c0, .slice A1 l1.length c1] w fun e w' => e = .returned (.bool r) ∧ Drawn0 w w' := by
  have HR0 := Aside0.mk hr0
  have HC0 := Aside0.mk hc0
  clear hr0 hc0
  have HR1 := Aside0.mk hr1
  have HC1 := Aside0.mk hc1
  clear hr1 hc1
  have H : (if (l0.length : Int) = (l1.length : Int) then (codewrightref09_SameInts.l0 k l0 l1 0) else (some false)) = some r := h
  clear h
  by_cases c3 : (l0.length : Int) = (l1.length : Int)
  · rw [if_pos c3] at H
    have c3b0 : ((l0.length : Int) == (l1.length : Int)) = true := beq_iff_eq.mpr c3; have c3b1 : ((l0.length : Int) != (l1.length : Int)) = false := bne_eq_false_iff_eq.mpr c3; have c3b2 : (l0.length == l1.length) = true := by first | simpa using c3 | (simp at c3 ⊢; omega)
    clear c3; have H' := Aside0.mk H; clear H
    go_enter Try.func15, Try.ntmps15
    go_wp2
    repeat (go_quiet (fail); try go_wp2)
    go_loopg [5] k (fun kq v5 w' => ∃ (x5_1 : Int), v5 = .int .i64 x5_1 ∧ Aside0 (codewrightref09_SameInts.l0 kq l0 l1 x5_1 = some r) ∧ Aside0 (kq ≤ k) ∧ Drawn0 w w')
    case atStart => exact ⟨(0), zz67, H', ⟨Nat.le_refl _⟩, by repeat (first | exact Drawn0.refl _ | apply Drawn0.step)⟩
    case round =>
      clear H'; (try clear c1); (try clear p2); (try clear c3); (try clear c3b0); (try clear c3b1); (try clear c3b2); obtain ⟨x5_1, rfl, HA, HK1, ⟨m1, rfl⟩⟩ := hrel
      cases gk with
      | zero => exact absurd HA.out (by simp [codewrightref09_SameInts.l0])
      | succ k1 =>
        have H := HA.out; clear HA; simp only [codewrightref09_SameInts.l0] at H
        by_cases c4 : x5_1 < (l0.length : Int)
        · rw [if_pos c4] at H; have c4b0 : decide (x5_1 < (l0.length : Int)) = true := decide_eq_true c4; clear c4
          by_cases c5 : 0 ≤ x5_1
          · rw [if_pos c5] at H; have c5b0 : decide (0 ≤ x5_1) = true := decide_eq_true c5; clear c5
            by_cases c6 : x5_1 < (l1.length : Int)
            · rw [if_pos c6] at H; have c6b0 : decide (x5_1 < (l1.length : Int)) = true := decide_eq_true c6; clear c6
              by_cases c7 : (rd l0 x5_1) = (rd l1 x5_1)
              · rw [if_pos c7] at H; have c7b0 : ((rd l0 x5_1) == (rd l1 x5_1)) = true := beq_iff_eq.mpr c7; have c7b1 : ((rd l0 x5_1) != (rd l1 x5_1)) = false := bne_eq_false_iff_eq.mpr c7; clear c7; have H' := Aside0.mk H; clear H; have p121 : 0 ≤ (x5_1 : Int) := of_decide_eq_true zz65; have q121 : x5_1 < (l0.length : Int) := of_decide_eq_true zz65; obtain ⟨ad121, e121, hx121_0⟩ := Kd.at_int HR0.out x5_1 p121 q121
                cases e121; replace p121 := eq_true p121; replace q121 := eq_true q121; have p122 : 0 ≤ (x5_1 : Int) := of_decide_eq_true zz65; have q122 : x5_1 < (l1.length : Int) := of_decide_eq_true zz65; obtain ⟨ad122, e122, hx122_0⟩ := Kd.at_int HR1.out x5_1 p122 q122
                cases e122; replace p122 := eq_true p122; replace q122 := eq_true q122; go_wp2
                repeat (go_quiet (fail); try go_wp2)
                go_roundg k1
                case measure => have := HK1.out; omega
                case rel => exact ⟨(wrap64 (x5_1 + 1)), zz67, H', ⟨by have := HK1.out; omega⟩, by repeat (first | exact Drawn0.refl _ | apply Drawn0.step)⟩
              rw [if_neg c7] at H; have c7b0 : ((rd l0 x5_1) == (rd l1 x5_1)) = false := beq_eq_false_iff_ne.mpr c7; have c7b1 : ((rd l0 x5_1) != (rd l1 x5_1)) = true := bne_iff_ne.mpr c7; obtain rfl := Option.some.inj H; have p121 : 0 ≤ (x5_1 : Int) := of_decide_eq_true zz65; have q121 : x5_1 < (l0.length : Int) := of_decide_eq_true zz65; obtain ⟨ad121, e121, hx121_0⟩ := Kd.at_int HR0.out x5_1 p121 q121
              cases e121; replace p121 := eq_true p121; replace q121 := eq_true q121; have p122 : 0 ≤ (x5_1 : Int) := of_decide_eq_true zz65; have q122 : x5_1 < (l1.length : Int) := of_decide_eq_true zz65; obtain ⟨ad122, e122, hx122_0⟩ := Kd.at_int HR1.out x5_1 p122 q122
              cases e122; replace p122 := eq_true p122; replace q122 := eq_true q122; go_wp2
              repeat (go_quiet (fail); try go_wp2)
              go_ret
              exact ⟨by first | rfl | (simp; done) | (simp [*]; done), by repeat (first | exact Drawn0.refl _ | apply Drawn0.step)⟩
            rw [if_neg c6] at H
            exact absurd H (by simp)
          rw [if_neg c5] at H
          exact absurd H (by simp)
        rw [if_neg c4] at H; have c4b0 : decide (x5_1 < (l0.length : Int)) = false := decide_eq_false c4; clear c4; obtain rfl := Option.some.inj H; go_wp2
        repeat (go_quiet (fail); try go_wp2)
        go_ret
        exact ⟨by first | rfl | (simp; done) | (simp [*]; done), by repeat (first | exact Drawn0.refl _ | apply Drawn0.step)⟩
  rw [if_neg c3] at H
  have c3b0 : ((l0.length : Int) == (l1.length : Int)) = false := beq_eq_false_iff_ne.mpr c3
  have c3b1 : ((l0.length : Int) != (l1.length : Int)) = true := bne_iff_ne.mpr c3
  have c3b2 : (l0.length == l1.length) = false := by first | simpa using c3 | (simp at c3 ⊢; omega)
  obtain rfl := Option.some.inj H
  go_enter Try.func15, Try.ntmps15
  go_wp2
  repeat (go_quiet (fail); try go_wp2)
  go_ret
  exact ⟨by first | rfl | (simp; done) | (simp [*]; done), by repeat (first | exact Drawn0.refl _ | apply Drawn0.step)⟩
end
section
attribute [local go_sem] max2_int min2_int max_two min_two max_three min_three max_four min_four
def perm_inverse.l0 : Nat → List Int → List Int → Int → Int → Option (List Int)
  | 0, _, _, _, _ => none
  | k + 1, x3, x9, x10, x11 => if x11 < x10 then (if 0 ≤ x11 then (if x11 < (x9.length : Int) then (if 0 ≤ (rd x9 x11) then (if (rd x9 x11) < (x3.length : Int) then (perm_inverse.l0 k (x3.set ((rd x9 x11) : Int).toNat x11) x9 x10 (wrap64 (x11 + 1))) else (none)) else (none)) else (none)) else (none)) else (some x3)
def perm_inverse.f (k : Nat) (l0 : List Int) : Option (List Int) := if 0 ≤ (l0.length : Int) then (if ((l0.length : Int) : Int).toNat ≤ 35184372088832 then (perm_inverse.l0 k (List.replicate ((l0.length : Int) : Int).toNat 0) l0 (l0.length : Int) 0) else (none)) else (none)
theorem perm_inverse.mono_l : ∀ k, (∀ y0 y1 y2 y3, LeO (perm_inverse.l0 k y0 y1 y2 y3) (perm_inverse.l0 (k + 1) y0 y1 y2 y3))
  | 0 => fun _ _ _ _ r h => by simp [perm_inverse.l0] at h
  | k + 1 => by
    have ih0 := perm_inverse.mono_l k
    · intro y0 y1 y2 y3
      unfold perm_inverse.l0
      repeat' first
      | (with_reducible exact ih0 _ _ _ _)
      | (with_reducible exact LeO.refl _)
      | (with_reducible exact LeO.none _)
      | (with_reducible refine LeO.ite ?_ ?_)
      | (with_reducible refine LeO.bind ?_ (fun _ => ?_))
theorem perm_inverse.mono : ∀ a0 k, LeO (perm_inverse.f k a0) (perm_inverse.f (k + 1) a0) := by
  intro a0 k
  have ih0 := perm_inverse.mono_l k
  unfold perm_inverse.f
  repeat' first
      | (with_reducible exact ih0 _ _ _ _)
      | (with_reducible exact LeO.refl _)
      | (with_reducible exact LeO.none _)
      | (with_reducible refine LeO.ite ?_ ?_)
      | (with_reducible refine LeO.bind ?_ (fun _ => ?_))
theorem perm_inverse.calls (k : Nat) (A0 : Option Addr) (c0 : Nat) (l0 : List Int) (r : List Int) (w : World) (hr0 : Kd.C (Kd.int .i64) w A0 l0.length l0) (hc0 : l0.length ≤ c0) (h : perm_inverse.f k l0 = some r) :
    Calls Try.prog 55 #[.slice A0 l0.length c0] w fun e w' => ∃ v0_ : Value, e = .returned (v0_) ∧ Kd.R (Kd.int .i64) 3 w' w.heap.size (fun _ => True) v0_ r ∧ Below w.heap.size w w' := by
  have HR0 := Aside0.mk hr0
  have HC0 := Aside0.mk hc0
  clear hr0 hc0
  have HB := Aside0.mk (Below.refl w.heap.size w)
  have H : (if 0 ≤ (l0.length : Int) then (if ((l0.length : Int) : Int).toNat ≤ 35184372088832 then (perm_inverse.l0 k (List.replicate ((l0.length : Int) : Int).toNat 0) l0 (l0.length : Int) 0) else (none)) else (none)) = some r := h
  clear h
  by_cases c2 : 0 ≤ (l0.length : Int)
  · rw [if_pos c2] at H
    have c2b0 := eq_true c2; have c2b1 : decide (0 ≤ (l0.length : Int)) = true := decide_eq_true c2; clear c2
    by_cases c3 : ((l0.length : Int) : Int).toNat ≤ 35184372088832
    · rw [if_pos c3] at H; have c3b0 := eq_true c3; have c3b1 : decide (((l0.length : Int) : Int).toNat ≤ 35184372088832) = true := decide_eq_true c3; clear c3; obtain ⟨y123, hy123⟩ : ∃ y_ : List Int, y_ = (List.replicate ((l0.length : Int) : Int).toNat 0) := ⟨_, rfl⟩; replace H : (perm_inverse.l0 k y123 l0 (l0.length : Int) 0) = some r := by first | (rw [hy123]; with_reducible exact H) | (have H2_ := (Option.bind_some _ _).symm.trans H; rw [hy123]; with_reducible exact H2_) | (have H2_ := (Option.bind_some _ _).symm.trans H; with_reducible exact H2_) | with_reducible exact H | (rw [hy123]; exact H) | exact H
      have Ny123 := Aside0.mk hy123; clear hy123; have H' := Aside0.mk H; clear H
      go_enter Try.func55, Try.ntmps55
      go_wp2_with (first | ((with_reducible refine gate_dst (N := 8) rfl ?_); refine Kd.R_make (Kd.int .i64) _ 3 rfl (N := 8) rfl 22 _ _ rfl (l0.length : Int) rfl rfl Try.underlying22 (.int .i64 0) 8 info3 rfl (by decide) (by omega) 0 (ok := fun _ => True) (okp := fun _ => True) rfl (fun _ hk => hk) trivial (of_decide_eq_true zz65) (Nat.le_trans (Nat.mul_le_mul_right _ (of_decide_eq_true zz65 : (l0.length : Int).toNat ≤ 35184372088832)) (by omega)) (Below.refl _ _) (Nat.le_refl _) ?_; intro v124 w4 ho5 hb hg_ hnew_; clear hg_ hnew_; (first | rw [← Ny123.out] at ho5 | (simp only [Int.reduceToNat] at ho5; rw [← Ny123.out] at ho5)); have n0_ := Aside0.mk (Kd.R_lower ho5 (below_size zz55)); have n1_ := Aside0.mk (below_step zz55 hb); clear HB; have HO125 := n0_; have HB := n1_; clear n0_ n1_; clear hb ho5))
      go_loopg [11] k (fun kq v11 w' => ∃ (x3_1 : List Int) (x11_1 : Int), v11 = .int .i64 x11_1 ∧ Aside0 (perm_inverse.l0 kq x3_1 l0 (l0.length : Int) x11_1 = some r) ∧ Aside0 (kq ≤ k) ∧ Aside0 (Kd.R (Kd.int .i64) 3 w' w.heap.size (fun _ => True) v124 x3_1) ∧ Aside0 (Below w.heap.size w w'))
      case atStart => exact ⟨(y123), (0), zz67, H', ⟨Nat.le_refl _⟩, ⟨by (with_reducible repeat (first | apply Kd.R_alloc | apply Kd.R_drewN | apply Kd.R_drew)); exact HO125.out⟩, ⟨by repeat (first | (with_reducible first | exact HB.out | apply below_alloc | apply pw_below_drewN | apply below_drew1) | exact HB.out)⟩⟩
      case round =>
        clear H'; (try clear c2); (try clear c2b0); (try clear c2b1); (try clear p2); (try clear c3); (try clear c3b0); (try clear c3b1); (try clear c5); obtain ⟨x3_1, x11_1, rfl, HA, HK1, HO_3, HB⟩ := hrel
        cases gk with
        | zero => exact absurd HA.out (by simp [perm_inverse.l0])
        | succ k1 =>
          have H := HA.out; clear HA; simp only [perm_inverse.l0] at H
          by_cases c6 : x11_1 < (l0.length : Int)
          · rw [if_pos c6] at H; have c6b0 : decide (x11_1 < (l0.length : Int)) = true := decide_eq_true c6; clear c6
            by_cases c7 : 0 ≤ x11_1
            · rw [if_pos c7] at H; have c7b0 : decide (0 ≤ x11_1) = true := decide_eq_true c7; clear c7
              by_cases c8 : x11_1 < (l0.length : Int)
              · rw [if_pos c8] at H; have c8b0 : decide (x11_1 < (l0.length : Int)) = true := decide_eq_true c8; clear c8
                by_cases c9 : 0 ≤ (rd l0 x11_1)
                · rw [if_pos c9] at H; have c9b0 : decide (0 ≤ (rd l0 x11_1)) = true := decide_eq_true c9; clear c9
                  by_cases c10 : (rd l0 x11_1) < (x3_1.length : Int)
                  · rw [if_pos c10] at H; have c10b0 : decide ((rd l0 x11_1) < (x3_1.length : Int)) = true := decide_eq_true c10; clear c10; obtain ⟨y127, hy127⟩ : ∃ y_ : List Int, y_ = (x3_1.set ((rd l0 x11_1) : Int).toNat x11_1) := ⟨_, rfl⟩; replace H : (perm_inverse.l0 k1 y127 l0 (l0.length : Int) (wrap64 (x11_1 + 1))) = some r := by first | (rw [hy127]; with_reducible exact H) | (have H2_ := (Option.bind_some _ _).symm.trans H; rw [hy127]; with_reducible exact H2_) | (have H2_ := (Option.bind_some _ _).symm.trans H; with_reducible exact H2_) | with_reducible exact H | (rw [hy127]; exact H) | exact H
                    have Ny127 := Aside0.mk hy127; clear hy127; have H' := Aside0.mk H; clear H; have p126 : 0 ≤ (x11_1 : Int) := of_decide_eq_true zz65; have q126 : x11_1 < (l0.length : Int) := of_decide_eq_true zz65; obtain ⟨ad126, e126, hx126_0⟩ := Kd.at_int HR0.out x11_1 p126 q126
                    cases e126; replace hx126_0 := (HB.out.cell (World.block_lt_of_cell? w _ hx126_0)).trans hx126_0; replace p126 := eq_true p126; replace q126 := eq_true q126; have p11 : 0 ≤ ((rd l0 x11_1) : Int) := of_decide_eq_true zz65; have q11 : ((rd l0 x11_1) : Int) < ((x3_1.length : Int) : Int) := of_decide_eq_true zz65; obtain ⟨go11, co11, eo11, gb11, gl11, cl11, HG11⟩ := Kd.R_form HO_3.out (by omega)
                    (first | cases eo11 | (injection eo11 with ea_ en_ ec_; (first | subst ea_ | (injection ea_ with ea_; subst ea_)); subst ec_; clear en_))
                    have GB11 := Aside0.mk gb11; have GG11 := Aside0.mk HG11; clear gb11 gl11 HG11; obtain ⟨hx11_0, hf11_0⟩ := Kd.R_celln 0 HO_3.out ((rd l0 x11_1) : Int) p11 q11; replace p11 := eq_true p11; replace q11 := eq_true q11; have HP12 := Kd.R_putg HO_3.out ((rd l0 x11_1) : Int) x11_1
                    go_wp2_with (first | ((with_reducible refine gate_store (t := 3) (p := 19) rfl ?_); refine store_event (t := 3) (p := 19) (v := ?vo_w13) (w1 := (wr.setCell ⟨go11, ((rd l0 x11_1) : Int).toNat, none⟩ (.int .i64 x11_1))) ?hg ?ho ?hn ?hr ?_; (case ho => rfl); (case hg => rfl); (case hn => rfl); (case hr => first | (go_simp; done) | (go_simp; rfl)); intro w13 hw; have hg : wr.grownBy w13 (some go11) := (by rw [hw]; exact HP12.2); have hp_ : Kd.R (Kd.int .i64) 3 w13 w.heap.size (fun _ => True) (.slice (some ⟨go11, 0, none⟩) x3_1.length co11) y127 := (by rw [hw, Ny127.out]; exact HP12.1); clear HP12; have n0_ := Aside0.mk (hp_); have n1_ := Aside0.mk ((by rw [hw]; exact below_set (HB.out) GB11.out : Below w.heap.size w w13)); clear HO_3; clear HB; have HO_3 := n0_; have HB := n1_; clear n0_ n1_; clear hg hw hp_))
                    go_roundg k1
                    case measure => have := HK1.out; omega
                    case rel => exact ⟨(y127), (wrap64 (x11_1 + 1)), zz67, H', ⟨by have := HK1.out; omega⟩, ⟨by (with_reducible repeat (first | apply Kd.R_alloc | apply Kd.R_drewN | apply Kd.R_drew)); exact HO_3.out⟩, ⟨by repeat (first | (with_reducible first | exact HB.out | apply below_alloc | apply pw_below_drewN | apply below_drew1) | exact HB.out)⟩⟩
                  rw [if_neg c10] at H
                  exact absurd H (by simp)
                rw [if_neg c9] at H
                exact absurd H (by simp)
              rw [if_neg c8] at H
              exact absurd H (by simp)
            rw [if_neg c7] at H
            exact absurd H (by simp)
          rw [if_neg c6] at H; have c6b0 : decide (x11_1 < (l0.length : Int)) = false := decide_eq_false c6; clear c6; obtain rfl := Option.some.inj H; go_wp2; go_ret
          exact ⟨_, by first | rfl | (simp [errW_none, errW_some] <;> rfl) | (simp [*, errW_none, errW_some] <;> rfl), by (with_reducible repeat (first | apply Kd.R_alloc | apply Kd.R_drewN | apply Kd.R_drew)); exact HO_3.out, by repeat (first | (with_reducible first | exact HB.out | apply below_alloc | apply pw_below_drewN | apply below_drew1) | exact HB.out)⟩
    rw [if_neg c3] at H
    exact absurd H (by simp)
  rw [if_neg c2] at H
  exact absurd H (by simp)
end
section
attribute [local go_sem] max2_int min2_int max_two min_two max_three min_three max_four min_four
def perm_Inverse.f (k : Nat) (l0 : List Int) : Option (List Int × Int) := (perm_Check.f l0).bind fun t128 => (if t128 = 0 then ((perm_inverse.f k l0).bind fun t129 => (some (t129, 0))) else (some (([] : List Int), t128)))
theorem perm_Inverse.calls (k : Nat) (A0 : Option Addr) (c0 : Nat) (l0 : List Int) (r1 : List Int) (r2 : Int) (w : World) (hr0 : Kd.C (Kd.int .i64) w A0 l0.length l0) (hc0 : l0.length ≤ c0) (h : perm_Inverse.f k l0 = some (r1, r2)) :
    Calls Try.prog 18 #[.slice A0 l0.length c0] w fun e w' => ∃ v0_ : Value, e = .returned (.tuple #[v0_, .int .i64 r2]) ∧ Kd.R (Kd.int .i64) 3 w' w.heap.size (fun _ => True) v0_ r1 ∧ Below w.heap.size w w' := by
  have HR0 := Aside0.mk hr0
  have HC0 := Aside0.mk hc0
  clear hr0 hc0
  have HB := Aside0.mk (Below.refl w.heap.size w)
  have H : ((perm_Check.f l0).bind fun t128 => (if t128 = 0 then ((perm_inverse.f k l0).bind fun t129 => (some (t129, 0))) else (some (([] : List Int), t128)))) = some (r1, r2) := h
  clear h
  replace H := Option.bind_eq_some_iff.mp H
  obtain ⟨t128, A20, H⟩ := H
  replace H : (if t128 = 0 then ((perm_inverse.f k l0).bind fun t129 => (some (t129, 0))) else (some (([] : List Int), t128))) = some (r1, r2) := H
  have A2 := Aside0.mk A20
  clear A20
  by_cases c3 : t128 = 0
  · rw [if_pos c3] at H
    have c3b0 : (t128 == 0) = true := beq_iff_eq.mpr c3; have c3b1 : (t128 != 0) = false := bne_eq_false_iff_eq.mpr c3; clear c3; replace H := Option.bind_eq_some_iff.mp H; obtain ⟨t129, A40, H⟩ := H; replace H : (some (t129, 0)) = some (r1, r2) := H; have A4 := Aside0.mk A40; clear A40; simp only [Option.some.injEq, Prod.mk.injEq] at H; obtain ⟨rfl, rfl⟩ := H
    go_enter Try.func18, Try.ntmps18
    go_wp2_with (first | ((with_reducible refine gate_callee (f := 16) rfl ?_); refine goesL_ (some 6) rfl rfl Try.func16 (by kernel_rfl) rfl #[.slice A0 l0.length c0] rfl zz54 ?_; (with_reducible refine (perm_Check.calls _ _ l0 t128 _ ?side1 ?side2 A2.out).mono ?_); (case side1 => repeat (first | exact HR0.out | (with_reducible refine Kd.C_alloc ?_ _) | (with_reducible refine Kd.C_drewN ?_ _) | (with_reducible refine Kd.C_drew ?_))); (case side2 => exact HC0.out); rintro e w5 ⟨rfl, hb⟩; refine ⟨_, rfl, ?_⟩; have n0_ := Aside0.mk (below_step zz55 hb); clear HB; have HB := n0_; clear n0_; (try clear hb); (try clear hb2); (try clear hk); (try clear hi)) | ((with_reducible refine gate_callee (f := 55) rfl ?_); refine goesL_ (some 11) rfl rfl Try.func55 (by kernel_rfl) rfl #[.slice A0 l0.length c0] rfl zz54 ?_; (with_reducible refine (perm_inverse.calls k _ _ l0 t129 _ ?side1 ?side2 A4.out).mono ?_); (case side1 => repeat (first | exact (Kd.C_below HR0.out HB.out) | (with_reducible refine Kd.C_alloc ?_ _) | (with_reducible refine Kd.C_drewN ?_ _) | (with_reducible refine Kd.C_drew ?_))); (case side2 => exact HC0.out); rintro e w6 ⟨v130, rfl, ho0, hb⟩; refine ⟨_, rfl, ?_⟩; have n0_ := Aside0.mk (Kd.R_lower ho0 (below_size zz55)); have n1_ := Aside0.mk (below_step zz55 hb); clear HB; have HO131 := n0_; have HB := n1_; clear n0_ n1_; (try clear hb); (try clear hb2); (try clear hk); (try clear hi); (try clear ho0)))
    go_ret2
    exact ⟨_, by first | rfl | (simp [errW_none, errW_some] <;> rfl) | (simp [*, errW_none, errW_some] <;> rfl), by (with_reducible repeat (first | apply Kd.R_alloc | apply Kd.R_drewN | apply Kd.R_drew)); exact HO131.out, by repeat (first | (with_reducible first | exact HB.out | apply below_alloc | apply pw_below_drewN | apply below_drew1) | exact HB.out)⟩
  rw [if_neg c3] at H
  have c3b0 : (t128 == 0) = false := beq_eq_false_iff_ne.mpr c3
  have c3b1 : (t128 != 0) = true := bne_iff_ne.mpr c3
  simp only [Option.some.injEq, Prod.mk.injEq] at H
  obtain ⟨rfl, rfl⟩ := H
  go_enter Try.func18, Try.ntmps18
  go_wp2_with (first | ((with_reducible refine gate_callee (f := 16) rfl ?_); refine goesL_ (some 6) rfl rfl Try.func16 (by kernel_rfl) rfl #[.slice A0 l0.length c0] rfl zz54 ?_; (with_reducible refine (perm_Check.calls _ _ l0 t128 _ ?side1 ?side2 A2.out).mono ?_); (case side1 => repeat (first | exact HR0.out | (with_reducible refine Kd.C_alloc ?_ _) | (with_reducible refine Kd.C_drewN ?_ _) | (with_reducible refine Kd.C_drew ?_))); (case side2 => exact HC0.out); rintro e w7 ⟨rfl, hb⟩; refine ⟨_, rfl, ?_⟩; have n0_ := Aside0.mk (below_step zz55 hb); clear HB; have HB := n0_; clear n0_; (try clear hb); (try clear hb2); (try clear hk); (try clear hi)))
  go_ret2
  exact ⟨_, by first | rfl | (simp [errW_none, errW_some] <;> rfl) | (simp [*, errW_none, errW_some] <;> rfl), by first | exact Kd.R_nil _ _ _ _ _ | exact Kd.N_nil _ _ _ _ _ | exact Kd.V_nil _ _ _ _ _ | exact Kd.Q_nil _ _ _ _ _ | exact Kd.S_nil _ _ _ _ _, by repeat (first | (with_reducible first | exact HB.out | apply below_alloc | apply pw_below_drewN | apply below_drew1) | exact HB.out)⟩
end
section
attribute [local go_sem] max2_int min2_int max_two min_two max_three min_three max_four min_four
mutual
def perm_Cycles.l0 : Nat → List Int → List (List Int) → List Bool → Int → Int → Option ((List (List Int)) × Int)
  | 0, _, _, _, _, _ => none
  | k + 1, x0, x5, x6, x19, x20 => if x20 < x19 then (perm_Cycles.l1 k x0 x5 x6 ([] : List Int) x20 x19 x20) else (some (x5, 0))
def perm_Cycles.l1 : Nat → List Int → List (List Int) → List Bool → List Int → Int → Int → Int → Option ((List (List Int)) × Int)
  | 0, _, _, _, _, _, _, _ => none
  | k + 1, x0, x5, x6, x8, x9, x19, x20 => if 0 ≤ x9 then (if x9 < (x6.length : Int) then (if rdOf false x6 x9 = true then (if (x8.length : Int) > 1 then (if x5.length < 5864062014805 then (perm_Cycles.l0 k x0 (x5 ++ [x8]) x6 x19 (wrap64 (x20 + 1))) else (none)) else (perm_Cycles.l0 k x0 x5 x6 x19 (wrap64 (x20 + 1)))) else (if x8.length < 17592186044416 then (if x9 < (x0.length : Int) then (perm_Cycles.l1 k x0 x5 (x6.set (x9 : Int).toNat true) (x8 ++ [x9]) (rd x0 x9) x19 x20) else (none)) else (none))) else (none)) else (none)
end
def perm_Cycles.f (k : Nat) (l0 : List Int) : Option ((List (List Int)) × Int) := (perm_Check.f l0).bind fun t132 => (if t132 = 0 then (if 0 ≤ (l0.length : Int) then (if ((l0.length : Int) : Int).toNat ≤ 281474976710656 then (perm_Cycles.l0 k l0 ([] : List (List Int)) (List.replicate ((l0.length : Int) : Int).toNat false) (l0.length : Int) 0) else (none)) else (none)) else (some (([] : List (List Int)), t132)))
theorem perm_Cycles.calls (k : Nat) (A0 : Option Addr) (c0 : Nat) (l0 : List Int) (r1 : List (List Int)) (r2 : Int) (w : World) (hr0 : Kd.C (Kd.int .i64) w A0 l0.length l0) (hc0 : l0.length ≤ c0) (h : perm_Cycles.f k l0 = some (r1, r2)) :
    Calls Try.prog 20 #[.slice A0 l0.length c0] w fun e w' => ∃ v0_ : Value, e = .returned (.tuple #[v0_, .int .i64 r2]) ∧ Kd.S (Kd.slice 3 (Kd.int .i64)) 22 w' w.heap.size (fun _ => True) v0_ r1 ∧ Below w.heap.size w w' := by
  have HR0 := Aside0.mk hr0
  have HC0 := Aside0.mk hc0
  clear hr0 hc0
  have HB := Aside0.mk (Below.refl w.heap.size w)
  have H : ((perm_Check.f l0).bind fun t132 => (if t132 = 0 then (if 0 ≤ (l0.length : Int) then (if ((l0.length : Int) : Int).toNat ≤ 281474976710656 then (perm_Cycles.l0 k l0 ([] : List (List Int)) (List.replicate ((l0.length : Int) : Int).toNat false) (l0.length : Int) 0) else (none)) else (none)) else (some (([] : List (List Int)), t132)))) = some (r1, r2) := h
  clear h
  replace H := Option.bind_eq_some_iff.mp H
  obtain ⟨t132, A20, H⟩ := H
  replace H : (if t132 = 0 then (if 0 ≤ (l0.length : Int) then (if ((l0.length : Int) : Int).toNat ≤ 281474976710656 then (perm_Cycles.l0 k l0 ([] : List (List Int)) (List.replicate ((l0.length : Int) : Int).toNat false) (l0.length : Int) 0) else (none)) else (none)) else (some (([] : List (List Int)), t132))) = some (r1, r2) := H
  have A2 := Aside0.mk A20
  clear A20
  by_cases c3 : t132 = 0
  · rw [if_pos c3] at H
    have c3b0 : (t132 == 0) = true := beq_iff_eq.mpr c3; have c3b1 : (t132 != 0) = false := bne_eq_false_iff_eq.mpr c3; clear c3
    by_cases c4 : 0 ≤ (l0.length : Int)
    · rw [if_pos c4] at H; have c4b0 := eq_true c4; have c4b1 : decide (0 ≤ (l0.length : Int)) = true := decide_eq_true c4; clear c4
      by_cases c5 : ((l0.length : Int) : Int).toNat ≤ 281474976710656
      · rw [if_pos c5] at H; have c5b0 := eq_true c5; have c5b1 : decide (((l0.length : Int) : Int).toNat ≤ 281474976710656) = true := decide_eq_true c5; clear c5; obtain ⟨y133, hy133⟩ : ∃ y_ : List Bool, y_ = (List.replicate ((l0.length : Int) : Int).toNat false) := ⟨_, rfl⟩; replace H : (perm_Cycles.l0 k l0 ([] : List (List Int)) y133 (l0.length : Int) 0) = some (r1, r2) := by first | (rw [hy133]; with_reducible exact H) | (have H2_ := (Option.bind_some _ _).symm.trans H; rw [hy133]; with_reducible exact H2_) | (have H2_ := (Option.bind_some _ _).symm.trans H; with_reducible exact H2_) | with_reducible exact H | (rw [hy133]; exact H) | exact H
        have Ny133 := Aside0.mk hy133; clear hy133; have H' := Aside0.mk H; clear H
        go_enter Try.func20, Try.ntmps20
        go_wp2_with (first | ((with_reducible refine gate_callee (f := 16) rfl ?_); refine goesL_ (some 11) rfl rfl Try.func16 (by kernel_rfl) rfl #[.slice A0 l0.length c0] rfl zz54 ?_; (with_reducible refine (perm_Check.calls _ _ l0 t132 _ ?side1 ?side2 A2.out).mono ?_); (case side1 => repeat (first | exact HR0.out | (with_reducible refine Kd.C_alloc ?_ _) | (with_reducible refine Kd.C_drewN ?_ _) | (with_reducible refine Kd.C_drew ?_))); (case side2 => exact HC0.out); rintro e w6 ⟨rfl, hb⟩; refine ⟨_, rfl, ?_⟩; have n0_ := Aside0.mk (below_step zz55 hb); clear HB; have HB := n0_; clear n0_; (try clear hb); (try clear hb2); (try clear hk); (try clear hi)) | ((with_reducible refine gate_dst (N := 17) rfl ?_); refine Kd.R_make Kd.bool _ 4 rfl (N := 17) rfl 83 _ _ rfl (l0.length : Int) rfl rfl Try.underlying83 (.bool false) 1 info4 rfl (by decide) (by omega) false (ok := fun _ => True) (okp := fun _ => True) rfl (fun _ hk => hk) trivial (of_decide_eq_true zz65) (Nat.le_trans (Nat.mul_le_mul_right _ (of_decide_eq_true zz65 : (l0.length : Int).toNat ≤ 281474976710656)) (by omega)) (Below.refl _ _) (Nat.le_refl _) ?_; intro v134 w7 ho8 hb hg_ hnew_; clear hg_ hnew_; (first | rw [← Ny133.out] at ho8 | (simp only [Int.reduceToNat] at ho8; rw [← Ny133.out] at ho8)); have n0_ := Aside0.mk (Kd.R_lower ho8 (below_size zz55)); have n1_ := Aside0.mk (below_step zz55 hb); clear HB; have HO135 := n0_; have HB := n1_; clear n0_ n1_; clear hb ho8))
        go_loopg [5, 20] k (fun kq v5 v20 w' => ∃ (x5_1 : List (List Int)) (x6_1 : List Bool) (x20_1 : Int), v20 = .int .i64 x20_1 ∧ Aside0 (perm_Cycles.l0 kq l0 x5_1 x6_1 (l0.length : Int) x20_1 = some (r1, r2)) ∧ Aside0 (kq ≤ k) ∧ Aside0 (Kd.S (Kd.slice 3 (Kd.int .i64)) 22 w' w.heap.size (fun _ => True) v5 x5_1) ∧ Aside0 (Kd.R Kd.bool 4 w' w.heap.size (fun _ => True) v134 x6_1) ∧ Aside0 (Below w.heap.size w w'))
        case atStart => exact ⟨(([] : List (List Int))), (y133), (0), zz67, H', ⟨Nat.le_refl _⟩, ⟨by first | exact Kd.S_nil _ _ _ _ _ | exact Kd.N_nil _ _ _ _ _ | exact Kd.V_nil _ _ _ _ _ | exact Kd.Q_nil _ _ _ _ _ | exact Kd.R_nil _ _ _ _ _⟩, ⟨by (with_reducible repeat (first | apply Kd.R_alloc | apply Kd.R_drewN | apply Kd.R_drew)); exact HO135.out⟩, ⟨by repeat (first | (with_reducible first | exact HB.out | apply below_alloc | apply pw_below_drewN | apply below_drew1) | exact HB.out)⟩⟩
        case round =>
          clear H'; (try clear c1); (try clear c2); (try clear p2); (try clear c3); (try clear c3b0); (try clear c3b1); (try clear c4); (try clear c4b0); (try clear c4b1); (try clear c5); (try clear c5b0); (try clear c5b1); obtain ⟨x5_1, x6_1, x20_1, rfl, HA, HK1, HO_5, HO_6, HB⟩ := hrel
          cases gk with
          | zero => exact absurd HA.out (by simp [perm_Cycles.l0])
          | succ k1 =>
            have H := HA.out; clear HA; simp only [perm_Cycles.l0] at H
            by_cases c9 : x20_1 < (l0.length : Int)
            · rw [if_pos c9] at H; have c9b0 : decide (x20_1 < (l0.length : Int)) = true := decide_eq_true c9; clear c9; have H' := Aside0.mk H; clear H; go_wp2
              go_loopg [8, 9] k1 (fun kq v8 v9 w' => ∃ (x6_2 : List Bool) (x8_2 : List Int) (x9_2 : Int), v9 = .int .i64 x9_2 ∧ Aside0 (perm_Cycles.l1 kq l0 x5_1 x6_2 x8_2 x9_2 (l0.length : Int) x20_1 = some (r1, r2)) ∧ Aside0 (kq ≤ k1) ∧ Aside0 (Kd.S (Kd.slice 3 (Kd.int .i64)) 22 w' w.heap.size (fun k_ => some k_ ≠ (v8 : Value).ownBlock) u5 x5_1) ∧ Aside0 (Kd.R Kd.bool 4 w' w.heap.size (fun _ => True) v134 x6_2) ∧ Aside0 (Kd.R (Kd.int .i64) 3 w' w.heap.size (fun _ => True) v8 x8_2) ∧ Aside0 (Below w.heap.size w w'))
              case atStart => exact ⟨(x6_1), (([] : List Int)), (x20_1), zz67, H', ⟨Nat.le_refl _⟩, ⟨by (with_reducible repeat (first | apply Kd.S_alloc | apply Kd.S_drewN | apply Kd.S_drew)); exact Kd.S_mono HO_5.out (fun _ hk => (by simp [Value.ownBlock]))⟩, ⟨by (with_reducible repeat (first | apply Kd.R_alloc | apply Kd.R_drewN | apply Kd.R_drew)); exact HO_6.out⟩, ⟨by first | exact Kd.R_nil _ _ _ _ _ | exact Kd.N_nil _ _ _ _ _ | exact Kd.V_nil _ _ _ _ _ | exact Kd.Q_nil _ _ _ _ _ | exact Kd.S_nil _ _ _ _ _⟩, ⟨by repeat (first | (with_reducible first | exact HB.out | apply below_alloc | apply pw_below_drewN | apply below_drew1) | exact HB.out)⟩⟩
              case round =>
                clear H'; (try clear c1); (try clear c2); (try clear p2); (try clear c3); (try clear c3b0); (try clear c3b1); (try clear c4); (try clear c4b0); (try clear c4b1); (try clear c5); (try clear c5b0); (try clear c5b1); (try clear c9); (try clear c9b0); (try clear p2); obtain ⟨x6_2, x8_2, x9_2, rfl, HA, HK2, HO_5, HO_6, HO_8, HB⟩ := hrel
                cases gk with
                | zero => exact absurd HA.out (by simp [perm_Cycles.l1])
                | succ k2 =>
                  have H := HA.out; clear HA; simp only [perm_Cycles.l1] at H
                  by_cases c10 : 0 ≤ x9_2
                  · rw [if_pos c10] at H; have c10b0 : decide (0 ≤ x9_2) = true := decide_eq_true c10; clear c10
                    by_cases c11 : x9_2 < (x6_2.length : Int)
                    · rw [if_pos c11] at H; have c11b0 : decide (x9_2 < (x6_2.length : Int)) = true := decide_eq_true c11; clear c11; obtain ⟨bq12, hbq12⟩ : ∃ b_ : Bool, b_ = (rdOf false x6_2 x9_2) := ⟨_, rfl⟩; replace H : (if bq12 = true then (if (x8_2.length : Int) > 1 then (if x5_1.length < 5864062014805 then (perm_Cycles.l0 k2 l0 (x5_1 ++ [x8_2]) x6_2 (l0.length : Int) (wrap64 (x20_1 + 1))) else (none)) else (perm_Cycles.l0 k2 l0 x5_1 x6_2 (l0.length : Int) (wrap64 (x20_1 + 1)))) else (if x8_2.length < 17592186044416 then (if x9_2 < (l0.length : Int) then (perm_Cycles.l1 k2 l0 x5_1 (x6_2.set (x9_2 : Int).toNat true) (x8_2 ++ [x9_2]) (rd l0 x9_2) (l0.length : Int) x20_1) else (none)) else (none))) = some (r1, r2) := by rw [← hbq12] at H; exact H
                      have Nbq12 := Aside0.mk hbq12; clear hbq12
                      by_cases c13 : bq12 = true
                      · subst c13; have H1 : (if (x8_2.length : Int) > 1 then (if x5_1.length < 5864062014805 then (perm_Cycles.l0 k2 l0 (x5_1 ++ [x8_2]) x6_2 (l0.length : Int) (wrap64 (x20_1 + 1))) else (none)) else (perm_Cycles.l0 k2 l0 x5_1 x6_2 (l0.length : Int) (wrap64 (x20_1 + 1)))) = some (r1, r2) := by rw [if_pos rfl] at H; exact H
                        clear H; have H := H1; clear H1
                        by_cases c14 : (x8_2.length : Int) > 1
                        · rw [if_pos c14] at H; have c14b0 : decide (1 < (x8_2.length : Int)) = true := decide_eq_true c14; have c14b1 : decide (1 < x8_2.length) = true := decide_eq_true (by omega); clear c14
                          by_cases c15 : x5_1.length < 5864062014805
                          · rw [if_pos c15] at H; have LMc15 := Aside0.mk c15; clear c15; obtain ⟨y137, hy137⟩ : ∃ y_ : List (List Int), y_ = (x5_1 ++ [x8_2]) := ⟨_, rfl⟩; replace H : (perm_Cycles.l0 k2 l0 y137 x6_2 (l0.length : Int) (wrap64 (x20_1 + 1))) = some (r1, r2) := by first | (rw [hy137]; with_reducible exact H) | (have H2_ := (Option.bind_some _ _).symm.trans H; rw [hy137]; with_reducible exact H2_) | (have H2_ := (Option.bind_some _ _).symm.trans H; with_reducible exact H2_) | with_reducible exact H | (rw [hy137]; exact H) | exact H
                            have Ny137 := Aside0.mk hy137; clear hy137; have H' := Aside0.mk H; clear H; obtain ⟨Ao16, co16, eo16⟩ := Kd.R_slice HO_6.out; subst eo16; have p136 : 0 ≤ (x9_2 : Int) := of_decide_eq_true zz65; have q136 : x9_2 < (x6_2.length : Int) := of_decide_eq_true zz65; obtain ⟨ad136, e136, hx136_0⟩ := Kd.at_bool (Kd.R_reads' HO_6.out).2.2 x9_2 p136 q136
                            (try rw [← Nbq12.out] at hx136_0)
                            cases e136; replace p136 := eq_true p136; replace q136 := eq_true q136; obtain ⟨Ao17, co17, eo17⟩ := Kd.R_slice HO_8.out; subst eo17
                            go_wp2_with (first | ((with_reducible refine gate_builtin (b := .append) (xs := #[.tmp 43, .tmp 45]) rfl ?_); at_builtin; refine Kd.S_append (Kd.slice 3 (Kd.int .i64)) (w0 := w) w.heap.size rfl (.tmp 43) (.tmp 45) 28 22 (.slice none 0 0) 24 rfl Try.underlying28 info22 rfl (by decide) (by omega) u5 x5_1 x8_2 [.slice Ao17 x8_2.length co17] (fun _ => True) (fun k_ => some k_ = (.slice Ao17 x8_2.length co17 : Value).ownBlock) rfl rfl ?aP (fun k_ hk_ => ((Kd.R_mono (ok' := fun k_ => ((fun _ => True)) k_ ∧ some k_ ≠ (u5 : Value).ownBlock) (Kd.R_apart' (HO_8.out) (Kd.S_typed HO_5.out) (by decide)) (fun k_ hk => ⟨trivial, hk.2⟩))).1 k_ hk_.symm) ?aF ?aO ?aB ?aS ?aL ?_; (case aP => exact Kd.M_row (Kd.R_mono (Kd.R_tight rfl (Kd.R_mono (ok' := fun k_ => ((fun _ => True)) k_ ∧ some k_ ≠ (u5 : Value).ownBlock) (Kd.R_apart' (HO_8.out) (Kd.S_typed HO_5.out) (by decide)) (fun k_ hk => ⟨trivial, hk.2⟩))) (fun _ h_ => h_))); (case aB => exact zz55); (case aF => exact (fun _ _ => trivial)); (case aO => exact (by (with_reducible repeat (first | apply Kd.S_alloc | apply Kd.S_drewN | apply Kd.S_drew)); exact Kd.S_mono HO_5.out (fun k_ hk => ⟨trivial, fun e_ => hk e_⟩))); (case aS => exact (below_size zz55)); (case aL => have := LMc15.out; omega); intro v138 w18 ho hb hg hat; rw [← Ny137.out] at ho; have n0_ := Aside0.mk (Kd.R_over' (zR HO_6) (Kd.S_typed (zS HO_5)) (by decide) hg); have n1_ := Aside0.mk (hb); have n2_ := Aside0.mk (ho); clear HO_6; clear HB; clear HO_5; clear HO_8; have HO_6 := n0_; have HB := n1_; have HO139 := n2_; clear n0_ n1_ n2_; clear ho hb hg hat))
                            go_roundg k2
                            case measure => have := HK1.out; have := HK2.out; omega
                            case rel => exact ⟨(y137), (x6_2), (wrap64 (x20_1 + 1)), zz67, H', ⟨by have := HK1.out; have := HK2.out; omega⟩, ⟨by (with_reducible repeat (first | apply Kd.S_alloc | apply Kd.S_drewN | apply Kd.S_drew)); exact HO139.out⟩, ⟨by (with_reducible repeat (first | apply Kd.R_alloc | apply Kd.R_drewN | apply Kd.R_drew)); exact HO_6.out⟩, ⟨by repeat (first | (with_reducible first | exact HB.out | apply below_alloc | apply pw_below_drewN | apply below_drew1) | exact HB.out)⟩⟩
                          rw [if_neg c15] at H
                          exact absurd H (by simp)
                        rw [if_neg c14] at H; have c14b0 : decide (1 < (x8_2.length : Int)) = false := decide_eq_false c14; have c14b1 : decide (1 < x8_2.length) = false := decide_eq_false (by omega); clear c14; have H' := Aside0.mk H; clear H; obtain ⟨Ao19, co19, eo19⟩ := Kd.R_slice HO_6.out; subst eo19; have p136 : 0 ≤ (x9_2 : Int) := of_decide_eq_true zz65; have q136 : x9_2 < (x6_2.length : Int) := of_decide_eq_true zz65; obtain ⟨ad136, e136, hx136_0⟩ := Kd.at_bool (Kd.R_reads' HO_6.out).2.2 x9_2 p136 q136
                        (try rw [← Nbq12.out] at hx136_0)
                        cases e136; replace p136 := eq_true p136; replace q136 := eq_true q136; obtain ⟨Ao20, co20, eo20⟩ := Kd.R_slice HO_8.out; subst eo20; go_wp2
                        go_roundg k2
                        case measure => have := HK1.out; have := HK2.out; omega
                        case rel => exact ⟨(x5_1), (x6_2), (wrap64 (x20_1 + 1)), zz67, H', ⟨by have := HK1.out; have := HK2.out; omega⟩, ⟨by (with_reducible repeat (first | apply Kd.S_alloc | apply Kd.S_drewN | apply Kd.S_drew)); exact Kd.S_mono HO_5.out (fun _ hk => trivial)⟩, ⟨by (with_reducible repeat (first | apply Kd.R_alloc | apply Kd.R_drewN | apply Kd.R_drew)); exact HO_6.out⟩, ⟨by repeat (first | (with_reducible first | exact HB.out | apply below_alloc | apply pw_below_drewN | apply below_drew1) | exact HB.out)⟩⟩
                      replace c13 := Bool.eq_false_iff.mpr c13; subst c13; have H1 : (if x8_2.length < 17592186044416 then (if x9_2 < (l0.length : Int) then (perm_Cycles.l1 k2 l0 x5_1 (x6_2.set (x9_2 : Int).toNat true) (x8_2 ++ [x9_2]) (rd l0 x9_2) (l0.length : Int) x20_1) else (none)) else (none)) = some (r1, r2) := by rw [if_neg (show ¬ (false = true) by decide)] at H; exact H
                      clear H; have H := H1; clear H1; obtain ⟨y140, hy140⟩ : ∃ y_ : List Bool, y_ = (x6_2.set (x9_2 : Int).toNat true) := ⟨_, rfl⟩; replace H : (if x8_2.length < 17592186044416 then (if x9_2 < (l0.length : Int) then (perm_Cycles.l1 k2 l0 x5_1 y140 (x8_2 ++ [x9_2]) (rd l0 x9_2) (l0.length : Int) x20_1) else (none)) else (none)) = some (r1, r2) := by first | (rw [hy140]; with_reducible exact H) | (have H2_ := (Option.bind_some _ _).symm.trans H; rw [hy140]; with_reducible exact H2_) | (have H2_ := (Option.bind_some _ _).symm.trans H; with_reducible exact H2_) | with_reducible exact H | (rw [hy140]; exact H) | exact H
                      have Ny140 := Aside0.mk hy140; clear hy140
                      by_cases c22 : x8_2.length < 17592186044416
                      · rw [if_pos c22] at H; have LMc22 := Aside0.mk c22; clear c22; obtain ⟨y141, hy141⟩ : ∃ y_ : List Int, y_ = (x8_2 ++ [x9_2]) := ⟨_, rfl⟩; replace H : (if x9_2 < (l0.length : Int) then (perm_Cycles.l1 k2 l0 x5_1 y140 y141 (rd l0 x9_2) (l0.length : Int) x20_1) else (none)) = some (r1, r2) := by first | (rw [hy141]; with_reducible exact H) | (have H2_ := (Option.bind_some _ _).symm.trans H; rw [hy141]; with_reducible exact H2_) | (have H2_ := (Option.bind_some _ _).symm.trans H; with_reducible exact H2_) | with_reducible exact H | (rw [hy141]; exact H) | exact H
                        have Ny141 := Aside0.mk hy141; clear hy141
                        by_cases c23 : x9_2 < (l0.length : Int)
                        · rw [if_pos c23] at H; have c23b0 : decide (x9_2 < (l0.length : Int)) = true := decide_eq_true c23; clear c23; have H' := Aside0.mk H; clear H; obtain ⟨Ao24, co24, eo24⟩ := Kd.R_slice HO_6.out; subst eo24; have p136 : 0 ≤ (x9_2 : Int) := of_decide_eq_true zz65; have q136 : x9_2 < (x6_2.length : Int) := of_decide_eq_true zz65; obtain ⟨ad136, e136, hx136_0⟩ := Kd.at_bool (Kd.R_reads' HO_6.out).2.2 x9_2 p136 q136
                          (try rw [← Nbq12.out] at hx136_0)
                          cases e136; replace p136 := eq_true p136; replace q136 := eq_true q136; have p21 : 0 ≤ (x9_2 : Int) := of_decide_eq_true zz65; have q21 : (x9_2 : Int) < ((x6_2.length : Int) : Int) := of_decide_eq_true zz65; obtain ⟨go21, co21, eo21, gb21, gl21, cl21, HG21⟩ := Kd.R_form HO_6.out (by omega)
                          (first | cases eo21 | (injection eo21 with ea_ en_ ec_; (first | subst ea_ | (injection ea_ with ea_; subst ea_)); subst ec_; clear en_))
                          have GB21 := Aside0.mk gb21; have GG21 := Aside0.mk HG21; clear gb21 gl21 HG21
                          (first | simp only [add_plain] at hx136_0 | skip)
                          obtain ⟨hx21_0, hf21_0⟩ := Kd.R_celln false HO_6.out (x9_2 : Int) p21 q21; replace p21 := eq_true p21; replace q21 := eq_true q21; have HP25 := Kd.R_putg HO_6.out (x9_2 : Int) true
                          go_wp2_with (first | ((with_reducible refine gate_store (t := 4) (p := 35) rfl ?_); refine store_event (t := 4) (p := 35) (v := ?vo_w26) (w1 := (wr.setCell ⟨go21, (x9_2 : Int).toNat, none⟩ (.bool true))) ?hg ?ho ?hn ?hr ?_; (case ho => rfl); (case hg => rfl); (case hn => rfl); (case hr => first | (go_simp; done) | (go_simp; rfl)); intro w26 hw; have hg : wr.grownBy w26 (some go21) := (by rw [hw]; exact HP25.2); have hp_ : Kd.R Kd.bool 4 w26 w.heap.size (fun _ => True) (.slice (some ⟨go21, 0, none⟩) x6_2.length co24) y140 := (by rw [hw, Ny140.out]; exact HP25.1); clear HP25; have n0_ := Aside0.mk (Kd.S_over' (v := (.slice (some ⟨go21, 0, none⟩) x6_2.length co24)) (zS HO_5) (Kd.R_typed HO_6.out) (by decide) hg); have n1_ := Aside0.mk (hp_); have n2_ := Aside0.mk (Kd.R_over' (v := (.slice (some ⟨go21, 0, none⟩) x6_2.length co24)) (zR HO_8) (Kd.R_typed HO_6.out) (by decide) hg); have n3_ := Aside0.mk ((by rw [hw]; exact below_set (HB.out) GB21.out : Below w.heap.size w w26)); clear HO_5; clear HO_6; clear HO_8; clear HB; have HO_5 := n0_; have HO_6 := n1_; have HO_8 := n2_; have HB := n3_; clear n0_ n1_ n2_ n3_; clear hg hw hp_) | ((with_reducible refine gate_builtin (b := .append) (xs := #[.tmp 36, .tmp 38]) rfl ?_); at_builtin; refine Kd.R_append (Kd.int .i64) (w0 := w) w.heap.size rfl (.tmp 36) (.tmp 38) 22 3 (.int .i64 0) 8 rfl Try.underlying22 info3 rfl (by decide) (by omega) u8 x8_2 x9_2 [.int .i64 x9_2] (fun _ => True) (fun _ => False) rfl rfl ?aP (fun _ hk => hk.elim) ?aF ?aO ?aB ?aS ?aL ?_; (case aP => exact rfl); (case aB => exact zz55); (case aF => exact (fun _ _ => trivial)); (case aO => exact (zR HO_8)); (case aS => exact (below_size zz55)); (case aL => have := LMc22.out; omega); intro v142 w27 ho hb hg hat; rw [← Ny141.out] at ho; have n0_ := Aside0.mk (Kd.S_after (ok := (fun _ => True)) (by (with_reducible repeat (first | apply Kd.S_alloc | apply Kd.S_drewN | apply Kd.S_drew)); exact Kd.S_mono HO_5.out (fun _ hk => ⟨trivial, hk⟩)) hg hat); have n1_ := Aside0.mk (Kd.R_over' (zR HO_6) (Kd.R_typed (zR HO_8)) (by decide) hg); have n2_ := Aside0.mk (hb); have n3_ := Aside0.mk (ho); clear HO_5; clear HO_6; clear HB; clear HO_8; have HO_5 := n0_; have HO_6 := n1_; have HB := n2_; have HO143 := n3_; clear n0_ n1_ n2_ n3_; clear ho hb hg hat; have p144 : 0 ≤ (x9_2 : Int) := of_decide_eq_true zz65; have q144 : x9_2 < (l0.length : Int) := of_decide_eq_true zz65; obtain ⟨ad144, e144, hx144_0⟩ := Kd.at_int HR0.out x9_2 p144 q144; cases e144; replace hx144_0 := (HB.out.cell (World.block_lt_of_cell? w _ hx144_0)).trans hx144_0; replace p144 := eq_true p144; replace q144 := eq_true q144))
                          go_roundg k2
                          case measure => have := HK1.out; have := HK2.out; omega
                          case rel => exact ⟨(y140), (y141), (rd l0 x9_2), zz67, H', ⟨by have := HK1.out; have := HK2.out; omega⟩, ⟨by (with_reducible repeat (first | apply Kd.S_alloc | apply Kd.S_drewN | apply Kd.S_drew)); exact Kd.S_mono HO_5.out (fun _ hk => hk.2)⟩, ⟨by (with_reducible repeat (first | apply Kd.R_alloc | apply Kd.R_drewN | apply Kd.R_drew)); exact HO_6.out⟩, ⟨by (with_reducible repeat (first | apply Kd.R_alloc | apply Kd.R_drewN | apply Kd.R_drew)); exact HO143.out⟩, ⟨by repeat (first | (with_reducible first | exact HB.out | apply below_alloc | apply pw_below_drewN | apply below_drew1) | exact HB.out)⟩⟩
                        rw [if_neg c23] at H
                        exact absurd H (by simp)
                      rw [if_neg c22] at H
                      exact absurd H (by simp)
                    rw [if_neg c11] at H
                    exact absurd H (by simp)
                  rw [if_neg c10] at H
                  exact absurd H (by simp)
            rw [if_neg c9] at H; have c9b0 : decide (x20_1 < (l0.length : Int)) = false := decide_eq_false c9; clear c9; simp only [Option.some.injEq, Prod.mk.injEq] at H; obtain ⟨rfl, rfl⟩ := H; go_wp2
            go_ret2
            exact ⟨_, by first | rfl | (simp [errW_none, errW_some] <;> rfl) | (simp [*, errW_none, errW_some] <;> rfl), by (with_reducible repeat (first | apply Kd.S_alloc | apply Kd.S_drewN | apply Kd.S_drew)); exact HO_5.out, by repeat (first | (with_reducible first | exact HB.out | apply below_alloc | apply pw_below_drewN | apply below_drew1) | exact HB.out)⟩
      rw [if_neg c5] at H
      exact absurd H (by simp)
    rw [if_neg c4] at H
    exact absurd H (by simp)
  rw [if_neg c3] at H
  have c3b0 : (t132 == 0) = false := beq_eq_false_iff_ne.mpr c3
  have c3b1 : (t132 != 0) = true := bne_iff_ne.mpr c3
  simp only [Option.some.injEq, Prod.mk.injEq] at H
  obtain ⟨rfl, rfl⟩ := H
  go_enter Try.func20, Try.ntmps20
  go_wp2_with (first | ((with_reducible refine gate_callee (f := 16) rfl ?_); refine goesL_ (some 11) rfl rfl Try.func16 (by kernel_rfl) rfl #[.slice A0 l0.length c0] rfl zz54 ?_; (with_reducible refine (perm_Check.calls _ _ l0 t132 _ ?side1 ?side2 A2.out).mono ?_); (case side1 => repeat (first | exact HR0.out | (with_reducible refine Kd.C_alloc ?_ _) | (with_reducible refine Kd.C_drewN ?_ _) | (with_reducible refine Kd.C_drew ?_))); (case side2 => exact HC0.out); rintro e w28 ⟨rfl, hb⟩; refine ⟨_, rfl, ?_⟩; have n0_ := Aside0.mk (below_step zz55 hb); clear HB; have HB := n0_; clear n0_; (try clear hb); (try clear hb2); (try clear hk); (try clear hi)))
  go_ret2
  exact ⟨_, by first | rfl | (simp [errW_none, errW_some] <;> rfl) | (simp [*, errW_none, errW_some] <;> rfl), by first | exact Kd.S_nil _ _ _ _ _ | exact Kd.N_nil _ _ _ _ _ | exact Kd.V_nil _ _ _ _ _ | exact Kd.Q_nil _ _ _ _ _ | exact Kd.R_nil _ _ _ _ _, by repeat (first | (with_reducible first | exact HB.out | apply below_alloc | apply pw_below_drewN | apply below_drew1) | exact HB.out)⟩
end
section
attribute [local go_sem] max2_int min2_int max_two min_two max_three min_three max_four min_four
mutual
def perm_Order.l0 : Nat → Int → List (List Int) → Int → Int → Option (Int × Int)
  | 0, _, _, _, _ => none
  | k + 1, x6, x19, x20, x21 => if x21 < x20 then (if 0 ≤ x21 then (if x21 < (x19.length : Int) then (perm_Order.l1 k x6 (rd_L1 x19 x21) x6 ((rd_L1 x19 x21).length : Int) x19 x20 x21) else (none)) else (none)) else (some (x6, 0))
def perm_Order.l1 : Nat → Int → List Int → Int → Int → List (List Int) → Int → Int → Option (Int × Int)
  | 0, _, _, _, _, _, _, _ => none
  | k + 1, x6, x8, x9, x10, x19, x20, x21 => if x10 > 0 then (if x10 = 0 then (none) else (perm_Order.l1 k x6 x8 x10 (Int.tmod x9 x10) x19 x20 x21)) else (if x9 = 0 then (none) else (perm_Order.l0 k (wrap64 ((wrap64 (Int.tdiv x6 x9)) * (x8.length : Int))) x19 x20 (wrap64 (x21 + 1))))
end
def perm_Order.f (k : Nat) (l0 : List Int) : Option (Int × Int) := (perm_Cycles.f k l0).bind fun bt145 => (if bt145.2 = 0 then (perm_Order.l0 k 1 bt145.1 (bt145.1.length : Int) 0) else (some (0, bt145.2)))
theorem perm_Order.calls (k : Nat) (A0 : Option Addr) (c0 : Nat) (l0 : List Int) (r1 : Int) (r2 : Int) (w : World) (hr0 : Kd.C (Kd.int .i64) w A0 l0.length l0) (hc0 : l0.length ≤ c0) (h : perm_Order.f k l0 = some (r1, r2)) :
    Calls Try.prog 22 #[.slice A0 l0.length c0] w fun e w' => e = .returned (.tuple #[.int .i64 r1, .int .i64 r2]) ∧ Below w.heap.size w w' := by
  have HR0 := Aside0.mk hr0
  have HC0 := Aside0.mk hc0
  clear hr0 hc0
  have HB := Aside0.mk (Below.refl w.heap.size w)
  have H : ((perm_Cycles.f k l0).bind fun bt145 => (if bt145.2 = 0 then (perm_Order.l0 k 1 bt145.1 (bt145.1.length : Int) 0) else (some (0, bt145.2)))) = some (r1, r2) := h
  clear h
  replace H := Option.bind_eq_some_iff.mp H
  obtain ⟨⟨t145, t146⟩, A20, H⟩ := H
  replace H : (if t146 = 0 then (perm_Order.l0 k 1 t145 (t145.length : Int) 0) else (some (0, t146))) = some (r1, r2) := H
  have A2 := Aside0.mk A20
  clear A20
  by_cases c3 : t146 = 0
  · rw [if_pos c3] at H
    have c3b0 : (t146 == 0) = true := beq_iff_eq.mpr c3; have c3b1 : (t146 != 0) = false := bne_eq_false_iff_eq.mpr c3; clear c3; have H' := Aside0.mk H; clear H
    go_enter Try.func22, Try.ntmps22
    go_wp2_with (first | (go_at_call 20; (with_reducible refine (perm_Cycles.calls k _ _ l0 t145 t146 _ ?side1 ?side2 A2.out).mono ?_); (case side1 => repeat (first | exact HR0.out | (with_reducible refine Kd.C_alloc ?_ _) | (with_reducible refine Kd.C_drewN ?_ _) | (with_reducible refine Kd.C_drew ?_))); (case side2 => exact HC0.out); rintro e w4 ⟨v147, rfl, ho0, hb⟩; have n0_ := Aside0.mk (Kd.S_lower ho0 (below_size zz55)); have n1_ := Aside0.mk (below_step zz55 hb); clear HB; have HO148 := n0_; have HB := n1_; clear n0_ n1_; (try clear hb); (try clear hb2); (try clear hk); (try clear hi); (try clear ho0); obtain ⟨Ao5, co5, eo5⟩ := Kd.S_slice HO148.out; subst eo5))
    repeat (go_quiet (first | (go_at_call 20; (with_reducible refine (perm_Cycles.calls k _ _ l0 t145 t146 _ ?side1 ?side2 A2.out).mono ?_); (case side1 => repeat (first | exact HR0.out | (with_reducible refine Kd.C_alloc ?_ _) | (with_reducible refine Kd.C_drewN ?_ _) | (with_reducible refine Kd.C_drew ?_))); (case side2 => exact HC0.out); rintro e w4 ⟨v147, rfl, ho0, hb⟩; have n0_ := Aside0.mk (Kd.S_lower ho0 (below_size zz55)); have n1_ := Aside0.mk (below_step zz55 hb); clear HB; have HO148 := n0_; have HB := n1_; clear n0_ n1_; (try clear hb); (try clear hb2); (try clear hk); (try clear hi); (try clear ho0); obtain ⟨Ao5, co5, eo5⟩ := Kd.S_slice HO148.out; subst eo5)); try go_wp2_with (first | (go_at_call 20; (with_reducible refine (perm_Cycles.calls k _ _ l0 t145 t146 _ ?side1 ?side2 A2.out).mono ?_); (case side1 => repeat (first | exact HR0.out | (with_reducible refine Kd.C_alloc ?_ _) | (with_reducible refine Kd.C_drewN ?_ _) | (with_reducible refine Kd.C_drew ?_))); (case side2 => exact HC0.out); rintro e w4 ⟨v147, rfl, ho0, hb⟩; have n0_ := Aside0.mk (Kd.S_lower ho0 (below_size zz55)); have n1_ := Aside0.mk (below_step zz55 hb); clear HB; have HO148 := n0_; have HB := n1_; clear n0_ n1_; (try clear hb); (try clear hb2); (try clear hk); (try clear hi); (try clear ho0); obtain ⟨Ao5, co5, eo5⟩ := Kd.S_slice HO148.out; subst eo5)))
    go_loopg [6, 21] k (fun kq v6 v21 w' => ∃ (x6_1 : Int) (x21_1 : Int), v6 = .int .i64 x6_1 ∧ v21 = .int .i64 x21_1 ∧ Aside0 (perm_Order.l0 kq x6_1 t145 (t145.length : Int) x21_1 = some (r1, r2)) ∧ Aside0 (kq ≤ k) ∧ Aside0 (Kd.S (Kd.slice 3 (Kd.int .i64)) 22 w' w.heap.size (fun _ => True) (.slice Ao5 t145.length co5) t145) ∧ Aside0 (Below w.heap.size w w'))
    case atStart => exact ⟨(1), (0), zz67, zz67, H', ⟨Nat.le_refl _⟩, ⟨by (with_reducible repeat (first | apply Kd.S_alloc | apply Kd.S_drewN | apply Kd.S_drew)); exact HO148.out⟩, ⟨by repeat (first | (with_reducible first | exact HB.out | apply below_alloc | apply pw_below_drewN | apply below_drew1) | exact HB.out)⟩⟩
    case round =>
      clear H'; (try clear c2); (try clear p2); (try clear c3); (try clear c3b0); (try clear c3b1); obtain ⟨x6_1, x21_1, rfl, rfl, HA, HK1, HO_19, HB⟩ := hrel
      cases gk with
      | zero => exact absurd HA.out (by simp [perm_Order.l0])
      | succ k1 =>
        have H := HA.out; clear HA; simp only [perm_Order.l0] at H
        by_cases c6 : x21_1 < (t145.length : Int)
        · rw [if_pos c6] at H; have c6b0 : decide (x21_1 < (t145.length : Int)) = true := decide_eq_true c6; clear c6
          by_cases c7 : 0 ≤ x21_1
          · rw [if_pos c7] at H; have c7b0 : decide (0 ≤ x21_1) = true := decide_eq_true c7; clear c7
            by_cases c8 : x21_1 < (t145.length : Int)
            · rw [if_pos c8] at H; have c8b0 : decide (x21_1 < (t145.length : Int)) = true := decide_eq_true c8; clear c8; have H' := Aside0.mk H; clear H; have p149 : 0 ≤ (x21_1 : Int) := of_decide_eq_true zz65; have q149 : x21_1 < (t145.length : Int) := of_decide_eq_true zz65; obtain ⟨ad149, A149_0, c149_0, e149, hx149_0, hl149_0, hi149_0⟩ := at_L1 (Kd.S_reads' HO_19.out).2.2 x21_1 p149 q149
              cases e149; obtain ⟨ce149, hce149, hMe149, hcc149⟩ := Kd.S_get HO_19.out [] x21_1 p149 (by first | exact q149 | exact of_decide_eq_true zz65 | (have e_ := (Kd.S_reads' HO_19.out).1; omega)); obtain ⟨ve149_0, rfl, ge149_0⟩ := hMe149; have hv149_0 := hcc149 0 _ rfl; rw [Nat.add_zero, show ((Kd.slice 3 (Kd.int .i64))).sz = 1 from rfl, Nat.mul_one] at hv149_0; replace hv149_0 := Option.some.inj (hv149_0.symm.trans hx149_0); rw [hv149_0] at ge149_0; have HL149_0 := Aside0.mk (show Kd.R (Kd.int .i64) 3 _ _ _ _ (rd_L1 t145 x21_1) from ge149_0); clear hv149_0 ge149_0; clear hcc149 hce149; have HR149_0 := Aside0.mk hi149_0; have HC149_0 := Aside0.mk hl149_0; clear hi149_0 hl149_0; replace p149 := eq_true p149; replace q149 := eq_true q149; go_wp2
              repeat (go_quiet (fail); try go_wp2)
              go_loopg [9, 10] k1 (fun kq v9 v10 w' => ∃ (x9_2 : Int) (x10_2 : Int), v9 = .int .i64 x9_2 ∧ v10 = .int .i64 x10_2 ∧ Aside0 (perm_Order.l1 kq x6_1 (rd_L1 t145 x21_1) x9_2 x10_2 t145 (t145.length : Int) x21_1 = some (r1, r2)) ∧ Aside0 (kq ≤ k1) ∧ Aside0 (Kd.S (Kd.slice 3 (Kd.int .i64)) 22 w' w.heap.size (fun _ => True) (.slice (some ad149) t145.length co5) t145) ∧ Aside0 (Kd.C (Kd.int .i64) w' A149_0 (rd_L1 t145 x21_1).length (rd_L1 t145 x21_1)) ∧ Aside0 (Below w.heap.size w w'))
              case atStart => exact ⟨(x6_1), (((rd_L1 t145 x21_1).length : Int)), zz67, zz67, H', ⟨Nat.le_refl _⟩, ⟨by (with_reducible repeat (first | apply Kd.S_alloc | apply Kd.S_drewN | apply Kd.S_drew)); exact HO_19.out⟩, ⟨by repeat (first | (with_reducible exact HR149_0.out) | (with_reducible refine Kd.C_alloc ?_ _) | (with_reducible refine Kd.C_drewN ?_ _) | (with_reducible refine Kd.C_drew ?_) | exact HR149_0.out)⟩, ⟨by repeat (first | (with_reducible first | exact HB.out | apply below_alloc | apply pw_below_drewN | apply below_drew1) | exact HB.out)⟩⟩
              case round =>
                clear H'; (try clear c1); (try clear p1); (try clear q1); (try clear hx1); (try clear c2); (try clear p2); (try clear c3); (try clear c3b0); (try clear c3b1); (try clear c6); (try clear c6b0); (try clear c7); (try clear c7b0); (try clear c8); (try clear c8b0); (try clear hx149_0); (try clear p149); (try clear p2); (try clear q149); obtain ⟨x9_2, x10_2, rfl, rfl, HA, HK2, HO_19, HR149_0, HB⟩ := hrel
                cases gk with
                | zero => exact absurd HA.out (by simp [perm_Order.l1])
                | succ k2 =>
                  have H := HA.out; clear HA; simp only [perm_Order.l1] at H
                  by_cases c9 : x10_2 > 0
                  · rw [if_pos c9] at H; have c9b0 : decide (0 < x10_2) = true := decide_eq_true c9; clear c9
                    by_cases c10 : x10_2 = 0
                    · rw [if_pos c10] at H
                      exact absurd H (by simp)
                    rw [if_neg c10] at H; have c10b0 : (x10_2 == 0) = false := beq_eq_false_iff_ne.mpr c10; have c10b1 : (x10_2 != 0) = true := bne_iff_ne.mpr c10; have H' := Aside0.mk H; clear H; go_wp2
                    repeat (go_quiet (fail); try go_wp2)
                    go_roundg k2
                    case measure => have := HK1.out; have := HK2.out; omega
                    case rel => exact ⟨(x10_2), (Int.tmod x9_2 x10_2), zz67, zz67, H', ⟨by have := HK1.out; have := HK2.out; omega⟩, ⟨by (with_reducible repeat (first | apply Kd.S_alloc | apply Kd.S_drewN | apply Kd.S_drew)); exact HO_19.out⟩, ⟨by repeat (first | (with_reducible exact HR149_0.out) | (with_reducible refine Kd.C_alloc ?_ _) | (with_reducible refine Kd.C_drewN ?_ _) | (with_reducible refine Kd.C_drew ?_) | exact HR149_0.out)⟩, ⟨by repeat (first | (with_reducible first | exact HB.out | apply below_alloc | apply pw_below_drewN | apply below_drew1) | exact HB.out)⟩⟩
                  rw [if_neg c9] at H; have c9b0 : decide (0 < x10_2) = false := decide_eq_false c9; clear c9
                  by_cases c11 : x9_2 = 0
                  · rw [if_pos c11] at H
                    exact absurd H (by simp)
                  rw [if_neg c11] at H; have c11b0 : (x9_2 == 0) = false := beq_eq_false_iff_ne.mpr c11; have c11b1 : (x9_2 != 0) = true := bne_iff_ne.mpr c11; have H' := Aside0.mk H; clear H; go_wp2
                  repeat (go_quiet (fail); try go_wp2)
                  go_roundg k2
                  case measure => have := HK1.out; have := HK2.out; omega
                  case rel => exact ⟨(wrap64 ((wrap64 (Int.tdiv x6_1 x9_2)) * ((rd_L1 t145 x21_1).length : Int))), (wrap64 (x21_1 + 1)), zz67, zz67, H', ⟨by have := HK1.out; have := HK2.out; omega⟩, ⟨by (with_reducible repeat (first | apply Kd.S_alloc | apply Kd.S_drewN | apply Kd.S_drew)); exact HO_19.out⟩, ⟨by repeat (first | (with_reducible first | exact HB.out | apply below_alloc | apply pw_below_drewN | apply below_drew1) | exact HB.out)⟩⟩
            rw [if_neg c8] at H
            exact absurd H (by simp)
          rw [if_neg c7] at H
          exact absurd H (by simp)
        rw [if_neg c6] at H; have c6b0 : decide (x21_1 < (t145.length : Int)) = false := decide_eq_false c6; clear c6; simp only [Option.some.injEq, Prod.mk.injEq] at H; obtain ⟨rfl, rfl⟩ := H; go_wp2
        repeat (go_quiet (fail); try go_wp2)
        go_ret2
        exact ⟨by first | rfl | (simp [errW_none, errW_some] <;> rfl) | (simp [*, errW_none, errW_some] <;> rfl), by repeat (first | (with_reducible first | exact HB.out | apply below_alloc | apply pw_below_drewN | apply below_drew1) | exact HB.out)⟩
  rw [if_neg c3] at H
  have c3b0 : (t146 == 0) = false := beq_eq_false_iff_ne.mpr c3
  have c3b1 : (t146 != 0) = true := bne_iff_ne.mpr c3
  simp only [Option.some.injEq, Prod.mk.injEq] at H
  obtain ⟨rfl, rfl⟩ := H
  go_enter Try.func22, Try.ntmps22
  go_wp2_with (first | (go_at_call 20; (with_reducible refine (perm_Cycles.calls k _ _ l0 t145 t146 _ ?side1 ?side2 A2.out).mono ?_); (case side1 => repeat (first | exact HR0.out | (with_reducible refine Kd.C_alloc ?_ _) | (with_reducible refine Kd.C_drewN ?_ _) | (with_reducible refine Kd.C_drew ?_))); (case side2 => exact HC0.out); rintro e w12 ⟨v147, rfl, ho0, hb⟩; have n0_ := Aside0.mk (Kd.S_lower ho0 (below_size zz55)); have n1_ := Aside0.mk (below_step zz55 hb); clear HB; have HO148 := n0_; have HB := n1_; clear n0_ n1_; (try clear hb); (try clear hb2); (try clear hk); (try clear hi); (try clear ho0)))
  repeat (go_quiet (first | (go_at_call 20; (with_reducible refine (perm_Cycles.calls k _ _ l0 t145 t146 _ ?side1 ?side2 A2.out).mono ?_); (case side1 => repeat (first | exact HR0.out | (with_reducible refine Kd.C_alloc ?_ _) | (with_reducible refine Kd.C_drewN ?_ _) | (with_reducible refine Kd.C_drew ?_))); (case side2 => exact HC0.out); rintro e w12 ⟨v147, rfl, ho0, hb⟩; have n0_ := Aside0.mk (Kd.S_lower ho0 (below_size zz55)); have n1_ := Aside0.mk (below_step zz55 hb); clear HB; have HO148 := n0_; have HB := n1_; clear n0_ n1_; (try clear hb); (try clear hb2); (try clear hk); (try clear hi); (try clear ho0))); try go_wp2_with (first | (go_at_call 20; (with_reducible refine (perm_Cycles.calls k _ _ l0 t145 t146 _ ?side1 ?side2 A2.out).mono ?_); (case side1 => repeat (first | exact HR0.out | (with_reducible refine Kd.C_alloc ?_ _) | (with_reducible refine Kd.C_drewN ?_ _) | (with_reducible refine Kd.C_drew ?_))); (case side2 => exact HC0.out); rintro e w12 ⟨v147, rfl, ho0, hb⟩; have n0_ := Aside0.mk (Kd.S_lower ho0 (below_size zz55)); have n1_ := Aside0.mk (below_step zz55 hb); clear HB; have HO148 := n0_; have HB := n1_; clear n0_ n1_; (try clear hb); (try clear hb2); (try clear hk); (try clear hi); (try clear ho0))))
  go_ret2
  exact ⟨by first | rfl | (simp [errW_none, errW_some] <;> rfl) | (simp [*, errW_none, errW_some] <;> rfl), by repeat (first | (with_reducible first | exact HB.out | apply below_alloc | apply pw_below_drewN | apply below_drew1) | exact HB.out)⟩
end
section
attribute [local go_sem] max2_int min2_int max_two min_two max_three min_three max_four min_four
def codewrightref09_SameRows.l0 : Nat → List (List Int) → List (List Int) → Int → Option (Bool)
  | 0, _, _, _ => none
  | k + 1, x0, x1, x5 => if x5 < (x0.length : Int) then (if 0 ≤ x5 then (if x5 < (x1.length : Int) then ((codewrightref09_SameInts.f k (rd_L1 x0 x5) (rd_L1 x1 x5)).bind fun t152 => (if t152 = true then (codewrightref09_SameRows.l0 k x0 x1 (wrap64 (x5 + 1))) else (some false))) else (none)) else (none)) else (some true)
def codewrightref09_SameRows.f (k : Nat) (l0 : List (List Int)) (l1 : List (List Int)) : Option (Bool) := if (l0.length : Int) = (l1.length : Int) then (codewrightref09_SameRows.l0 k l0 l1 0) else (some false)
theorem codewrightref09_SameRows.calls (k : Nat) (A0 : Option Addr) (c0 : Nat) (l0 : List (List Int)) (A1 : Option Addr) (c1 : Nat) (l1 : List (List Int)) (r : Bool) (w : World) (hr0 : Kd.C (Kd.slice 3 (Kd.int .i64)) w A0 l0.length l0) (hc0 : l0.length ≤ c0) (hr1 : Kd.C (Kd.slice 3 (Kd.int .i64)) w A1 l1.length l1) (hc1 : l1.length ≤ c1) (h : codewrightref09_SameRows.f k l0 l1 = some r) :
    Calls Try.prog 24 #[.slice A0 l0.length c0, .slice A1 l1.length c1] w fun e w' => e = .returned (.bool r) ∧ Drawn0 w w' := by
  have HR0 := Aside0.mk hr0
  have HC0 := Aside0.mk hc0
  clear hr0 hc0
  have HR1 := Aside0.mk hr1
  have HC1 := Aside0.mk hc1
  clear hr1 hc1
  have H : (if (l0.length : Int) = (l1.length : Int) then (codewrightref09_SameRows.l0 k l0 l1 0) else (some false)) = some r := h
  clear h
  by_cases c3 : (l0.length : Int) = (l1.length : Int)
  · rw [if_pos c3] at H
    have c3b0 : ((l0.length : Int) == (l1.length : Int)) = true := beq_iff_eq.mpr c3; have c3b1 : ((l0.length : Int) != (l1.length : Int)) = false := bne_eq_false_iff_eq.mpr c3; have c3b2 : (l0.length == l1.length) = true := by first | simpa using c3 | (simp at c3 ⊢; omega)
    clear c3; have H' := Aside0.mk H; clear H
    go_enter Try.func24, Try.ntmps24
    go_wp2
    repeat (go_quiet (fail); try go_wp2)
    go_loopg [5] k (fun kq v5 w' => ∃ (x5_1 : Int), v5 = .int .i64 x5_1 ∧ Aside0 (codewrightref09_SameRows.l0 kq l0 l1 x5_1 = some r) ∧ Aside0 (kq ≤ k) ∧ Drawn0 w w')
    case atStart => exact ⟨(0), zz67, H', ⟨Nat.le_refl _⟩, by repeat (first | exact Drawn0.refl _ | apply Drawn0.step)⟩
    case round =>
      clear H'; (try clear c1); (try clear c2); (try clear p2); (try clear c3); (try clear c3b0); (try clear c3b1); (try clear c3b2); obtain ⟨x5_1, rfl, HA, HK1, ⟨m1, rfl⟩⟩ := hrel
      cases gk with
      | zero => exact absurd HA.out (by simp [codewrightref09_SameRows.l0])
      | succ k1 =>
        have H := HA.out; clear HA; simp only [codewrightref09_SameRows.l0] at H
        by_cases c4 : x5_1 < (l0.length : Int)
        · rw [if_pos c4] at H; have c4b0 : decide (x5_1 < (l0.length : Int)) = true := decide_eq_true c4; clear c4
          by_cases c5 : 0 ≤ x5_1
          · rw [if_pos c5] at H; have c5b0 : decide (0 ≤ x5_1) = true := decide_eq_true c5; clear c5
            by_cases c6 : x5_1 < (l1.length : Int)
            · rw [if_pos c6] at H; have c6b0 : decide (x5_1 < (l1.length : Int)) = true := decide_eq_true c6; clear c6; replace H := Option.bind_eq_some_iff.mp H; obtain ⟨t152, A70, H⟩ := H; replace H : (if t152 = true then (codewrightref09_SameRows.l0 k1 l0 l1 (wrap64 (x5_1 + 1))) else (some false)) = some r := H; have A7 := Aside0.mk A70; clear A70
              by_cases c8 : t152 = true
              · subst c8; have H1 : (codewrightref09_SameRows.l0 k1 l0 l1 (wrap64 (x5_1 + 1))) = some r := by rw [if_pos rfl] at H; exact H
                clear H; have H := H1; clear H1; have H' := Aside0.mk H; clear H; have p150 : 0 ≤ (x5_1 : Int) := of_decide_eq_true zz65; have q150 : x5_1 < (l0.length : Int) := of_decide_eq_true zz65; obtain ⟨ad150, A150_0, c150_0, e150, hx150_0, hl150_0, hi150_0⟩ := at_L1 HR0.out x5_1 p150 q150
                cases e150; have HR150_0 := Aside0.mk hi150_0; have HC150_0 := Aside0.mk hl150_0; clear hi150_0 hl150_0; replace p150 := eq_true p150; replace q150 := eq_true q150; have p151 : 0 ≤ (x5_1 : Int) := of_decide_eq_true zz65; have q151 : x5_1 < (l1.length : Int) := of_decide_eq_true zz65; obtain ⟨ad151, A151_0, c151_0, e151, hx151_0, hl151_0, hi151_0⟩ := at_L1 HR1.out x5_1 p151 q151
                cases e151; have HR151_0 := Aside0.mk hi151_0; have HC151_0 := Aside0.mk hl151_0; clear hi151_0 hl151_0; replace p151 := eq_true p151; replace q151 := eq_true q151
                go_wp2_with (first | (go_at_call 15; (with_reducible refine (codewrightref09_SameInts.calls k1 _ _ (rd_L1 l0 x5_1) _ _ (rd_L1 l1 x5_1) true _ ?side1 ?side2 ?side3 ?side4 A7.out).mono ?_); (case side1 => repeat (first | exact HR150_0.out | (with_reducible refine Kd.C_alloc ?_ _) | (with_reducible refine Kd.C_drewN ?_ _) | (with_reducible refine Kd.C_drew ?_))); (case side2 => exact HC150_0.out); (case side3 => repeat (first | exact HR151_0.out | (with_reducible refine Kd.C_alloc ?_ _) | (with_reducible refine Kd.C_drewN ?_ _) | (with_reducible refine Kd.C_drew ?_))); (case side4 => exact HC151_0.out); rintro e w' ⟨rfl, ⟨nd, rfl⟩⟩; (try first | exact ⟨rfl, _, World.drewN_drewN _ _ _⟩ | exact ⟨rfl, _, Eq.trans (World.drewN_drewN _ _ _) (congrArg (World.drewN _) (Nat.add_assoc _ _ _))⟩)))
                repeat (go_quiet (first | (go_at_call 15; (with_reducible refine (codewrightref09_SameInts.calls k1 _ _ (rd_L1 l0 x5_1) _ _ (rd_L1 l1 x5_1) true _ ?side1 ?side2 ?side3 ?side4 A7.out).mono ?_); (case side1 => repeat (first | exact HR150_0.out | (with_reducible refine Kd.C_alloc ?_ _) | (with_reducible refine Kd.C_drewN ?_ _) | (with_reducible refine Kd.C_drew ?_))); (case side2 => exact HC150_0.out); (case side3 => repeat (first | exact HR151_0.out | (with_reducible refine Kd.C_alloc ?_ _) | (with_reducible refine Kd.C_drewN ?_ _) | (with_reducible refine Kd.C_drew ?_))); (case side4 => exact HC151_0.out); rintro e w' ⟨rfl, ⟨nd, rfl⟩⟩; (try first | exact ⟨rfl, _, World.drewN_drewN _ _ _⟩ | exact ⟨rfl, _, Eq.trans (World.drewN_drewN _ _ _) (congrArg (World.drewN _) (Nat.add_assoc _ _ _))⟩))); try go_wp2_with (first | (go_at_call 15; (with_reducible refine (codewrightref09_SameInts.calls k1 _ _ (rd_L1 l0 x5_1) _ _ (rd_L1 l1 x5_1) true _ ?side1 ?side2 ?side3 ?side4 A7.out).mono ?_); (case side1 => repeat (first | exact HR150_0.out | (with_reducible refine Kd.C_alloc ?_ _) | (with_reducible refine Kd.C_drewN ?_ _) | (with_reducible refine Kd.C_drew ?_))); (case side2 => exact HC150_0.out); (case side3 => repeat (first | exact HR151_0.out | (with_reducible refine Kd.C_alloc ?_ _) | (with_reducible refine Kd.C_drewN ?_ _) | (with_reducible refine Kd.C_drew ?_))); (case side4 => exact HC151_0.out); rintro e w' ⟨rfl, ⟨nd, rfl⟩⟩; (try first | exact ⟨rfl, _, World.drewN_drewN _ _ _⟩ | exact ⟨rfl, _, Eq.trans (World.drewN_drewN _ _ _) (congrArg (World.drewN _) (Nat.add_assoc _ _ _))⟩))))
                go_roundg k1
                case measure => have := HK1.out; omega
                case rel => exact ⟨(wrap64 (x5_1 + 1)), zz67, H', ⟨by have := HK1.out; omega⟩, by repeat (first | exact Drawn0.refl _ | apply Drawn0.step)⟩
              replace c8 := Bool.eq_false_iff.mpr c8; subst c8; have H1 : (some false) = some r := by rw [if_neg (show ¬ (false = true) by decide)] at H; exact H
              clear H; have H := H1; clear H1; obtain rfl := Option.some.inj H; have p150 : 0 ≤ (x5_1 : Int) := of_decide_eq_true zz65; have q150 : x5_1 < (l0.length : Int) := of_decide_eq_true zz65; obtain ⟨ad150, A150_0, c150_0, e150, hx150_0, hl150_0, hi150_0⟩ := at_L1 HR0.out x5_1 p150 q150
              cases e150; have HR150_0 := Aside0.mk hi150_0; have HC150_0 := Aside0.mk hl150_0; clear hi150_0 hl150_0; replace p150 := eq_true p150; replace q150 := eq_true q150; have p151 : 0 ≤ (x5_1 : Int) := of_decide_eq_true zz65; have q151 : x5_1 < (l1.length : Int) := of_decide_eq_true zz65; obtain ⟨ad151, A151_0, c151_0, e151, hx151_0, hl151_0, hi151_0⟩ := at_L1 HR1.out x5_1 p151 q151
              cases e151; have HR151_0 := Aside0.mk hi151_0; have HC151_0 := Aside0.mk hl151_0; clear hi151_0 hl151_0; replace p151 := eq_true p151; replace q151 := eq_true q151
              go_wp2_with (first | (go_at_call 15; (with_reducible refine (codewrightref09_SameInts.calls k1 _ _ (rd_L1 l0 x5_1) _ _ (rd_L1 l1 x5_1) false _ ?side1 ?side2 ?side3 ?side4 A7.out).mono ?_); (case side1 => repeat (first | exact HR150_0.out | (with_reducible refine Kd.C_alloc ?_ _) | (with_reducible refine Kd.C_drewN ?_ _) | (with_reducible refine Kd.C_drew ?_))); (case side2 => exact HC150_0.out); (case side3 => repeat (first | exact HR151_0.out | (with_reducible refine Kd.C_alloc ?_ _) | (with_reducible refine Kd.C_drewN ?_ _) | (with_reducible refine Kd.C_drew ?_))); (case side4 => exact HC151_0.out); rintro e w' ⟨rfl, ⟨nd, rfl⟩⟩; (try first | exact ⟨rfl, _, World.drewN_drewN _ _ _⟩ | exact ⟨rfl, _, Eq.trans (World.drewN_drewN _ _ _) (congrArg (World.drewN _) (Nat.add_assoc _ _ _))⟩)))
              repeat (go_quiet (first | (go_at_call 15; (with_reducible refine (codewrightref09_SameInts.calls k1 _ _ (rd_L1 l0 x5_1) _ _ (rd_L1 l1 x5_1) false _ ?side1 ?side2 ?side3 ?side4 A7.out).mono ?_); (case side1 => repeat (first | exact HR150_0.out | (with_reducible refine Kd.C_alloc ?_ _) | (with_reducible refine Kd.C_drewN ?_ _) | (with_reducible refine Kd.C_drew ?_))); (case side2 => exact HC150_0.out); (case side3 => repeat (first | exact HR151_0.out | (with_reducible refine Kd.C_alloc ?_ _) | (with_reducible refine Kd.C_drewN ?_ _) | (with_reducible refine Kd.C_drew ?_))); (case side4 => exact HC151_0.out); rintro e w' ⟨rfl, ⟨nd, rfl⟩⟩; (try first | exact ⟨rfl, _, World.drewN_drewN _ _ _⟩ | exact ⟨rfl, _, Eq.trans (World.drewN_drewN _ _ _) (congrArg (World.drewN _) (Nat.add_assoc _ _ _))⟩))); try go_wp2_with (first | (go_at_call 15; (with_reducible refine (codewrightref09_SameInts.calls k1 _ _ (rd_L1 l0 x5_1) _ _ (rd_L1 l1 x5_1) false _ ?side1 ?side2 ?side3 ?side4 A7.out).mono ?_); (case side1 => repeat (first | exact HR150_0.out | (with_reducible refine Kd.C_alloc ?_ _) | (with_reducible refine Kd.C_drewN ?_ _) | (with_reducible refine Kd.C_drew ?_))); (case side2 => exact HC150_0.out); (case side3 => repeat (first | exact HR151_0.out | (with_reducible refine Kd.C_alloc ?_ _) | (with_reducible refine Kd.C_drewN ?_ _) | (with_reducible refine Kd.C_drew ?_))); (case side4 => exact HC151_0.out); rintro e w' ⟨rfl, ⟨nd, rfl⟩⟩; (try first | exact ⟨rfl, _, World.drewN_drewN _ _ _⟩ | exact ⟨rfl, _, Eq.trans (World.drewN_drewN _ _ _) (congrArg (World.drewN _) (Nat.add_assoc _ _ _))⟩))))
              go_ret
              exact ⟨by first | rfl | (simp; done) | (simp [*]; done), by repeat (first | exact Drawn0.refl _ | apply Drawn0.step)⟩
            rw [if_neg c6] at H
            exact absurd H (by simp)
          rw [if_neg c5] at H
          exact absurd H (by simp)
        rw [if_neg c4] at H; have c4b0 : decide (x5_1 < (l0.length : Int)) = false := decide_eq_false c4; clear c4; obtain rfl := Option.some.inj H; go_wp2
        repeat (go_quiet (fail); try go_wp2)
        go_ret
        exact ⟨by first | rfl | (simp; done) | (simp [*]; done), by repeat (first | exact Drawn0.refl _ | apply Drawn0.step)⟩
  rw [if_neg c3] at H
  have c3b0 : ((l0.length : Int) == (l1.length : Int)) = false := beq_eq_false_iff_ne.mpr c3
  have c3b1 : ((l0.length : Int) != (l1.length : Int)) = true := bne_iff_ne.mpr c3
  have c3b2 : (l0.length == l1.length) = false := by first | simpa using c3 | (simp at c3 ⊢; omega)
  obtain rfl := Option.some.inj H
  go_enter Try.func24, Try.ntmps24
  go_wp2
  repeat (go_quiet (fail); try go_wp2)
  go_ret
  exact ⟨by first | rfl | (simp; done) | (simp [*]; done), by repeat (first | exact Drawn0.refl _ | apply Drawn0.step)⟩
end
section
attribute [local go_sem] max2_int min2_int max_two min_two max_three min_three max_four min_four
mutual
def codewrightref30_Check.j0 : Nat → List Int → Int → Bool → Option (Int)
  | 0, _, _, _ => none
  | k + 1, x0, x3, x14 => if x14 = true then (some 4) else (codewrightref30_Check.l0 k x0 x3 0)
def codewrightref30_Check.l0 : Nat → List Int → Int → Int → Option (Int)
  | 0, _, _, _ => none
  | k + 1, x0, x3, x4 => if x4 < x3 then (if 0 ≤ x4 then (if x4 < (x0.length : Int) then (if (rd x0 x4) < 0 then (some 6) else (if (rd x0 x4) ≥ x3 then (some 6) else (codewrightref30_Check.l0 k x0 x3 (wrap64 (x4 + 1))))) else (none)) else (none)) else (codewrightref30_Check.l1 k x0 x3 0)
def codewrightref30_Check.l1 : Nat → List Int → Int → Int → Option (Int)
  | 0, _, _, _ => none
  | k + 1, x0, x3, x5 => if x5 < x3 then (codewrightref30_Check.l2 k x0 x3 x5 0) else (some 0)
def codewrightref30_Check.l2 : Nat → List Int → Int → Int → Int → Option (Int)
  | 0, _, _, _, _ => none
  | k + 1, x0, x3, x5, x6 => if x6 < x5 then (if 0 ≤ x5 then (if x5 < (x0.length : Int) then (if 0 ≤ x6 then (if x6 < (x0.length : Int) then (if (rd x0 x5) = (rd x0 x6) then (some 18) else (codewrightref30_Check.l2 k x0 x3 x5 (wrap64 (x6 + 1)))) else (none)) else (none)) else (none)) else (none)) else (codewrightref30_Check.l1 k x0 x3 (wrap64 (x5 + 1)))
end
def codewrightref30_Check.f (k : Nat) (l0 : List Int) : Option (Int) := if (l0.length : Int) < 1 then (codewrightref30_Check.j0 k l0 (l0.length : Int) true) else (codewrightref30_Check.j0 k l0 (l0.length : Int) (decide ((l0.length : Int) > 64)))
theorem codewrightref30_Check.calls (k : Nat) (A0 : Option Addr) (c0 : Nat) (l0 : List Int) (r : Int) (w : World) (hr0 : Kd.C (Kd.int .i64) w A0 l0.length l0) (hc0 : l0.length ≤ c0) (h : codewrightref30_Check.f k l0 = some r) :
    Calls Try.prog 17 #[.slice A0 l0.length c0] w fun e w' => e = .returned (.int .i64 r) ∧ Drawn0 w w' := by
  have HR0 := Aside0.mk hr0
  have HC0 := Aside0.mk hc0
  clear hr0 hc0
  have H : (if (l0.length : Int) < 1 then (codewrightref30_Check.j0 k l0 (l0.length : Int) true) else (codewrightref30_Check.j0 k l0 (l0.length : Int) (decide ((l0.length : Int) > 64)))) = some r := h
  clear h
  have HC2 := Aside0.mk H
  clear H
  go_enter Try.func17, Try.ntmps17
  go_upto_region 2 with (fail)
  repeat (go_quiet (fail); go_upto_region 2 with (fail))
  go_cut [14] (fun v14 wc => ∃ (kq : Nat) (x14_1 : Bool), v14 = .bool x14_1 ∧ Aside0 (codewrightref30_Check.j0 kq l0 (l0.length : Int) x14_1 = some r) ∧ Aside0 (kq ≤ k) ∧ Drawn0 w wc)
  case first =>
    have H := HC2.out; clear HC2
    by_cases c3 : (l0.length : Int) < 1
    · rw [if_pos c3] at H; have c3b0 : decide ((l0.length : Int) < 1) = true := decide_eq_true c3; have c3b1 : decide (l0.length < 1) = true := decide_eq_true (by omega); clear c3
      (first | rw [c3b0] | (simp only [i64_w, i32_w]; rw [c3b0]) | skip)
      have H' := Aside0.mk H; clear H; go_wp2
      repeat (go_quiet (fail); try go_wp2)
      go_meet
      case rel => exact ⟨_, (true), zz67, H', ⟨by first | omega | exact Nat.le_refl _⟩, by repeat (first | exact Drawn0.refl _ | apply Drawn0.step)⟩
    rw [if_neg c3] at H; have c3b0 : decide ((l0.length : Int) < 1) = false := decide_eq_false c3; have c3b1 : decide (l0.length < 1) = false := decide_eq_false (by omega); clear c3
    (first | rw [c3b0] | (simp only [i64_w, i32_w]; rw [c3b0]) | skip)
    have H' := Aside0.mk H; clear H; go_wp2
    repeat (go_quiet (fail); try go_wp2)
    go_meet
    case rel => exact ⟨_, (decide ((l0.length : Int) > 64)), zz67, H', ⟨by first | omega | exact Nat.le_refl _⟩, by repeat (first | exact Drawn0.refl _ | apply Drawn0.step)⟩
  case rest =>
    clear HC2; (try clear c1); (try clear p2); (try clear c3); (try clear c3b0); (try clear c3b1); obtain ⟨kq, x14_1, rfl, HA, HJ1, ⟨mc1, rfl⟩⟩ := hcut
    cases kq with
    | zero => exact absurd HA.out (by simp [codewrightref30_Check.j0])
    | succ kj1 =>
      have H := HA.out; clear HA; simp only [codewrightref30_Check.j0] at H
      by_cases c4 : x14_1 = true
      · subst c4; have H1 : (some 4) = some r := by rw [if_pos rfl] at H; exact H
        clear H; have H := H1; clear H1; obtain rfl := Option.some.inj H; go_wp2
        repeat (go_quiet (fail); try go_wp2)
        go_ret
        exact ⟨by first | rfl | (simp; done) | (simp [*]; done), by repeat (first | exact Drawn0.refl _ | apply Drawn0.step)⟩
      replace c4 := Bool.eq_false_iff.mpr c4; subst c4; have H1 : (codewrightref30_Check.l0 kj1 l0 (l0.length : Int) 0) = some r := by rw [if_neg (show ¬ (false = true) by decide)] at H; exact H
      clear H; have H := H1; clear H1; have H' := Aside0.mk H; clear H; go_wp2
      repeat (go_quiet (fail); try go_wp2)
      go_loopg [4] kj1 (fun kq v4 w' => ∃ (x4_2 : Int), v4 = .int .i64 x4_2 ∧ Aside0 (codewrightref30_Check.l0 kq l0 (l0.length : Int) x4_2 = some r) ∧ Aside0 (kq ≤ kj1) ∧ Drawn0 w w')
      case atStart => exact ⟨(0), zz67, H', ⟨Nat.le_refl _⟩, by repeat (first | exact Drawn0.refl _ | apply Drawn0.step)⟩
      case round =>
        clear H'; (try clear c1); (try clear p2); (try clear c3); (try clear c3b0); (try clear c3b1); (try clear c4); (try clear p2); obtain ⟨x4_2, rfl, HA, HK2, ⟨m2, rfl⟩⟩ := hrel
        cases gk with
        | zero => exact absurd HA.out (by simp [codewrightref30_Check.l0])
        | succ k2 =>
          have H := HA.out; clear HA; simp only [codewrightref30_Check.l0] at H
          by_cases c5 : x4_2 < (l0.length : Int)
          · rw [if_pos c5] at H; have c5b0 : decide (x4_2 < (l0.length : Int)) = true := decide_eq_true c5; clear c5
            by_cases c6 : 0 ≤ x4_2
            · rw [if_pos c6] at H; have c6b0 : decide (0 ≤ x4_2) = true := decide_eq_true c6; clear c6
              by_cases c7 : x4_2 < (l0.length : Int)
              · rw [if_pos c7] at H; have c7b0 : decide (x4_2 < (l0.length : Int)) = true := decide_eq_true c7; clear c7
                by_cases c8 : (rd l0 x4_2) < 0
                · rw [if_pos c8] at H; have c8b0 : decide ((rd l0 x4_2) < 0) = true := decide_eq_true c8; clear c8; obtain rfl := Option.some.inj H; have p311 : 0 ≤ (x4_2 : Int) := of_decide_eq_true zz65; have q311 : x4_2 < (l0.length : Int) := of_decide_eq_true zz65; obtain ⟨ad311, e311, hx311_0⟩ := Kd.at_int HR0.out x4_2 p311 q311
                  cases e311; replace p311 := eq_true p311; replace q311 := eq_true q311; go_wp2
                  repeat (go_quiet (fail); try go_wp2)
                  go_ret
                  exact ⟨by first | rfl | (simp; done) | (simp [*]; done), by repeat (first | exact Drawn0.refl _ | apply Drawn0.step)⟩
                rw [if_neg c8] at H; have c8b0 : decide ((rd l0 x4_2) < 0) = false := decide_eq_false c8; clear c8
                by_cases c9 : (rd l0 x4_2) ≥ (l0.length : Int)
                · rw [if_pos c9] at H; have c9b0 : decide ((l0.length : Int) ≤ (rd l0 x4_2)) = true := decide_eq_true c9; clear c9; obtain rfl := Option.some.inj H; have p311 : 0 ≤ (x4_2 : Int) := of_decide_eq_true zz65; have q311 : x4_2 < (l0.length : Int) := of_decide_eq_true zz65; obtain ⟨ad311, e311, hx311_0⟩ := Kd.at_int HR0.out x4_2 p311 q311
                  cases e311; replace p311 := eq_true p311; replace q311 := eq_true q311; have p312 : 0 ≤ (x4_2 : Int) := of_decide_eq_true zz65; have q312 : x4_2 < (l0.length : Int) := of_decide_eq_true zz65; obtain ⟨ad312, e312, hx312_0⟩ := Kd.at_int HR0.out x4_2 p312 q312; obtain rfl : ad311 = ad312 := (by injection e312); replace p312 := eq_true p312; replace q312 := eq_true q312; go_wp2
                  repeat (go_quiet (fail); try go_wp2)
                  go_ret
                  exact ⟨by first | rfl | (simp; done) | (simp [*]; done), by repeat (first | exact Drawn0.refl _ | apply Drawn0.step)⟩
                rw [if_neg c9] at H; have c9b0 : decide ((l0.length : Int) ≤ (rd l0 x4_2)) = false := decide_eq_false c9; clear c9; have H' := Aside0.mk H; clear H; have p311 : 0 ≤ (x4_2 : Int) := of_decide_eq_true zz65; have q311 : x4_2 < (l0.length : Int) := of_decide_eq_true zz65; obtain ⟨ad311, e311, hx311_0⟩ := Kd.at_int HR0.out x4_2 p311 q311
                cases e311; replace p311 := eq_true p311; replace q311 := eq_true q311; have p312 : 0 ≤ (x4_2 : Int) := of_decide_eq_true zz65; have q312 : x4_2 < (l0.length : Int) := of_decide_eq_true zz65; obtain ⟨ad312, e312, hx312_0⟩ := Kd.at_int HR0.out x4_2 p312 q312; obtain rfl : ad311 = ad312 := (by injection e312); replace p312 := eq_true p312; replace q312 := eq_true q312; go_wp2
                repeat (go_quiet (fail); try go_wp2)
                go_roundg k2
                case measure => have := HJ1.out; have := HK2.out; omega
                case rel => exact ⟨(wrap64 (x4_2 + 1)), zz67, H', ⟨by have := HJ1.out; have := HK2.out; omega⟩, by repeat (first | exact Drawn0.refl _ | apply Drawn0.step)⟩
              rw [if_neg c7] at H
              exact absurd H (by simp)
            rw [if_neg c6] at H
            exact absurd H (by simp)
          rw [if_neg c5] at H; have c5b0 : decide (x4_2 < (l0.length : Int)) = false := decide_eq_false c5; clear c5; have H' := Aside0.mk H; clear H; go_wp2
          repeat (go_quiet (fail); try go_wp2)
          go_loopg [5] k2 (fun kq v5 w' => ∃ (x5_3 : Int), v5 = .int .i64 x5_3 ∧ Aside0 (codewrightref30_Check.l1 kq l0 (l0.length : Int) x5_3 = some r) ∧ Aside0 (kq ≤ k2) ∧ Drawn0 w w')
          case atStart => exact ⟨(0), zz67, H', ⟨Nat.le_refl _⟩, by repeat (first | exact Drawn0.refl _ | apply Drawn0.step)⟩
          case round =>
            clear H'; (try clear c1); (try clear p2); (try clear c3); (try clear c3b0); (try clear c3b1); (try clear p3); (try clear q3); (try clear hx3); (try clear c4); (try clear c5); (try clear c5b0); (try clear c6); (try clear c6b0); (try clear p6); (try clear c7); (try clear c7b0); (try clear c8); (try clear c8b0); (try clear c9); (try clear c9b0); (try clear hx311_0); (try clear hx312_0); (try clear p2); (try clear p311); (try clear p312); (try clear q311); (try clear q312); obtain ⟨x5_3, rfl, HA, HK3, ⟨m3, rfl⟩⟩ := hrel
            cases gk with
            | zero => exact absurd HA.out (by simp [codewrightref30_Check.l1])
            | succ k3 =>
              have H := HA.out; clear HA; simp only [codewrightref30_Check.l1] at H
              by_cases c10 : x5_3 < (l0.length : Int)
              · rw [if_pos c10] at H; have c10b0 : decide (x5_3 < (l0.length : Int)) = true := decide_eq_true c10; clear c10; have H' := Aside0.mk H; clear H; go_wp2
                repeat (go_quiet (fail); try go_wp2)
                go_loopg [6] k3 (fun kq v6 w' => ∃ (x6_4 : Int), v6 = .int .i64 x6_4 ∧ Aside0 (codewrightref30_Check.l2 kq l0 (l0.length : Int) x5_3 x6_4 = some r) ∧ Aside0 (kq ≤ k3) ∧ Drawn0 w w')
                case atStart => exact ⟨(0), zz67, H', ⟨Nat.le_refl _⟩, by repeat (first | exact Drawn0.refl _ | apply Drawn0.step)⟩
                case round =>
                  clear H'; (try clear c1); (try clear p2); (try clear c3); (try clear c3b0); (try clear c3b1); (try clear p3); (try clear q3); (try clear hx3); (try clear c4); (try clear c5); (try clear c5b0); (try clear c6); (try clear c6b0); (try clear p6); (try clear c7); (try clear c7b0); (try clear c8); (try clear c8b0); (try clear c9); (try clear c9b0); (try clear c10); (try clear c10b0); (try clear hx311_0); (try clear hx312_0); (try clear p2); (try clear p3); (try clear p311); (try clear p312); (try clear p6); (try clear q3); (try clear q311); (try clear q312); obtain ⟨x6_4, rfl, HA, HK4, ⟨m4, rfl⟩⟩ := hrel
                  cases gk with
                  | zero => exact absurd HA.out (by simp [codewrightref30_Check.l2])
                  | succ k4 =>
                    have H := HA.out; clear HA; simp only [codewrightref30_Check.l2] at H
                    by_cases c11 : x6_4 < x5_3
                    · rw [if_pos c11] at H; have c11b0 : decide (x6_4 < x5_3) = true := decide_eq_true c11; clear c11
                      by_cases c12 : 0 ≤ x5_3
                      · rw [if_pos c12] at H; have c12b0 : decide (0 ≤ x5_3) = true := decide_eq_true c12; clear c12
                        by_cases c13 : x5_3 < (l0.length : Int)
                        · rw [if_pos c13] at H; have c13b0 : decide (x5_3 < (l0.length : Int)) = true := decide_eq_true c13; clear c13
                          by_cases c14 : 0 ≤ x6_4
                          · rw [if_pos c14] at H; have c14b0 : decide (0 ≤ x6_4) = true := decide_eq_true c14; clear c14
                            by_cases c15 : x6_4 < (l0.length : Int)
                            · rw [if_pos c15] at H; have c15b0 : decide (x6_4 < (l0.length : Int)) = true := decide_eq_true c15; clear c15
                              by_cases c16 : (rd l0 x5_3) = (rd l0 x6_4)
                              · rw [if_pos c16] at H; have c16b0 : ((rd l0 x5_3) == (rd l0 x6_4)) = true := beq_iff_eq.mpr c16; have c16b1 : ((rd l0 x5_3) != (rd l0 x6_4)) = false := bne_eq_false_iff_eq.mpr c16; clear c16; obtain rfl := Option.some.inj H; have p313 : 0 ≤ (x5_3 : Int) := of_decide_eq_true zz65; have q313 : x5_3 < (l0.length : Int) := of_decide_eq_true zz65; obtain ⟨ad313, e313, hx313_0⟩ := Kd.at_int HR0.out x5_3 p313 q313
                                cases e313; replace p313 := eq_true p313; replace q313 := eq_true q313; have p314 : 0 ≤ (x6_4 : Int) := of_decide_eq_true zz65; have q314 : x6_4 < (l0.length : Int) := of_decide_eq_true zz65; obtain ⟨ad314, e314, hx314_0⟩ := Kd.at_int HR0.out x6_4 p314 q314; obtain rfl : ad313 = ad314 := (by injection e314); replace p314 := eq_true p314; replace q314 := eq_true q314; go_wp2
                                repeat (go_quiet (fail); try go_wp2)
                                go_ret
                                exact ⟨by first | rfl | (simp; done) | (simp [*]; done), by repeat (first | exact Drawn0.refl _ | apply Drawn0.step)⟩
                              rw [if_neg c16] at H; have c16b0 : ((rd l0 x5_3) == (rd l0 x6_4)) = false := beq_eq_false_iff_ne.mpr c16; have c16b1 : ((rd l0 x5_3) != (rd l0 x6_4)) = true := bne_iff_ne.mpr c16; have H' := Aside0.mk H; clear H; have p313 : 0 ≤ (x5_3 : Int) := of_decide_eq_true zz65; have q313 : x5_3 < (l0.length : Int) := of_decide_eq_true zz65; obtain ⟨ad313, e313, hx313_0⟩ := Kd.at_int HR0.out x5_3 p313 q313
                              cases e313; replace p313 := eq_true p313; replace q313 := eq_true q313; have p314 : 0 ≤ (x6_4 : Int) := of_decide_eq_true zz65; have q314 : x6_4 < (l0.length : Int) := of_decide_eq_true zz65; obtain ⟨ad314, e314, hx314_0⟩ := Kd.at_int HR0.out x6_4 p314 q314; obtain rfl : ad313 = ad314 := (by injection e314); replace p314 := eq_true p314; replace q314 := eq_true q314; go_wp2
                              repeat (go_quiet (fail); try go_wp2)
                              go_roundg k4
                              case measure => have := HJ1.out; have := HK2.out; have := HK3.out; have := HK4.out; omega
                              case rel => exact ⟨(wrap64 (x6_4 + 1)), zz67, H', ⟨by have := HJ1.out; have := HK2.out; have := HK3.out; have := HK4.out; omega⟩, by repeat (first | exact Drawn0.refl _ | apply Drawn0.step)⟩
                            rw [if_neg c15] at H
                            exact absurd H (by simp)
                          rw [if_neg c14] at H
                          exact absurd H (by simp)
                        rw [if_neg c13] at H
                        exact absurd H (by simp)
                      rw [if_neg c12] at H
                      exact absurd H (by simp)
                    rw [if_neg c11] at H; have c11b0 : decide (x6_4 < x5_3) = false := decide_eq_false c11; clear c11; have H' := Aside0.mk H; clear H; go_wp2
                    repeat (go_quiet (fail); try go_wp2)
                    go_roundg k4
                    case measure => have := HJ1.out; have := HK2.out; have := HK3.out; have := HK4.out; omega
                    case rel => exact ⟨(wrap64 (x5_3 + 1)), zz67, H', ⟨by have := HJ1.out; have := HK2.out; have := HK3.out; have := HK4.out; omega⟩, by repeat (first | exact Drawn0.refl _ | apply Drawn0.step)⟩
              rw [if_neg c10] at H; have c10b0 : decide (x5_3 < (l0.length : Int)) = false := decide_eq_false c10; clear c10; obtain rfl := Option.some.inj H; go_wp2
              repeat (go_quiet (fail); try go_wp2)
              go_ret
              exact ⟨by first | rfl | (simp; done) | (simp [*]; done), by repeat (first | exact Drawn0.refl _ | apply Drawn0.step)⟩
end
section
attribute [local go_sem] max2_int min2_int max_two min_two max_three min_three max_four min_four
def codewrightref30_Unit.l0 : Nat → Int → List Int → Int → Option (List Int)
  | 0, _, _, _ => none
  | k + 1, x0, x3, x4 => if x4 < x0 then (if 0 ≤ x4 then (if x4 < (x3.length : Int) then (codewrightref30_Unit.l0 k x0 (x3.set (x4 : Int).toNat x4) (wrap64 (x4 + 1))) else (none)) else (none)) else (some x3)
def codewrightref30_Unit.f (k : Nat) (a0 : Int) : Option (List Int) := if 0 ≤ a0 then (if (a0 : Int).toNat ≤ 35184372088832 then (codewrightref30_Unit.l0 k a0 (List.replicate (a0 : Int).toNat 0) 0) else (none)) else (none)
theorem codewrightref30_Unit.calls (k : Nat) (a0 : Int) (r : List Int) (w : World) (h : codewrightref30_Unit.f k a0 = some r) :
    Calls Try.prog 26 #[.int .i64 a0] w fun e w' => ∃ v0_ : Value, e = .returned (v0_) ∧ Kd.R (Kd.int .i64) 3 w' w.heap.size (fun _ => True) v0_ r ∧ Below w.heap.size w w' := by
  have HB := Aside0.mk (Below.refl w.heap.size w)
  have H : (if 0 ≤ a0 then (if (a0 : Int).toNat ≤ 35184372088832 then (codewrightref30_Unit.l0 k a0 (List.replicate (a0 : Int).toNat 0) 0) else (none)) else (none)) = some r := h
  clear h
  by_cases c2 : 0 ≤ a0
  · rw [if_pos c2] at H
    have c2b0 := eq_true c2; have c2b1 : decide (0 ≤ a0) = true := decide_eq_true c2; clear c2
    by_cases c3 : (a0 : Int).toNat ≤ 35184372088832
    · rw [if_pos c3] at H; have c3b0 := eq_true c3; have c3b1 : decide ((a0 : Int).toNat ≤ 35184372088832) = true := decide_eq_true c3; clear c3; obtain ⟨y301, hy301⟩ : ∃ y_ : List Int, y_ = (List.replicate (a0 : Int).toNat 0) := ⟨_, rfl⟩; replace H : (codewrightref30_Unit.l0 k a0 y301 0) = some r := by first | (rw [hy301]; with_reducible exact H) | (have H2_ := (Option.bind_some _ _).symm.trans H; rw [hy301]; with_reducible exact H2_) | (have H2_ := (Option.bind_some _ _).symm.trans H; with_reducible exact H2_) | with_reducible exact H | (rw [hy301]; exact H) | exact H
      have Ny301 := Aside0.mk hy301; clear hy301; have H' := Aside0.mk H; clear H
      go_enter Try.func26, Try.ntmps26
      go_wp2_with (first | ((with_reducible refine gate_dst (N := 6) rfl ?_); refine Kd.R_make (Kd.int .i64) _ 3 rfl (N := 6) rfl 22 _ _ rfl a0 rfl rfl Try.underlying22 (.int .i64 0) 8 info3 rfl (by decide) (by omega) 0 (ok := fun _ => True) (okp := fun _ => True) rfl (fun _ hk => hk) trivial (of_decide_eq_true zz65) (Nat.le_trans (Nat.mul_le_mul_right _ (of_decide_eq_true zz65 : a0.toNat ≤ 35184372088832)) (by omega)) (Below.refl _ _) (Nat.le_refl _) ?_; intro v302 w4 ho5 hb hg_ hnew_; clear hg_ hnew_; (first | rw [← Ny301.out] at ho5 | (simp only [Int.reduceToNat] at ho5; rw [← Ny301.out] at ho5)); have n0_ := Aside0.mk (Kd.R_lower ho5 (below_size zz55)); have n1_ := Aside0.mk (below_step zz55 hb); clear HB; have HO303 := n0_; have HB := n1_; clear n0_ n1_; clear hb ho5))
      go_loopg [4] k (fun kq v4 w' => ∃ (x3_1 : List Int) (x4_1 : Int), v4 = .int .i64 x4_1 ∧ Aside0 (codewrightref30_Unit.l0 kq a0 x3_1 x4_1 = some r) ∧ Aside0 (kq ≤ k) ∧ Aside0 (Kd.R (Kd.int .i64) 3 w' w.heap.size (fun _ => True) v302 x3_1) ∧ Aside0 (Below w.heap.size w w'))
      case atStart => exact ⟨(y301), (0), zz67, H', ⟨Nat.le_refl _⟩, ⟨by (with_reducible repeat (first | apply Kd.R_alloc | apply Kd.R_drewN | apply Kd.R_drew)); exact HO303.out⟩, ⟨by repeat (first | (with_reducible first | exact HB.out | apply below_alloc | apply pw_below_drewN | apply below_drew1) | exact HB.out)⟩⟩
      case round =>
        clear H'; (try clear c2); (try clear c2b0); (try clear c2b1); (try clear p2); (try clear c3); (try clear c3b0); (try clear c3b1); obtain ⟨x3_1, x4_1, rfl, HA, HK1, HO_3, HB⟩ := hrel
        cases gk with
        | zero => exact absurd HA.out (by simp [codewrightref30_Unit.l0])
        | succ k1 =>
          have H := HA.out; clear HA; simp only [codewrightref30_Unit.l0] at H
          by_cases c6 : x4_1 < a0
          · rw [if_pos c6] at H; have c6b0 : decide (x4_1 < a0) = true := decide_eq_true c6; clear c6
            by_cases c7 : 0 ≤ x4_1
            · rw [if_pos c7] at H; have c7b0 : decide (0 ≤ x4_1) = true := decide_eq_true c7; clear c7
              by_cases c8 : x4_1 < (x3_1.length : Int)
              · rw [if_pos c8] at H; have c8b0 : decide (x4_1 < (x3_1.length : Int)) = true := decide_eq_true c8; clear c8; obtain ⟨y304, hy304⟩ : ∃ y_ : List Int, y_ = (x3_1.set (x4_1 : Int).toNat x4_1) := ⟨_, rfl⟩; replace H : (codewrightref30_Unit.l0 k1 a0 y304 (wrap64 (x4_1 + 1))) = some r := by first | (rw [hy304]; with_reducible exact H) | (have H2_ := (Option.bind_some _ _).symm.trans H; rw [hy304]; with_reducible exact H2_) | (have H2_ := (Option.bind_some _ _).symm.trans H; with_reducible exact H2_) | with_reducible exact H | (rw [hy304]; exact H) | exact H
                have Ny304 := Aside0.mk hy304; clear hy304; have H' := Aside0.mk H; clear H; have p9 : 0 ≤ (x4_1 : Int) := of_decide_eq_true zz65; have q9 : (x4_1 : Int) < ((x3_1.length : Int) : Int) := of_decide_eq_true zz65; obtain ⟨go9, co9, eo9, gb9, gl9, cl9, HG9⟩ := Kd.R_form HO_3.out (by omega)
                (first | cases eo9 | (injection eo9 with ea_ en_ ec_; (first | subst ea_ | (injection ea_ with ea_; subst ea_)); subst ec_; clear en_))
                have GB9 := Aside0.mk gb9; have GG9 := Aside0.mk HG9; clear gb9 gl9 HG9; obtain ⟨hx9_0, hf9_0⟩ := Kd.R_celln 0 HO_3.out (x4_1 : Int) p9 q9; replace p9 := eq_true p9; replace q9 := eq_true q9; have HP10 := Kd.R_putg HO_3.out (x4_1 : Int) x4_1
                go_wp2_with (first | ((with_reducible refine gate_store (t := 3) (p := 15) rfl ?_); refine store_event (t := 3) (p := 15) (v := ?vo_w11) (w1 := (wr.setCell ⟨go9, (x4_1 : Int).toNat, none⟩ (.int .i64 x4_1))) ?hg ?ho ?hn ?hr ?_; (case ho => rfl); (case hg => rfl); (case hn => rfl); (case hr => first | (go_simp; done) | (go_simp; rfl)); intro w11 hw; have hg : wr.grownBy w11 (some go9) := (by rw [hw]; exact HP10.2); have hp_ : Kd.R (Kd.int .i64) 3 w11 w.heap.size (fun _ => True) (.slice (some ⟨go9, 0, none⟩) x3_1.length co9) y304 := (by rw [hw, Ny304.out]; exact HP10.1); clear HP10; have n0_ := Aside0.mk (hp_); have n1_ := Aside0.mk ((by rw [hw]; exact below_set (HB.out) GB9.out : Below w.heap.size w w11)); clear HO_3; clear HB; have HO_3 := n0_; have HB := n1_; clear n0_ n1_; clear hg hw hp_))
                go_roundg k1
                case measure => have := HK1.out; omega
                case rel => exact ⟨(y304), (wrap64 (x4_1 + 1)), zz67, H', ⟨by have := HK1.out; omega⟩, ⟨by (with_reducible repeat (first | apply Kd.R_alloc | apply Kd.R_drewN | apply Kd.R_drew)); exact HO_3.out⟩, ⟨by repeat (first | (with_reducible first | exact HB.out | apply below_alloc | apply pw_below_drewN | apply below_drew1) | exact HB.out)⟩⟩
              rw [if_neg c8] at H
              exact absurd H (by simp)
            rw [if_neg c7] at H
            exact absurd H (by simp)
          rw [if_neg c6] at H; have c6b0 : decide (x4_1 < a0) = false := decide_eq_false c6; clear c6; obtain rfl := Option.some.inj H; go_wp2; go_ret
          exact ⟨_, by first | rfl | (simp [errW_none, errW_some] <;> rfl) | (simp [*, errW_none, errW_some] <;> rfl), by (with_reducible repeat (first | apply Kd.R_alloc | apply Kd.R_drewN | apply Kd.R_drew)); exact HO_3.out, by repeat (first | (with_reducible first | exact HB.out | apply below_alloc | apply pw_below_drewN | apply below_drew1) | exact HB.out)⟩
    rw [if_neg c3] at H
    exact absurd H (by simp)
  rw [if_neg c2] at H
  exact absurd H (by simp)
end
section
attribute [local go_sem] max2_int min2_int max_two min_two max_three min_three max_four min_four
def codewrightref30_Then.l0 : Nat → List Int → List Int → List Int → Int → Option (List Int)
  | 0, _, _, _, _ => none
  | k + 1, x0, x1, x5, x6 => if x6 < (x0.length : Int) then (if 0 ≤ x6 then (if 0 ≤ (rd x0 x6) then (if (rd x0 x6) < (x1.length : Int) then (if x6 < (x5.length : Int) then (codewrightref30_Then.l0 k x0 x1 (x5.set (x6 : Int).toNat (rd x1 (rd x0 x6))) (wrap64 (x6 + 1))) else (none)) else (none)) else (none)) else (none)) else (some x5)
def codewrightref30_Then.f (k : Nat) (l0 : List Int) (l1 : List Int) : Option (List Int) := if 0 ≤ (l0.length : Int) then (if ((l0.length : Int) : Int).toNat ≤ 35184372088832 then (codewrightref30_Then.l0 k l0 l1 (List.replicate ((l0.length : Int) : Int).toNat 0) 0) else (none)) else (none)
theorem codewrightref30_Then.calls (k : Nat) (A0 : Option Addr) (c0 : Nat) (l0 : List Int) (A1 : Option Addr) (c1 : Nat) (l1 : List Int) (r : List Int) (w : World) (hr0 : Kd.C (Kd.int .i64) w A0 l0.length l0) (hc0 : l0.length ≤ c0) (hr1 : Kd.C (Kd.int .i64) w A1 l1.length l1) (hc1 : l1.length ≤ c1) (h : codewrightref30_Then.f k l0 l1 = some r) :
    Calls Try.prog 43 #[.slice A0 l0.length c0, .slice A1 l1.length c1] w fun e w' => ∃ v0_ : Value, e = .returned (v0_) ∧ Kd.R (Kd.int .i64) 3 w' w.heap.size (fun _ => True) v0_ r ∧ Below w.heap.size w w' := by
  have HR0 := Aside0.mk hr0
  have HC0 := Aside0.mk hc0
  clear hr0 hc0
  have HR1 := Aside0.mk hr1
  have HC1 := Aside0.mk hc1
  clear hr1 hc1
  have HB := Aside0.mk (Below.refl w.heap.size w)
  have H : (if 0 ≤ (l0.length : Int) then (if ((l0.length : Int) : Int).toNat ≤ 35184372088832 then (codewrightref30_Then.l0 k l0 l1 (List.replicate ((l0.length : Int) : Int).toNat 0) 0) else (none)) else (none)) = some r := h
  clear h
  by_cases c3 : 0 ≤ (l0.length : Int)
  · rw [if_pos c3] at H
    have c3b0 := eq_true c3; have c3b1 : decide (0 ≤ (l0.length : Int)) = true := decide_eq_true c3; clear c3
    by_cases c4 : ((l0.length : Int) : Int).toNat ≤ 35184372088832
    · rw [if_pos c4] at H; have c4b0 := eq_true c4; have c4b1 : decide (((l0.length : Int) : Int).toNat ≤ 35184372088832) = true := decide_eq_true c4; clear c4; obtain ⟨y305, hy305⟩ : ∃ y_ : List Int, y_ = (List.replicate ((l0.length : Int) : Int).toNat 0) := ⟨_, rfl⟩; replace H : (codewrightref30_Then.l0 k l0 l1 y305 0) = some r := by first | (rw [hy305]; with_reducible exact H) | (have H2_ := (Option.bind_some _ _).symm.trans H; rw [hy305]; with_reducible exact H2_) | (have H2_ := (Option.bind_some _ _).symm.trans H; with_reducible exact H2_) | with_reducible exact H | (rw [hy305]; exact H) | exact H
      have Ny305 := Aside0.mk hy305; clear hy305; have H' := Aside0.mk H; clear H
      go_enter Try.func43, Try.ntmps43
      go_wp2_with (first | ((with_reducible refine gate_dst (N := 9) rfl ?_); refine Kd.R_make (Kd.int .i64) _ 3 rfl (N := 9) rfl 22 _ _ rfl (l0.length : Int) rfl rfl Try.underlying22 (.int .i64 0) 8 info3 rfl (by decide) (by omega) 0 (ok := fun _ => True) (okp := fun _ => True) rfl (fun _ hk => hk) trivial (of_decide_eq_true zz65) (Nat.le_trans (Nat.mul_le_mul_right _ (of_decide_eq_true zz65 : (l0.length : Int).toNat ≤ 35184372088832)) (by omega)) (Below.refl _ _) (Nat.le_refl _) ?_; intro v306 w5 ho6 hb hg_ hnew_; clear hg_ hnew_; (first | rw [← Ny305.out] at ho6 | (simp only [Int.reduceToNat] at ho6; rw [← Ny305.out] at ho6)); have n0_ := Aside0.mk (Kd.R_lower ho6 (below_size zz55)); have n1_ := Aside0.mk (below_step zz55 hb); clear HB; have HO307 := n0_; have HB := n1_; clear n0_ n1_; clear hb ho6))
      go_loopg [6] k (fun kq v6 w' => ∃ (x5_1 : List Int) (x6_1 : Int), v6 = .int .i64 x6_1 ∧ Aside0 (codewrightref30_Then.l0 kq l0 l1 x5_1 x6_1 = some r) ∧ Aside0 (kq ≤ k) ∧ Aside0 (Kd.R (Kd.int .i64) 3 w' w.heap.size (fun _ => True) v306 x5_1) ∧ Aside0 (Below w.heap.size w w'))
      case atStart => exact ⟨(y305), (0), zz67, H', ⟨Nat.le_refl _⟩, ⟨by (with_reducible repeat (first | apply Kd.R_alloc | apply Kd.R_drewN | apply Kd.R_drew)); exact HO307.out⟩, ⟨by repeat (first | (with_reducible first | exact HB.out | apply below_alloc | apply pw_below_drewN | apply below_drew1) | exact HB.out)⟩⟩
      case round =>
        clear H'; (try clear c1); (try clear p2); (try clear c3); (try clear c3b0); (try clear c3b1); (try clear c4); (try clear c4b0); (try clear c4b1); obtain ⟨x5_1, x6_1, rfl, HA, HK1, HO_5, HB⟩ := hrel
        cases gk with
        | zero => exact absurd HA.out (by simp [codewrightref30_Then.l0])
        | succ k1 =>
          have H := HA.out; clear HA; simp only [codewrightref30_Then.l0] at H
          by_cases c7 : x6_1 < (l0.length : Int)
          · rw [if_pos c7] at H; have c7b0 : decide (x6_1 < (l0.length : Int)) = true := decide_eq_true c7; clear c7
            by_cases c8 : 0 ≤ x6_1
            · rw [if_pos c8] at H; have c8b0 : decide (0 ≤ x6_1) = true := decide_eq_true c8; clear c8
              by_cases c9 : 0 ≤ (rd l0 x6_1)
              · rw [if_pos c9] at H; have c9b0 : decide (0 ≤ (rd l0 x6_1)) = true := decide_eq_true c9; clear c9
                by_cases c10 : (rd l0 x6_1) < (l1.length : Int)
                · rw [if_pos c10] at H; have c10b0 : decide ((rd l0 x6_1) < (l1.length : Int)) = true := decide_eq_true c10; clear c10
                  by_cases c11 : x6_1 < (x5_1.length : Int)
                  · rw [if_pos c11] at H; have c11b0 : decide (x6_1 < (x5_1.length : Int)) = true := decide_eq_true c11; clear c11; obtain ⟨y310, hy310⟩ : ∃ y_ : List Int, y_ = (x5_1.set (x6_1 : Int).toNat (rd l1 (rd l0 x6_1))) := ⟨_, rfl⟩; replace H : (codewrightref30_Then.l0 k1 l0 l1 y310 (wrap64 (x6_1 + 1))) = some r := by first | (rw [hy310]; with_reducible exact H) | (have H2_ := (Option.bind_some _ _).symm.trans H; rw [hy310]; with_reducible exact H2_) | (have H2_ := (Option.bind_some _ _).symm.trans H; with_reducible exact H2_) | with_reducible exact H | (rw [hy310]; exact H) | exact H
                    have Ny310 := Aside0.mk hy310; clear hy310; have H' := Aside0.mk H; clear H; have p308 : 0 ≤ (x6_1 : Int) := of_decide_eq_true zz65; have q308 : x6_1 < (l0.length : Int) := of_decide_eq_true zz65; obtain ⟨ad308, e308, hx308_0⟩ := Kd.at_int HR0.out x6_1 p308 q308
                    cases e308; replace hx308_0 := (HB.out.cell (World.block_lt_of_cell? w _ hx308_0)).trans hx308_0; replace p308 := eq_true p308; replace q308 := eq_true q308; have p309 : 0 ≤ ((rd l0 x6_1) : Int) := of_decide_eq_true zz65; have q309 : (rd l0 x6_1) < (l1.length : Int) := of_decide_eq_true zz65; obtain ⟨ad309, e309, hx309_0⟩ := Kd.at_int HR1.out (rd l0 x6_1) p309 q309
                    cases e309; replace hx309_0 := (HB.out.cell (World.block_lt_of_cell? w _ hx309_0)).trans hx309_0; replace p309 := eq_true p309; replace q309 := eq_true q309; have p12 : 0 ≤ (x6_1 : Int) := of_decide_eq_true zz65; have q12 : (x6_1 : Int) < ((x5_1.length : Int) : Int) := of_decide_eq_true zz65; obtain ⟨go12, co12, eo12, gb12, gl12, cl12, HG12⟩ := Kd.R_form HO_5.out (by omega)
                    (first | cases eo12 | (injection eo12 with ea_ en_ ec_; (first | subst ea_ | (injection ea_ with ea_; subst ea_)); subst ec_; clear en_))
                    have GB12 := Aside0.mk gb12; have GG12 := Aside0.mk HG12; clear gb12 gl12 HG12; obtain ⟨hx12_0, hf12_0⟩ := Kd.R_celln 0 HO_5.out (x6_1 : Int) p12 q12; replace p12 := eq_true p12; replace q12 := eq_true q12; have HP13 := Kd.R_putg HO_5.out (x6_1 : Int) (rd l1 (rd l0 x6_1))
                    go_wp2_with (first | ((with_reducible refine gate_store (t := 3) (p := 25) rfl ?_); refine store_event (t := 3) (p := 25) (v := ?vo_w14) (w1 := (wr.setCell ⟨go12, (x6_1 : Int).toNat, none⟩ (.int .i64 (rd l1 (rd l0 x6_1))))) ?hg ?ho ?hn ?hr ?_; (case ho => rfl); (case hg => rfl); (case hn => rfl); (case hr => first | (go_simp; done) | (go_simp; rfl)); intro w14 hw; have hg : wr.grownBy w14 (some go12) := (by rw [hw]; exact HP13.2); have hp_ : Kd.R (Kd.int .i64) 3 w14 w.heap.size (fun _ => True) (.slice (some ⟨go12, 0, none⟩) x5_1.length co12) y310 := (by rw [hw, Ny310.out]; exact HP13.1); clear HP13; have n0_ := Aside0.mk (hp_); have n1_ := Aside0.mk ((by rw [hw]; exact below_set (HB.out) GB12.out : Below w.heap.size w w14)); clear HO_5; clear HB; have HO_5 := n0_; have HB := n1_; clear n0_ n1_; clear hg hw hp_))
                    go_roundg k1
                    case measure => have := HK1.out; omega
                    case rel => exact ⟨(y310), (wrap64 (x6_1 + 1)), zz67, H', ⟨by have := HK1.out; omega⟩, ⟨by (with_reducible repeat (first | apply Kd.R_alloc | apply Kd.R_drewN | apply Kd.R_drew)); exact HO_5.out⟩, ⟨by repeat (first | (with_reducible first | exact HB.out | apply below_alloc | apply pw_below_drewN | apply below_drew1) | exact HB.out)⟩⟩
                  rw [if_neg c11] at H
                  exact absurd H (by simp)
                rw [if_neg c10] at H
                exact absurd H (by simp)
              rw [if_neg c9] at H
              exact absurd H (by simp)
            rw [if_neg c8] at H
            exact absurd H (by simp)
          rw [if_neg c7] at H; have c7b0 : decide (x6_1 < (l0.length : Int)) = false := decide_eq_false c7; clear c7; obtain rfl := Option.some.inj H; go_wp2; go_ret
          exact ⟨_, by first | rfl | (simp [errW_none, errW_some] <;> rfl) | (simp [*, errW_none, errW_some] <;> rfl), by (with_reducible repeat (first | apply Kd.R_alloc | apply Kd.R_drewN | apply Kd.R_drew)); exact HO_5.out, by repeat (first | (with_reducible first | exact HB.out | apply below_alloc | apply pw_below_drewN | apply below_drew1) | exact HB.out)⟩
    rw [if_neg c4] at H
    exact absurd H (by simp)
  rw [if_neg c3] at H
  exact absurd H (by simp)
end
section
attribute [local go_sem] max2_int min2_int max_two min_two max_three min_three max_four min_four
mutual
def codewrightref30_all.l0 : Nat → Int → List (List Int) → Int → Option (Int)
  | 0, _, _, _ => none
  | k + 1, x0, x1, x5 => if x5 < (x1.length : Int) then (if 0 ≤ x5 then ((codewrightref30_Check.f k (rd_L1 x1 x5)).bind fun t316 => (if t316 = 0 then (codewrightref30_all.l0 k x0 x1 (wrap64 (x5 + 1))) else (some t316))) else (none)) else (codewrightref30_all.l1 k x0 x1 0)
def codewrightref30_all.l1 : Nat → Int → List (List Int) → Int → Option (Int)
  | 0, _, _, _ => none
  | k + 1, x0, x1, x7 => if x7 < (x1.length : Int) then (if 0 ≤ x7 then (if ((rd_L1 x1 x7).length : Int) = x0 then (codewrightref30_all.l1 k x0 x1 (wrap64 (x7 + 1))) else (some 10)) else (none)) else (some 0)
end
def codewrightref30_all.f (k : Nat) (a0 : Int) (l1 : List (List Int)) : Option (Int) := codewrightref30_all.l0 k a0 l1 0
theorem codewrightref30_all.calls (k : Nat) (a0 : Int) (A1 : Option Addr) (c1 : Nat) (l1 : List (List Int)) (r : Int) (w : World) (hr1 : Kd.C (Kd.slice 3 (Kd.int .i64)) w A1 l1.length l1) (hc1 : l1.length ≤ c1) (h : codewrightref30_all.f k a0 l1 = some r) :
    Calls Try.prog 51 #[.int .i64 a0, .slice A1 l1.length c1] w fun e w' => e = .returned (.int .i64 r) ∧ Drawn0 w w' := by
  have HR1 := Aside0.mk hr1
  have HC1 := Aside0.mk hc1
  clear hr1 hc1
  have H : (codewrightref30_all.l0 k a0 l1 0) = some r := h
  clear h
  have H' := Aside0.mk H
  clear H
  go_enter Try.func51, Try.ntmps51
  go_wp2
  go_loopg [5] k (fun kq v5 w' => ∃ (x5_1 : Int), v5 = .int .i64 x5_1 ∧ Aside0 (codewrightref30_all.l0 kq a0 l1 x5_1 = some r) ∧ Aside0 (kq ≤ k) ∧ Drawn0 w w')
  case atStart => exact ⟨(0), zz67, H', ⟨Nat.le_refl _⟩, by repeat (first | exact Drawn0.refl _ | apply Drawn0.step)⟩
  case round =>
    clear H'; (try clear c1); (try clear p2); obtain ⟨x5_1, rfl, HA, HK1, ⟨m1, rfl⟩⟩ := hrel
    cases gk with
    | zero => exact absurd HA.out (by simp [codewrightref30_all.l0])
    | succ k1 =>
      have H := HA.out; clear HA; simp only [codewrightref30_all.l0] at H
      by_cases c3 : x5_1 < (l1.length : Int)
      · rw [if_pos c3] at H; have c3b0 : decide (x5_1 < (l1.length : Int)) = true := decide_eq_true c3; clear c3
        by_cases c4 : 0 ≤ x5_1
        · rw [if_pos c4] at H; have c4b0 : decide (0 ≤ x5_1) = true := decide_eq_true c4; clear c4; replace H := Option.bind_eq_some_iff.mp H; obtain ⟨t316, A50, H⟩ := H; replace H : (if t316 = 0 then (codewrightref30_all.l0 k1 a0 l1 (wrap64 (x5_1 + 1))) else (some t316)) = some r := H; have A5 := Aside0.mk A50; clear A50
          by_cases c6 : t316 = 0
          · rw [if_pos c6] at H; have c6b0 : (t316 == 0) = true := beq_iff_eq.mpr c6; have c6b1 : (t316 != 0) = false := bne_eq_false_iff_eq.mpr c6; clear c6; have H' := Aside0.mk H; clear H; have p315 : 0 ≤ (x5_1 : Int) := of_decide_eq_true zz65; have q315 : x5_1 < (l1.length : Int) := of_decide_eq_true zz65; obtain ⟨ad315, A315_0, c315_0, e315, hx315_0, hl315_0, hi315_0⟩ := at_L1 HR1.out x5_1 p315 q315
            cases e315; have HR315_0 := Aside0.mk hi315_0; have HC315_0 := Aside0.mk hl315_0; clear hi315_0 hl315_0; replace p315 := eq_true p315; replace q315 := eq_true q315
            go_wp2_with (first | ((with_reducible refine gate_callee (f := 17) rfl ?_); refine goesL_ (some 18) rfl rfl Try.func17 (by kernel_rfl) rfl #[.slice A315_0 (rd_L1 l1 x5_1).length c315_0] rfl zz54 ?_; (with_reducible refine (codewrightref30_Check.calls k1 _ _ (rd_L1 l1 x5_1) t316 _ ?side1 ?side2 A5.out).mono ?_); (case side1 => repeat (first | exact HR315_0.out | (with_reducible refine Kd.C_alloc ?_ _) | (with_reducible refine Kd.C_drewN ?_ _) | (with_reducible refine Kd.C_drew ?_))); (case side2 => exact HC315_0.out); rintro e w' ⟨rfl, ⟨nd, rfl⟩⟩; refine ⟨_, rfl, ?_⟩))
            go_roundg k1
            case measure => have := HK1.out; omega
            case rel => exact ⟨(wrap64 (x5_1 + 1)), zz67, H', ⟨by have := HK1.out; omega⟩, by repeat (first | exact Drawn0.refl _ | apply Drawn0.step)⟩
          rw [if_neg c6] at H; have c6b0 : (t316 == 0) = false := beq_eq_false_iff_ne.mpr c6; have c6b1 : (t316 != 0) = true := bne_iff_ne.mpr c6; obtain rfl := Option.some.inj H; have p315 : 0 ≤ (x5_1 : Int) := of_decide_eq_true zz65; have q315 : x5_1 < (l1.length : Int) := of_decide_eq_true zz65; obtain ⟨ad315, A315_0, c315_0, e315, hx315_0, hl315_0, hi315_0⟩ := at_L1 HR1.out x5_1 p315 q315
          cases e315; have HR315_0 := Aside0.mk hi315_0; have HC315_0 := Aside0.mk hl315_0; clear hi315_0 hl315_0; replace p315 := eq_true p315; replace q315 := eq_true q315
          go_wp2_with (first | ((with_reducible refine gate_callee (f := 17) rfl ?_); refine goesL_ (some 18) rfl rfl Try.func17 (by kernel_rfl) rfl #[.slice A315_0 (rd_L1 l1 x5_1).length c315_0] rfl zz54 ?_; (with_reducible refine (codewrightref30_Check.calls k1 _ _ (rd_L1 l1 x5_1) t316 _ ?side1 ?side2 A5.out).mono ?_); (case side1 => repeat (first | exact HR315_0.out | (with_reducible refine Kd.C_alloc ?_ _) | (with_reducible refine Kd.C_drewN ?_ _) | (with_reducible refine Kd.C_drew ?_))); (case side2 => exact HC315_0.out); rintro e w' ⟨rfl, ⟨nd, rfl⟩⟩; refine ⟨_, rfl, ?_⟩))
          go_ret
          exact ⟨by first | rfl | (simp; done) | (simp [*]; done), by repeat (first | exact Drawn0.refl _ | apply Drawn0.step)⟩
        rw [if_neg c4] at H
        exact absurd H (by simp)
      rw [if_neg c3] at H; have c3b0 : decide (x5_1 < (l1.length : Int)) = false := decide_eq_false c3; clear c3; have H' := Aside0.mk H; clear H; go_wp2
      go_loopg [7] k1 (fun kq v7 w' => ∃ (x7_2 : Int), v7 = .int .i64 x7_2 ∧ Aside0 (codewrightref30_all.l1 kq a0 l1 x7_2 = some r) ∧ Aside0 (kq ≤ k1) ∧ Drawn0 w w')
      case atStart => exact ⟨(0), zz67, H', ⟨Nat.le_refl _⟩, by repeat (first | exact Drawn0.refl _ | apply Drawn0.step)⟩
      case round =>
        clear H'; (try clear c1); (try clear p2); (try clear c3); (try clear c3b0); (try clear p3); (try clear q3); (try clear hx3); (try clear c4); (try clear c4b0); (try clear c5); (try clear c6); (try clear c6b0); (try clear c6b1); (try clear p6); (try clear hx315_0); (try clear p2); (try clear p315); (try clear q315); obtain ⟨x7_2, rfl, HA, HK2, ⟨m2, rfl⟩⟩ := hrel
        cases gk with
        | zero => exact absurd HA.out (by simp [codewrightref30_all.l1])
        | succ k2 =>
          have H := HA.out; clear HA; simp only [codewrightref30_all.l1] at H
          by_cases c7 : x7_2 < (l1.length : Int)
          · rw [if_pos c7] at H; have c7b0 : decide (x7_2 < (l1.length : Int)) = true := decide_eq_true c7; clear c7
            by_cases c8 : 0 ≤ x7_2
            · rw [if_pos c8] at H; have c8b0 : decide (0 ≤ x7_2) = true := decide_eq_true c8; clear c8
              by_cases c9 : ((rd_L1 l1 x7_2).length : Int) = a0
              · rw [if_pos c9] at H; have c9b0 : (((rd_L1 l1 x7_2).length : Int) == a0) = true := beq_iff_eq.mpr c9; have c9b1 : (((rd_L1 l1 x7_2).length : Int) != a0) = false := bne_eq_false_iff_eq.mpr c9; clear c9; have H' := Aside0.mk H; clear H; have p317 : 0 ≤ (x7_2 : Int) := of_decide_eq_true zz65; have q317 : x7_2 < (l1.length : Int) := of_decide_eq_true zz65; obtain ⟨ad317, A317_0, c317_0, e317, hx317_0, hl317_0, hi317_0⟩ := at_L1 HR1.out x7_2 p317 q317
                cases e317; have HR317_0 := Aside0.mk hi317_0; have HC317_0 := Aside0.mk hl317_0; clear hi317_0 hl317_0; replace p317 := eq_true p317; replace q317 := eq_true q317; go_wp2
                go_roundg k2
                case measure => have := HK1.out; have := HK2.out; omega
                case rel => exact ⟨(wrap64 (x7_2 + 1)), zz67, H', ⟨by have := HK1.out; have := HK2.out; omega⟩, by repeat (first | exact Drawn0.refl _ | apply Drawn0.step)⟩
              rw [if_neg c9] at H; have c9b0 : (((rd_L1 l1 x7_2).length : Int) == a0) = false := beq_eq_false_iff_ne.mpr c9; have c9b1 : (((rd_L1 l1 x7_2).length : Int) != a0) = true := bne_iff_ne.mpr c9; obtain rfl := Option.some.inj H; have p317 : 0 ≤ (x7_2 : Int) := of_decide_eq_true zz65; have q317 : x7_2 < (l1.length : Int) := of_decide_eq_true zz65; obtain ⟨ad317, A317_0, c317_0, e317, hx317_0, hl317_0, hi317_0⟩ := at_L1 HR1.out x7_2 p317 q317
              cases e317; have HR317_0 := Aside0.mk hi317_0; have HC317_0 := Aside0.mk hl317_0; clear hi317_0 hl317_0; replace p317 := eq_true p317; replace q317 := eq_true q317; go_wp2; go_ret
              exact ⟨by first | rfl | (simp; done) | (simp [*]; done), by repeat (first | exact Drawn0.refl _ | apply Drawn0.step)⟩
            rw [if_neg c8] at H
            exact absurd H (by simp)
          rw [if_neg c7] at H; have c7b0 : decide (x7_2 < (l1.length : Int)) = false := decide_eq_false c7; clear c7; obtain rfl := Option.some.inj H; go_wp2; go_ret
          exact ⟨by first | rfl | (simp; done) | (simp [*]; done), by repeat (first | exact Drawn0.refl _ | apply Drawn0.step)⟩
end
section
attribute [local go_sem] max2_int min2_int max_two min_two max_three min_three max_four min_four
def codewrightref30_Compose.l0 : Nat → List (List Int) → List Int → Int → Option (List Int × Int)
  | 0, _, _, _ => none
  | k + 1, x0, x5, x6 => if x6 < (x0.length : Int) then (if 0 ≤ x6 then ((codewrightref30_Then.f k x5 (rd_L1 x0 x6)).bind fun t325 => (codewrightref30_Compose.l0 k x0 t325 (wrap64 (x6 + 1)))) else (none)) else (some (x5, 0))
def codewrightref30_Compose.f (k : Nat) (l0 : List (List Int)) : Option (List Int × Int) := if (l0.length : Int) = 0 then (some (([] : List Int), 11)) else (if 0 < (l0.length : Int) then ((codewrightref30_all.f k ((rd_L1 l0 0).length : Int) l0).bind fun t319 => (if t319 = 0 then ((codewrightref30_Unit.f k ((rd_L1 l0 0).length : Int)).bind fun t321 => (codewrightref30_Compose.l0 k l0 t321 0)) else (some (([] : List Int), t319)))) else (none))
theorem codewrightref30_Compose.calls (k : Nat) (A0 : Option Addr) (c0 : Nat) (l0 : List (List Int)) (r1 : List Int) (r2 : Int) (w : World) (hr0 : Kd.C (Kd.slice 3 (Kd.int .i64)) w A0 l0.length l0) (hc0 : l0.length ≤ c0) (h : codewrightref30_Compose.f k l0 = some (r1, r2)) :
    Calls Try.prog 14 #[.slice A0 l0.length c0] w fun e w' => ∃ v0_ : Value, e = .returned (.tuple #[v0_, .int .i64 r2]) ∧ Kd.R (Kd.int .i64) 3 w' w.heap.size (fun _ => True) v0_ r1 ∧ Below w.heap.size w w' := by
  have HR0 := Aside0.mk hr0
  have HC0 := Aside0.mk hc0
  clear hr0 hc0
  have HB := Aside0.mk (Below.refl w.heap.size w)
  have H : (if (l0.length : Int) = 0 then (some (([] : List Int), 11)) else (if 0 < (l0.length : Int) then ((codewrightref30_all.f k ((rd_L1 l0 0).length : Int) l0).bind fun t319 => (if t319 = 0 then ((codewrightref30_Unit.f k ((rd_L1 l0 0).length : Int)).bind fun t321 => (codewrightref30_Compose.l0 k l0 t321 0)) else (some (([] : List Int), t319)))) else (none))) = some (r1, r2) := h
  clear h
  by_cases c2 : (l0.length : Int) = 0
  · rw [if_pos c2] at H
    have c2b0 : ((l0.length : Int) == 0) = true := beq_iff_eq.mpr c2; have c2b1 : ((l0.length : Int) != 0) = false := bne_eq_false_iff_eq.mpr c2; clear c2; simp only [Option.some.injEq, Prod.mk.injEq] at H; obtain ⟨rfl, rfl⟩ := H
    go_enter Try.func14, Try.ntmps14
    go_wp2
    go_ret2
    exact ⟨_, by first | rfl | (simp [errW_none, errW_some] <;> rfl) | (simp [*, errW_none, errW_some] <;> rfl), by first | exact Kd.R_nil _ _ _ _ _ | exact Kd.N_nil _ _ _ _ _ | exact Kd.V_nil _ _ _ _ _ | exact Kd.Q_nil _ _ _ _ _ | exact Kd.S_nil _ _ _ _ _, by repeat (first | (with_reducible first | exact HB.out | apply below_alloc | apply pw_below_drewN | apply below_drew1) | exact HB.out)⟩
  rw [if_neg c2] at H
  have c2b0 : ((l0.length : Int) == 0) = false := beq_eq_false_iff_ne.mpr c2
  have c2b1 : ((l0.length : Int) != 0) = true := bne_iff_ne.mpr c2
  have c2b2 : ¬ (l0 = []) := fun h_ => c2 (by rw [h_]; rfl)
  by_cases c3 : 0 < (l0.length : Int)
  · rw [if_pos c3] at H
    have c3b0 : decide (0 < (l0.length : Int)) = true := decide_eq_true c3; have c3b1 : decide (0 < l0.length) = true := decide_eq_true (by omega); clear c3; replace H := Option.bind_eq_some_iff.mp H; obtain ⟨t319, A40, H⟩ := H; replace H : (if t319 = 0 then ((codewrightref30_Unit.f k ((rd_L1 l0 0).length : Int)).bind fun t321 => (codewrightref30_Compose.l0 k l0 t321 0)) else (some (([] : List Int), t319))) = some (r1, r2) := H; have A4 := Aside0.mk A40; clear A40
    by_cases c5 : t319 = 0
    · rw [if_pos c5] at H; have c5b0 : (t319 == 0) = true := beq_iff_eq.mpr c5; have c5b1 : (t319 != 0) = false := bne_eq_false_iff_eq.mpr c5; clear c5; replace H := Option.bind_eq_some_iff.mp H; obtain ⟨t321, A60, H⟩ := H; replace H : (codewrightref30_Compose.l0 k l0 t321 0) = some (r1, r2) := H; have A6 := Aside0.mk A60; clear A60; have H' := Aside0.mk H; clear H; have p318 : 0 ≤ (0 : Int) := (by omega); have q318 : 0 < (l0.length : Int) := of_decide_eq_true zz65; obtain ⟨ad318, A318_0, c318_0, e318, hx318_0, hl318_0, hi318_0⟩ := at_L1 HR0.out 0 p318 q318
      cases e318; have qi318 : (0 < l0.length) = True := eq_true (by omega)
      (try rw [show ((0 : Int)).toNat = 0 from rfl] at hx318_0)
      (try rw [Addr.add_zero'] at hx318_0)
      have HR318_0 := Aside0.mk hi318_0; have HC318_0 := Aside0.mk hl318_0; clear hi318_0 hl318_0; replace p318 := eq_true p318; replace q318 := eq_true q318
      go_enter Try.func14, Try.ntmps14
      go_wp2_with (first | ((with_reducible refine gate_callee (f := 51) rfl ?_); refine goesL_ (some 15) rfl rfl Try.func51 (by kernel_rfl) rfl #[.int .i64 ((rd_L1 l0 0).length : Int), .slice (some ad318) l0.length c0] rfl zz54 ?_; (with_reducible refine (codewrightref30_all.calls k ((rd_L1 l0 0).length : Int) _ _ l0 t319 _ ?side1 ?side2 A4.out).mono ?_); (case side1 => repeat (first | exact HR0.out | (with_reducible refine Kd.C_alloc ?_ _) | (with_reducible refine Kd.C_drewN ?_ _) | (with_reducible refine Kd.C_drew ?_))); (case side2 => exact HC0.out); rintro e w' ⟨rfl, ⟨nd, rfl⟩⟩; refine ⟨_, rfl, ?_⟩; have p320 : 0 ≤ (0 : Int) := (by omega); have q320 : 0 < (l0.length : Int) := of_decide_eq_true zz65; obtain ⟨ad320, A320_0, c320_0, e320, hx320_0, hl320_0, hi320_0⟩ := at_L1 HR0.out 0 p320 q320; obtain rfl : ad318 = ad320 := (by injection e320); have qi320 : (0 < l0.length) = True := eq_true (by omega); (try rw [show ((0 : Int)).toNat = 0 from rfl] at hx320_0); (try rw [Addr.add_zero'] at hx320_0); have HR320_0 := Aside0.mk hi320_0; have HC320_0 := Aside0.mk hl320_0; clear hi320_0 hl320_0; replace p320 := eq_true p320; replace q320 := eq_true q320; have ea_ := Option.some.inj (hx318_0.symm.trans hx320_0); injection ea_ with ea_ en_ ec_; subst ea_; subst ec_; clear en_) | ((with_reducible refine gate_callee (f := 26) rfl ?_); refine goesL_ (some 23) rfl rfl Try.func26 (by kernel_rfl) rfl #[.int .i64 ((rd_L1 l0 0).length : Int)] rfl zz54 ?_; (with_reducible refine (codewrightref30_Unit.calls k ((rd_L1 l0 0).length : Int) t321 _ A6.out).mono ?_); rintro e w7 ⟨v322, rfl, ho0, hb⟩; refine ⟨_, rfl, ?_⟩; have n0_ := Aside0.mk (Kd.R_lower ho0 (below_size zz55)); have n1_ := Aside0.mk (below_step zz55 hb); clear HB; have HO323 := n0_; have HB := n1_; clear n0_ n1_; (try clear hb); (try clear hb2); (try clear hk); (try clear hi); (try clear ho0)))
      go_loopg [5, 6] k (fun kq v5 v6 w' => ∃ (x5_1 : List Int) (x6_1 : Int), v6 = .int .i64 x6_1 ∧ Aside0 (codewrightref30_Compose.l0 kq l0 x5_1 x6_1 = some (r1, r2)) ∧ Aside0 (kq ≤ k) ∧ Aside0 (Kd.R (Kd.int .i64) 3 w' w.heap.size (fun _ => True) v5 x5_1) ∧ Aside0 (Below w.heap.size w w'))
      case atStart => exact ⟨(t321), (0), zz67, H', ⟨Nat.le_refl _⟩, ⟨by (with_reducible repeat (first | apply Kd.R_alloc | apply Kd.R_drewN | apply Kd.R_drew)); exact HO323.out⟩, ⟨by repeat (first | (with_reducible first | exact HB.out | apply below_alloc | apply pw_below_drewN | apply below_drew1) | exact HB.out)⟩⟩
      case round =>
        clear H'; (try clear c1); (try clear c2); (try clear c2b0); (try clear c2b1); (try clear c2b2); (try clear p2); (try clear c3); (try clear c3b0); (try clear c3b1); (try clear p3); (try clear q3); (try clear hx3); (try clear qi3); (try clear c5); (try clear c5b0); (try clear c5b1); (try clear hx318_0); (try clear hx320_0); (try clear p318); (try clear p320); (try clear q318); (try clear q320); obtain ⟨x5_1, x6_1, rfl, HA, HK1, HO_5, HB⟩ := hrel
        cases gk with
        | zero => exact absurd HA.out (by simp [codewrightref30_Compose.l0])
        | succ k1 =>
          have H := HA.out; clear HA; simp only [codewrightref30_Compose.l0] at H
          by_cases c8 : x6_1 < (l0.length : Int)
          · rw [if_pos c8] at H; have c8b0 : decide (x6_1 < (l0.length : Int)) = true := decide_eq_true c8; clear c8
            by_cases c9 : 0 ≤ x6_1
            · rw [if_pos c9] at H; have c9b0 : decide (0 ≤ x6_1) = true := decide_eq_true c9; clear c9; replace H := Option.bind_eq_some_iff.mp H; obtain ⟨t325, A100, H⟩ := H; replace H : (codewrightref30_Compose.l0 k1 l0 t325 (wrap64 (x6_1 + 1))) = some (r1, r2) := H; have A10 := Aside0.mk A100; clear A100; have H' := Aside0.mk H; clear H; have p324 : 0 ≤ (x6_1 : Int) := of_decide_eq_true zz65; have q324 : x6_1 < (l0.length : Int) := of_decide_eq_true zz65; obtain ⟨ad324, A324_0, c324_0, e324, hx324_0, hl324_0, hi324_0⟩ := at_L1 HR0.out x6_1 p324 q324; obtain rfl : ad318 = ad324 := (by injection e324); replace hx324_0 := (HB.out.cell (World.block_lt_of_cell? w _ hx324_0)).trans hx324_0; have HR324_0 := Aside0.mk hi324_0; have HC324_0 := Aside0.mk hl324_0; clear hi324_0 hl324_0; replace p324 := eq_true p324; replace q324 := eq_true q324; obtain ⟨Ao11, co11, eo11⟩ := Kd.R_slice HO_5.out; subst eo11
              go_wp2_with (first | ((with_reducible refine gate_callee (f := 43) rfl ?_); refine goesL_ (some 35) rfl rfl Try.func43 (by kernel_rfl) rfl #[.slice Ao11 x5_1.length co11, .slice A324_0 (rd_L1 l0 x6_1).length c324_0] rfl zz54 ?_; (with_reducible refine (codewrightref30_Then.calls k1 _ _ x5_1 _ _ (rd_L1 l0 x6_1) t325 _ ?side1 ?side2 ?side3 ?side4 A10.out).mono ?_); (case side1 => repeat (first | exact (Kd.R_reads' HO_5.out).2.2 | (with_reducible refine Kd.C_alloc ?_ _) | (with_reducible refine Kd.C_drewN ?_ _) | (with_reducible refine Kd.C_drew ?_))); (case side2 => exact (Kd.R_reads' HO_5.out).2.1); (case side3 => repeat (first | exact (Kd.C_below HR324_0.out HB.out) | (with_reducible refine Kd.C_alloc ?_ _) | (with_reducible refine Kd.C_drewN ?_ _) | (with_reducible refine Kd.C_drew ?_))); (case side4 => exact HC324_0.out); rintro e w12 ⟨v326, rfl, ho0, hb⟩; refine ⟨_, rfl, ?_⟩; have n0_ := Aside0.mk (Kd.R_elder' (zR HO_5) (Kd.R_base ho0) hb); have n1_ := Aside0.mk (Kd.R_lower (Kd.R_new' ho0 (Kd.R_lt (zR HO_5))) (below_size zz55)); have n2_ := Aside0.mk (below_step zz55 hb); clear HO_5; clear HB; have HO_5 := n0_; have HO327 := n1_; have HB := n2_; clear n0_ n1_ n2_; (try clear hb); (try clear hb2); (try clear hk); (try clear hi); (try clear ho0)))
              go_roundg k1
              case measure => have := HK1.out; omega
              case rel => exact ⟨(t325), (wrap64 (x6_1 + 1)), zz67, H', ⟨by have := HK1.out; omega⟩, ⟨by (with_reducible repeat (first | apply Kd.R_alloc | apply Kd.R_drewN | apply Kd.R_drew)); exact Kd.R_mono HO327.out (fun _ hk => trivial)⟩, ⟨by repeat (first | (with_reducible first | exact HB.out | apply below_alloc | apply pw_below_drewN | apply below_drew1) | exact HB.out)⟩⟩
            rw [if_neg c9] at H
            exact absurd H (by simp)
          rw [if_neg c8] at H; have c8b0 : decide (x6_1 < (l0.length : Int)) = false := decide_eq_false c8; clear c8; simp only [Option.some.injEq, Prod.mk.injEq] at H; obtain ⟨rfl, rfl⟩ := H; go_wp2
          go_ret2
          exact ⟨_, by first | rfl | (simp [errW_none, errW_some] <;> rfl) | (simp [*, errW_none, errW_some] <;> rfl), by (with_reducible repeat (first | apply Kd.R_alloc | apply Kd.R_drewN | apply Kd.R_drew)); exact HO_5.out, by repeat (first | (with_reducible first | exact HB.out | apply below_alloc | apply pw_below_drewN | apply below_drew1) | exact HB.out)⟩
    rw [if_neg c5] at H; have c5b0 : (t319 == 0) = false := beq_eq_false_iff_ne.mpr c5; have c5b1 : (t319 != 0) = true := bne_iff_ne.mpr c5; simp only [Option.some.injEq, Prod.mk.injEq] at H; obtain ⟨rfl, rfl⟩ := H; have p318 : 0 ≤ (0 : Int) := (by omega); have q318 : 0 < (l0.length : Int) := of_decide_eq_true zz65; obtain ⟨ad318, A318_0, c318_0, e318, hx318_0, hl318_0, hi318_0⟩ := at_L1 HR0.out 0 p318 q318
    cases e318; have qi318 : (0 < l0.length) = True := eq_true (by omega)
    (try rw [show ((0 : Int)).toNat = 0 from rfl] at hx318_0)
    (try rw [Addr.add_zero'] at hx318_0)
    have HR318_0 := Aside0.mk hi318_0; have HC318_0 := Aside0.mk hl318_0; clear hi318_0 hl318_0; replace p318 := eq_true p318; replace q318 := eq_true q318
    go_enter Try.func14, Try.ntmps14
    go_wp2_with (first | ((with_reducible refine gate_callee (f := 51) rfl ?_); refine goesL_ (some 15) rfl rfl Try.func51 (by kernel_rfl) rfl #[.int .i64 ((rd_L1 l0 0).length : Int), .slice (some ad318) l0.length c0] rfl zz54 ?_; (with_reducible refine (codewrightref30_all.calls k ((rd_L1 l0 0).length : Int) _ _ l0 t319 _ ?side1 ?side2 A4.out).mono ?_); (case side1 => repeat (first | exact HR0.out | (with_reducible refine Kd.C_alloc ?_ _) | (with_reducible refine Kd.C_drewN ?_ _) | (with_reducible refine Kd.C_drew ?_))); (case side2 => exact HC0.out); rintro e w' ⟨rfl, ⟨nd, rfl⟩⟩; refine ⟨_, rfl, ?_⟩))
    go_ret2
    exact ⟨_, by first | rfl | (simp [errW_none, errW_some] <;> rfl) | (simp [*, errW_none, errW_some] <;> rfl), by first | exact Kd.R_nil _ _ _ _ _ | exact Kd.N_nil _ _ _ _ _ | exact Kd.V_nil _ _ _ _ _ | exact Kd.Q_nil _ _ _ _ _ | exact Kd.S_nil _ _ _ _ _, by repeat (first | (with_reducible first | exact HB.out | apply below_alloc | apply pw_below_drewN | apply below_drew1) | exact HB.out)⟩
  rw [if_neg c3] at H
  exact absurd H (by simp)
end
section
attribute [local go_sem] max2_int min2_int max_two min_two max_three min_three max_four min_four
def codewrightref30_Back.l0 : Nat → List Int → List Int → Int → Option (List Int)
  | 0, _, _, _ => none
  | k + 1, x0, x3, x4 => if x4 < (x0.length : Int) then (if 0 ≤ x4 then (if 0 ≤ (rd x0 x4) then (if (rd x0 x4) < (x3.length : Int) then (codewrightref30_Back.l0 k x0 (x3.set ((rd x0 x4) : Int).toNat x4) (wrap64 (x4 + 1))) else (none)) else (none)) else (none)) else (some x3)
def codewrightref30_Back.f (k : Nat) (l0 : List Int) : Option (List Int) := if 0 ≤ (l0.length : Int) then (if ((l0.length : Int) : Int).toNat ≤ 35184372088832 then (codewrightref30_Back.l0 k l0 (List.replicate ((l0.length : Int) : Int).toNat 0) 0) else (none)) else (none)
theorem codewrightref30_Back.calls (k : Nat) (A0 : Option Addr) (c0 : Nat) (l0 : List Int) (r : List Int) (w : World) (hr0 : Kd.C (Kd.int .i64) w A0 l0.length l0) (hc0 : l0.length ≤ c0) (h : codewrightref30_Back.f k l0 = some r) :
    Calls Try.prog 44 #[.slice A0 l0.length c0] w fun e w' => ∃ v0_ : Value, e = .returned (v0_) ∧ Kd.R (Kd.int .i64) 3 w' w.heap.size (fun _ => True) v0_ r ∧ Below w.heap.size w w' := by
  have HR0 := Aside0.mk hr0
  have HC0 := Aside0.mk hc0
  clear hr0 hc0
  have HB := Aside0.mk (Below.refl w.heap.size w)
  have H : (if 0 ≤ (l0.length : Int) then (if ((l0.length : Int) : Int).toNat ≤ 35184372088832 then (codewrightref30_Back.l0 k l0 (List.replicate ((l0.length : Int) : Int).toNat 0) 0) else (none)) else (none)) = some r := h
  clear h
  by_cases c2 : 0 ≤ (l0.length : Int)
  · rw [if_pos c2] at H
    have c2b0 := eq_true c2; have c2b1 : decide (0 ≤ (l0.length : Int)) = true := decide_eq_true c2; clear c2
    by_cases c3 : ((l0.length : Int) : Int).toNat ≤ 35184372088832
    · rw [if_pos c3] at H; have c3b0 := eq_true c3; have c3b1 : decide (((l0.length : Int) : Int).toNat ≤ 35184372088832) = true := decide_eq_true c3; clear c3; obtain ⟨y328, hy328⟩ : ∃ y_ : List Int, y_ = (List.replicate ((l0.length : Int) : Int).toNat 0) := ⟨_, rfl⟩; replace H : (codewrightref30_Back.l0 k l0 y328 0) = some r := by first | (rw [hy328]; with_reducible exact H) | (have H2_ := (Option.bind_some _ _).symm.trans H; rw [hy328]; with_reducible exact H2_) | (have H2_ := (Option.bind_some _ _).symm.trans H; with_reducible exact H2_) | with_reducible exact H | (rw [hy328]; exact H) | exact H
      have Ny328 := Aside0.mk hy328; clear hy328; have H' := Aside0.mk H; clear H
      go_enter Try.func44, Try.ntmps44
      go_wp2_with (first | ((with_reducible refine gate_dst (N := 7) rfl ?_); refine Kd.R_make (Kd.int .i64) _ 3 rfl (N := 7) rfl 22 _ _ rfl (l0.length : Int) rfl rfl Try.underlying22 (.int .i64 0) 8 info3 rfl (by decide) (by omega) 0 (ok := fun _ => True) (okp := fun _ => True) rfl (fun _ hk => hk) trivial (of_decide_eq_true zz65) (Nat.le_trans (Nat.mul_le_mul_right _ (of_decide_eq_true zz65 : (l0.length : Int).toNat ≤ 35184372088832)) (by omega)) (Below.refl _ _) (Nat.le_refl _) ?_; intro v329 w4 ho5 hb hg_ hnew_; clear hg_ hnew_; (first | rw [← Ny328.out] at ho5 | (simp only [Int.reduceToNat] at ho5; rw [← Ny328.out] at ho5)); have n0_ := Aside0.mk (Kd.R_lower ho5 (below_size zz55)); have n1_ := Aside0.mk (below_step zz55 hb); clear HB; have HO330 := n0_; have HB := n1_; clear n0_ n1_; clear hb ho5))
      go_loopg [4] k (fun kq v4 w' => ∃ (x3_1 : List Int) (x4_1 : Int), v4 = .int .i64 x4_1 ∧ Aside0 (codewrightref30_Back.l0 kq l0 x3_1 x4_1 = some r) ∧ Aside0 (kq ≤ k) ∧ Aside0 (Kd.R (Kd.int .i64) 3 w' w.heap.size (fun _ => True) v329 x3_1) ∧ Aside0 (Below w.heap.size w w'))
      case atStart => exact ⟨(y328), (0), zz67, H', ⟨Nat.le_refl _⟩, ⟨by (with_reducible repeat (first | apply Kd.R_alloc | apply Kd.R_drewN | apply Kd.R_drew)); exact HO330.out⟩, ⟨by repeat (first | (with_reducible first | exact HB.out | apply below_alloc | apply pw_below_drewN | apply below_drew1) | exact HB.out)⟩⟩
      case round =>
        clear H'; (try clear c2); (try clear c2b0); (try clear c2b1); (try clear p2); (try clear c3); (try clear c3b0); (try clear c3b1); (try clear c4); obtain ⟨x3_1, x4_1, rfl, HA, HK1, HO_3, HB⟩ := hrel
        cases gk with
        | zero => exact absurd HA.out (by simp [codewrightref30_Back.l0])
        | succ k1 =>
          have H := HA.out; clear HA; simp only [codewrightref30_Back.l0] at H
          by_cases c6 : x4_1 < (l0.length : Int)
          · rw [if_pos c6] at H; have c6b0 : decide (x4_1 < (l0.length : Int)) = true := decide_eq_true c6; clear c6
            by_cases c7 : 0 ≤ x4_1
            · rw [if_pos c7] at H; have c7b0 : decide (0 ≤ x4_1) = true := decide_eq_true c7; clear c7
              by_cases c8 : 0 ≤ (rd l0 x4_1)
              · rw [if_pos c8] at H; have c8b0 : decide (0 ≤ (rd l0 x4_1)) = true := decide_eq_true c8; clear c8
                by_cases c9 : (rd l0 x4_1) < (x3_1.length : Int)
                · rw [if_pos c9] at H; have c9b0 : decide ((rd l0 x4_1) < (x3_1.length : Int)) = true := decide_eq_true c9; clear c9; obtain ⟨y332, hy332⟩ : ∃ y_ : List Int, y_ = (x3_1.set ((rd l0 x4_1) : Int).toNat x4_1) := ⟨_, rfl⟩; replace H : (codewrightref30_Back.l0 k1 l0 y332 (wrap64 (x4_1 + 1))) = some r := by first | (rw [hy332]; with_reducible exact H) | (have H2_ := (Option.bind_some _ _).symm.trans H; rw [hy332]; with_reducible exact H2_) | (have H2_ := (Option.bind_some _ _).symm.trans H; with_reducible exact H2_) | with_reducible exact H | (rw [hy332]; exact H) | exact H
                  have Ny332 := Aside0.mk hy332; clear hy332; have H' := Aside0.mk H; clear H; have p331 : 0 ≤ (x4_1 : Int) := of_decide_eq_true zz65; have q331 : x4_1 < (l0.length : Int) := of_decide_eq_true zz65; obtain ⟨ad331, e331, hx331_0⟩ := Kd.at_int HR0.out x4_1 p331 q331
                  cases e331; replace hx331_0 := (HB.out.cell (World.block_lt_of_cell? w _ hx331_0)).trans hx331_0; replace p331 := eq_true p331; replace q331 := eq_true q331; have p10 : 0 ≤ ((rd l0 x4_1) : Int) := of_decide_eq_true zz65; have q10 : ((rd l0 x4_1) : Int) < ((x3_1.length : Int) : Int) := of_decide_eq_true zz65; obtain ⟨go10, co10, eo10, gb10, gl10, cl10, HG10⟩ := Kd.R_form HO_3.out (by omega)
                  (first | cases eo10 | (injection eo10 with ea_ en_ ec_; (first | subst ea_ | (injection ea_ with ea_; subst ea_)); subst ec_; clear en_))
                  have GB10 := Aside0.mk gb10; have GG10 := Aside0.mk HG10; clear gb10 gl10 HG10; obtain ⟨hx10_0, hf10_0⟩ := Kd.R_celln 0 HO_3.out ((rd l0 x4_1) : Int) p10 q10; replace p10 := eq_true p10; replace q10 := eq_true q10; have HP11 := Kd.R_putg HO_3.out ((rd l0 x4_1) : Int) x4_1
                  go_wp2_with (first | ((with_reducible refine gate_store (t := 3) (p := 20) rfl ?_); refine store_event (t := 3) (p := 20) (v := ?vo_w12) (w1 := (wr.setCell ⟨go10, ((rd l0 x4_1) : Int).toNat, none⟩ (.int .i64 x4_1))) ?hg ?ho ?hn ?hr ?_; (case ho => rfl); (case hg => rfl); (case hn => rfl); (case hr => first | (go_simp; done) | (go_simp; rfl)); intro w12 hw; have hg : wr.grownBy w12 (some go10) := (by rw [hw]; exact HP11.2); have hp_ : Kd.R (Kd.int .i64) 3 w12 w.heap.size (fun _ => True) (.slice (some ⟨go10, 0, none⟩) x3_1.length co10) y332 := (by rw [hw, Ny332.out]; exact HP11.1); clear HP11; have n0_ := Aside0.mk (hp_); have n1_ := Aside0.mk ((by rw [hw]; exact below_set (HB.out) GB10.out : Below w.heap.size w w12)); clear HO_3; clear HB; have HO_3 := n0_; have HB := n1_; clear n0_ n1_; clear hg hw hp_))
                  go_roundg k1
                  case measure => have := HK1.out; omega
                  case rel => exact ⟨(y332), (wrap64 (x4_1 + 1)), zz67, H', ⟨by have := HK1.out; omega⟩, ⟨by (with_reducible repeat (first | apply Kd.R_alloc | apply Kd.R_drewN | apply Kd.R_drew)); exact HO_3.out⟩, ⟨by repeat (first | (with_reducible first | exact HB.out | apply below_alloc | apply pw_below_drewN | apply below_drew1) | exact HB.out)⟩⟩
                rw [if_neg c9] at H
                exact absurd H (by simp)
              rw [if_neg c8] at H
              exact absurd H (by simp)
            rw [if_neg c7] at H
            exact absurd H (by simp)
          rw [if_neg c6] at H; have c6b0 : decide (x4_1 < (l0.length : Int)) = false := decide_eq_false c6; clear c6; obtain rfl := Option.some.inj H; go_wp2; go_ret
          exact ⟨_, by first | rfl | (simp [errW_none, errW_some] <;> rfl) | (simp [*, errW_none, errW_some] <;> rfl), by (with_reducible repeat (first | apply Kd.R_alloc | apply Kd.R_drewN | apply Kd.R_drew)); exact HO_3.out, by repeat (first | (with_reducible first | exact HB.out | apply below_alloc | apply pw_below_drewN | apply below_drew1) | exact HB.out)⟩
    rw [if_neg c3] at H
    exact absurd H (by simp)
  rw [if_neg c2] at H
  exact absurd H (by simp)
end
section
attribute [local go_sem] max2_int min2_int max_two min_two max_three min_three max_four min_four
def codewrightref30_Inverse.f (k : Nat) (l0 : List Int) : Option (List Int × Int) := (codewrightref30_Check.f k l0).bind fun t333 => (if t333 = 0 then ((codewrightref30_Back.f k l0).bind fun t334 => (some (t334, 0))) else (some (([] : List Int), t333)))
theorem codewrightref30_Inverse.calls (k : Nat) (A0 : Option Addr) (c0 : Nat) (l0 : List Int) (r1 : List Int) (r2 : Int) (w : World) (hr0 : Kd.C (Kd.int .i64) w A0 l0.length l0) (hc0 : l0.length ≤ c0) (h : codewrightref30_Inverse.f k l0 = some (r1, r2)) :
    Calls Try.prog 19 #[.slice A0 l0.length c0] w fun e w' => ∃ v0_ : Value, e = .returned (.tuple #[v0_, .int .i64 r2]) ∧ Kd.R (Kd.int .i64) 3 w' w.heap.size (fun _ => True) v0_ r1 ∧ Below w.heap.size w w' := by
  have HR0 := Aside0.mk hr0
  have HC0 := Aside0.mk hc0
  clear hr0 hc0
  have HB := Aside0.mk (Below.refl w.heap.size w)
  have H : ((codewrightref30_Check.f k l0).bind fun t333 => (if t333 = 0 then ((codewrightref30_Back.f k l0).bind fun t334 => (some (t334, 0))) else (some (([] : List Int), t333)))) = some (r1, r2) := h
  clear h
  replace H := Option.bind_eq_some_iff.mp H
  obtain ⟨t333, A20, H⟩ := H
  replace H : (if t333 = 0 then ((codewrightref30_Back.f k l0).bind fun t334 => (some (t334, 0))) else (some (([] : List Int), t333))) = some (r1, r2) := H
  have A2 := Aside0.mk A20
  clear A20
  by_cases c3 : t333 = 0
  · rw [if_pos c3] at H
    have c3b0 : (t333 == 0) = true := beq_iff_eq.mpr c3; have c3b1 : (t333 != 0) = false := bne_eq_false_iff_eq.mpr c3; clear c3; replace H := Option.bind_eq_some_iff.mp H; obtain ⟨t334, A40, H⟩ := H; replace H : (some (t334, 0)) = some (r1, r2) := H; have A4 := Aside0.mk A40; clear A40; simp only [Option.some.injEq, Prod.mk.injEq] at H; obtain ⟨rfl, rfl⟩ := H
    go_enter Try.func19, Try.ntmps19
    go_wp2_with (first | ((with_reducible refine gate_callee (f := 17) rfl ?_); refine goesL_ (some 6) rfl rfl Try.func17 (by kernel_rfl) rfl #[.slice A0 l0.length c0] rfl zz54 ?_; (with_reducible refine (codewrightref30_Check.calls k _ _ l0 t333 _ ?side1 ?side2 A2.out).mono ?_); (case side1 => repeat (first | exact HR0.out | (with_reducible refine Kd.C_alloc ?_ _) | (with_reducible refine Kd.C_drewN ?_ _) | (with_reducible refine Kd.C_drew ?_))); (case side2 => exact HC0.out); rintro e w' ⟨rfl, ⟨nd, rfl⟩⟩; refine ⟨_, rfl, ?_⟩) | ((with_reducible refine gate_callee (f := 44) rfl ?_); refine goesL_ (some 11) rfl rfl Try.func44 (by kernel_rfl) rfl #[.slice A0 l0.length c0] rfl zz54 ?_; (with_reducible refine (codewrightref30_Back.calls k _ _ l0 t334 _ ?side1 ?side2 A4.out).mono ?_); (case side1 => repeat (first | exact HR0.out | (with_reducible refine Kd.C_alloc ?_ _) | (with_reducible refine Kd.C_drewN ?_ _) | (with_reducible refine Kd.C_drew ?_))); (case side2 => exact HC0.out); rintro e w5 ⟨v335, rfl, ho0, hb⟩; refine ⟨_, rfl, ?_⟩; have n0_ := Aside0.mk (Kd.R_lower ho0 (below_size zz55)); have n1_ := Aside0.mk (below_step zz55 hb); clear HB; have HO336 := n0_; have HB := n1_; clear n0_ n1_; (try clear hb); (try clear hb2); (try clear hk); (try clear hi); (try clear ho0)))
    go_ret2
    exact ⟨_, by first | rfl | (simp [errW_none, errW_some] <;> rfl) | (simp [*, errW_none, errW_some] <;> rfl), by (with_reducible repeat (first | apply Kd.R_alloc | apply Kd.R_drewN | apply Kd.R_drew)); exact HO336.out, by repeat (first | (with_reducible first | exact HB.out | apply below_alloc | apply pw_below_drewN | apply below_drew1) | exact HB.out)⟩
  rw [if_neg c3] at H
  have c3b0 : (t333 == 0) = false := beq_eq_false_iff_ne.mpr c3
  have c3b1 : (t333 != 0) = true := bne_iff_ne.mpr c3
  simp only [Option.some.injEq, Prod.mk.injEq] at H
  obtain ⟨rfl, rfl⟩ := H
  go_enter Try.func19, Try.ntmps19
  go_wp2_with (first | ((with_reducible refine gate_callee (f := 17) rfl ?_); refine goesL_ (some 6) rfl rfl Try.func17 (by kernel_rfl) rfl #[.slice A0 l0.length c0] rfl zz54 ?_; (with_reducible refine (codewrightref30_Check.calls k _ _ l0 t333 _ ?side1 ?side2 A2.out).mono ?_); (case side1 => repeat (first | exact HR0.out | (with_reducible refine Kd.C_alloc ?_ _) | (with_reducible refine Kd.C_drewN ?_ _) | (with_reducible refine Kd.C_drew ?_))); (case side2 => exact HC0.out); rintro e w' ⟨rfl, ⟨nd, rfl⟩⟩; refine ⟨_, rfl, ?_⟩))
  go_ret2
  exact ⟨_, by first | rfl | (simp [errW_none, errW_some] <;> rfl) | (simp [*, errW_none, errW_some] <;> rfl), by first | exact Kd.R_nil _ _ _ _ _ | exact Kd.N_nil _ _ _ _ _ | exact Kd.V_nil _ _ _ _ _ | exact Kd.Q_nil _ _ _ _ _ | exact Kd.S_nil _ _ _ _ _, by repeat (first | (with_reducible first | exact HB.out | apply below_alloc | apply pw_below_drewN | apply below_drew1) | exact HB.out)⟩
end
section
attribute [local go_sem] max2_int min2_int max_two min_two max_three min_three max_four min_four
mutual
def codewrightref30_Cycles.l0 : Nat → List Int → List Bool → List (List Int) → Int → Option ((List (List Int)) × Int)
  | 0, _, _, _, _ => none
  | k + 1, x0, x5, x6, x7 => if x7 < (x0.length : Int) then (codewrightref30_Cycles.l1 k x0 x5 x6 x7 ([] : List Int) x7) else (some (x6, 0))
def codewrightref30_Cycles.l1 : Nat → List Int → List Bool → List (List Int) → Int → List Int → Int → Option ((List (List Int)) × Int)
  | 0, _, _, _, _, _, _ => none
  | k + 1, x0, x5, x6, x7, x8, x9 => if 0 ≤ x9 then (if x9 < (x5.length : Int) then (if rdOf false x5 x9 = true then (if (x8.length : Int) > 1 then (if x6.length < 5864062014805 then (codewrightref30_Cycles.l0 k x0 x5 (x6 ++ [x8]) (wrap64 (x7 + 1))) else (none)) else (codewrightref30_Cycles.l0 k x0 x5 x6 (wrap64 (x7 + 1)))) else (if x8.length < 17592186044416 then (if x9 < (x0.length : Int) then (codewrightref30_Cycles.l1 k x0 (x5.set (x9 : Int).toNat true) x6 x7 (x8 ++ [x9]) (rd x0 x9)) else (none)) else (none))) else (none)) else (none)
end
def codewrightref30_Cycles.f (k : Nat) (l0 : List Int) : Option ((List (List Int)) × Int) := (codewrightref30_Check.f k l0).bind fun t337 => (if t337 = 0 then (if 0 ≤ (l0.length : Int) then (if ((l0.length : Int) : Int).toNat ≤ 281474976710656 then (codewrightref30_Cycles.l0 k l0 (List.replicate ((l0.length : Int) : Int).toNat false) ([] : List (List Int)) 0) else (none)) else (none)) else (some (([] : List (List Int)), t337)))
theorem codewrightref30_Cycles.calls (k : Nat) (A0 : Option Addr) (c0 : Nat) (l0 : List Int) (r1 : List (List Int)) (r2 : Int) (w : World) (hr0 : Kd.C (Kd.int .i64) w A0 l0.length l0) (hc0 : l0.length ≤ c0) (h : codewrightref30_Cycles.f k l0 = some (r1, r2)) :
    Calls Try.prog 21 #[.slice A0 l0.length c0] w fun e w' => ∃ v0_ : Value, e = .returned (.tuple #[v0_, .int .i64 r2]) ∧ Kd.S (Kd.slice 3 (Kd.int .i64)) 22 w' w.heap.size (fun _ => True) v0_ r1 ∧ Below w.heap.size w w' := by
  have HR0 := Aside0.mk hr0
  have HC0 := Aside0.mk hc0
  clear hr0 hc0
  have HB := Aside0.mk (Below.refl w.heap.size w)
  have H : ((codewrightref30_Check.f k l0).bind fun t337 => (if t337 = 0 then (if 0 ≤ (l0.length : Int) then (if ((l0.length : Int) : Int).toNat ≤ 281474976710656 then (codewrightref30_Cycles.l0 k l0 (List.replicate ((l0.length : Int) : Int).toNat false) ([] : List (List Int)) 0) else (none)) else (none)) else (some (([] : List (List Int)), t337)))) = some (r1, r2) := h
  clear h
  replace H := Option.bind_eq_some_iff.mp H
  obtain ⟨t337, A20, H⟩ := H
  replace H : (if t337 = 0 then (if 0 ≤ (l0.length : Int) then (if ((l0.length : Int) : Int).toNat ≤ 281474976710656 then (codewrightref30_Cycles.l0 k l0 (List.replicate ((l0.length : Int) : Int).toNat false) ([] : List (List Int)) 0) else (none)) else (none)) else (some (([] : List (List Int)), t337))) = some (r1, r2) := H
  have A2 := Aside0.mk A20
  clear A20
  by_cases c3 : t337 = 0
  · rw [if_pos c3] at H
    have c3b0 : (t337 == 0) = true := beq_iff_eq.mpr c3; have c3b1 : (t337 != 0) = false := bne_eq_false_iff_eq.mpr c3; clear c3
    by_cases c4 : 0 ≤ (l0.length : Int)
    · rw [if_pos c4] at H; have c4b0 := eq_true c4; have c4b1 : decide (0 ≤ (l0.length : Int)) = true := decide_eq_true c4; clear c4
      by_cases c5 : ((l0.length : Int) : Int).toNat ≤ 281474976710656
      · rw [if_pos c5] at H; have c5b0 := eq_true c5; have c5b1 : decide (((l0.length : Int) : Int).toNat ≤ 281474976710656) = true := decide_eq_true c5; clear c5; obtain ⟨y338, hy338⟩ : ∃ y_ : List Bool, y_ = (List.replicate ((l0.length : Int) : Int).toNat false) := ⟨_, rfl⟩; replace H : (codewrightref30_Cycles.l0 k l0 y338 ([] : List (List Int)) 0) = some (r1, r2) := by first | (rw [hy338]; with_reducible exact H) | (have H2_ := (Option.bind_some _ _).symm.trans H; rw [hy338]; with_reducible exact H2_) | (have H2_ := (Option.bind_some _ _).symm.trans H; with_reducible exact H2_) | with_reducible exact H | (rw [hy338]; exact H) | exact H
        have Ny338 := Aside0.mk hy338; clear hy338; have H' := Aside0.mk H; clear H
        go_enter Try.func21, Try.ntmps21
        go_wp2_with (first | ((with_reducible refine gate_callee (f := 17) rfl ?_); refine goesL_ (some 11) rfl rfl Try.func17 (by kernel_rfl) rfl #[.slice A0 l0.length c0] rfl zz54 ?_; (with_reducible refine (codewrightref30_Check.calls k _ _ l0 t337 _ ?side1 ?side2 A2.out).mono ?_); (case side1 => repeat (first | exact HR0.out | (with_reducible refine Kd.C_alloc ?_ _) | (with_reducible refine Kd.C_drewN ?_ _) | (with_reducible refine Kd.C_drew ?_))); (case side2 => exact HC0.out); rintro e w' ⟨rfl, ⟨nd, rfl⟩⟩; refine ⟨_, rfl, ?_⟩) | ((with_reducible refine gate_dst (N := 17) rfl ?_); refine Kd.R_make Kd.bool _ 4 rfl (N := 17) rfl 83 _ _ rfl (l0.length : Int) rfl rfl Try.underlying83 (.bool false) 1 info4 rfl (by decide) (by omega) false (ok := fun _ => True) (okp := fun _ => True) rfl (fun _ hk => hk) trivial (of_decide_eq_true zz65) (Nat.le_trans (Nat.mul_le_mul_right _ (of_decide_eq_true zz65 : (l0.length : Int).toNat ≤ 281474976710656)) (by omega)) (Below.refl _ _) (Nat.le_refl _) ?_; intro v339 w6 ho7 hb hg_ hnew_; clear hg_ hnew_; (first | rw [← Ny338.out] at ho7 | (simp only [Int.reduceToNat] at ho7; rw [← Ny338.out] at ho7)); have n0_ := Aside0.mk (Kd.R_lower ho7 (below_size zz55)); have n1_ := Aside0.mk (below_step zz55 hb); clear HB; have HO340 := n0_; have HB := n1_; clear n0_ n1_; clear hb ho7))
        go_loopg [6, 7] k (fun kq v6 v7 w' => ∃ (x5_1 : List Bool) (x6_1 : List (List Int)) (x7_1 : Int), v7 = .int .i64 x7_1 ∧ Aside0 (codewrightref30_Cycles.l0 kq l0 x5_1 x6_1 x7_1 = some (r1, r2)) ∧ Aside0 (kq ≤ k) ∧ Aside0 (Kd.R Kd.bool 4 w' w.heap.size (fun _ => True) v339 x5_1) ∧ Aside0 (Kd.S (Kd.slice 3 (Kd.int .i64)) 22 w' w.heap.size (fun _ => True) v6 x6_1) ∧ Aside0 (Below w.heap.size w w'))
        case atStart => exact ⟨(y338), (([] : List (List Int))), (0), zz67, H', ⟨Nat.le_refl _⟩, ⟨by (with_reducible repeat (first | apply Kd.R_alloc | apply Kd.R_drewN | apply Kd.R_drew)); exact HO340.out⟩, ⟨by first | exact Kd.S_nil _ _ _ _ _ | exact Kd.N_nil _ _ _ _ _ | exact Kd.V_nil _ _ _ _ _ | exact Kd.Q_nil _ _ _ _ _ | exact Kd.R_nil _ _ _ _ _⟩, ⟨by repeat (first | (with_reducible first | exact HB.out | apply below_alloc | apply pw_below_drewN | apply below_drew1) | exact HB.out)⟩⟩
        case round =>
          clear H'; (try clear c1); (try clear c2); (try clear p2); (try clear c3); (try clear c3b0); (try clear c3b1); (try clear c4); (try clear c4b0); (try clear c4b1); (try clear c5); (try clear c5b0); (try clear c5b1); obtain ⟨x5_1, x6_1, x7_1, rfl, HA, HK1, HO_5, HO_6, HB⟩ := hrel
          cases gk with
          | zero => exact absurd HA.out (by simp [codewrightref30_Cycles.l0])
          | succ k1 =>
            have H := HA.out; clear HA; simp only [codewrightref30_Cycles.l0] at H
            by_cases c8 : x7_1 < (l0.length : Int)
            · rw [if_pos c8] at H; have c8b0 : decide (x7_1 < (l0.length : Int)) = true := decide_eq_true c8; clear c8; have H' := Aside0.mk H; clear H; go_wp2
              go_loopg [8, 9] k1 (fun kq v8 v9 w' => ∃ (x5_2 : List Bool) (x8_2 : List Int) (x9_2 : Int), v9 = .int .i64 x9_2 ∧ Aside0 (codewrightref30_Cycles.l1 kq l0 x5_2 x6_1 x7_1 x8_2 x9_2 = some (r1, r2)) ∧ Aside0 (kq ≤ k1) ∧ Aside0 (Kd.R Kd.bool 4 w' w.heap.size (fun _ => True) v339 x5_2) ∧ Aside0 (Kd.S (Kd.slice 3 (Kd.int .i64)) 22 w' w.heap.size (fun k_ => some k_ ≠ (v8 : Value).ownBlock) u6 x6_1) ∧ Aside0 (Kd.R (Kd.int .i64) 3 w' w.heap.size (fun _ => True) v8 x8_2) ∧ Aside0 (Below w.heap.size w w'))
              case atStart => exact ⟨(x5_1), (([] : List Int)), (x7_1), zz67, H', ⟨Nat.le_refl _⟩, ⟨by (with_reducible repeat (first | apply Kd.R_alloc | apply Kd.R_drewN | apply Kd.R_drew)); exact HO_5.out⟩, ⟨by (with_reducible repeat (first | apply Kd.S_alloc | apply Kd.S_drewN | apply Kd.S_drew)); exact Kd.S_mono HO_6.out (fun _ hk => (by simp [Value.ownBlock]))⟩, ⟨by first | exact Kd.R_nil _ _ _ _ _ | exact Kd.N_nil _ _ _ _ _ | exact Kd.V_nil _ _ _ _ _ | exact Kd.Q_nil _ _ _ _ _ | exact Kd.S_nil _ _ _ _ _⟩, ⟨by repeat (first | (with_reducible first | exact HB.out | apply below_alloc | apply pw_below_drewN | apply below_drew1) | exact HB.out)⟩⟩
              case round =>
                clear H'; (try clear c1); (try clear c2); (try clear p2); (try clear c3); (try clear c3b0); (try clear c3b1); (try clear c4); (try clear c4b0); (try clear c4b1); (try clear c5); (try clear c5b0); (try clear c5b1); (try clear c8); (try clear c8b0); (try clear p2); obtain ⟨x5_2, x8_2, x9_2, rfl, HA, HK2, HO_5, HO_6, HO_8, HB⟩ := hrel
                cases gk with
                | zero => exact absurd HA.out (by simp [codewrightref30_Cycles.l1])
                | succ k2 =>
                  have H := HA.out; clear HA; simp only [codewrightref30_Cycles.l1] at H
                  by_cases c9 : 0 ≤ x9_2
                  · rw [if_pos c9] at H; have c9b0 : decide (0 ≤ x9_2) = true := decide_eq_true c9; clear c9
                    by_cases c10 : x9_2 < (x5_2.length : Int)
                    · rw [if_pos c10] at H; have c10b0 : decide (x9_2 < (x5_2.length : Int)) = true := decide_eq_true c10; clear c10; obtain ⟨bq11, hbq11⟩ : ∃ b_ : Bool, b_ = (rdOf false x5_2 x9_2) := ⟨_, rfl⟩; replace H : (if bq11 = true then (if (x8_2.length : Int) > 1 then (if x6_1.length < 5864062014805 then (codewrightref30_Cycles.l0 k2 l0 x5_2 (x6_1 ++ [x8_2]) (wrap64 (x7_1 + 1))) else (none)) else (codewrightref30_Cycles.l0 k2 l0 x5_2 x6_1 (wrap64 (x7_1 + 1)))) else (if x8_2.length < 17592186044416 then (if x9_2 < (l0.length : Int) then (codewrightref30_Cycles.l1 k2 l0 (x5_2.set (x9_2 : Int).toNat true) x6_1 x7_1 (x8_2 ++ [x9_2]) (rd l0 x9_2)) else (none)) else (none))) = some (r1, r2) := by rw [← hbq11] at H; exact H
                      have Nbq11 := Aside0.mk hbq11; clear hbq11
                      by_cases c12 : bq11 = true
                      · subst c12; have H1 : (if (x8_2.length : Int) > 1 then (if x6_1.length < 5864062014805 then (codewrightref30_Cycles.l0 k2 l0 x5_2 (x6_1 ++ [x8_2]) (wrap64 (x7_1 + 1))) else (none)) else (codewrightref30_Cycles.l0 k2 l0 x5_2 x6_1 (wrap64 (x7_1 + 1)))) = some (r1, r2) := by rw [if_pos rfl] at H; exact H
                        clear H; have H := H1; clear H1
                        by_cases c13 : (x8_2.length : Int) > 1
                        · rw [if_pos c13] at H; have c13b0 : decide (1 < (x8_2.length : Int)) = true := decide_eq_true c13; have c13b1 : decide (1 < x8_2.length) = true := decide_eq_true (by omega); clear c13
                          by_cases c14 : x6_1.length < 5864062014805
                          · rw [if_pos c14] at H; have LMc14 := Aside0.mk c14; clear c14; obtain ⟨y342, hy342⟩ : ∃ y_ : List (List Int), y_ = (x6_1 ++ [x8_2]) := ⟨_, rfl⟩; replace H : (codewrightref30_Cycles.l0 k2 l0 x5_2 y342 (wrap64 (x7_1 + 1))) = some (r1, r2) := by first | (rw [hy342]; with_reducible exact H) | (have H2_ := (Option.bind_some _ _).symm.trans H; rw [hy342]; with_reducible exact H2_) | (have H2_ := (Option.bind_some _ _).symm.trans H; with_reducible exact H2_) | with_reducible exact H | (rw [hy342]; exact H) | exact H
                            have Ny342 := Aside0.mk hy342; clear hy342; have H' := Aside0.mk H; clear H; obtain ⟨Ao15, co15, eo15⟩ := Kd.R_slice HO_5.out; subst eo15; have p341 : 0 ≤ (x9_2 : Int) := of_decide_eq_true zz65; have q341 : x9_2 < (x5_2.length : Int) := of_decide_eq_true zz65; obtain ⟨ad341, e341, hx341_0⟩ := Kd.at_bool (Kd.R_reads' HO_5.out).2.2 x9_2 p341 q341
                            (try rw [← Nbq11.out] at hx341_0)
                            cases e341; replace p341 := eq_true p341; replace q341 := eq_true q341; obtain ⟨Ao16, co16, eo16⟩ := Kd.R_slice HO_8.out; subst eo16
                            go_wp2_with (first | ((with_reducible refine gate_builtin (b := .append) (xs := #[.tmp 44, .tmp 46]) rfl ?_); at_builtin; refine Kd.S_append (Kd.slice 3 (Kd.int .i64)) (w0 := w) w.heap.size rfl (.tmp 44) (.tmp 46) 28 22 (.slice none 0 0) 24 rfl Try.underlying28 info22 rfl (by decide) (by omega) u6 x6_1 x8_2 [.slice Ao16 x8_2.length co16] (fun _ => True) (fun k_ => some k_ = (.slice Ao16 x8_2.length co16 : Value).ownBlock) rfl rfl ?aP (fun k_ hk_ => ((Kd.R_mono (ok' := fun k_ => ((fun _ => True)) k_ ∧ some k_ ≠ (u6 : Value).ownBlock) (Kd.R_apart' (HO_8.out) (Kd.S_typed HO_6.out) (by decide)) (fun k_ hk => ⟨trivial, hk.2⟩))).1 k_ hk_.symm) ?aF ?aO ?aB ?aS ?aL ?_; (case aP => exact Kd.M_row (Kd.R_mono (Kd.R_tight rfl (Kd.R_mono (ok' := fun k_ => ((fun _ => True)) k_ ∧ some k_ ≠ (u6 : Value).ownBlock) (Kd.R_apart' (HO_8.out) (Kd.S_typed HO_6.out) (by decide)) (fun k_ hk => ⟨trivial, hk.2⟩))) (fun _ h_ => h_))); (case aB => exact zz55); (case aF => exact (fun _ _ => trivial)); (case aO => exact (by (with_reducible repeat (first | apply Kd.S_alloc | apply Kd.S_drewN | apply Kd.S_drew)); exact Kd.S_mono HO_6.out (fun k_ hk => ⟨trivial, fun e_ => hk e_⟩))); (case aS => exact (below_size zz55)); (case aL => have := LMc14.out; omega); intro v343 w17 ho hb hg hat; rw [← Ny342.out] at ho; have n0_ := Aside0.mk (Kd.R_over' (zR HO_5) (Kd.S_typed (zS HO_6)) (by decide) hg); have n1_ := Aside0.mk (hb); have n2_ := Aside0.mk (ho); clear HO_5; clear HB; clear HO_6; clear HO_8; have HO_5 := n0_; have HB := n1_; have HO344 := n2_; clear n0_ n1_ n2_; clear ho hb hg hat))
                            go_roundg k2
                            case measure => have := HK1.out; have := HK2.out; omega
                            case rel => exact ⟨(x5_2), (y342), (wrap64 (x7_1 + 1)), zz67, H', ⟨by have := HK1.out; have := HK2.out; omega⟩, ⟨by (with_reducible repeat (first | apply Kd.R_alloc | apply Kd.R_drewN | apply Kd.R_drew)); exact HO_5.out⟩, ⟨by (with_reducible repeat (first | apply Kd.S_alloc | apply Kd.S_drewN | apply Kd.S_drew)); exact HO344.out⟩, ⟨by repeat (first | (with_reducible first | exact HB.out | apply below_alloc | apply pw_below_drewN | apply below_drew1) | exact HB.out)⟩⟩
                          rw [if_neg c14] at H
                          exact absurd H (by simp)
                        rw [if_neg c13] at H; have c13b0 : decide (1 < (x8_2.length : Int)) = false := decide_eq_false c13; have c13b1 : decide (1 < x8_2.length) = false := decide_eq_false (by omega); clear c13; have H' := Aside0.mk H; clear H; obtain ⟨Ao18, co18, eo18⟩ := Kd.R_slice HO_5.out; subst eo18; have p341 : 0 ≤ (x9_2 : Int) := of_decide_eq_true zz65; have q341 : x9_2 < (x5_2.length : Int) := of_decide_eq_true zz65; obtain ⟨ad341, e341, hx341_0⟩ := Kd.at_bool (Kd.R_reads' HO_5.out).2.2 x9_2 p341 q341
                        (try rw [← Nbq11.out] at hx341_0)
                        cases e341; replace p341 := eq_true p341; replace q341 := eq_true q341; obtain ⟨Ao19, co19, eo19⟩ := Kd.R_slice HO_8.out; subst eo19; go_wp2
                        go_roundg k2
                        case measure => have := HK1.out; have := HK2.out; omega
                        case rel => exact ⟨(x5_2), (x6_1), (wrap64 (x7_1 + 1)), zz67, H', ⟨by have := HK1.out; have := HK2.out; omega⟩, ⟨by (with_reducible repeat (first | apply Kd.R_alloc | apply Kd.R_drewN | apply Kd.R_drew)); exact HO_5.out⟩, ⟨by (with_reducible repeat (first | apply Kd.S_alloc | apply Kd.S_drewN | apply Kd.S_drew)); exact Kd.S_mono HO_6.out (fun _ hk => trivial)⟩, ⟨by repeat (first | (with_reducible first | exact HB.out | apply below_alloc | apply pw_below_drewN | apply below_drew1) | exact HB.out)⟩⟩
                      replace c12 := Bool.eq_false_iff.mpr c12; subst c12; have H1 : (if x8_2.length < 17592186044416 then (if x9_2 < (l0.length : Int) then (codewrightref30_Cycles.l1 k2 l0 (x5_2.set (x9_2 : Int).toNat true) x6_1 x7_1 (x8_2 ++ [x9_2]) (rd l0 x9_2)) else (none)) else (none)) = some (r1, r2) := by rw [if_neg (show ¬ (false = true) by decide)] at H; exact H
                      clear H; have H := H1; clear H1; obtain ⟨y345, hy345⟩ : ∃ y_ : List Bool, y_ = (x5_2.set (x9_2 : Int).toNat true) := ⟨_, rfl⟩; replace H : (if x8_2.length < 17592186044416 then (if x9_2 < (l0.length : Int) then (codewrightref30_Cycles.l1 k2 l0 y345 x6_1 x7_1 (x8_2 ++ [x9_2]) (rd l0 x9_2)) else (none)) else (none)) = some (r1, r2) := by first | (rw [hy345]; with_reducible exact H) | (have H2_ := (Option.bind_some _ _).symm.trans H; rw [hy345]; with_reducible exact H2_) | (have H2_ := (Option.bind_some _ _).symm.trans H; with_reducible exact H2_) | with_reducible exact H | (rw [hy345]; exact H) | exact H
                      have Ny345 := Aside0.mk hy345; clear hy345
                      by_cases c21 : x8_2.length < 17592186044416
                      · rw [if_pos c21] at H; have LMc21 := Aside0.mk c21; clear c21; obtain ⟨y346, hy346⟩ : ∃ y_ : List Int, y_ = (x8_2 ++ [x9_2]) := ⟨_, rfl⟩; replace H : (if x9_2 < (l0.length : Int) then (codewrightref30_Cycles.l1 k2 l0 y345 x6_1 x7_1 y346 (rd l0 x9_2)) else (none)) = some (r1, r2) := by first | (rw [hy346]; with_reducible exact H) | (have H2_ := (Option.bind_some _ _).symm.trans H; rw [hy346]; with_reducible exact H2_) | (have H2_ := (Option.bind_some _ _).symm.trans H; with_reducible exact H2_) | with_reducible exact H | (rw [hy346]; exact H) | exact H
                        have Ny346 := Aside0.mk hy346; clear hy346
                        by_cases c22 : x9_2 < (l0.length : Int)
                        · rw [if_pos c22] at H; have c22b0 : decide (x9_2 < (l0.length : Int)) = true := decide_eq_true c22; clear c22; have H' := Aside0.mk H; clear H; obtain ⟨Ao23, co23, eo23⟩ := Kd.R_slice HO_5.out; subst eo23; have p341 : 0 ≤ (x9_2 : Int) := of_decide_eq_true zz65; have q341 : x9_2 < (x5_2.length : Int) := of_decide_eq_true zz65; obtain ⟨ad341, e341, hx341_0⟩ := Kd.at_bool (Kd.R_reads' HO_5.out).2.2 x9_2 p341 q341
                          (try rw [← Nbq11.out] at hx341_0)
                          cases e341; replace p341 := eq_true p341; replace q341 := eq_true q341; have p20 : 0 ≤ (x9_2 : Int) := of_decide_eq_true zz65; have q20 : (x9_2 : Int) < ((x5_2.length : Int) : Int) := of_decide_eq_true zz65; obtain ⟨go20, co20, eo20, gb20, gl20, cl20, HG20⟩ := Kd.R_form HO_5.out (by omega)
                          (first | cases eo20 | (injection eo20 with ea_ en_ ec_; (first | subst ea_ | (injection ea_ with ea_; subst ea_)); subst ec_; clear en_))
                          have GB20 := Aside0.mk gb20; have GG20 := Aside0.mk HG20; clear gb20 gl20 HG20
                          (first | simp only [add_plain] at hx341_0 | skip)
                          obtain ⟨hx20_0, hf20_0⟩ := Kd.R_celln false HO_5.out (x9_2 : Int) p20 q20; replace p20 := eq_true p20; replace q20 := eq_true q20; have HP24 := Kd.R_putg HO_5.out (x9_2 : Int) true
                          go_wp2_with (first | ((with_reducible refine gate_store (t := 4) (p := 36) rfl ?_); refine store_event (t := 4) (p := 36) (v := ?vo_w25) (w1 := (wr.setCell ⟨go20, (x9_2 : Int).toNat, none⟩ (.bool true))) ?hg ?ho ?hn ?hr ?_; (case ho => rfl); (case hg => rfl); (case hn => rfl); (case hr => first | (go_simp; done) | (go_simp; rfl)); intro w25 hw; have hg : wr.grownBy w25 (some go20) := (by rw [hw]; exact HP24.2); have hp_ : Kd.R Kd.bool 4 w25 w.heap.size (fun _ => True) (.slice (some ⟨go20, 0, none⟩) x5_2.length co23) y345 := (by rw [hw, Ny345.out]; exact HP24.1); clear HP24; have n0_ := Aside0.mk (hp_); have n1_ := Aside0.mk (Kd.S_over' (v := (.slice (some ⟨go20, 0, none⟩) x5_2.length co23)) (zS HO_6) (Kd.R_typed HO_5.out) (by decide) hg); have n2_ := Aside0.mk (Kd.R_over' (v := (.slice (some ⟨go20, 0, none⟩) x5_2.length co23)) (zR HO_8) (Kd.R_typed HO_5.out) (by decide) hg); have n3_ := Aside0.mk ((by rw [hw]; exact below_set (HB.out) GB20.out : Below w.heap.size w w25)); clear HO_5; clear HO_6; clear HO_8; clear HB; have HO_5 := n0_; have HO_6 := n1_; have HO_8 := n2_; have HB := n3_; clear n0_ n1_ n2_ n3_; clear hg hw hp_) | ((with_reducible refine gate_builtin (b := .append) (xs := #[.tmp 37, .tmp 39]) rfl ?_); at_builtin; refine Kd.R_append (Kd.int .i64) (w0 := w) w.heap.size rfl (.tmp 37) (.tmp 39) 22 3 (.int .i64 0) 8 rfl Try.underlying22 info3 rfl (by decide) (by omega) u8 x8_2 x9_2 [.int .i64 x9_2] (fun _ => True) (fun _ => False) rfl rfl ?aP (fun _ hk => hk.elim) ?aF ?aO ?aB ?aS ?aL ?_; (case aP => exact rfl); (case aB => exact zz55); (case aF => exact (fun _ _ => trivial)); (case aO => exact (zR HO_8)); (case aS => exact (below_size zz55)); (case aL => have := LMc21.out; omega); intro v347 w26 ho hb hg hat; rw [← Ny346.out] at ho; have n0_ := Aside0.mk (Kd.R_over' (zR HO_5) (Kd.R_typed (zR HO_8)) (by decide) hg); have n1_ := Aside0.mk (Kd.S_after (ok := (fun _ => True)) (by (with_reducible repeat (first | apply Kd.S_alloc | apply Kd.S_drewN | apply Kd.S_drew)); exact Kd.S_mono HO_6.out (fun _ hk => ⟨trivial, hk⟩)) hg hat); have n2_ := Aside0.mk (hb); have n3_ := Aside0.mk (ho); clear HO_5; clear HO_6; clear HB; clear HO_8; have HO_5 := n0_; have HO_6 := n1_; have HB := n2_; have HO348 := n3_; clear n0_ n1_ n2_ n3_; clear ho hb hg hat; have p349 : 0 ≤ (x9_2 : Int) := of_decide_eq_true zz65; have q349 : x9_2 < (l0.length : Int) := of_decide_eq_true zz65; obtain ⟨ad349, e349, hx349_0⟩ := Kd.at_int HR0.out x9_2 p349 q349; cases e349; replace hx349_0 := (HB.out.cell (World.block_lt_of_cell? w _ hx349_0)).trans hx349_0; replace p349 := eq_true p349; replace q349 := eq_true q349))
                          go_roundg k2
                          case measure => have := HK1.out; have := HK2.out; omega
                          case rel => exact ⟨(y345), (y346), (rd l0 x9_2), zz67, H', ⟨by have := HK1.out; have := HK2.out; omega⟩, ⟨by (with_reducible repeat (first | apply Kd.R_alloc | apply Kd.R_drewN | apply Kd.R_drew)); exact HO_5.out⟩, ⟨by (with_reducible repeat (first | apply Kd.S_alloc | apply Kd.S_drewN | apply Kd.S_drew)); exact Kd.S_mono HO_6.out (fun _ hk => hk.2)⟩, ⟨by (with_reducible repeat (first | apply Kd.R_alloc | apply Kd.R_drewN | apply Kd.R_drew)); exact HO348.out⟩, ⟨by repeat (first | (with_reducible first | exact HB.out | apply below_alloc | apply pw_below_drewN | apply below_drew1) | exact HB.out)⟩⟩
                        rw [if_neg c22] at H
                        exact absurd H (by simp)
                      rw [if_neg c21] at H
                      exact absurd H (by simp)
                    rw [if_neg c10] at H
                    exact absurd H (by simp)
                  rw [if_neg c9] at H
                  exact absurd H (by simp)
            rw [if_neg c8] at H; have c8b0 : decide (x7_1 < (l0.length : Int)) = false := decide_eq_false c8; clear c8; simp only [Option.some.injEq, Prod.mk.injEq] at H; obtain ⟨rfl, rfl⟩ := H; go_wp2
            go_ret2
            exact ⟨_, by first | rfl | (simp [errW_none, errW_some] <;> rfl) | (simp [*, errW_none, errW_some] <;> rfl), by (with_reducible repeat (first | apply Kd.S_alloc | apply Kd.S_drewN | apply Kd.S_drew)); exact HO_6.out, by repeat (first | (with_reducible first | exact HB.out | apply below_alloc | apply pw_below_drewN | apply below_drew1) | exact HB.out)⟩
      rw [if_neg c5] at H
      exact absurd H (by simp)
    rw [if_neg c4] at H
    exact absurd H (by simp)
  rw [if_neg c3] at H
  have c3b0 : (t337 == 0) = false := beq_eq_false_iff_ne.mpr c3
  have c3b1 : (t337 != 0) = true := bne_iff_ne.mpr c3
  simp only [Option.some.injEq, Prod.mk.injEq] at H
  obtain ⟨rfl, rfl⟩ := H
  go_enter Try.func21, Try.ntmps21
  go_wp2_with (first | ((with_reducible refine gate_callee (f := 17) rfl ?_); refine goesL_ (some 11) rfl rfl Try.func17 (by kernel_rfl) rfl #[.slice A0 l0.length c0] rfl zz54 ?_; (with_reducible refine (codewrightref30_Check.calls k _ _ l0 t337 _ ?side1 ?side2 A2.out).mono ?_); (case side1 => repeat (first | exact HR0.out | (with_reducible refine Kd.C_alloc ?_ _) | (with_reducible refine Kd.C_drewN ?_ _) | (with_reducible refine Kd.C_drew ?_))); (case side2 => exact HC0.out); rintro e w' ⟨rfl, ⟨nd, rfl⟩⟩; refine ⟨_, rfl, ?_⟩))
  go_ret2
  exact ⟨_, by first | rfl | (simp [errW_none, errW_some] <;> rfl) | (simp [*, errW_none, errW_some] <;> rfl), by first | exact Kd.S_nil _ _ _ _ _ | exact Kd.N_nil _ _ _ _ _ | exact Kd.V_nil _ _ _ _ _ | exact Kd.Q_nil _ _ _ _ _ | exact Kd.R_nil _ _ _ _ _, by repeat (first | (with_reducible first | exact HB.out | apply below_alloc | apply pw_below_drewN | apply below_drew1) | exact HB.out)⟩
end
section
attribute [local go_sem] max2_int min2_int max_two min_two max_three min_three max_four min_four
def codewrightref03_small.f (a0 : Int) : Option (Bool) := if a0 ≥ (-2147483647) then (some (decide (a0 ≤ 2147483647))) else (some false)
theorem codewrightref03_small.calls (a0 : Int) (r : Bool) (w : World) (h : codewrightref03_small.f a0 = some r) :
    Calls Try.prog 76 #[.int .i64 a0] w fun e w' => e = .returned (.bool r) ∧ Drawn0 w w' := by
  have H : (if a0 ≥ (-2147483647) then (some (decide (a0 ≤ 2147483647))) else (some false)) = some r := h
  clear h
  by_cases c2 : a0 ≥ (-2147483647)
  · rw [if_pos c2] at H
    have c2b0 : decide ((-2147483647) ≤ a0) = true := decide_eq_true c2; clear c2; obtain rfl := Option.some.inj H
    go_enter Try.func76, Try.ntmps76
    go_wp2; go_ret
    exact ⟨by first | rfl | (simp; done) | (simp [*]; done), by repeat (first | exact Drawn0.refl _ | apply Drawn0.step)⟩
  rw [if_neg c2] at H
  have c2b0 : decide ((-2147483647) ≤ a0) = false := decide_eq_false c2
  clear c2
  obtain rfl := Option.some.inj H
  go_enter Try.func76, Try.ntmps76
  go_wp2
  go_ret
  exact ⟨by first | rfl | (simp; done) | (simp [*]; done), by repeat (first | exact Drawn0.refl _ | apply Drawn0.step)⟩
end
section
attribute [local go_sem] max2_int min2_int max_two min_two max_three min_three max_four min_four
def codewrightref03_gcd.l0 : Nat → Int → Int → Option (Int)
  | 0, _, _ => none
  | k + 1, x0, x1 => if x1 = 0 then (some x0) else (codewrightref03_gcd.l0 k x1 (Int.tmod x0 x1))
def codewrightref03_gcd.f (k : Nat) (a0 : Int) (a1 : Int) : Option (Int) := codewrightref03_gcd.l0 k a0 a1
theorem codewrightref03_gcd.calls (k : Nat) (a0 : Int) (a1 : Int) (r : Int) (w : World) (h : codewrightref03_gcd.f k a0 a1 = some r) :
    Calls Try.prog 77 #[.int .i64 a0, .int .i64 a1] w fun e w' => e = .returned (.int .i64 r) ∧ Drawn0 w w' := by
  have H : (codewrightref03_gcd.l0 k a0 a1) = some r := h
  clear h
  have H' := Aside0.mk H
  clear H
  go_enter Try.func77, Try.ntmps77
  go_wp2
  repeat (go_quiet (fail); try go_wp2)
  go_loopg [0, 1] k (fun kq v0 v1 w' => ∃ (x0_1 : Int) (x1_1 : Int), v0 = .int .i64 x0_1 ∧ v1 = .int .i64 x1_1 ∧ Aside0 (codewrightref03_gcd.l0 kq x0_1 x1_1 = some r) ∧ Aside0 (kq ≤ k) ∧ Drawn0 w w')
  case atStart => exact ⟨(a0), (a1), zz67, zz67, H', ⟨Nat.le_refl _⟩, by repeat (first | exact Drawn0.refl _ | apply Drawn0.step)⟩
  case round =>
    clear H'; (try clear p2); obtain ⟨x0_1, x1_1, rfl, rfl, HA, HK1, ⟨m1, rfl⟩⟩ := hrel
    cases gk with
    | zero => exact absurd HA.out (by simp [codewrightref03_gcd.l0])
    | succ k1 =>
      have H := HA.out; clear HA; simp only [codewrightref03_gcd.l0] at H
      by_cases c3 : x1_1 = 0
      · rw [if_pos c3] at H; have c3b0 : (x1_1 == 0) = true := beq_iff_eq.mpr c3; have c3b1 : (x1_1 != 0) = false := bne_eq_false_iff_eq.mpr c3; clear c3; obtain rfl := Option.some.inj H; go_wp2
        repeat (go_quiet (fail); try go_wp2)
        go_ret
        exact ⟨by first | rfl | (simp; done) | (simp [*]; done), by repeat (first | exact Drawn0.refl _ | apply Drawn0.step)⟩
      rw [if_neg c3] at H; have c3b0 : (x1_1 == 0) = false := beq_eq_false_iff_ne.mpr c3; have c3b1 : (x1_1 != 0) = true := bne_iff_ne.mpr c3; have H' := Aside0.mk H; clear H; go_wp2
      repeat (go_quiet (fail); try go_wp2)
      go_roundg k1
      case measure => have := HK1.out; omega
      case rel => exact ⟨(x1_1), (Int.tmod x0_1 x1_1), zz67, zz67, H', ⟨by have := HK1.out; omega⟩, by repeat (first | exact Drawn0.refl _ | apply Drawn0.step)⟩
end
section
attribute [local go_sem] max2_int min2_int max_two min_two max_three min_three max_four min_four
def codewrightref03_abs.f (a0 : Int) : Option (Int) := if a0 < 0 then (some (wrap64 (-a0))) else (some a0)
theorem codewrightref03_abs.calls (a0 : Int) (r : Int) (w : World) (h : codewrightref03_abs.f a0 = some r) :
    Calls Try.prog 78 #[.int .i64 a0] w fun e w' => e = .returned (.int .i64 r) ∧ Drawn0 w w' := by
  have H : (if a0 < 0 then (some (wrap64 (-a0))) else (some a0)) = some r := h
  clear h
  by_cases c2 : a0 < 0
  · rw [if_pos c2] at H
    have c2b0 : decide (a0 < 0) = true := decide_eq_true c2; clear c2; obtain rfl := Option.some.inj H
    go_enter Try.func78, Try.ntmps78
    go_wp2; go_ret
    exact ⟨by first | rfl | (simp; done) | (simp [*]; done), by repeat (first | exact Drawn0.refl _ | apply Drawn0.step)⟩
  rw [if_neg c2] at H
  have c2b0 : decide (a0 < 0) = false := decide_eq_false c2
  clear c2
  obtain rfl := Option.some.inj H
  go_enter Try.func78, Try.ntmps78
  go_wp2
  go_ret
  exact ⟨by first | rfl | (simp; done) | (simp [*]; done), by repeat (first | exact Drawn0.refl _ | apply Drawn0.step)⟩
end
section
attribute [local go_sem] max2_int min2_int max_two min_two max_three min_three max_four min_four
def codewrightref03_Gcd.j0 : Nat → Int → Int → Bool → Option (Int × Int)
  | 0, _, _, _ => none
  | k + 1, x0, x1, x13 => if x13 = true then (some (0, 6)) else ((codewrightref03_abs.f x0).bind fun t352 => ((codewrightref03_abs.f x1).bind fun t353 => ((codewrightref03_gcd.f k t352 t353).bind fun t354 => (some (t354, 0)))))
def codewrightref03_Gcd.f (k : Nat) (a0 : Int) (a1 : Int) : Option (Int × Int) := (codewrightref03_small.f a0).bind fun t350 => (if t350 = true then ((codewrightref03_small.f a1).bind fun t351 => (codewrightref03_Gcd.j0 k a0 a1 (!t351))) else (codewrightref03_Gcd.j0 k a0 a1 true))
theorem codewrightref03_Gcd.calls (k : Nat) (a0 : Int) (a1 : Int) (r1 : Int) (r2 : Int) (w : World) (h : codewrightref03_Gcd.f k a0 a1 = some (r1, r2)) :
    Calls Try.prog 56 #[.int .i64 a0, .int .i64 a1] w fun e w' => e = .returned (.tuple #[.int .i64 r1, .int .i64 r2]) ∧ Drawn0 w w' := by
  have H : ((codewrightref03_small.f a0).bind fun t350 => (if t350 = true then ((codewrightref03_small.f a1).bind fun t351 => (codewrightref03_Gcd.j0 k a0 a1 (!t351))) else (codewrightref03_Gcd.j0 k a0 a1 true))) = some (r1, r2) := h
  clear h
  have HC3 := Aside0.mk H
  clear H
  go_enter Try.func56, Try.ntmps56
  go_upto_region 1 with (fail)
  go_cut [13] (fun v13 wc => ∃ (kq : Nat) (x13_2 : Bool), v13 = .bool x13_2 ∧ Aside0 (codewrightref03_Gcd.j0 kq a0 a1 x13_2 = some (r1, r2)) ∧ Aside0 (kq ≤ k) ∧ Drawn0 w wc)
  case first =>
    have H := HC3.out; clear HC3; replace H := Option.bind_eq_some_iff.mp H; obtain ⟨t350, A40, H⟩ := H; replace H : (if t350 = true then ((codewrightref03_small.f a1).bind fun t351 => (codewrightref03_Gcd.j0 k a0 a1 (!t351))) else (codewrightref03_Gcd.j0 k a0 a1 true)) = some (r1, r2) := H; have A4 := Aside0.mk A40; clear A40
    by_cases c5 : t350 = true
    · subst c5; have H1 : ((codewrightref03_small.f a1).bind fun t351 => (codewrightref03_Gcd.j0 k a0 a1 (!t351))) = some (r1, r2) := by rw [if_pos rfl] at H; exact H
      clear H; have H := H1; clear H1; replace H := Option.bind_eq_some_iff.mp H; obtain ⟨t351, A60, H⟩ := H; replace H : (codewrightref03_Gcd.j0 k a0 a1 (!t351)) = some (r1, r2) := H; have A6 := Aside0.mk A60; clear A60; have H' := Aside0.mk H; clear H
      go_wp2_with (first | ((with_reducible refine gate_callee (f := 76) rfl ?_); refine goesL_ (some 7) rfl rfl Try.func76 (by kernel_rfl) rfl #[.int .i64 a0] rfl zz54 ?_; (with_reducible refine (codewrightref03_small.calls a0 true _ A4.out).mono ?_); rintro e w' ⟨rfl, ⟨nd, rfl⟩⟩; refine ⟨_, rfl, ?_⟩) | (go_at_call 76; (with_reducible refine (codewrightref03_small.calls a1 t351 _ A6.out).mono ?_); rintro e w' ⟨rfl, ⟨nd, rfl⟩⟩))
      go_meet
      case rel => exact ⟨_, (!t351), zz67, H', ⟨by first | omega | exact Nat.le_refl _⟩, by repeat (first | exact Drawn0.refl _ | apply Drawn0.step)⟩
    replace c5 := Bool.eq_false_iff.mpr c5; subst c5; have H1 : (codewrightref03_Gcd.j0 k a0 a1 true) = some (r1, r2) := by rw [if_neg (show ¬ (false = true) by decide)] at H; exact H
    clear H; have H := H1; clear H1; have H' := Aside0.mk H; clear H
    go_wp2_with (first | ((with_reducible refine gate_callee (f := 76) rfl ?_); refine goesL_ (some 7) rfl rfl Try.func76 (by kernel_rfl) rfl #[.int .i64 a0] rfl zz54 ?_; (with_reducible refine (codewrightref03_small.calls a0 false _ A4.out).mono ?_); rintro e w' ⟨rfl, ⟨nd, rfl⟩⟩; refine ⟨_, rfl, ?_⟩))
    go_meet
    case rel => exact ⟨_, (true), zz67, H', ⟨by first | omega | exact Nat.le_refl _⟩, by repeat (first | exact Drawn0.refl _ | apply Drawn0.step)⟩
  case rest =>
    clear HC3; (try clear p2); (try clear c5); obtain ⟨kq, x13_2, rfl, HA, HJ2, ⟨mc2, rfl⟩⟩ := hcut
    cases kq with
    | zero => exact absurd HA.out (by simp [codewrightref03_Gcd.j0])
    | succ kj2 =>
      have H := HA.out; clear HA; simp only [codewrightref03_Gcd.j0] at H
      by_cases c7 : x13_2 = true
      · subst c7; have H1 : (some (0, 6)) = some (r1, r2) := by rw [if_pos rfl] at H; exact H
        clear H; have H := H1; clear H1; simp only [Option.some.injEq, Prod.mk.injEq] at H; obtain ⟨rfl, rfl⟩ := H; go_wp2
        go_ret2
        exact ⟨by first | rfl | (simp; done) | (simp [*]; done), by repeat (first | exact Drawn0.refl _ | apply Drawn0.step)⟩
      replace c7 := Bool.eq_false_iff.mpr c7; subst c7; have H1 : ((codewrightref03_abs.f a0).bind fun t352 => ((codewrightref03_abs.f a1).bind fun t353 => ((codewrightref03_gcd.f kj2 t352 t353).bind fun t354 => (some (t354, 0))))) = some (r1, r2) := by rw [if_neg (show ¬ (false = true) by decide)] at H; exact H
      clear H; have H := H1; clear H1; replace H := Option.bind_eq_some_iff.mp H; obtain ⟨t352, A80, H⟩ := H; replace H : ((codewrightref03_abs.f a1).bind fun t353 => ((codewrightref03_gcd.f kj2 t352 t353).bind fun t354 => (some (t354, 0)))) = some (r1, r2) := H; have A8 := Aside0.mk A80; clear A80; replace H := Option.bind_eq_some_iff.mp H; obtain ⟨t353, A90, H⟩ := H; replace H : ((codewrightref03_gcd.f kj2 t352 t353).bind fun t354 => (some (t354, 0))) = some (r1, r2) := H; have A9 := Aside0.mk A90; clear A90; replace H := Option.bind_eq_some_iff.mp H; obtain ⟨t354, A100, H⟩ := H; replace H : (some (t354, 0)) = some (r1, r2) := H; have A10 := Aside0.mk A100; clear A100; simp only [Option.some.injEq, Prod.mk.injEq] at H; obtain ⟨rfl, rfl⟩ := H
      go_wp2_with (first | ((with_reducible refine gate_callee (f := 78) rfl ?_); refine goesL_ (some 15) rfl rfl Try.func78 (by kernel_rfl) rfl #[.int .i64 a0] rfl zz54 ?_; (with_reducible refine (codewrightref03_abs.calls a0 t352 _ A8.out).mono ?_); rintro e w' ⟨rfl, ⟨nd, rfl⟩⟩; refine ⟨_, rfl, ?_⟩) | ((with_reducible refine gate_callee (f := 78) rfl ?_); refine goesL_ (some 17) rfl rfl Try.func78 (by kernel_rfl) rfl #[.int .i64 a1] rfl zz54 ?_; (with_reducible refine (codewrightref03_abs.calls a1 t353 _ A9.out).mono ?_); rintro e w' ⟨rfl, ⟨nd, rfl⟩⟩; refine ⟨_, rfl, ?_⟩) | ((with_reducible refine gate_callee (f := 77) rfl ?_); refine goesL_ (some 18) rfl rfl Try.func77 (by kernel_rfl) rfl #[.int .i64 t352, .int .i64 t353] rfl zz54 ?_; (with_reducible refine (codewrightref03_gcd.calls kj2 t352 t353 t354 _ A10.out).mono ?_); rintro e w' ⟨rfl, ⟨nd, rfl⟩⟩; refine ⟨_, rfl, ?_⟩))
      go_ret2
      exact ⟨by first | rfl | (simp; done) | (simp [*]; done), by repeat (first | exact Drawn0.refl _ | apply Drawn0.step)⟩
end
end Go.Proofs.Ytjjlhbgpdncpcaa.P
