/- What the claim's theorem is built on, part 1: words, walks of the code, and what they tell. -/
import Derived.Test.YtjjlhbgpdncpcaaProg
import Derived.Below
import Derived.Deep.Draws
import Derived.Deep.AppendLies
import Derived.Maps.AppendAt
import Derived.OwnWalk
import Derived.Laws.BytesArg
import Derived.Laws.MakeOwn
import Derived.Laws.OwnMore
import Derived.Deep.OwnRows
import Derived.Tactics
import Derived.Lib.ConvBytes
import Derived.Laws.Slices
import Derived.WalkKit
import Derived.KernelRfl
import Derived.RowKit3
import Derived.Deep.LoopGhost
import Derived.Deep.QuietTactic
import Derived.BigQuiet
import Derived.WideLaws
import Derived.Deep.DeepCutAuto
import Derived.Deep.CutBlock
import Derived.Deep.RegionHeld3
import Derived.Laws.Rows
import Derived.Lib.AppendStr
import Derived.ArgAppend
import Derived.Laws.IdiomCopy
import Derived.OrdersHeld
import Derived.Laws.BitsLemmas
import Derived.RowKit
import Derived.Test.YtjjlhbgpdncpcaaMc0
namespace Go.Proofs.Ytjjlhbgpdncpcaa.P
open Go.RowKit Go.Proofs.YtjjlhbgpdncpcaaW.PrintWords Go.Proofs.YtjjlhbgpdncpcaaW.PrintLast Go.Proofs.YtjjlhbgpdncpcaaW.PrintMore
set_option linter.unusedVariables false
set_option linter.unusedSimpArgs false
set_option maxHeartbeats 8000000
set_option maxRecDepth 100000
section
attribute [local go_sem] max2_int min2_int max_two min_two max_three min_three max_four min_four
def errW : Option Int → Value
  | none => .nilIface
  | some c => .iface 0 (.int .i64 c)
theorem errW_none : errW none = .nilIface := rfl
theorem errW_some (c : Int) : errW (some c) = .iface 0 (.int .i64 c) := rfl
theorem info3 : (Try.prog.info? 3).map (fun i => (i.zero, i.size, i.bytes)) = some (some (.int .i64 0), 1, 8) := by kernel_rfl
theorem info4 : (Try.prog.info? 4).map (fun i => (i.zero, i.size, i.bytes)) = some (some (.bool false), 1, 1) := by kernel_rfl
theorem info22 : (Try.prog.info? 22).map (fun i => (i.zero, i.size, i.bytes)) = some (some (.slice none 0 0), 1, 24) := by kernel_rfl
theorem info72 : (Try.prog.info? 72).map (fun i => (i.zero, i.size, i.bytes)) = some (some (.int .u32 0), 1, 4) := by kernel_rfl
theorem info74 : (Try.prog.info? 74).map (fun i => (i.zero, i.size, i.bytes)) = some (some (.agg #[(.int .i64 0), (.slice none 0 0), (.slice none 0 0)]), 3, 56) := by kernel_rfl
def rd_L1 (xs : List (List Int)) (i : Int) : (List Int) := xs.getD i.toNat ([] : List Int)
theorem at_L1 {w : World} {A : Option Addr} {n : Nat} {xs : List (List Int)} (h : Kd.C (Kd.slice 3 (Kd.int .i64)) w A n xs) (i : Int) (h0 : 0 ≤ i) (h1 : i < n) : ∃ ad A0 c0, A = some ad ∧ w.cell? (ad.add i.toNat) = some (.slice A0 (rd_L1 xs i).length c0) ∧ (rd_L1 xs i).length ≤ c0 ∧ (Kd.int .i64).C w A0 (rd_L1 xs i).length (rd_L1 xs i) := by
  obtain ⟨ad, c, e, _, hK, hc0⟩ := Kd.C_get h ([] : List Int) i h0 h1
  have hc : ∀ j u, c[j]? = some u → w.cell? (ad.add (i.toNat * 1 + j)) = some u := hc0
  obtain ⟨A0, c0, rfl, l0, g0⟩ := hK
  exact ⟨ad, A0, c0, e, by have hq := hc 0 _ rfl; rwa [Nat.mul_one, Nat.add_zero] at hq, l0, g0⟩
structure S74 where
  f0 : Int
  f1 : (List Int)
  f2 : (List (List Int))
def z74 : S74 := ⟨(0 : Int), ([] : List Int), ([] : List (List Int))⟩
def k74 : Kd S74 := Kd.iso (Kd.pair (Kd.int .i64) (Kd.pair (Kd.slice 3 (Kd.int .i64)) (Kd.slice 22 (Kd.slice 3 (Kd.int .i64))))) (fun x : S74 => (x.f0, x.f1, x.f2))
theorem k74_heap : Kd.Heap k74 := Kd.heap_iso _ (Kd.heap_pair (Kd.heap_int .i64) (Kd.heap_pair (Kd.heap_slice 3 (Kd.heap_int .i64)) (Kd.heap_slice 22 (Kd.heap_slice 3 (Kd.heap_int .i64)))))
theorem k74_open {w : World} {x : S74} {cs : List Value} (h : k74.K w x cs) : ∃ A1 c1 A2 c2, cs = [.int .i64 x.f0, .slice A1 x.f1.length c1, .slice A2 x.f2.length c2] ∧ x.f1.length ≤ c1 ∧ (Kd.int .i64).C w A1 x.f1.length x.f1 ∧ x.f2.length ≤ c2 ∧ (Kd.slice 3 (Kd.int .i64)).C w A2 x.f2.length x.f2 := by
  obtain ⟨_, _, rfl, rfl, ⟨_, _, rfl, ⟨A1, c1, rfl, l1, g1⟩, ⟨A2, c2, rfl, l2, g2⟩⟩⟩ := h
  exact ⟨A1, c1, A2, c2, rfl, l1, g1, l2, g2⟩
theorem k74_mk (w : World) (x : S74) {A1 : Option Addr} {c1 : Nat} (l1 : x.f1.length ≤ c1) (g1 : (Kd.int .i64).C w A1 x.f1.length x.f1) {A2 : Option Addr} {c2 : Nat} (l2 : x.f2.length ≤ c2) (g2 : (Kd.slice 3 (Kd.int .i64)).C w A2 x.f2.length x.f2) : k74.K w x [.int .i64 x.f0, .slice A1 x.f1.length c1, .slice A2 x.f2.length c2] := ⟨[.int .i64 x.f0], [.slice A1 x.f1.length c1, .slice A2 x.f2.length c2], rfl, rfl, ⟨[.slice A1 x.f1.length c1], [.slice A2 x.f2.length c2], rfl, ⟨A1, c1, rfl, l1, g1⟩, ⟨A2, c2, rfl, l2, g2⟩⟩⟩
theorem k74_openF {W : World} {ok : Nat → Prop} {x : S74} {cs : List Value} (h : Kd.FK k74 W ok x cs) : ∃ A1 c1 A2 c2, cs = [.int .i64 x.f0, .slice A1 x.f1.length c1, .slice A2 x.f2.length c2] ∧ x.f1.length ≤ c1 ∧ Kd.F (Kd.int .i64) W ok A1 x.f1.length x.f1 ∧ x.f2.length ≤ c2 ∧ Kd.F (Kd.slice 3 (Kd.int .i64)) W ok A2 x.f2.length x.f2 := by
  obtain ⟨A1, c1, A2, c2, rfl, l1, _, l2, _⟩ := k74_open (Kd.FK_now h)
  exact ⟨A1, c1, A2, c2, rfl, l1, (fun W' hW => by obtain ⟨A1_, c1_, A2_, c2_, he, l1_, g1_, l2_, g2_⟩ := k74_open (h W' hW); injection (Option.some.inj (show some (Value.slice A1 x.f1.length c1) = some (Value.slice A1_ x.f1.length c1_) from congrArg (fun l => l[1]?) he)) with ha_ _ _; rw [ha_]; exact g1_), l2, (fun W' hW => by obtain ⟨A1_, c1_, A2_, c2_, he, l1_, g1_, l2_, g2_⟩ := k74_open (h W' hW); injection (Option.some.inj (show some (Value.slice A2 x.f2.length c2) = some (Value.slice A2_ x.f2.length c2_) from congrArg (fun l => l[2]?) he)) with ha_ _ _; rw [ha_]; exact g2_)⟩
theorem k74_mkF (W : World) (ok : Nat → Prop) (x : S74) {A1 : Option Addr} {c1 : Nat} (l1 : x.f1.length ≤ c1) (g1 : Kd.F (Kd.int .i64) W ok A1 x.f1.length x.f1) {A2 : Option Addr} {c2 : Nat} (l2 : x.f2.length ≤ c2) (g2 : Kd.F (Kd.slice 3 (Kd.int .i64)) W ok A2 x.f2.length x.f2) : Kd.FK k74 W ok x [.int .i64 x.f0, .slice A1 x.f1.length c1, .slice A2 x.f2.length c2] := fun W2 hW => k74_mk W2 x l1 (g1 W2 hW) l2 (g2 W2 hW)
def rd_T74 (xs : List S74) (i : Int) : S74 := xs.getD i.toNat z74
theorem at_T74 {w : World} {A : Option Addr} {n : Nat} {xs : List S74} (h : Kd.C k74 w A n xs) (i : Int) (h0 : 0 ≤ i) (h1 : i < n) : ∃ ad A1 c1 A2 c2, A = some ad ∧ w.cell? (ad.add (i.toNat * 3)) = some (.int .i64 (rd_T74 xs i).f0) ∧ w.cell? ⟨(ad.add (i.toNat * 3)).block, (ad.add (i.toNat * 3)).off + 1, none⟩ = some (.slice A1 (rd_T74 xs i).f1.length c1) ∧ w.cell? ⟨(ad.add (i.toNat * 3)).block, (ad.add (i.toNat * 3)).off + 2, none⟩ = some (.slice A2 (rd_T74 xs i).f2.length c2) ∧ (rd_T74 xs i).f1.length ≤ c1 ∧ (Kd.int .i64).C w A1 (rd_T74 xs i).f1.length (rd_T74 xs i).f1 ∧ (rd_T74 xs i).f2.length ≤ c2 ∧ (Kd.slice 3 (Kd.int .i64)).C w A2 (rd_T74 xs i).f2.length (rd_T74 xs i).f2 := by
  obtain ⟨ad, c, e, _, hK, hc0⟩ := Kd.C_get h z74 i h0 h1
  have hc : ∀ j u, c[j]? = some u → w.cell? (ad.add (i.toNat * 3 + j)) = some u := hc0
  obtain ⟨A1, c1, A2, c2, rfl, l1, g1, l2, g2⟩ := k74_open hK
  exact ⟨ad, A1, c1, A2, c2, e, hc 0 _ rfl, by rw [← add_field _ _ 1 (by omega)]; exact hc 1 _ rfl, by rw [← add_field _ _ 2 (by omega)]; exact hc 2 _ rfl, l1, g1, l2, g2⟩
structure S46 where
  f0 : Int
  f1 : (List S74)
def z46 : S46 := ⟨(0 : Int), ([] : List S74)⟩
def rd_L8 (xs : List (List Int)) (i : Int) : (List Int) := xs.getD i.toNat ([] : List Int)
theorem at_L8 {w : World} {A : Option Addr} {n : Nat} {xs : List (List Int)} (h : Kd.C (Kd.slice 72 (Kd.int .u32)) w A n xs) (i : Int) (h0 : 0 ≤ i) (h1 : i < n) : ∃ ad A0 c0, A = some ad ∧ w.cell? (ad.add i.toNat) = some (.slice A0 (rd_L8 xs i).length c0) ∧ (rd_L8 xs i).length ≤ c0 ∧ (Kd.int .u32).C w A0 (rd_L8 xs i).length (rd_L8 xs i) := by
  obtain ⟨ad, c, e, _, hK, hc0⟩ := Kd.C_get h ([] : List Int) i h0 h1
  have hc : ∀ j u, c[j]? = some u → w.cell? (ad.add (i.toNat * 1 + j)) = some u := hc0
  obtain ⟨A0, c0, rfl, l0, g0⟩ := hK
  exact ⟨ad, A0, c0, e, by have hq := hc 0 _ rfl; rwa [Nat.mul_one, Nat.add_zero] at hq, l0, g0⟩
theorem zR {p q : Prop} (a : Aside0 q) (h : q → p := by intro a_; (with_reducible repeat (first | apply Kd.R_alloc | apply Kd.R_drewN | apply Kd.R_drew)); exact a_) : p := h a.out
theorem zV {p q : Prop} (a : Aside0 q) (h : q → p := by intro a_; (with_reducible repeat (first | apply Kd.V_alloc | apply Kd.V_drewN | apply Kd.V_drew)); exact a_) : p := h a.out
theorem zN {p q : Prop} (a : Aside0 q) (h : q → p := by intro a_; (with_reducible repeat (first | apply Kd.N_alloc | apply Kd.N_drewN | apply Kd.N_drew)); exact a_) : p := h a.out
theorem zS {p q : Prop} (a : Aside0 q) (h : q → p := by intro a_; (with_reducible repeat (first | apply Kd.S_alloc | apply Kd.S_drewN | apply Kd.S_drew)); exact a_) : p := h a.out
theorem zB {p q : Prop} (a : Aside0 q) (h : q → p := by intro a_; (with_reducible repeat (first | refine blk_drewN ?_ _ | refine blk_drew ?_ | refine blk_alloc ?_ _)); exact a_) : p := h a.out
theorem zz0 {p : Prop} (h : p := by (with_reducible repeat (first | refine blk_drewN ?_ _ | refine blk_drew ?_ | refine blk_alloc ?_ _)); refine blk_far ?_ NB216_217.out _; (with_reducible repeat (first | refine blk_drewN ?_ _ | refine blk_drew ?_ | refine blk_alloc ?_ _)); refine blk_far ?_ NB216_217.out _; (with_reducible repeat (first | refine blk_drewN ?_ _ | refine blk_drew ?_ | refine blk_alloc ?_ _)); refine blk_far ?_ NB216_217.out _; (with_reducible repeat (first | refine blk_drewN ?_ _ | refine blk_drew ?_ | refine blk_alloc ?_ _)); refine blk_put (cs := #[.int .i64 ((rd_T74 l0_1 x5_2).f0), .slice A214_1 ((rd_T74 l0_1 x5_2).f1).length c214_1, .slice none 0 0]) ?_ 2 _ rfl; (with_reducible repeat (first | refine blk_drewN ?_ _ | refine blk_drew ?_ | refine blk_alloc ?_ _)); refine blk_put (cs := #[.int .i64 ((rd_T74 l0_1 x5_2).f0), .slice none 0 0, .slice none 0 0]) ?_ 1 _ rfl; (with_reducible repeat (first | refine blk_drewN ?_ _ | refine blk_drew ?_ | refine blk_alloc ?_ _)); refine blk_put (cs := #[.int .i64 0, .slice none 0 0, .slice none 0 0]) ?_ 0 _ rfl; (with_reducible repeat (first | refine blk_drewN ?_ _ | refine blk_drew ?_ | refine blk_alloc ?_ _)); exact BK216.out) : p := h
theorem zz1 {p : Prop} (h : p := by (with_reducible repeat (first | refine blk_drewN ?_ _ | refine blk_drew ?_ | refine blk_alloc ?_ _)); refine blk_put (cs := #[.int .i64 ((rd_T74 l1_1 x5_2).f0), .slice A215_1 ((rd_T74 l1_1 x5_2).f1).length c215_1, .slice none 0 0]) ?_ 2 _ rfl; (with_reducible repeat (first | refine blk_drewN ?_ _ | refine blk_drew ?_ | refine blk_alloc ?_ _)); refine blk_put (cs := #[.int .i64 ((rd_T74 l1_1 x5_2).f0), .slice none 0 0, .slice none 0 0]) ?_ 1 _ rfl; (with_reducible repeat (first | refine blk_drewN ?_ _ | refine blk_drew ?_ | refine blk_alloc ?_ _)); refine blk_put (cs := #[.int .i64 0, .slice none 0 0, .slice none 0 0]) ?_ 0 _ rfl; (with_reducible repeat (first | refine blk_drewN ?_ _ | refine blk_drew ?_ | refine blk_alloc ?_ _)); refine blk_far ?_ NB217_216.out _; (with_reducible repeat (first | refine blk_drewN ?_ _ | refine blk_drew ?_ | refine blk_alloc ?_ _)); refine blk_far ?_ NB217_216.out _; (with_reducible repeat (first | refine blk_drewN ?_ _ | refine blk_drew ?_ | refine blk_alloc ?_ _)); refine blk_far ?_ NB217_216.out _; (with_reducible repeat (first | refine blk_drewN ?_ _ | refine blk_drew ?_ | refine blk_alloc ?_ _)); exact BK217.out) : p := h
theorem zz2 {p : Prop} (h : p := by (with_reducible repeat (first | apply Kd.N_alloc | apply Kd.N_drewN | apply Kd.N_drew)); exact (Kd.N_mono (Kd.N_far (p := ⟨gb731, 1, none⟩) (Kd.N_far (p := ⟨gb731, 0, none⟩) (Kd.N_mono HO_701001.out (fun k_ hk => (⟨hk, hk.2⟩ : _ ∧ k_ ≠ gb731))) (fun _ hk => by first | exact hk.2 | ((repeat' apply And.intro) <;> (first | exact hk | exact hk.1 | exact hk.2 | exact hk.1.1 | exact hk.1.2 | exact hk.2.1 | exact hk.2.2 | exact hk.1.1.1 | exact hk.1.1.2 | exact hk.1.2.1 | exact hk.1.2.2 | exact hk.2.1.1 | exact hk.2.1.2 | exact hk.2.2.1 | exact hk.2.2.2 | exact hk.1.1.1.1 | exact hk.1.1.1.2 | exact hk.2.2.2.1 | exact hk.2.2.2.2))) (.int .i64 t726)) (fun _ hk => by first | exact hk.2 | ((repeat' apply And.intro) <;> (first | exact hk | exact hk.1 | exact hk.2 | exact hk.1.1 | exact hk.1.2 | exact hk.2.1 | exact hk.2.2 | exact hk.1.1.1 | exact hk.1.1.2 | exact hk.1.2.1 | exact hk.1.2.2 | exact hk.2.1.1 | exact hk.2.1.2 | exact hk.2.2.1 | exact hk.2.2.2 | exact hk.1.1.1.1 | exact hk.1.1.1.2 | exact hk.2.2.2.1 | exact hk.2.2.2.2))) (.slice Ao73 t727.length co73)) (fun _ h_ => h_.1))) : p := h
theorem zz3 {p : Prop} (h : p := by (with_reducible repeat (first | apply Kd.N_alloc | apply Kd.N_drewN | apply Kd.N_drew)); exact (Kd.N_mono (Kd.N_far (p := ⟨gb731, 1, none⟩) (Kd.N_far (p := ⟨gb731, 0, none⟩) (Kd.N_mono HO_701001.out (fun k_ hk => (⟨hk, hk.2⟩ : _ ∧ k_ ≠ gb731))) (fun _ hk => by first | exact hk.2 | ((repeat' apply And.intro) <;> (first | exact hk | exact hk.1 | exact hk.2 | exact hk.1.1 | exact hk.1.2 | exact hk.2.1 | exact hk.2.2 | exact hk.1.1.1 | exact hk.1.1.2 | exact hk.1.2.1 | exact hk.1.2.2 | exact hk.2.1.1 | exact hk.2.1.2 | exact hk.2.2.1 | exact hk.2.2.2 | exact hk.1.1.1.1 | exact hk.1.1.1.2 | exact hk.2.2.2.1 | exact hk.2.2.2.2))) (.int .i64 t726)) (fun _ hk => by first | exact hk.2 | ((repeat' apply And.intro) <;> (first | exact hk | exact hk.1 | exact hk.2 | exact hk.1.1 | exact hk.1.2 | exact hk.2.1 | exact hk.2.2 | exact hk.1.1.1 | exact hk.1.1.2 | exact hk.1.2.1 | exact hk.1.2.2 | exact hk.2.1.1 | exact hk.2.1.2 | exact hk.2.2.1 | exact hk.2.2.2 | exact hk.1.1.1.1 | exact hk.1.1.1.2 | exact hk.2.2.2.1 | exact hk.2.2.2.2))) (.slice Ao95 t727.length co95)) (fun _ h_ => h_.1))) : p := h
theorem zz4 {p : Prop} (h : p := by (with_reducible repeat (first | apply Kd.N_alloc | apply Kd.N_drewN | apply Kd.N_drew)); exact (Kd.N_mono (Kd.N_far (p := ⟨gb395, 1, none⟩) (Kd.N_far (p := ⟨gb395, 0, none⟩) (Kd.N_mono HO_340001.out (fun k_ hk => (⟨hk, hk.2⟩ : _ ∧ k_ ≠ gb395))) (fun _ hk => by first | exact hk.2 | ((repeat' apply And.intro) <;> (first | exact hk | exact hk.1 | exact hk.2 | exact hk.1.1 | exact hk.1.2 | exact hk.2.1 | exact hk.2.2 | exact hk.1.1.1 | exact hk.1.1.2 | exact hk.1.2.1 | exact hk.1.2.2 | exact hk.2.1.1 | exact hk.2.1.2 | exact hk.2.2.1 | exact hk.2.2.2 | exact hk.1.1.1.1 | exact hk.1.1.1.2 | exact hk.2.2.2.1 | exact hk.2.2.2.2))) (.int .i64 4)) (fun _ hk => by first | exact hk.2 | ((repeat' apply And.intro) <;> (first | exact hk | exact hk.1 | exact hk.2 | exact hk.1.1 | exact hk.1.2 | exact hk.2.1 | exact hk.2.2 | exact hk.1.1.1 | exact hk.1.1.2 | exact hk.1.2.1 | exact hk.1.2.2 | exact hk.2.1.1 | exact hk.2.1.2 | exact hk.2.2.1 | exact hk.2.2.2 | exact hk.1.1.1.1 | exact hk.1.1.1.2 | exact hk.2.2.2.1 | exact hk.2.2.2.2))) (.slice Ao146 y392.length co146)) (fun _ h_ => h_.1))) : p := h
theorem zz5 {p : Prop} (h : p := by (with_reducible repeat (first | apply Kd.N_alloc | apply Kd.N_drewN | apply Kd.N_drew)); exact (Kd.N_mono (Kd.N_far (p := ⟨gb700, 1, none⟩) (Kd.N_far (p := ⟨gb700, 0, none⟩) (Kd.N_mono HO698.out (fun k_ hk => (⟨hk, hk.2⟩ : _ ∧ k_ ≠ gb700))) (fun _ hk => by first | exact hk.2 | ((repeat' apply And.intro) <;> (first | exact hk | exact hk.1 | exact hk.2 | exact hk.1.1 | exact hk.1.2 | exact hk.2.1 | exact hk.2.2 | exact hk.1.1.1 | exact hk.1.1.2 | exact hk.1.2.1 | exact hk.1.2.2 | exact hk.2.1.1 | exact hk.2.1.2 | exact hk.2.2.1 | exact hk.2.2.2 | exact hk.1.1.1.1 | exact hk.1.1.1.2 | exact hk.2.2.2.1 | exact hk.2.2.2.2))) (.int .i64 t695)) (fun _ hk => by first | exact hk.2 | ((repeat' apply And.intro) <;> (first | exact hk | exact hk.1 | exact hk.2 | exact hk.1.1 | exact hk.1.2 | exact hk.2.1 | exact hk.2.2 | exact hk.1.1.1 | exact hk.1.1.2 | exact hk.1.2.1 | exact hk.1.2.2 | exact hk.2.1.1 | exact hk.2.1.2 | exact hk.2.2.1 | exact hk.2.2.2 | exact hk.1.1.1.1 | exact hk.1.1.1.2 | exact hk.2.2.2.1 | exact hk.2.2.2.2))) (.slice Ao24 t696.length co24)) (fun _ h_ => h_.1))) : p := h
theorem zz6 {p : Prop} (h : p := by (with_reducible repeat (first | apply Kd.N_alloc | apply Kd.N_drewN | apply Kd.N_drew)); exact (Kd.N_mono (Kd.N_far (p := ⟨gb731, 1, none⟩) (Kd.N_far (p := ⟨gb731, 0, none⟩) (Kd.N_mono HO720.out (fun k_ hk => (⟨hk, hk.2⟩ : _ ∧ k_ ≠ gb731))) (fun _ hk => by first | exact hk.2 | ((repeat' apply And.intro) <;> (first | exact hk | exact hk.1 | exact hk.2 | exact hk.1.1 | exact hk.1.2 | exact hk.2.1 | exact hk.2.2 | exact hk.1.1.1 | exact hk.1.1.2 | exact hk.1.2.1 | exact hk.1.2.2 | exact hk.2.1.1 | exact hk.2.1.2 | exact hk.2.2.1 | exact hk.2.2.2 | exact hk.1.1.1.1 | exact hk.1.1.1.2 | exact hk.2.2.2.1 | exact hk.2.2.2.2))) (.int .i64 t726)) (fun _ hk => by first | exact hk.2 | ((repeat' apply And.intro) <;> (first | exact hk | exact hk.1 | exact hk.2 | exact hk.1.1 | exact hk.1.2 | exact hk.2.1 | exact hk.2.2 | exact hk.1.1.1 | exact hk.1.1.2 | exact hk.1.2.1 | exact hk.1.2.2 | exact hk.2.1.1 | exact hk.2.1.2 | exact hk.2.2.1 | exact hk.2.2.2 | exact hk.1.1.1.1 | exact hk.1.1.1.2 | exact hk.2.2.2.1 | exact hk.2.2.2.2))) (.slice Ao73 t727.length co73)) (fun _ h_ => h_.1))) : p := h
theorem zz7 {p : Prop} (h : p := by (with_reducible repeat (first | apply Kd.N_alloc | apply Kd.N_drewN | apply Kd.N_drew)); exact (Kd.N_mono (Kd.N_far (p := ⟨gb731, 1, none⟩) (Kd.N_far (p := ⟨gb731, 0, none⟩) (Kd.N_mono HO720.out (fun k_ hk => (⟨hk, hk.2⟩ : _ ∧ k_ ≠ gb731))) (fun _ hk => by first | exact hk.2 | ((repeat' apply And.intro) <;> (first | exact hk | exact hk.1 | exact hk.2 | exact hk.1.1 | exact hk.1.2 | exact hk.2.1 | exact hk.2.2 | exact hk.1.1.1 | exact hk.1.1.2 | exact hk.1.2.1 | exact hk.1.2.2 | exact hk.2.1.1 | exact hk.2.1.2 | exact hk.2.2.1 | exact hk.2.2.2 | exact hk.1.1.1.1 | exact hk.1.1.1.2 | exact hk.2.2.2.1 | exact hk.2.2.2.2))) (.int .i64 t726)) (fun _ hk => by first | exact hk.2 | ((repeat' apply And.intro) <;> (first | exact hk | exact hk.1 | exact hk.2 | exact hk.1.1 | exact hk.1.2 | exact hk.2.1 | exact hk.2.2 | exact hk.1.1.1 | exact hk.1.1.2 | exact hk.1.2.1 | exact hk.1.2.2 | exact hk.2.1.1 | exact hk.2.1.2 | exact hk.2.2.1 | exact hk.2.2.2 | exact hk.1.1.1.1 | exact hk.1.1.1.2 | exact hk.2.2.2.1 | exact hk.2.2.2.2))) (.slice Ao95 t727.length co95)) (fun _ h_ => h_.1))) : p := h
theorem zz8 {p : Prop} (h : p := by (with_reducible repeat (first | refine blk_drewN ?_ _ | refine blk_drew ?_ | refine blk_alloc ?_ _)); refine blk_far ?_ NB212_217.out _; (with_reducible repeat (first | refine blk_drewN ?_ _ | refine blk_drew ?_ | refine blk_alloc ?_ _)); refine blk_far ?_ NB212_217.out _; (with_reducible repeat (first | refine blk_drewN ?_ _ | refine blk_drew ?_ | refine blk_alloc ?_ _)); refine blk_far ?_ NB212_217.out _; (with_reducible repeat (first | refine blk_drewN ?_ _ | refine blk_drew ?_ | refine blk_alloc ?_ _)); refine blk_far ?_ NB212_216.out _; (with_reducible repeat (first | refine blk_drewN ?_ _ | refine blk_drew ?_ | refine blk_alloc ?_ _)); refine blk_far ?_ NB212_216.out _; (with_reducible repeat (first | refine blk_drewN ?_ _ | refine blk_drew ?_ | refine blk_alloc ?_ _)); refine blk_far ?_ NB212_216.out _; (with_reducible repeat (first | refine blk_drewN ?_ _ | refine blk_drew ?_ | refine blk_alloc ?_ _)); exact BK212.out) : p := h
theorem zz9 {p : Prop} (h : p := by (with_reducible repeat (first | refine blk_drewN ?_ _ | refine blk_drew ?_ | refine blk_alloc ?_ _)); refine blk_far ?_ NB213_217.out _; (with_reducible repeat (first | refine blk_drewN ?_ _ | refine blk_drew ?_ | refine blk_alloc ?_ _)); refine blk_far ?_ NB213_217.out _; (with_reducible repeat (first | refine blk_drewN ?_ _ | refine blk_drew ?_ | refine blk_alloc ?_ _)); refine blk_far ?_ NB213_217.out _; (with_reducible repeat (first | refine blk_drewN ?_ _ | refine blk_drew ?_ | refine blk_alloc ?_ _)); refine blk_far ?_ NB213_216.out _; (with_reducible repeat (first | refine blk_drewN ?_ _ | refine blk_drew ?_ | refine blk_alloc ?_ _)); refine blk_far ?_ NB213_216.out _; (with_reducible repeat (first | refine blk_drewN ?_ _ | refine blk_drew ?_ | refine blk_alloc ?_ _)); refine blk_far ?_ NB213_216.out _; (with_reducible repeat (first | refine blk_drewN ?_ _ | refine blk_drew ?_ | refine blk_alloc ?_ _)); exact BK213.out) : p := h
theorem zz10 {p : Prop} (h : p := by rw [hw]; exact (by (with_reducible repeat (first | refine blk_drewN ?_ _ | refine blk_drew ?_ | refine blk_alloc ?_ _)); refine blk_put (cs := #[.int .i64 ((rd_T74 l0_1 x72_3).f0), .slice A235_1 ((rd_T74 l0_1 x72_3).f1).length c235_1, .slice none 0 0]) ?_ 2 _ rfl; (with_reducible repeat (first | refine blk_drewN ?_ _ | refine blk_drew ?_ | refine blk_alloc ?_ _)); refine blk_put (cs := #[.int .i64 ((rd_T74 l0_1 x72_3).f0), .slice none 0 0, .slice none 0 0]) ?_ 1 _ rfl; (with_reducible repeat (first | refine blk_drewN ?_ _ | refine blk_drew ?_ | refine blk_alloc ?_ _)); refine blk_put (cs := #[.int .i64 0, .slice none 0 0, .slice none 0 0]) ?_ 0 _ rfl; (with_reducible repeat (first | refine blk_drewN ?_ _ | refine blk_drew ?_ | refine blk_alloc ?_ _)); exact BK236.out)) : p := h
theorem zz11 {p : Prop} (h : p := by (with_reducible repeat (first | refine blk_drewN ?_ _ | refine blk_drew ?_ | refine blk_alloc ?_ _)); refine blk_put (cs := #[.int .i64 ((rd_T74 l0_1 x27_1).f0), .slice A224_1 ((rd_T74 l0_1 x27_1).f1).length c224_1, .slice none 0 0]) ?_ 2 _ rfl; (with_reducible repeat (first | refine blk_drewN ?_ _ | refine blk_drew ?_ | refine blk_alloc ?_ _)); refine blk_put (cs := #[.int .i64 ((rd_T74 l0_1 x27_1).f0), .slice none 0 0, .slice none 0 0]) ?_ 1 _ rfl; (with_reducible repeat (first | refine blk_drewN ?_ _ | refine blk_drew ?_ | refine blk_alloc ?_ _)); refine blk_put (cs := #[.int .i64 0, .slice none 0 0, .slice none 0 0]) ?_ 0 _ rfl; (with_reducible repeat (first | refine blk_drewN ?_ _ | refine blk_drew ?_ | refine blk_alloc ?_ _)); exact BK225.out) : p := h
theorem zz13 {p : Prop} (h : p := by (with_reducible repeat (first | refine blk_drewN ?_ _ | refine blk_drew ?_ | refine blk_alloc ?_ _)); refine blk_put (cs := #[.int .i64 ((rd_T74 l0_1 x35_4).f0), .slice A275_1 ((rd_T74 l0_1 x35_4).f1).length c275_1, .slice none 0 0]) ?_ 2 _ rfl; (with_reducible repeat (first | refine blk_drewN ?_ _ | refine blk_drew ?_ | refine blk_alloc ?_ _)); refine blk_put (cs := #[.int .i64 ((rd_T74 l0_1 x35_4).f0), .slice none 0 0, .slice none 0 0]) ?_ 1 _ rfl; (with_reducible repeat (first | refine blk_drewN ?_ _ | refine blk_drew ?_ | refine blk_alloc ?_ _)); refine blk_put (cs := #[.int .i64 0, .slice none 0 0, .slice none 0 0]) ?_ 0 _ rfl; (with_reducible repeat (first | refine blk_drewN ?_ _ | refine blk_drew ?_ | refine blk_alloc ?_ _)); exact BK276.out) : p := h
theorem zz14 {p : Prop} (h : p := by first | exact Nat.ne_of_lt (Nat.lt_of_lt_of_le (by have := World.block_lt_of_cell? _ _ hw214_0; first | rwa [add_block] at this | exact this) GW216.out) | (rw [add_block]; exact Nat.ne_of_lt (Nat.lt_of_lt_of_le (by have := World.block_lt_of_cell? _ _ hw214_0; first | rwa [add_block] at this | exact this) GW216.out)) | (show (Addr.add _ _).block ≠ _; rw [add_block]; exact Nat.ne_of_lt (Nat.lt_of_lt_of_le (by have := World.block_lt_of_cell? _ _ hw214_0; first | rwa [add_block] at this | exact this) GW216.out)) | (dsimp only; exact Nat.ne_of_lt (Nat.lt_of_lt_of_le (by have := World.block_lt_of_cell? _ _ hw214_0; first | rwa [add_block] at this | exact this) GW216.out))) : p := h
theorem zz15 {p : Prop} (h : p := by first | exact Nat.ne_of_lt (Nat.lt_of_lt_of_le (by have := World.block_lt_of_cell? _ _ hw214_1; first | rwa [add_block] at this | exact this) GW216.out) | (rw [add_block]; exact Nat.ne_of_lt (Nat.lt_of_lt_of_le (by have := World.block_lt_of_cell? _ _ hw214_1; first | rwa [add_block] at this | exact this) GW216.out)) | (show (Addr.add _ _).block ≠ _; rw [add_block]; exact Nat.ne_of_lt (Nat.lt_of_lt_of_le (by have := World.block_lt_of_cell? _ _ hw214_1; first | rwa [add_block] at this | exact this) GW216.out)) | (dsimp only; exact Nat.ne_of_lt (Nat.lt_of_lt_of_le (by have := World.block_lt_of_cell? _ _ hw214_1; first | rwa [add_block] at this | exact this) GW216.out))) : p := h
theorem zz16 {p : Prop} (h : p := by first | exact Nat.ne_of_lt (Nat.lt_of_lt_of_le (by have := World.block_lt_of_cell? _ _ hw214_2; first | rwa [add_block] at this | exact this) GW216.out) | (rw [add_block]; exact Nat.ne_of_lt (Nat.lt_of_lt_of_le (by have := World.block_lt_of_cell? _ _ hw214_2; first | rwa [add_block] at this | exact this) GW216.out)) | (show (Addr.add _ _).block ≠ _; rw [add_block]; exact Nat.ne_of_lt (Nat.lt_of_lt_of_le (by have := World.block_lt_of_cell? _ _ hw214_2; first | rwa [add_block] at this | exact this) GW216.out)) | (dsimp only; exact Nat.ne_of_lt (Nat.lt_of_lt_of_le (by have := World.block_lt_of_cell? _ _ hw214_2; first | rwa [add_block] at this | exact this) GW216.out))) : p := h
theorem zz17 {p : Prop} (h : p := by first | exact Nat.ne_of_lt (Nat.lt_of_lt_of_le (by have := World.block_lt_of_cell? _ _ hw215_0; first | rwa [add_block] at this | exact this) GW216.out) | (rw [add_block]; exact Nat.ne_of_lt (Nat.lt_of_lt_of_le (by have := World.block_lt_of_cell? _ _ hw215_0; first | rwa [add_block] at this | exact this) GW216.out)) | (show (Addr.add _ _).block ≠ _; rw [add_block]; exact Nat.ne_of_lt (Nat.lt_of_lt_of_le (by have := World.block_lt_of_cell? _ _ hw215_0; first | rwa [add_block] at this | exact this) GW216.out)) | (dsimp only; exact Nat.ne_of_lt (Nat.lt_of_lt_of_le (by have := World.block_lt_of_cell? _ _ hw215_0; first | rwa [add_block] at this | exact this) GW216.out))) : p := h
theorem zz18 {p : Prop} (h : p := by first | exact Nat.ne_of_lt (Nat.lt_of_lt_of_le (by have := World.block_lt_of_cell? _ _ hw215_1; first | rwa [add_block] at this | exact this) GW216.out) | (rw [add_block]; exact Nat.ne_of_lt (Nat.lt_of_lt_of_le (by have := World.block_lt_of_cell? _ _ hw215_1; first | rwa [add_block] at this | exact this) GW216.out)) | (show (Addr.add _ _).block ≠ _; rw [add_block]; exact Nat.ne_of_lt (Nat.lt_of_lt_of_le (by have := World.block_lt_of_cell? _ _ hw215_1; first | rwa [add_block] at this | exact this) GW216.out)) | (dsimp only; exact Nat.ne_of_lt (Nat.lt_of_lt_of_le (by have := World.block_lt_of_cell? _ _ hw215_1; first | rwa [add_block] at this | exact this) GW216.out))) : p := h
theorem zz19 {p : Prop} (h : p := by first | exact Nat.ne_of_lt (Nat.lt_of_lt_of_le (by have := World.block_lt_of_cell? _ _ hw215_2; first | rwa [add_block] at this | exact this) GW216.out) | (rw [add_block]; exact Nat.ne_of_lt (Nat.lt_of_lt_of_le (by have := World.block_lt_of_cell? _ _ hw215_2; first | rwa [add_block] at this | exact this) GW216.out)) | (show (Addr.add _ _).block ≠ _; rw [add_block]; exact Nat.ne_of_lt (Nat.lt_of_lt_of_le (by have := World.block_lt_of_cell? _ _ hw215_2; first | rwa [add_block] at this | exact this) GW216.out)) | (dsimp only; exact Nat.ne_of_lt (Nat.lt_of_lt_of_le (by have := World.block_lt_of_cell? _ _ hw215_2; first | rwa [add_block] at this | exact this) GW216.out))) : p := h
theorem zz20 {p : Prop} (h : p := by first | exact Nat.ne_of_lt (Nat.lt_of_lt_of_le (by have := World.block_lt_of_cell? _ _ hw214_0; first | rwa [add_block] at this | exact this) GW217.out) | (rw [add_block]; exact Nat.ne_of_lt (Nat.lt_of_lt_of_le (by have := World.block_lt_of_cell? _ _ hw214_0; first | rwa [add_block] at this | exact this) GW217.out)) | (show (Addr.add _ _).block ≠ _; rw [add_block]; exact Nat.ne_of_lt (Nat.lt_of_lt_of_le (by have := World.block_lt_of_cell? _ _ hw214_0; first | rwa [add_block] at this | exact this) GW217.out)) | (dsimp only; exact Nat.ne_of_lt (Nat.lt_of_lt_of_le (by have := World.block_lt_of_cell? _ _ hw214_0; first | rwa [add_block] at this | exact this) GW217.out))) : p := h
theorem zz21 {p : Prop} (h : p := by first | exact Nat.ne_of_lt (Nat.lt_of_lt_of_le (by have := World.block_lt_of_cell? _ _ hw214_1; first | rwa [add_block] at this | exact this) GW217.out) | (rw [add_block]; exact Nat.ne_of_lt (Nat.lt_of_lt_of_le (by have := World.block_lt_of_cell? _ _ hw214_1; first | rwa [add_block] at this | exact this) GW217.out)) | (show (Addr.add _ _).block ≠ _; rw [add_block]; exact Nat.ne_of_lt (Nat.lt_of_lt_of_le (by have := World.block_lt_of_cell? _ _ hw214_1; first | rwa [add_block] at this | exact this) GW217.out)) | (dsimp only; exact Nat.ne_of_lt (Nat.lt_of_lt_of_le (by have := World.block_lt_of_cell? _ _ hw214_1; first | rwa [add_block] at this | exact this) GW217.out))) : p := h
theorem zz22 {p : Prop} (h : p := by first | exact Nat.ne_of_lt (Nat.lt_of_lt_of_le (by have := World.block_lt_of_cell? _ _ hw214_2; first | rwa [add_block] at this | exact this) GW217.out) | (rw [add_block]; exact Nat.ne_of_lt (Nat.lt_of_lt_of_le (by have := World.block_lt_of_cell? _ _ hw214_2; first | rwa [add_block] at this | exact this) GW217.out)) | (show (Addr.add _ _).block ≠ _; rw [add_block]; exact Nat.ne_of_lt (Nat.lt_of_lt_of_le (by have := World.block_lt_of_cell? _ _ hw214_2; first | rwa [add_block] at this | exact this) GW217.out)) | (dsimp only; exact Nat.ne_of_lt (Nat.lt_of_lt_of_le (by have := World.block_lt_of_cell? _ _ hw214_2; first | rwa [add_block] at this | exact this) GW217.out))) : p := h
theorem zz23 {p : Prop} (h : p := by first | exact Nat.ne_of_lt (Nat.lt_of_lt_of_le (by have := World.block_lt_of_cell? _ _ hw215_0; first | rwa [add_block] at this | exact this) GW217.out) | (rw [add_block]; exact Nat.ne_of_lt (Nat.lt_of_lt_of_le (by have := World.block_lt_of_cell? _ _ hw215_0; first | rwa [add_block] at this | exact this) GW217.out)) | (show (Addr.add _ _).block ≠ _; rw [add_block]; exact Nat.ne_of_lt (Nat.lt_of_lt_of_le (by have := World.block_lt_of_cell? _ _ hw215_0; first | rwa [add_block] at this | exact this) GW217.out)) | (dsimp only; exact Nat.ne_of_lt (Nat.lt_of_lt_of_le (by have := World.block_lt_of_cell? _ _ hw215_0; first | rwa [add_block] at this | exact this) GW217.out))) : p := h
theorem zz24 {p : Prop} (h : p := by first | exact Nat.ne_of_lt (Nat.lt_of_lt_of_le (by have := World.block_lt_of_cell? _ _ hw215_1; first | rwa [add_block] at this | exact this) GW217.out) | (rw [add_block]; exact Nat.ne_of_lt (Nat.lt_of_lt_of_le (by have := World.block_lt_of_cell? _ _ hw215_1; first | rwa [add_block] at this | exact this) GW217.out)) | (show (Addr.add _ _).block ≠ _; rw [add_block]; exact Nat.ne_of_lt (Nat.lt_of_lt_of_le (by have := World.block_lt_of_cell? _ _ hw215_1; first | rwa [add_block] at this | exact this) GW217.out)) | (dsimp only; exact Nat.ne_of_lt (Nat.lt_of_lt_of_le (by have := World.block_lt_of_cell? _ _ hw215_1; first | rwa [add_block] at this | exact this) GW217.out))) : p := h
theorem zz25 {p : Prop} (h : p := by first | exact Nat.ne_of_lt (Nat.lt_of_lt_of_le (by have := World.block_lt_of_cell? _ _ hw215_2; first | rwa [add_block] at this | exact this) GW217.out) | (rw [add_block]; exact Nat.ne_of_lt (Nat.lt_of_lt_of_le (by have := World.block_lt_of_cell? _ _ hw215_2; first | rwa [add_block] at this | exact this) GW217.out)) | (show (Addr.add _ _).block ≠ _; rw [add_block]; exact Nat.ne_of_lt (Nat.lt_of_lt_of_le (by have := World.block_lt_of_cell? _ _ hw215_2; first | rwa [add_block] at this | exact this) GW217.out)) | (dsimp only; exact Nat.ne_of_lt (Nat.lt_of_lt_of_le (by have := World.block_lt_of_cell? _ _ hw215_2; first | rwa [add_block] at this | exact this) GW217.out))) : p := h
theorem zz26 {p : Prop} (h : p := by rw [hw]; exact (by (with_reducible repeat (first | apply Kd.V_alloc | apply Kd.V_drewN | apply Kd.V_drew)); exact Kd.V_mono (Kd.V_far (p := ⟨gb236, 2, none⟩) (Kd.V_far (p := ⟨gb236, 1, none⟩) (Kd.V_far (p := ⟨gb236, 0, none⟩) (Kd.V_mono HO_223001.out (fun k_ hk => (⟨hk, hk.2⟩ : _ ∧ k_ ≠ gb236))) (fun _ hk => hk.2) (.int .i64 ((rd_T74 l0_1 x72_3).f0))) (fun _ hk => hk.2) (.slice A235_1 ((rd_T74 l0_1 x72_3).f1).length c235_1)) (fun _ hk => hk.2) (.slice A235_2 ((rd_T74 l0_1 x72_3).f2).length c235_2)) (fun _ hk => ⟨hk.1.1.1, ⟨hk.1.1.2.1, ⟨hk.1.1.2.2.1, ⟨hk.1.1.2.2.2, hk.1.2⟩⟩⟩⟩))) : p := h
theorem zz27 {p : Prop} (h : p := by rw [hw]; exact (by (with_reducible repeat (first | apply Kd.V_alloc | apply Kd.V_drewN | apply Kd.V_drew)); exact Kd.V_mono (Kd.V_far (p := ⟨gb236, 2, none⟩) (Kd.V_far (p := ⟨gb236, 1, none⟩) (Kd.V_far (p := ⟨gb236, 0, none⟩) (Kd.V_mono HL235_1.out (fun k_ hk => (⟨hk, hk.2⟩ : _ ∧ k_ ≠ gb236))) (fun _ hk => hk.2) (.int .i64 ((rd_T74 l0_1 x72_3).f0))) (fun _ hk => hk.2) (.slice A235_1 ((rd_T74 l0_1 x72_3).f1).length c235_1)) (fun _ hk => hk.2) (.slice A235_2 ((rd_T74 l0_1 x72_3).f2).length c235_2)) (fun _ hk => ⟨hk.1.1.1, ⟨hk.1.1.2.1, ⟨hk.1.1.2.2.1, ⟨hk.1.1.2.2.2, hk.1.2⟩⟩⟩⟩))) : p := h
theorem zz28 {p : Prop} (h : p := by rw [hw]; exact (by (with_reducible repeat (first | apply Kd.V_alloc | apply Kd.V_drewN | apply Kd.V_drew)); exact Kd.V_mono (Kd.V_far (p := ⟨gb236, 2, none⟩) (Kd.V_far (p := ⟨gb236, 1, none⟩) (Kd.V_far (p := ⟨gb236, 0, none⟩) (Kd.V_mono HL235_2.out (fun k_ hk => (⟨hk, hk.2⟩ : _ ∧ k_ ≠ gb236))) (fun _ hk => hk.2) (.int .i64 ((rd_T74 l0_1 x72_3).f0))) (fun _ hk => hk.2) (.slice A235_1 ((rd_T74 l0_1 x72_3).f1).length c235_1)) (fun _ hk => hk.2) (.slice A235_2 ((rd_T74 l0_1 x72_3).f2).length c235_2)) (fun _ hk => ⟨hk.1.1.1, ⟨hk.1.1.2.1, ⟨hk.1.1.2.2.1, ⟨hk.1.1.2.2.2, hk.1.2⟩⟩⟩⟩))) : p := h
theorem zz29 {p : Prop} (h : p := by rw [hw]; exact (by (with_reducible repeat (first | apply Kd.V_alloc | apply Kd.V_drewN | apply Kd.V_drew)); exact Kd.V_mono (Kd.V_far (p := ⟨gb236, 2, none⟩) (Kd.V_far (p := ⟨gb236, 1, none⟩) (Kd.V_far (p := ⟨gb236, 0, none⟩) (Kd.V_mono HO_70.out (fun k_ hk => (⟨hk, hk.2⟩ : _ ∧ k_ ≠ gb236))) (fun _ hk => hk.2) (.int .i64 ((rd_T74 l0_1 x72_3).f0))) (fun _ hk => hk.2) (.slice A235_1 ((rd_T74 l0_1 x72_3).f1).length c235_1)) (fun _ hk => hk.2) (.slice A235_2 ((rd_T74 l0_1 x72_3).f2).length c235_2)) (fun _ hk => ⟨hk.1.1.1, ⟨hk.1.1.2.1, ⟨hk.1.1.2.2.1, ⟨hk.1.1.2.2.2, hk.1.2⟩⟩⟩⟩))) : p := h
theorem zz30 {p : Prop} (h : p := by rw [hw]; exact (by (with_reducible repeat (first | apply Kd.N_alloc | apply Kd.N_drewN | apply Kd.N_drew)); exact Kd.N_mono (Kd.N_far (p := ⟨gb236, 2, none⟩) (Kd.N_far (p := ⟨gb236, 1, none⟩) (Kd.N_far (p := ⟨gb236, 0, none⟩) (Kd.N_mono HO_235001.out (fun k_ hk => (⟨hk, hk.2⟩ : _ ∧ k_ ≠ gb236))) (fun _ hk => hk.2) (.int .i64 ((rd_T74 l0_1 x72_3).f0))) (fun _ hk => hk.2) (.slice A235_1 ((rd_T74 l0_1 x72_3).f1).length c235_1)) (fun _ hk => hk.2) (.slice A235_2 ((rd_T74 l0_1 x72_3).f2).length c235_2)) (fun _ hk => ⟨hk.1.1.1, ⟨hk.1.1.2.1, ⟨hk.1.1.2.2, hk.1.2⟩⟩⟩))) : p := h
theorem zz35 {p : Prop} (h : p := by rw [hw]; exact (by (with_reducible repeat (first | refine blk_drewN ?_ _ | refine blk_drew ?_ | refine blk_alloc ?_ _)); refine blk_far ?_ NB222_236.out _; (with_reducible repeat (first | refine blk_drewN ?_ _ | refine blk_drew ?_ | refine blk_alloc ?_ _)); refine blk_far ?_ NB222_236.out _; (with_reducible repeat (first | refine blk_drewN ?_ _ | refine blk_drew ?_ | refine blk_alloc ?_ _)); refine blk_far ?_ NB222_236.out _; (with_reducible repeat (first | refine blk_drewN ?_ _ | refine blk_drew ?_ | refine blk_alloc ?_ _)); exact BK222.out)) : p := h
theorem zz36 {p : Prop} (h : p := by rw [hw]; exact (by (with_reducible repeat (first | refine blk_drewN ?_ _ | refine blk_drew ?_ | refine blk_alloc ?_ _)); refine blk_far ?_ NB234_236.out _; (with_reducible repeat (first | refine blk_drewN ?_ _ | refine blk_drew ?_ | refine blk_alloc ?_ _)); refine blk_far ?_ NB234_236.out _; (with_reducible repeat (first | refine blk_drewN ?_ _ | refine blk_drew ?_ | refine blk_alloc ?_ _)); refine blk_far ?_ NB234_236.out _; (with_reducible repeat (first | refine blk_drewN ?_ _ | refine blk_drew ?_ | refine blk_alloc ?_ _)); exact BK234.out)) : p := h
theorem zz38 {p : Prop} (h : p := by (with_reducible repeat (first | apply Kd.V_alloc | apply Kd.V_drewN | apply Kd.V_drew)); exact Kd.V_mono HO_1.out (fun _ hk => by first | exact ⟨hk.1.1, ⟨hk.2, ⟨hk.1.2.2.1, hk.1.2.2.2⟩⟩⟩ | ((repeat' apply And.intro) <;> (first | exact hk | exact hk.1 | exact hk.2 | exact hk.1.1 | exact hk.1.2 | exact hk.2.1 | exact hk.2.2 | exact hk.1.1.1 | exact hk.1.1.2 | exact hk.1.2.1 | exact hk.1.2.2 | exact hk.2.1.1 | exact hk.2.1.2 | exact hk.2.2.1 | exact hk.2.2.2 | exact hk.1.1.1.1 | exact hk.1.1.1.2 | exact hk.2.2.2.1 | exact hk.2.2.2.2)))) : p := h
theorem zz39 {p : Prop} (h : p := by (with_reducible repeat (first | apply Kd.V_alloc | apply Kd.V_drewN | apply Kd.V_drew)); exact Kd.V_mono HO_1.out (fun _ hk => by first | exact ⟨hk.1.1, ⟨hk.2, ⟨hk.1.2.1, hk.1.2.2⟩⟩⟩ | ((repeat' apply And.intro) <;> (first | exact hk | exact hk.1 | exact hk.2 | exact hk.1.1 | exact hk.1.2 | exact hk.2.1 | exact hk.2.2 | exact hk.1.1.1 | exact hk.1.1.2 | exact hk.1.2.1 | exact hk.1.2.2 | exact hk.2.1.1 | exact hk.2.1.2 | exact hk.2.2.1 | exact hk.2.2.2 | exact hk.1.1.1.1 | exact hk.1.1.1.2 | exact hk.2.2.2.1 | exact hk.2.2.2.2)))) : p := h
theorem zz40 {p : Prop} (h : p := by (with_reducible repeat (first | refine blk_drewN ?_ _ | refine blk_drew ?_ | refine blk_alloc ?_ _)); refine blk_far ?_ NB222_225.out _; (with_reducible repeat (first | refine blk_drewN ?_ _ | refine blk_drew ?_ | refine blk_alloc ?_ _)); refine blk_far ?_ NB222_225.out _; (with_reducible repeat (first | refine blk_drewN ?_ _ | refine blk_drew ?_ | refine blk_alloc ?_ _)); refine blk_far ?_ NB222_225.out _; (with_reducible repeat (first | refine blk_drewN ?_ _ | refine blk_drew ?_ | refine blk_alloc ?_ _)); exact BK222.out) : p := h
theorem zz43 {p : Prop} (h : p := by (with_reducible repeat (first | refine blk_drewN ?_ _ | refine blk_drew ?_ | refine blk_alloc ?_ _)); refine blk_far ?_ NB269_276.out _; (with_reducible repeat (first | refine blk_drewN ?_ _ | refine blk_drew ?_ | refine blk_alloc ?_ _)); refine blk_far ?_ NB269_276.out _; (with_reducible repeat (first | refine blk_drewN ?_ _ | refine blk_drew ?_ | refine blk_alloc ?_ _)); refine blk_far ?_ NB269_276.out _; (with_reducible repeat (first | refine blk_drewN ?_ _ | refine blk_drew ?_ | refine blk_alloc ?_ _)); exact BK269.out) : p := h
theorem zz44 {p : Prop} (h : p := by (with_reducible repeat (first | apply Kd.N_alloc | apply Kd.N_drewN | apply Kd.N_drew)); exact Kd.N_mono HO_701001.out (fun _ hk => by first | exact ⟨hk.1.1, ⟨hk.2, hk.1.2.2⟩⟩ | ((repeat' apply And.intro) <;> (first | exact hk | exact hk.1 | exact hk.2 | exact hk.1.1 | exact hk.1.2 | exact hk.2.1 | exact hk.2.2 | exact hk.1.1.1 | exact hk.1.1.2 | exact hk.1.2.1 | exact hk.1.2.2 | exact hk.2.1.1 | exact hk.2.1.2 | exact hk.2.2.1 | exact hk.2.2.2 | exact hk.1.1.1.1 | exact hk.1.1.1.2 | exact hk.2.2.2.1 | exact hk.2.2.2.2)))) : p := h
theorem zz45 {p : Prop} (h : p := by (with_reducible repeat (first | apply Kd.N_alloc | apply Kd.N_drewN | apply Kd.N_drew)); exact Kd.N_mono HO_701001.out (fun _ hk => by first | exact ⟨hk.1.1, ⟨hk.2, hk.1.2⟩⟩ | ((repeat' apply And.intro) <;> (first | exact hk | exact hk.1 | exact hk.2 | exact hk.1.1 | exact hk.1.2 | exact hk.2.1 | exact hk.2.2 | exact hk.1.1.1 | exact hk.1.1.2 | exact hk.1.2.1 | exact hk.1.2.2 | exact hk.2.1.1 | exact hk.2.1.2 | exact hk.2.2.1 | exact hk.2.2.2 | exact hk.1.1.1.1 | exact hk.1.1.1.2 | exact hk.2.2.2.1 | exact hk.2.2.2.2)))) : p := h
theorem zz46 {p : Prop} (h : p := by (with_reducible repeat (first | apply Kd.V_alloc | apply Kd.V_drewN | apply Kd.V_drew)); exact (Kd.V_mono (Kd.V_far (p := ⟨gb238, 2, none⟩) (Kd.V_far (p := ⟨gb238, 1, none⟩) (Kd.V_far (p := ⟨gb238, 0, none⟩) (Kd.V_mono HL235_1.out (fun k_ hk => (⟨hk, hk.2⟩ : _ ∧ k_ ≠ gb238))) (fun _ hk => hk.2) (.int .i64 ((rd_T74 t230 x72_3).f0))) (fun _ hk => hk.2) (.slice A237_1 ((rd_T74 t230 x72_3).f1).length c237_1)) (fun _ hk => hk.2) (.slice A237_2 ((rd_T74 t230 x72_3).f2).length c237_2)) (fun _ h_ => h_.1))) : p := h
theorem zz47 {p : Prop} (h : p := by (with_reducible repeat (first | apply Kd.V_alloc | apply Kd.V_drewN | apply Kd.V_drew)); exact (Kd.V_mono (Kd.V_far (p := ⟨gb238, 2, none⟩) (Kd.V_far (p := ⟨gb238, 1, none⟩) (Kd.V_far (p := ⟨gb238, 0, none⟩) (Kd.V_mono HL237_1.out (fun k_ hk => (⟨hk, hk.2⟩ : _ ∧ k_ ≠ gb238))) (fun _ hk => hk.2) (.int .i64 ((rd_T74 t230 x72_3).f0))) (fun _ hk => hk.2) (.slice A237_1 ((rd_T74 t230 x72_3).f1).length c237_1)) (fun _ hk => hk.2) (.slice A237_2 ((rd_T74 t230 x72_3).f2).length c237_2)) (fun _ h_ => h_.1))) : p := h
theorem zz48 {p : Prop} (h : p := by (with_reducible repeat (first | apply Kd.V_alloc | apply Kd.V_drewN | apply Kd.V_drew)); exact (Kd.V_mono (Kd.V_far (p := ⟨gb238, 2, none⟩) (Kd.V_far (p := ⟨gb238, 1, none⟩) (Kd.V_far (p := ⟨gb238, 0, none⟩) (Kd.V_mono HL235_2.out (fun k_ hk => (⟨hk, hk.2⟩ : _ ∧ k_ ≠ gb238))) (fun _ hk => hk.2) (.int .i64 ((rd_T74 t230 x72_3).f0))) (fun _ hk => hk.2) (.slice A237_1 ((rd_T74 t230 x72_3).f1).length c237_1)) (fun _ hk => hk.2) (.slice A237_2 ((rd_T74 t230 x72_3).f2).length c237_2)) (fun _ h_ => h_.1))) : p := h
theorem zz49 {p : Prop} (h : p := by (with_reducible repeat (first | apply Kd.V_alloc | apply Kd.V_drewN | apply Kd.V_drew)); exact (Kd.V_mono (Kd.V_far (p := ⟨gb238, 2, none⟩) (Kd.V_far (p := ⟨gb238, 1, none⟩) (Kd.V_far (p := ⟨gb238, 0, none⟩) (Kd.V_mono HL237_2.out (fun k_ hk => (⟨hk, hk.2⟩ : _ ∧ k_ ≠ gb238))) (fun _ hk => hk.2) (.int .i64 ((rd_T74 t230 x72_3).f0))) (fun _ hk => hk.2) (.slice A237_1 ((rd_T74 t230 x72_3).f1).length c237_1)) (fun _ hk => hk.2) (.slice A237_2 ((rd_T74 t230 x72_3).f2).length c237_2)) (fun _ h_ => h_.1))) : p := h
theorem zz50 {p : Prop} (h : p := by (with_reducible repeat (first | apply Kd.R_alloc | apply Kd.R_drewN | apply Kd.R_drew)); exact (Kd.R_mono (Kd.R_far (p := ⟨gb276, 2, none⟩) (Kd.R_far (p := ⟨gb276, 1, none⟩) (Kd.R_far (p := ⟨gb276, 0, none⟩) (Kd.R_types HO_8.out BK276.out (by decide)) (fun _ hk => hk.2) (.int .i64 ((rd_T74 l0_1 x35_4).f0))) (fun _ hk => hk.2) (.slice A275_1 ((rd_T74 l0_1 x35_4).f1).length c275_1)) (fun _ hk => hk.2) (.slice (some ad279) ((rd_T74 l0_1 x35_4).f2).length c275_2)) (fun _ h_ => h_.1))) : p := h
theorem zz51 {p : Prop} (h : p := by (with_reducible repeat (first | apply Kd.R_alloc | apply Kd.R_drewN | apply Kd.R_drew)); exact (Kd.R_mono (Kd.R_far (p := ⟨gb258, 2, none⟩) (Kd.R_far (p := ⟨gb258, 1, none⟩) (Kd.R_far (p := ⟨gb258, 0, none⟩) (Kd.R_types HO_5.out BK258.out (by decide)) (fun _ hk => hk.2) (.int .i64 ((rd_T74 l0_1 x17_1).f0))) (fun _ hk => hk.2) (.slice A257_1 ((rd_T74 l0_1 x17_1).f1).length c257_1)) (fun _ hk => hk.2) (.slice A257_2 ((rd_T74 l0_1 x17_1).f2).length c257_2)) (fun _ h_ => h_.1))) : p := h
theorem zz52 {p : Prop} (h : p := by rw [hw]; exact (by (with_reducible repeat (first | refine blk_drewN ?_ _ | refine blk_drew ?_ | refine blk_alloc ?_ _)); refine blk_put (cs := #[.int .i64 t717, .slice none 0 0]) ?_ 1 _ rfl; (with_reducible repeat (first | refine blk_drewN ?_ _ | refine blk_drew ?_ | refine blk_alloc ?_ _)); refine blk_put (cs := #[.int .i64 0, .slice none 0 0]) ?_ 0 _ rfl; (with_reducible repeat (first | refine blk_drewN ?_ _ | refine blk_drew ?_ | refine blk_alloc ?_ _)); exact BK722.out)) : p := h
theorem zz53 {p : Prop} (h : p := by (with_reducible repeat (first | refine blk_drewN ?_ _ | refine blk_drew ?_ | refine blk_alloc ?_ _)); refine blk_put (cs := #[.int .i64 t229, .slice none 0 0]) ?_ 1 _ rfl; (with_reducible repeat (first | refine blk_drewN ?_ _ | refine blk_drew ?_ | refine blk_alloc ?_ _)); refine blk_put (cs := #[.int .i64 0, .slice none 0 0]) ?_ 0 _ rfl; (with_reducible repeat (first | refine blk_drewN ?_ _ | refine blk_drew ?_ | refine blk_alloc ?_ _)); exact BK234.out) : p := h
theorem zz54 {p : Prop} (h : p := by (with_reducible repeat (first | refine blk_drewN ?_ _ | refine blk_drew ?_ | refine blk_alloc ?_ _)); refine blk_put (cs := #[.int .i64 t695, .slice none 0 0]) ?_ 1 _ rfl; (with_reducible repeat (first | refine blk_drewN ?_ _ | refine blk_drew ?_ | refine blk_alloc ?_ _)); refine blk_put (cs := #[.int .i64 0, .slice none 0 0]) ?_ 0 _ rfl; (with_reducible repeat (first | refine blk_drewN ?_ _ | refine blk_drew ?_ | refine blk_alloc ?_ _)); exact BK700.out) : p := h
theorem zz56 {p : Prop} (h : p := by (with_reducible repeat (first | refine blk_drewN ?_ _ | refine blk_drew ?_ | refine blk_alloc ?_ _)); refine blk_put (cs := #[.int .i64 t726, .slice none 0 0]) ?_ 1 _ rfl; (with_reducible repeat (first | refine blk_drewN ?_ _ | refine blk_drew ?_ | refine blk_alloc ?_ _)); refine blk_put (cs := #[.int .i64 0, .slice none 0 0]) ?_ 0 _ rfl; (with_reducible repeat (first | refine blk_drewN ?_ _ | refine blk_drew ?_ | refine blk_alloc ?_ _)); exact BK731.out) : p := h
theorem zz57 {p : Prop} (h : p := by rw [hw]; exact (by (with_reducible repeat (first | refine blk_drewN ?_ _ | refine blk_drew ?_ | refine blk_alloc ?_ _)); refine blk_far ?_ NB700_722.out _; (with_reducible repeat (first | refine blk_drewN ?_ _ | refine blk_drew ?_ | refine blk_alloc ?_ _)); refine blk_far ?_ NB700_722.out _; (with_reducible repeat (first | refine blk_drewN ?_ _ | refine blk_drew ?_ | refine blk_alloc ?_ _)); exact BK700.out)) : p := h
theorem zz58 {p : Prop} (h : p := by (with_reducible repeat (first | refine blk_drewN ?_ _ | refine blk_drew ?_ | refine blk_alloc ?_ _)); refine blk_far ?_ NB222_234.out _; (with_reducible repeat (first | refine blk_drewN ?_ _ | refine blk_drew ?_ | refine blk_alloc ?_ _)); refine blk_far ?_ NB222_234.out _; (with_reducible repeat (first | refine blk_drewN ?_ _ | refine blk_drew ?_ | refine blk_alloc ?_ _)); exact BK222.out) : p := h
theorem zz60 {p : Prop} (h : p := by (with_reducible repeat (first | refine blk_drewN ?_ _ | refine blk_drew ?_ | refine blk_alloc ?_ _)); refine blk_far ?_ NB700_731.out _; (with_reducible repeat (first | refine blk_drewN ?_ _ | refine blk_drew ?_ | refine blk_alloc ?_ _)); refine blk_far ?_ NB700_731.out _; (with_reducible repeat (first | refine blk_drewN ?_ _ | refine blk_drew ?_ | refine blk_alloc ?_ _)); exact BK700.out) : p := h
theorem zz61 {p : Prop} (h : p := by (with_reducible repeat (first | refine blk_drewN ?_ _ | refine blk_drew ?_ | refine blk_alloc ?_ _)); refine blk_far ?_ NB722_731.out _; (with_reducible repeat (first | refine blk_drewN ?_ _ | refine blk_drew ?_ | refine blk_alloc ?_ _)); refine blk_far ?_ NB722_731.out _; (with_reducible repeat (first | refine blk_drewN ?_ _ | refine blk_drew ?_ | refine blk_alloc ?_ _)); exact BK722.out) : p := h
theorem zz62 {p : Prop} (h : p := by repeat (first | (with_reducible first | exact HB.out | apply below_alloc | apply pw_below_drewN | apply below_drew1 | refine below_set ?_ GE212.out | refine below_set ?_ GE213.out | refine below_set ?_ GE216.out | refine below_set ?_ GE217.out) | exact HB.out)) : p := h
theorem zz63 {p : Prop} (h : p := by rw [hw]; exact (by repeat (first | (with_reducible first | exact HB.out | apply below_alloc | apply pw_below_drewN | apply below_drew1 | refine below_set ?_ GE222.out | refine below_set ?_ GE234.out | refine below_set ?_ GE236.out) | exact HB.out))) : p := h
theorem zz64 {p : Prop} (h : p := by first | exact (Kd.V_reads' HL224_1.out).2.2 | (repeat (first | (with_reducible exact HR224_1.out) | (with_reducible refine Kd.C_alloc ?_ _) | (with_reducible refine Kd.C_drewN ?_ _) | (with_reducible refine Kd.C_drew ?_) | exact HR224_1.out))) : p := h
theorem zz65 {p : Prop} (h : p := by first | exact (Kd.V_reads' HL224_2.out).2.2 | (repeat (first | (with_reducible exact HR224_2.out) | (with_reducible refine Kd.C_alloc ?_ _) | (with_reducible refine Kd.C_drewN ?_ _) | (with_reducible refine Kd.C_drew ?_) | exact HR224_2.out))) : p := h
theorem zz66 {p : Prop} (h : p := by first | exact (Kd.V_reads' HL235_1.out).2.2 | (repeat (first | (with_reducible exact HR235_1.out) | (with_reducible refine Kd.C_alloc ?_ _) | (with_reducible refine Kd.C_drewN ?_ _) | (with_reducible refine Kd.C_drew ?_) | exact HR235_1.out))) : p := h
theorem zz67 {p : Prop} (h : p := by first | exact (Kd.V_reads' HL235_2.out).2.2 | (repeat (first | (with_reducible exact HR235_2.out) | (with_reducible refine Kd.C_alloc ?_ _) | (with_reducible refine Kd.C_drewN ?_ _) | (with_reducible refine Kd.C_drew ?_) | exact HR235_2.out))) : p := h
theorem zz68 {p : Prop} (h : p := by first | exact (Kd.V_reads' HL237_1.out).2.2 | (repeat (first | (with_reducible exact HR237_1.out) | (with_reducible refine Kd.C_alloc ?_ _) | (with_reducible refine Kd.C_drewN ?_ _) | (with_reducible refine Kd.C_drew ?_) | exact HR237_1.out))) : p := h
theorem zz69 {p : Prop} (h : p := by first | exact (Kd.V_reads' HL237_2.out).2.2 | (repeat (first | (with_reducible exact HR237_2.out) | (with_reducible refine Kd.C_alloc ?_ _) | (with_reducible refine Kd.C_drewN ?_ _) | (with_reducible refine Kd.C_drew ?_) | exact HR237_2.out))) : p := h
theorem zz70 {p : Prop} (h : p := by repeat (first | (with_reducible first | exact HB.out | apply below_alloc | apply pw_below_drewN | apply below_drew1 | refine below_set ?_ GE212.out | refine below_set ?_ GE213.out | refine below_set ?_ GE216.out) | exact HB.out)) : p := h
theorem zz71 {p : Prop} (h : p := by repeat (first | (with_reducible first | exact HB.out | apply below_alloc | apply pw_below_drewN | apply below_drew1 | refine below_set ?_ GE212.out | refine below_set ?_ GE213.out | refine below_set ?_ GE217.out) | exact HB.out)) : p := h
theorem zz72 {p : Prop} (h : p := by repeat (first | (with_reducible first | exact HB.out | apply below_alloc | apply pw_below_drewN | apply below_drew1 | refine below_set ?_ GE222.out | refine below_set ?_ GE234.out | refine below_set ?_ GE236.out) | exact HB.out)) : p := h
theorem zz73 {p : Prop} (h : p := by repeat (first | (with_reducible first | exact HB.out | apply below_alloc | apply pw_below_drewN | apply below_drew1 | refine below_set ?_ GE700.out | refine below_set ?_ GE722.out | refine below_set ?_ GE731.out) | exact HB.out)) : p := h
theorem zz74 {p : Prop} (h : p := by rw [hw]; exact (by repeat (first | (with_reducible first | exact HB.out | apply below_alloc | apply pw_below_drewN | apply below_drew1 | refine below_set ?_ GE700.out | refine below_set ?_ GE722.out) | exact HB.out))) : p := h
theorem zz75 {p : Prop} (h : p := by repeat (first | (with_reducible first | exact HB.out | apply below_alloc | apply pw_below_drewN | apply below_drew1 | refine below_set ?_ GE212.out | refine below_set ?_ GE213.out) | exact HB.out)) : p := h
theorem zz76 {p : Prop} (h : p := by repeat (first | (with_reducible first | exact HB.out | apply below_alloc | apply pw_below_drewN | apply below_drew1 | refine below_set ?_ GE222.out | refine below_set ?_ GE225.out) | exact HB.out)) : p := h
theorem zz77 {p : Prop} (h : p := by repeat (first | (with_reducible first | exact HB.out | apply below_alloc | apply pw_below_drewN | apply below_drew1 | refine below_set ?_ GE222.out | refine below_set ?_ GE234.out) | exact HB.out)) : p := h
theorem zz78 {p : Prop} (h : p := by repeat (first | (with_reducible first | exact HB.out | apply below_alloc | apply pw_below_drewN | apply below_drew1 | refine below_set ?_ GE252.out | refine below_set ?_ GE258.out) | exact HB.out)) : p := h
theorem zz79 {p : Prop} (h : p := by repeat (first | (with_reducible first | exact HB.out | apply below_alloc | apply pw_below_drewN | apply below_drew1 | refine below_set ?_ GE269.out | refine below_set ?_ GE276.out) | exact HB.out)) : p := h
theorem zz80 {p : Prop} (h : p := by repeat (first | (with_reducible first | exact HB.out | apply below_alloc | apply pw_below_drewN | apply below_drew1 | refine below_set ?_ GE339.out | refine below_set ?_ GE395.out) | exact HB.out)) : p := h
theorem zz81 {p : Prop} (h : p := by repeat (first | (with_reducible first | exact HB.out | apply below_alloc | apply pw_below_drewN | apply below_drew1 | refine below_set ?_ GE700.out | refine below_set ?_ GE722.out) | exact HB.out)) : p := h
theorem zz82 {p : Prop} (h : p := by repeat (first | (with_reducible exact HR149_0.out) | (with_reducible refine Kd.C_alloc ?_ _) | (with_reducible refine Kd.C_drewN ?_ _) | (with_reducible refine Kd.C_drew ?_) | exact HR149_0.out)) : p := h
theorem zz83 {p : Prop} (h : p := by (with_reducible repeat (first | apply Kd.V_alloc | apply Kd.V_drewN | apply Kd.V_drew)); exact Kd.V_mono HO0_1.out (fun _ hk => ⟨hk.1, ⟨(by simp [Value.ownBlock]), hk.2⟩⟩)) : p := h
theorem zz84 {p : Prop} (h : p := by repeat (first | (with_reducible first | exact HB.out | apply below_alloc | apply pw_below_drewN | apply below_drew1 | refine below_set ?_ GE212.out) | exact HB.out)) : p := h
theorem zz85 {p : Prop} (h : p := by repeat (first | (with_reducible first | exact HB.out | apply below_alloc | apply pw_below_drewN | apply below_drew1 | refine below_set ?_ GE568.out) | exact HB.out)) : p := h
theorem zz86 {p : Prop} (h : p := by repeat (first | (with_reducible first | exact HB.out | apply below_alloc | apply pw_below_drewN | apply below_drew1 | refine below_set ?_ GE222.out) | exact HB.out)) : p := h
theorem zz87 {p : Prop} (h : p := by repeat (first | (with_reducible first | exact HB.out | apply below_alloc | apply pw_below_drewN | apply below_drew1 | refine below_set ?_ GE252.out) | exact HB.out)) : p := h
theorem zz88 {p : Prop} (h : p := by repeat (first | (with_reducible first | exact HB.out | apply below_alloc | apply pw_below_drewN | apply below_drew1 | refine below_set ?_ GE269.out) | exact HB.out)) : p := h
theorem zz89 {p : Prop} (h : p := by repeat (first | (with_reducible first | exact HB.out | apply below_alloc | apply pw_below_drewN | apply below_drew1 | refine below_set ?_ GE286.out) | exact HB.out)) : p := h
theorem zz90 {p : Prop} (h : p := by repeat (first | (with_reducible first | exact HB.out | apply below_alloc | apply pw_below_drewN | apply below_drew1 | refine below_set ?_ GE339.out) | exact HB.out)) : p := h
theorem zz91 {p : Prop} (h : p := by repeat (first | (with_reducible first | exact HB.out | apply below_alloc | apply pw_below_drewN | apply below_drew1 | refine below_set ?_ GE700.out) | exact HB.out)) : p := h
theorem zz92 {p : Prop} (h : p := by (try simp only [hl7_2]); (try simp only [hl7_3]); (with_reducible repeat (first | apply Kd.R_alloc | apply Kd.R_drewN | apply Kd.R_drew)); exact HO_10.out) : p := h
theorem zz93 {p : Prop} (h : p := by (try simp only [hl7_2]); (try simp only [hl7_3]); (with_reducible repeat (first | apply Kd.R_alloc | apply Kd.R_drewN | apply Kd.R_drew)); exact HO_7.out) : p := h
theorem zz94 {p : Prop} (h : p := by (try simp only [hl7_2]); (try simp only [hl7_3]); (with_reducible repeat (first | apply Kd.S_alloc | apply Kd.S_drewN | apply Kd.S_drew)); exact HO_8.out) : p := h
theorem zz95 {p : Prop} (h : p := by first | exact q237 | exact of_decide_eq_true (by first | (with_reducible assumption) | assumption) | (have e_ := (Kd.N_reads' HO_235001.out).1; omega)) : p := h
theorem zz96 {p : Prop} (h : p := by first | exact q224 | exact of_decide_eq_true (by first | (with_reducible assumption) | assumption) | (have e_ := (Kd.V_reads' HO_25.out).1; omega)) : p := h
theorem zz97 {p : Prop} (h : p := by first | exact q235 | exact of_decide_eq_true (by first | (with_reducible assumption) | assumption) | (have e_ := (Kd.V_reads' HO_70.out).1; omega)) : p := h
theorem zz98 {p : Prop} (h : p := by first | exact Kd.S_nil _ _ _ _ _ | exact Kd.N_nil _ _ _ _ _ | exact Kd.V_nil _ _ _ _ _ | exact Kd.Q_nil _ _ _ _ _ | exact Kd.R_nil _ _ _ _ _) : p := h
theorem zz99 {p : Prop} (h : p := by (try simp only [List.map_toArray, List.map_cons, List.map_nil]); first | done | rfl | (simp only [List.length_drop, List.length_take]; rfl)) : p := h
theorem zz100 {p : Prop} (h : p := by repeat (first | (with_reducible first | exact HB.out | apply below_alloc | apply pw_below_drewN | apply below_drew1) | exact HB.out)) : p := h
theorem zz101 {p : Prop} (h : p := by (try simp only [hl7_2]); (with_reducible repeat (first | apply Kd.R_alloc | apply Kd.R_drewN | apply Kd.R_drew)); exact HO_7.out) : p := h
theorem zz102 {p : Prop} (h : p := by first | (rw [add_block]; exact hn277_0) | (show (Addr.add _ _).block ≠ _; rw [add_block]; exact hn277_0) | exact hn277_0) : p := h
theorem zz103 {p : Prop} (h : p := by first | (rw [add_block]; exact hn277_1) | (show (Addr.add _ _).block ≠ _; rw [add_block]; exact hn277_1) | exact hn277_1) : p := h
theorem zz104 {p : Prop} (h : p := by first | (rw [add_block]; exact hn277_2) | (show (Addr.add _ _).block ≠ _; rw [add_block]; exact hn277_2) | exact hn277_2) : p := h
theorem zz105 {p : Prop} (h : p := by first | (rw [add_block]; exact hn279_0) | (show (Addr.add _ _).block ≠ _; rw [add_block]; exact hn279_0) | exact hn279_0) : p := h
theorem zz106 {p : Prop} (h : p := by first | (rw [add_block]; exact hn279_1) | (show (Addr.add _ _).block ≠ _; rw [add_block]; exact hn279_1) | exact hn279_1) : p := h
theorem zz107 {p : Prop} (h : p := by first | (rw [add_block]; exact hn279_2) | (show (Addr.add _ _).block ≠ _; rw [add_block]; exact hn279_2) | exact hn279_2) : p := h
theorem zz108 {p : Prop} (h : p := by have h1_ := HGR.out; have h2_ := lt_of_some HT.out.ht; have h3_ := HB3.out.size; show bt ≠ gout; omega) : p := h
theorem zz109 {p : Prop} (h : p := by first | exact Kd.N_base ho0 | exact Kd.N_base (Kd.S_N ho0) | exact Kd.N_base (Kd.S_N (Kd.S_bound ho0))) : p := h
theorem zz110 {p : Prop} (h : p := by simp only [putAll, Act.put, List.setIfInBounds_toArray, List.set_cons_zero, List.set_cons_succ]) : p := h
theorem zz117 {p : Prop} (h : p := by have := World.block_lt_of_cell? _ _ hx279_0; first | rwa [add_block] at this | exact this) : p := h
theorem zz118 {p : Prop} (h : p := by have := HJ1.out; have := HK2.out; have := HK3.out; have := HK4.out; omega) : p := h
theorem zz119 {p : Prop} (h : p := by have := HJ3.out; have := HJ10.out; first | omega | exact Nat.le_refl _) : p := h
theorem zz120 {p : Prop} (h : p := by have := HJ2.out; have := HK2.out; first | omega | exact Nat.le_refl _) : p := h
theorem zz121 {p : Prop} (h : p := by have := HK1.out; have := HK2.out; have := HK3.out; omega) : p := h
theorem zz122 {p : Prop} (h : p := by have := HJ3.out; first | omega | exact Nat.le_refl _) : p := h
theorem zz123 {p : Prop} (h : p := by first | (with_reducible assumption) | assumption) : p := h
theorem zz124 {p : Prop} (h : p := by cases kj6 <;> simp [codewrightlaw30_awakeW.j1]) : p := h
theorem zz125 {p : Prop} (h : p := by first | rfl | (simp; done) | (simp [*]; done)) : p := h
theorem zz126 {p : Prop} (h : p := by cases k <;> simp [codewrightlaw30_awakeW.j0]) : p := h
theorem zz127 {p : Prop} (h : p := by have := HK1.out; have := HK2.out; omega) : p := h
theorem zz128 {p : Prop} (h : p := by first | omega | exact Nat.le_refl _) : p := h
theorem zz129 {p : Prop} (h : p := by rw [List.length_set]; exact hx) : p := h
theorem zz130 {p : Prop} (h : p := by simp [Kd.int, Kd.scalar]) : p := h
theorem zz131 {p : Prop} (h : p := by have := HK1.out; omega) : p := h
end
section
attribute [local go_sem] max2_int min2_int max_two min_two max_three min_three max_four min_four
def codewrightref09_SameInts.l0 : Nat → List Int → List Int → Int → Option (Bool)
  | 0, _, _, _ => none
  | k + 1, x0, x1, x5 => if x5 < (x0.length : Int) then (if 0 ≤ x5 then (if x5 < (x1.length : Int) then (if (rd x0 x5) = (rd x1 x5) then (codewrightref09_SameInts.l0 k x0 x1 (wrap64 (x5 + 1))) else (some false)) else (none)) else (none)) else (some true)
def codewrightref09_SameInts.f (k : Nat) (l0 : List Int) (l1 : List Int) : Option (Bool) := if (l0.length : Int) = (l1.length : Int) then (codewrightref09_SameInts.l0 k l0 l1 0) else (some false)
theorem codewrightref09_SameInts.calls (k : Nat) (A0 : Option Addr) (c0 : Nat) (l0 : List Int) (A1 : Option Addr) (c1 : Nat) (l1 : List Int) (r : Bool) (w : World) (hr0 : Kd.C (Kd.int .i64) w A0 l0.length l0) (hc0 : l0.length ≤ c0) (hr1 : Kd.C (Kd.int .i64) w A1 l1.length l1) (hc1 : l1.length ≤ c1) (h : codewrightref09_SameInts.f k l0 l1 = some r) :
    Calls Try.prog 15 #[.slice A0 l0.length c0, .slice A1 l1.length c1] w fun e w' => e = .returned (.bool r) ∧ Drawn0 w w' := by
  have HR0 := Aside0.mk hr0
  have HC0 := Aside0.mk hc0
  clear hr0 hc0
  have HR1 := Aside0.mk hr1
  have HC1 := Aside0.mk hc1
  clear hr1 hc1
  have H : (if (l0.length : Int) = (l1.length : Int) then (codewrightref09_SameInts.l0 k l0 l1 0) else (some false)) = some r := h
  clear h
  by_cases c3 : (l0.length : Int) = (l1.length : Int)
  · rw [if_pos c3] at H
    have c3b0 : ((l0.length : Int) == (l1.length : Int)) = true := beq_iff_eq.mpr c3; have c3b1 : ((l0.length : Int) != (l1.length : Int)) = false := bne_eq_false_iff_eq.mpr c3; have c3b2 : (l0.length == l1.length) = true := by first | simpa using c3 | (simp at c3 ⊢; omega)
    clear c3; have H' := Aside0.mk H; clear H
    go_enter Try.func15, Try.ntmps15
    go_wp2
    repeat (go_quiet (fail); try go_wp2)
    go_loopg [5] k (fun kq v5 w' => ∃ (x5_1 : Int), v5 = .int .i64 x5_1 ∧ Aside0 (codewrightref09_SameInts.l0 kq l0 l1 x5_1 = some r) ∧ Aside0 (kq ≤ k) ∧ Drawn0 w w')
    case atStart => exact ⟨(0), zz125, H', ⟨Nat.le_refl _⟩, by repeat (first | exact Drawn0.refl _ | apply Drawn0.step)⟩
    case round =>
      clear H'; (try clear c1); (try clear p2); (try clear c3); (try clear c3b0); (try clear c3b1); (try clear c3b2); obtain ⟨x5_1, rfl, HA, HK1, ⟨m1, rfl⟩⟩ := hrel
      cases gk with
      | zero => exact absurd HA.out (by simp [codewrightref09_SameInts.l0])
      | succ k1 =>
        have H := HA.out; clear HA; simp only [codewrightref09_SameInts.l0] at H
        by_cases c4 : x5_1 < (l0.length : Int)
        · rw [if_pos c4] at H; have c4b0 : decide (x5_1 < (l0.length : Int)) = true := decide_eq_true c4; clear c4
          by_cases c5 : 0 ≤ x5_1
          · rw [if_pos c5] at H; have c5b0 : decide (0 ≤ x5_1) = true := decide_eq_true c5; clear c5
            by_cases c6 : x5_1 < (l1.length : Int)
            · rw [if_pos c6] at H; have c6b0 : decide (x5_1 < (l1.length : Int)) = true := decide_eq_true c6; clear c6
              by_cases c7 : (rd l0 x5_1) = (rd l1 x5_1)
              · rw [if_pos c7] at H; have c7b0 : ((rd l0 x5_1) == (rd l1 x5_1)) = true := beq_iff_eq.mpr c7; have c7b1 : ((rd l0 x5_1) != (rd l1 x5_1)) = false := bne_eq_false_iff_eq.mpr c7; clear c7; have H' := Aside0.mk H; clear H; have p121 : 0 ≤ (x5_1 : Int) := of_decide_eq_true zz123; have q121 : x5_1 < (l0.length : Int) := of_decide_eq_true zz123; obtain ⟨ad121, e121, hx121_0⟩ := Kd.at_int HR0.out x5_1 p121 q121
                cases e121; replace p121 := eq_true p121; replace q121 := eq_true q121; have p122 : 0 ≤ (x5_1 : Int) := of_decide_eq_true zz123; have q122 : x5_1 < (l1.length : Int) := of_decide_eq_true zz123; obtain ⟨ad122, e122, hx122_0⟩ := Kd.at_int HR1.out x5_1 p122 q122
                cases e122; replace p122 := eq_true p122; replace q122 := eq_true q122; go_wp2
                repeat (go_quiet (fail); try go_wp2)
                go_roundg k1
                case measure => have := HK1.out; omega
                case rel => exact ⟨(wrap64 (x5_1 + 1)), zz125, H', ⟨zz131⟩, by repeat (first | exact Drawn0.refl _ | apply Drawn0.step)⟩
              rw [if_neg c7] at H; have c7b0 : ((rd l0 x5_1) == (rd l1 x5_1)) = false := beq_eq_false_iff_ne.mpr c7; have c7b1 : ((rd l0 x5_1) != (rd l1 x5_1)) = true := bne_iff_ne.mpr c7; obtain rfl := Option.some.inj H; have p121 : 0 ≤ (x5_1 : Int) := of_decide_eq_true zz123; have q121 : x5_1 < (l0.length : Int) := of_decide_eq_true zz123; obtain ⟨ad121, e121, hx121_0⟩ := Kd.at_int HR0.out x5_1 p121 q121
              cases e121; replace p121 := eq_true p121; replace q121 := eq_true q121; have p122 : 0 ≤ (x5_1 : Int) := of_decide_eq_true zz123; have q122 : x5_1 < (l1.length : Int) := of_decide_eq_true zz123; obtain ⟨ad122, e122, hx122_0⟩ := Kd.at_int HR1.out x5_1 p122 q122
              cases e122; replace p122 := eq_true p122; replace q122 := eq_true q122; go_wp2
              repeat (go_quiet (fail); try go_wp2)
              go_ret
              exact ⟨by first | rfl | (simp; done) | (simp [*]; done), by repeat (first | exact Drawn0.refl _ | apply Drawn0.step)⟩
            rw [if_neg c6] at H
            exact absurd H (by simp)
          rw [if_neg c5] at H
          exact absurd H (by simp)
        rw [if_neg c4] at H; have c4b0 : decide (x5_1 < (l0.length : Int)) = false := decide_eq_false c4; clear c4; obtain rfl := Option.some.inj H; go_wp2
        repeat (go_quiet (fail); try go_wp2)
        go_ret
        exact ⟨by first | rfl | (simp; done) | (simp [*]; done), by repeat (first | exact Drawn0.refl _ | apply Drawn0.step)⟩
  rw [if_neg c3] at H
  have c3b0 : ((l0.length : Int) == (l1.length : Int)) = false := beq_eq_false_iff_ne.mpr c3
  have c3b1 : ((l0.length : Int) != (l1.length : Int)) = true := bne_iff_ne.mpr c3
  have c3b2 : (l0.length == l1.length) = false := by first | simpa using c3 | (simp at c3 ⊢; omega)
  obtain rfl := Option.some.inj H
  go_enter Try.func15, Try.ntmps15
  go_wp2
  repeat (go_quiet (fail); try go_wp2)
  go_ret
  exact ⟨by first | rfl | (simp; done) | (simp [*]; done), by repeat (first | exact Drawn0.refl _ | apply Drawn0.step)⟩
end
section
attribute [local go_sem] max2_int min2_int max_two min_two max_three min_three max_four min_four
def codewrightref09_SameRows.l0 : Nat → List (List Int) → List (List Int) → Int → Option (Bool)
  | 0, _, _, _ => none
  | k + 1, x0, x1, x5 => if x5 < (x0.length : Int) then (if 0 ≤ x5 then (if x5 < (x1.length : Int) then ((codewrightref09_SameInts.f k (rd_L1 x0 x5) (rd_L1 x1 x5)).bind fun t152 => (if t152 = true then (codewrightref09_SameRows.l0 k x0 x1 (wrap64 (x5 + 1))) else (some false))) else (none)) else (none)) else (some true)
def codewrightref09_SameRows.f (k : Nat) (l0 : List (List Int)) (l1 : List (List Int)) : Option (Bool) := if (l0.length : Int) = (l1.length : Int) then (codewrightref09_SameRows.l0 k l0 l1 0) else (some false)
theorem codewrightref09_SameRows.calls (k : Nat) (A0 : Option Addr) (c0 : Nat) (l0 : List (List Int)) (A1 : Option Addr) (c1 : Nat) (l1 : List (List Int)) (r : Bool) (w : World) (hr0 : Kd.C (Kd.slice 3 (Kd.int .i64)) w A0 l0.length l0) (hc0 : l0.length ≤ c0) (hr1 : Kd.C (Kd.slice 3 (Kd.int .i64)) w A1 l1.length l1) (hc1 : l1.length ≤ c1) (h : codewrightref09_SameRows.f k l0 l1 = some r) :
    Calls Try.prog 24 #[.slice A0 l0.length c0, .slice A1 l1.length c1] w fun e w' => e = .returned (.bool r) ∧ Drawn0 w w' := by
  have HR0 := Aside0.mk hr0
  have HC0 := Aside0.mk hc0
  clear hr0 hc0
  have HR1 := Aside0.mk hr1
  have HC1 := Aside0.mk hc1
  clear hr1 hc1
  have H : (if (l0.length : Int) = (l1.length : Int) then (codewrightref09_SameRows.l0 k l0 l1 0) else (some false)) = some r := h
  clear h
  by_cases c3 : (l0.length : Int) = (l1.length : Int)
  · rw [if_pos c3] at H
    have c3b0 : ((l0.length : Int) == (l1.length : Int)) = true := beq_iff_eq.mpr c3; have c3b1 : ((l0.length : Int) != (l1.length : Int)) = false := bne_eq_false_iff_eq.mpr c3; have c3b2 : (l0.length == l1.length) = true := by first | simpa using c3 | (simp at c3 ⊢; omega)
    clear c3; have H' := Aside0.mk H; clear H
    go_enter Try.func24, Try.ntmps24
    go_wp2
    repeat (go_quiet (fail); try go_wp2)
    go_loopg [5] k (fun kq v5 w' => ∃ (x5_1 : Int), v5 = .int .i64 x5_1 ∧ Aside0 (codewrightref09_SameRows.l0 kq l0 l1 x5_1 = some r) ∧ Aside0 (kq ≤ k) ∧ Drawn0 w w')
    case atStart => exact ⟨(0), zz125, H', ⟨Nat.le_refl _⟩, by repeat (first | exact Drawn0.refl _ | apply Drawn0.step)⟩
    case round =>
      clear H'; (try clear c1); (try clear c2); (try clear p2); (try clear c3); (try clear c3b0); (try clear c3b1); (try clear c3b2); obtain ⟨x5_1, rfl, HA, HK1, ⟨m1, rfl⟩⟩ := hrel
      cases gk with
      | zero => exact absurd HA.out (by simp [codewrightref09_SameRows.l0])
      | succ k1 =>
        have H := HA.out; clear HA; simp only [codewrightref09_SameRows.l0] at H
        by_cases c4 : x5_1 < (l0.length : Int)
        · rw [if_pos c4] at H; have c4b0 : decide (x5_1 < (l0.length : Int)) = true := decide_eq_true c4; clear c4
          by_cases c5 : 0 ≤ x5_1
          · rw [if_pos c5] at H; have c5b0 : decide (0 ≤ x5_1) = true := decide_eq_true c5; clear c5
            by_cases c6 : x5_1 < (l1.length : Int)
            · rw [if_pos c6] at H; have c6b0 : decide (x5_1 < (l1.length : Int)) = true := decide_eq_true c6; clear c6; replace H := Option.bind_eq_some_iff.mp H; obtain ⟨t152, A70, H⟩ := H; replace H : (if t152 = true then (codewrightref09_SameRows.l0 k1 l0 l1 (wrap64 (x5_1 + 1))) else (some false)) = some r := H; have A7 := Aside0.mk A70; clear A70
              by_cases c8 : t152 = true
              · subst c8; have H1 : (codewrightref09_SameRows.l0 k1 l0 l1 (wrap64 (x5_1 + 1))) = some r := by rw [if_pos rfl] at H; exact H
                clear H; have H := H1; clear H1; have H' := Aside0.mk H; clear H; have p150 : 0 ≤ (x5_1 : Int) := of_decide_eq_true zz123; have q150 : x5_1 < (l0.length : Int) := of_decide_eq_true zz123; obtain ⟨ad150, A150_0, c150_0, e150, hx150_0, hl150_0, hi150_0⟩ := at_L1 HR0.out x5_1 p150 q150
                cases e150; have HR150_0 := Aside0.mk hi150_0; have HC150_0 := Aside0.mk hl150_0; clear hi150_0 hl150_0; replace p150 := eq_true p150; replace q150 := eq_true q150; have p151 : 0 ≤ (x5_1 : Int) := of_decide_eq_true zz123; have q151 : x5_1 < (l1.length : Int) := of_decide_eq_true zz123; obtain ⟨ad151, A151_0, c151_0, e151, hx151_0, hl151_0, hi151_0⟩ := at_L1 HR1.out x5_1 p151 q151
                cases e151; have HR151_0 := Aside0.mk hi151_0; have HC151_0 := Aside0.mk hl151_0; clear hi151_0 hl151_0; replace p151 := eq_true p151; replace q151 := eq_true q151
                go_wp2_with (first | (go_at_call 15; (with_reducible refine (codewrightref09_SameInts.calls k1 _ _ (rd_L1 l0 x5_1) _ _ (rd_L1 l1 x5_1) true _ ?side1 ?side2 ?side3 ?side4 A7.out).mono ?_); (case side1 => repeat (first | exact HR150_0.out | (with_reducible refine Kd.C_alloc ?_ _) | (with_reducible refine Kd.C_drewN ?_ _) | (with_reducible refine Kd.C_drew ?_))); (case side2 => exact HC150_0.out); (case side3 => repeat (first | exact HR151_0.out | (with_reducible refine Kd.C_alloc ?_ _) | (with_reducible refine Kd.C_drewN ?_ _) | (with_reducible refine Kd.C_drew ?_))); (case side4 => exact HC151_0.out); rintro e w' ⟨rfl, ⟨nd, rfl⟩⟩; (try first | exact ⟨rfl, _, World.drewN_drewN _ _ _⟩ | exact ⟨rfl, _, Eq.trans (World.drewN_drewN _ _ _) (congrArg (World.drewN _) (Nat.add_assoc _ _ _))⟩)))
                repeat (go_quiet (first | (go_at_call 15; (with_reducible refine (codewrightref09_SameInts.calls k1 _ _ (rd_L1 l0 x5_1) _ _ (rd_L1 l1 x5_1) true _ ?side1 ?side2 ?side3 ?side4 A7.out).mono ?_); (case side1 => repeat (first | exact HR150_0.out | (with_reducible refine Kd.C_alloc ?_ _) | (with_reducible refine Kd.C_drewN ?_ _) | (with_reducible refine Kd.C_drew ?_))); (case side2 => exact HC150_0.out); (case side3 => repeat (first | exact HR151_0.out | (with_reducible refine Kd.C_alloc ?_ _) | (with_reducible refine Kd.C_drewN ?_ _) | (with_reducible refine Kd.C_drew ?_))); (case side4 => exact HC151_0.out); rintro e w' ⟨rfl, ⟨nd, rfl⟩⟩; (try first | exact ⟨rfl, _, World.drewN_drewN _ _ _⟩ | exact ⟨rfl, _, Eq.trans (World.drewN_drewN _ _ _) (congrArg (World.drewN _) (Nat.add_assoc _ _ _))⟩))); try go_wp2_with (first | (go_at_call 15; (with_reducible refine (codewrightref09_SameInts.calls k1 _ _ (rd_L1 l0 x5_1) _ _ (rd_L1 l1 x5_1) true _ ?side1 ?side2 ?side3 ?side4 A7.out).mono ?_); (case side1 => repeat (first | exact HR150_0.out | (with_reducible refine Kd.C_alloc ?_ _) | (with_reducible refine Kd.C_drewN ?_ _) | (with_reducible refine Kd.C_drew ?_))); (case side2 => exact HC150_0.out); (case side3 => repeat (first | exact HR151_0.out | (with_reducible refine Kd.C_alloc ?_ _) | (with_reducible refine Kd.C_drewN ?_ _) | (with_reducible refine Kd.C_drew ?_))); (case side4 => exact HC151_0.out); rintro e w' ⟨rfl, ⟨nd, rfl⟩⟩; (try first | exact ⟨rfl, _, World.drewN_drewN _ _ _⟩ | exact ⟨rfl, _, Eq.trans (World.drewN_drewN _ _ _) (congrArg (World.drewN _) (Nat.add_assoc _ _ _))⟩))))
                go_roundg k1
                case measure => have := HK1.out; omega
                case rel => exact ⟨(wrap64 (x5_1 + 1)), zz125, H', ⟨zz131⟩, by repeat (first | exact Drawn0.refl _ | apply Drawn0.step)⟩
              replace c8 := Bool.eq_false_iff.mpr c8; subst c8; have H1 : (some false) = some r := by rw [if_neg (show ¬ (false = true) by decide)] at H; exact H
              clear H; have H := H1; clear H1; obtain rfl := Option.some.inj H; have p150 : 0 ≤ (x5_1 : Int) := of_decide_eq_true zz123; have q150 : x5_1 < (l0.length : Int) := of_decide_eq_true zz123; obtain ⟨ad150, A150_0, c150_0, e150, hx150_0, hl150_0, hi150_0⟩ := at_L1 HR0.out x5_1 p150 q150
              cases e150; have HR150_0 := Aside0.mk hi150_0; have HC150_0 := Aside0.mk hl150_0; clear hi150_0 hl150_0; replace p150 := eq_true p150; replace q150 := eq_true q150; have p151 : 0 ≤ (x5_1 : Int) := of_decide_eq_true zz123; have q151 : x5_1 < (l1.length : Int) := of_decide_eq_true zz123; obtain ⟨ad151, A151_0, c151_0, e151, hx151_0, hl151_0, hi151_0⟩ := at_L1 HR1.out x5_1 p151 q151
              cases e151; have HR151_0 := Aside0.mk hi151_0; have HC151_0 := Aside0.mk hl151_0; clear hi151_0 hl151_0; replace p151 := eq_true p151; replace q151 := eq_true q151
              go_wp2_with (first | (go_at_call 15; (with_reducible refine (codewrightref09_SameInts.calls k1 _ _ (rd_L1 l0 x5_1) _ _ (rd_L1 l1 x5_1) false _ ?side1 ?side2 ?side3 ?side4 A7.out).mono ?_); (case side1 => repeat (first | exact HR150_0.out | (with_reducible refine Kd.C_alloc ?_ _) | (with_reducible refine Kd.C_drewN ?_ _) | (with_reducible refine Kd.C_drew ?_))); (case side2 => exact HC150_0.out); (case side3 => repeat (first | exact HR151_0.out | (with_reducible refine Kd.C_alloc ?_ _) | (with_reducible refine Kd.C_drewN ?_ _) | (with_reducible refine Kd.C_drew ?_))); (case side4 => exact HC151_0.out); rintro e w' ⟨rfl, ⟨nd, rfl⟩⟩; (try first | exact ⟨rfl, _, World.drewN_drewN _ _ _⟩ | exact ⟨rfl, _, Eq.trans (World.drewN_drewN _ _ _) (congrArg (World.drewN _) (Nat.add_assoc _ _ _))⟩)))
              repeat (go_quiet (first | (go_at_call 15; (with_reducible refine (codewrightref09_SameInts.calls k1 _ _ (rd_L1 l0 x5_1) _ _ (rd_L1 l1 x5_1) false _ ?side1 ?side2 ?side3 ?side4 A7.out).mono ?_); (case side1 => repeat (first | exact HR150_0.out | (with_reducible refine Kd.C_alloc ?_ _) | (with_reducible refine Kd.C_drewN ?_ _) | (with_reducible refine Kd.C_drew ?_))); (case side2 => exact HC150_0.out); (case side3 => repeat (first | exact HR151_0.out | (with_reducible refine Kd.C_alloc ?_ _) | (with_reducible refine Kd.C_drewN ?_ _) | (with_reducible refine Kd.C_drew ?_))); (case side4 => exact HC151_0.out); rintro e w' ⟨rfl, ⟨nd, rfl⟩⟩; (try first | exact ⟨rfl, _, World.drewN_drewN _ _ _⟩ | exact ⟨rfl, _, Eq.trans (World.drewN_drewN _ _ _) (congrArg (World.drewN _) (Nat.add_assoc _ _ _))⟩))); try go_wp2_with (first | (go_at_call 15; (with_reducible refine (codewrightref09_SameInts.calls k1 _ _ (rd_L1 l0 x5_1) _ _ (rd_L1 l1 x5_1) false _ ?side1 ?side2 ?side3 ?side4 A7.out).mono ?_); (case side1 => repeat (first | exact HR150_0.out | (with_reducible refine Kd.C_alloc ?_ _) | (with_reducible refine Kd.C_drewN ?_ _) | (with_reducible refine Kd.C_drew ?_))); (case side2 => exact HC150_0.out); (case side3 => repeat (first | exact HR151_0.out | (with_reducible refine Kd.C_alloc ?_ _) | (with_reducible refine Kd.C_drewN ?_ _) | (with_reducible refine Kd.C_drew ?_))); (case side4 => exact HC151_0.out); rintro e w' ⟨rfl, ⟨nd, rfl⟩⟩; (try first | exact ⟨rfl, _, World.drewN_drewN _ _ _⟩ | exact ⟨rfl, _, Eq.trans (World.drewN_drewN _ _ _) (congrArg (World.drewN _) (Nat.add_assoc _ _ _))⟩))))
              go_ret
              exact ⟨by first | rfl | (simp; done) | (simp [*]; done), by repeat (first | exact Drawn0.refl _ | apply Drawn0.step)⟩
            rw [if_neg c6] at H
            exact absurd H (by simp)
          rw [if_neg c5] at H
          exact absurd H (by simp)
        rw [if_neg c4] at H; have c4b0 : decide (x5_1 < (l0.length : Int)) = false := decide_eq_false c4; clear c4; obtain rfl := Option.some.inj H; go_wp2
        repeat (go_quiet (fail); try go_wp2)
        go_ret
        exact ⟨by first | rfl | (simp; done) | (simp [*]; done), by repeat (first | exact Drawn0.refl _ | apply Drawn0.step)⟩
  rw [if_neg c3] at H
  have c3b0 : ((l0.length : Int) == (l1.length : Int)) = false := beq_eq_false_iff_ne.mpr c3
  have c3b1 : ((l0.length : Int) != (l1.length : Int)) = true := bne_iff_ne.mpr c3
  have c3b2 : (l0.length == l1.length) = false := by first | simpa using c3 | (simp at c3 ⊢; omega)
  obtain rfl := Option.some.inj H
  go_enter Try.func24, Try.ntmps24
  go_wp2
  repeat (go_quiet (fail); try go_wp2)
  go_ret
  exact ⟨by first | rfl | (simp; done) | (simp [*]; done), by repeat (first | exact Drawn0.refl _ | apply Drawn0.step)⟩
end
section
attribute [local go_sem] max2_int min2_int max_two min_two max_three min_three max_four min_four
mutual
def codewrightref30_Same.j0 : Nat → Bool → Int → List (S74) → Int → List (S74) → Option (Bool)
  | 0, _, _, _, _, _ => none
  | k + 1, x21, x213000, x213001, x214000, x214001 => if x21 = true then (some false) else (codewrightref30_Same.l0 k 0 x213000 x213001 x214000 x214001)
def codewrightref30_Same.l0 : Nat → Int → Int → List (S74) → Int → List (S74) → Option (Bool)
  | 0, _, _, _, _, _ => none
  | k + 1, x5, x213000, x213001, x214000, x214001 => if x5 < (x213001.length : Int) then (if 0 ≤ x5 then (if x5 < (x214001.length : Int) then (if ((rd_T74 x213001 x5).f0) = ((rd_T74 x214001 x5).f0) then ((codewrightref09_SameInts.f k ((rd_T74 x213001 x5).f1) ((rd_T74 x214001 x5).f1)).bind fun t218 => (if t218 = true then ((codewrightref09_SameRows.f k ((rd_T74 x213001 x5).f2) ((rd_T74 x214001 x5).f2)).bind fun t219 => (codewrightref30_Same.j2 k x5 (!t219) x213000 x213001 x214000 x214001)) else (codewrightref30_Same.j2 k x5 true x213000 x213001 x214000 x214001))) else (codewrightref30_Same.j2 k x5 true x213000 x213001 x214000 x214001)) else (none)) else (none)) else (some true)
def codewrightref30_Same.j2 : Nat → Int → Bool → Int → List (S74) → Int → List (S74) → Option (Bool)
  | 0, _, _, _, _, _, _ => none
  | k + 1, x5, x59, x213000, x213001, x214000, x214001 => if x59 = true then (some false) else (codewrightref30_Same.l0 k (wrap64 (x5 + 1)) x213000 x213001 x214000 x214001)
end
def codewrightref30_Same.f (k : Nat) (a0_0 : Int) (l0_1 : List (S74)) (a1_0 : Int) (l1_1 : List (S74)) : Option (Bool) := if a0_0 = a1_0 then (codewrightref30_Same.j0 k ((l0_1.length : Int) != (l1_1.length : Int)) a0_0 l0_1 a1_0 l1_1) else (codewrightref30_Same.j0 k true a0_0 l0_1 a1_0 l1_1)
def codewrightref30_Same.T6 : Bool × List (List Nat × List Nat) := (true, [([], []), ([0], [0]), ([], []), ([1, 2], [1, 2]), ([3], [3]), ([], []), ([5], [5]), ([], []), ([6, 7], [6, 7]), ([8], [8]), ([], []), ([], []), ([10, 4, 0, 1, 2, 3, 4, 10, 11], [4, 10]), ([11, 9, 12, 0, 1, 2, 3, 4, 5, 6, 7, 8, 9, 10, 11, 12], [9, 11])])
def codewrightref30_Same.B6 : List Nat := [0, 1, 0, 7, 15, 0, 32, 0, 224, 480, 0, 0, 3103, 8191]
theorem codewrightref30_Same.tab6 : rtab .any (opsOf Try.f32 6) = codewrightref30_Same.T6 := by kernel_rfl
theorem codewrightref30_Same.bits6 : waitsOk codewrightref30_Same.T6.2 codewrightref30_Same.B6 = true := by kernel_rfl
theorem codewrightref30_Same.calls (k : Nat) (a0_0 : Int) (A0_1 : Option Addr) (c0_1 : Nat) (l0_1 : List (S74)) (a1_0 : Int) (A1_1 : Option Addr) (c1_1 : Nat) (l1_1 : List (S74)) (r : Bool) (w : World) (hr0_1 : Kd.C k74 w A0_1 l0_1.length l0_1) (hc0_1 : l0_1.length ≤ c0_1) (hr1_1 : Kd.C k74 w A1_1 l1_1.length l1_1) (hc1_1 : l1_1.length ≤ c1_1) (h : codewrightref30_Same.f k a0_0 l0_1 a1_0 l1_1 = some r) :
    Calls Try.prog 32 #[.agg #[.int .i64 a0_0, .slice A0_1 l0_1.length c0_1], .agg #[.int .i64 a1_0, .slice A1_1 l1_1.length c1_1]] w fun e w' => e = .returned (.bool r) ∧ Below w.heap.size w w' := by
  have hu46 := Try.underlying46
  have hu74 := Try.underlying74
  have HR0_1 := Aside0.mk hr0_1
  have HC0_1 := Aside0.mk hc0_1
  clear hr0_1 hc0_1
  have HR1_1 := Aside0.mk hr1_1
  have HC1_1 := Aside0.mk hc1_1
  clear hr1_1 hc1_1
  have HB := Aside0.mk (Below.refl w.heap.size w)
  have H : (if a0_0 = a1_0 then (codewrightref30_Same.j0 k ((l0_1.length : Int) != (l1_1.length : Int)) a0_0 l0_1 a1_0 l1_1) else (codewrightref30_Same.j0 k true a0_0 l0_1 a1_0 l1_1)) = some r := h
  clear h
  have HC3 := Aside0.mk H
  clear H
  go_enter Try.func32, Try.ntmps32
  go_upto_region 1 with (first | ((with_reducible refine gate_dst (N := 2) rfl ?_); (try (refine gate_guard (by rfl) ?_; dsimp only)); refine box_event ?hg (N := 2) ?hd (cs := #[.int .i64 a0_0, .slice A0_1 l0_1.length c0_1]) (t := 46) ?hr ?_; (case hd => rfl); (case hg => rfl); (case hr => first | (go_simp; done) | (go_simp; rfl)); intro gb212 hg w4 hbox hb; have BK212 := Aside0.mk (hbox); have GW212 := Aside0.mk ((by rw [hg]; exact (below_size zz100) : w.heap.size ≤ gb212)); have GE212 := Aside0.mk ((by rw [hg]; exact (below_size zz100) : w.heap.size ≤ gb212)); replace HB := Aside0.mk (below_step zz100 hb); clear hb hbox hg) | ((with_reducible refine gate_dst (N := 3) rfl ?_); (try (refine gate_guard (by rfl) ?_; dsimp only)); refine box_event ?hg (N := 3) ?hd (cs := #[.int .i64 a1_0, .slice A1_1 l1_1.length c1_1]) (t := 46) ?hr ?_; (case hd => rfl); (case hg => rfl); (case hr => first | (go_simp; done) | (go_simp; rfl)); intro gb213 hg w5 hbox hb; have BK213 := Aside0.mk (hbox); have GW213 := Aside0.mk ((by rw [hg]; exact (below_size zz84) : w.heap.size ≤ gb213)); have GE213 := Aside0.mk ((by rw [hg]; exact (below_size zz84) : w.heap.size ≤ gb213)); replace HB := Aside0.mk (below_step zz84 hb); have NB212_213 := Aside0.mk ((by rw [hg]; exact Nat.ne_of_lt (blk_lt (g := gb212) (o := .cells #[.int .i64 a0_0, .slice A0_1 l0_1.length c0_1] 46 (0, 0)) (zB BK212)) : gb212 ≠ gb213)); have NB213_212 := Aside0.mk ((by rw [hg]; exact Nat.ne_of_gt (blk_lt (g := gb212) (o := .cells #[.int .i64 a0_0, .slice A0_1 l0_1.length c0_1] 46 (0, 0)) (zB BK212)) : gb213 ≠ gb212)); replace BK212 := Aside0.mk (blk_below (g := gb212) (o := .cells #[.int .i64 a0_0, .slice A0_1 l0_1.length c0_1] 46 (0, 0)) (zB BK212) hb); clear hb hbox hg))
  (try simp only [Act.put, List.setIfInBounds_toArray, List.set_cons_zero, List.set_cons_succ])
  go_cut [21] (fun v21 wc => ∃ (kq : Nat) (x21_2 : Bool), v21 = .bool x21_2 ∧ Aside0 (codewrightref30_Same.j0 kq x21_2 a0_0 l0_1 a1_0 l1_1 = some r) ∧ Aside0 (kq ≤ k) ∧ Aside0 (wc.heap[gb212]? = some (.cells #[.int .i64 a0_0, (.slice A0_1 l0_1.length c0_1)] 46 (0, 0))) ∧ Aside0 (wc.heap[gb213]? = some (.cells #[.int .i64 a1_0, (.slice A1_1 l1_1.length c1_1)] 46 (0, 0))) ∧ Aside0 (Below w.heap.size w wc))
  case first =>
    have H := HC3.out; clear HC3
    by_cases c6 : a0_0 = a1_0
    · rw [if_pos c6] at H; have c6b0 : (a0_0 == a1_0) = true := beq_iff_eq.mpr c6; have c6b1 : (a0_0 != a1_0) = false := bne_eq_false_iff_eq.mpr c6; clear c6
      (first | rw [c6b0] | (simp only [i64_w, i32_w]; rw [c6b0]) | skip)
      have H' := Aside0.mk H; clear H; have hnb7 := NB212_213.out; have hnc7 := NB213_212.out; have hcz8_0 : w5.cell? ⟨gb212, 0, none⟩ = some (.int .i64 a0_0) := (blk_cell BK212.out 0).trans rfl; have hcz8_1 : w5.cell? ⟨gb212, 1, none⟩ = some (.slice A0_1 l0_1.length c0_1) := (blk_cell BK212.out 1).trans rfl; have hfz8_0 := blk_frozen BK212.out 0; have hfz8_1 := blk_frozen BK212.out 1; have hcz9_0 : w5.cell? ⟨gb213, 0, none⟩ = some (.int .i64 a1_0) := (blk_cell BK213.out 0).trans rfl; have hcz9_1 : w5.cell? ⟨gb213, 1, none⟩ = some (.slice A1_1 l1_1.length c1_1) := (blk_cell BK213.out 1).trans rfl; have hfz9_0 := blk_frozen BK213.out 0; have hfz9_1 := blk_frozen BK213.out 1; go_wp2; go_meet
      case rel => exact ⟨_, (((l0_1.length : Int) != (l1_1.length : Int))), zz125, H', ⟨zz128⟩, ⟨(zB BK212)⟩, ⟨(zB BK213)⟩, ⟨zz75⟩⟩
    rw [if_neg c6] at H; have c6b0 : (a0_0 == a1_0) = false := beq_eq_false_iff_ne.mpr c6; have c6b1 : (a0_0 != a1_0) = true := bne_iff_ne.mpr c6
    (first | rw [c6b0] | (simp only [i64_w, i32_w]; rw [c6b0]) | skip)
    have H' := Aside0.mk H; clear H; have hnb10 := NB212_213.out; have hnc10 := NB213_212.out; have hcz11_0 : w5.cell? ⟨gb212, 0, none⟩ = some (.int .i64 a0_0) := (blk_cell BK212.out 0).trans rfl; have hcz11_1 : w5.cell? ⟨gb212, 1, none⟩ = some (.slice A0_1 l0_1.length c0_1) := (blk_cell BK212.out 1).trans rfl; have hfz11_0 := blk_frozen BK212.out 0; have hfz11_1 := blk_frozen BK212.out 1; have hcz12_0 : w5.cell? ⟨gb213, 0, none⟩ = some (.int .i64 a1_0) := (blk_cell BK213.out 0).trans rfl; have hcz12_1 : w5.cell? ⟨gb213, 1, none⟩ = some (.slice A1_1 l1_1.length c1_1) := (blk_cell BK213.out 1).trans rfl; have hfz12_0 := blk_frozen BK213.out 0; have hfz12_1 := blk_frozen BK213.out 1; go_wp2; go_meet
    case rel => exact ⟨_, (true), zz125, H', ⟨zz128⟩, ⟨(zB BK212)⟩, ⟨(zB BK213)⟩, ⟨zz75⟩⟩
  case rest =>
    clear HC3; (try clear c1); (try clear p2); (try clear c3); (try clear c6); (try clear c6b0); (try clear c6b1); (try clear c7); (try clear c10); (try clear hcz11_0); (try clear hcz11_1); (try clear hcz12_0); (try clear hcz12_1); (try clear hcz8_0); (try clear hcz8_1); (try clear hcz9_0); (try clear hcz9_1); (try clear hfz11_0); (try clear hfz11_1); (try clear hfz12_0); (try clear hfz12_1); (try clear hfz8_0); (try clear hfz8_1); (try clear hfz9_0); (try clear hfz9_1); obtain ⟨kq, x21_2, rfl, HA, HJ2, BK212, BK213, HB⟩ := hcut
    cases kq with
    | zero => exact absurd HA.out (by simp [codewrightref30_Same.j0])
    | succ kj2 =>
      have H := HA.out; clear HA; simp only [codewrightref30_Same.j0] at H
      by_cases c13 : x21_2 = true
      · subst c13; have H1 : (some false) = some r := by rw [if_pos rfl] at H; exact H
        clear H; have H := H1; clear H1; obtain rfl := Option.some.inj H; go_wp2; go_ret
        exact ⟨by first | rfl | (simp [errW_none, errW_some] <;> rfl) | (simp [*, errW_none, errW_some] <;> rfl), by repeat (first | (with_reducible first | exact HB.out | apply below_alloc | apply pw_below_drewN | apply below_drew1 | refine below_set ?_ GE212.out | refine below_set ?_ GE213.out) | exact HB.out)⟩
      replace c13 := Bool.eq_false_iff.mpr c13; subst c13; have H1 : (codewrightref30_Same.l0 kj2 0 a0_0 l0_1 a1_0 l1_1) = some r := by rw [if_neg (show ¬ (false = true) by decide)] at H; exact H
      clear H; have H := H1; clear H1; have H' := Aside0.mk H; clear H; go_wp2
      go_loopg [5] kj2 (fun kq v5 w' => ∃ (x5_2 : Int), v5 = .int .i64 x5_2 ∧ Aside0 (codewrightref30_Same.l0 kq x5_2 a0_0 l0_1 a1_0 l1_1 = some r) ∧ Aside0 (kq ≤ kj2) ∧ Aside0 (w'.heap[gb212]? = some (.cells #[.int .i64 a0_0, (.slice A0_1 l0_1.length c0_1)] 46 (0, 0))) ∧ Aside0 (w'.heap[gb213]? = some (.cells #[.int .i64 a1_0, (.slice A1_1 l1_1.length c1_1)] 46 (0, 0))) ∧ Aside0 (Below w.heap.size w w'))
      case atStart => exact ⟨(0), zz125, H', ⟨Nat.le_refl _⟩, ⟨(zB BK212)⟩, ⟨(zB BK213)⟩, ⟨zz75⟩⟩
      case round =>
        clear H'; (try clear c1); (try clear p2); (try clear c3); (try clear c6); (try clear c6b0); (try clear c6b1); (try clear c7); (try clear c10); (try clear c13); (try clear hcz11_0); (try clear hcz11_1); (try clear hcz12_0); (try clear hcz12_1); (try clear hcz8_0); (try clear hcz8_1); (try clear hcz9_0); (try clear hcz9_1); (try clear hfz11_0); (try clear hfz11_1); (try clear hfz12_0); (try clear hfz12_1); (try clear hfz8_0); (try clear hfz8_1); (try clear hfz9_0); (try clear hfz9_1); (try clear p2); obtain ⟨x5_2, rfl, HA, HK2, BK212, BK213, HB⟩ := hrel
        cases gk with
        | zero => exact absurd HA.out (by simp [codewrightref30_Same.l0])
        | succ k2 =>
          have H := HA.out; clear HA; simp only [codewrightref30_Same.l0] at H
          by_cases c14 : x5_2 < (l0_1.length : Int)
          · rw [if_pos c14] at H; have c14b0 : decide (x5_2 < (l0_1.length : Int)) = true := decide_eq_true c14; clear c14
            by_cases c15 : 0 ≤ x5_2
            · rw [if_pos c15] at H; have c15b0 : decide (0 ≤ x5_2) = true := decide_eq_true c15; clear c15
              by_cases c16 : x5_2 < (l1_1.length : Int)
              · rw [if_pos c16] at H; have c16b0 : decide (x5_2 < (l1_1.length : Int)) = true := decide_eq_true c16; clear c16; have HC17 := Aside0.mk H; clear H; have hnb18 := NB212_213.out; have hnc18 := NB213_212.out; have hcz19_0 : wr.cell? ⟨gb212, 0, none⟩ = some (.int .i64 a0_0) := (blk_cell BK212.out 0).trans rfl; have hcz19_1 : wr.cell? ⟨gb212, 1, none⟩ = some (.slice A0_1 l0_1.length c0_1) := (blk_cell BK212.out 1).trans rfl; have hfz19_0 := blk_frozen BK212.out 0; have hfz19_1 := blk_frozen BK212.out 1
                try go_wp2
                have n0_ := Aside0.mk (blk_drew BK212.out); have n1_ := Aside0.mk (blk_drew BK213.out); have n2_ := Aside0.mk (below_drew1 HB.out); clear BK212; clear BK213; clear HB; have BK212 := n0_; have BK213 := n1_; have HB := n2_; clear n0_ n1_ n2_; have p214 : 0 ≤ (x5_2 : Int) := of_decide_eq_true zz123; have q214 : x5_2 < (l0_1.length : Int) := of_decide_eq_true zz123; obtain ⟨ad214, A214_1, c214_1, A214_2, c214_2, e214, hx214_0, hx214_1, hx214_2, hl214_1, hi214_1, hl214_2, hi214_2⟩ := at_T74 HR0_1.out x5_2 p214 q214; have hw214_2 := hx214_2; have hw214_1 := hx214_1; have hw214_0 := hx214_0
                cases e214; replace hx214_0 := (HB.out.cell (World.block_lt_of_cell? w _ hx214_0)).trans hx214_0; replace hx214_1 := (HB.out.cell (World.block_lt_of_cell? w _ hx214_1)).trans hx214_1; replace hx214_2 := (HB.out.cell (World.block_lt_of_cell? w _ hx214_2)).trans hx214_2; have HR214_1 := Aside0.mk hi214_1; have HC214_1 := Aside0.mk hl214_1; clear hi214_1 hl214_1; have HR214_2 := Aside0.mk hi214_2; have HC214_2 := Aside0.mk hl214_2; clear hi214_2 hl214_2; replace p214 := eq_true p214; replace q214 := eq_true q214; have p215 : 0 ≤ (x5_2 : Int) := of_decide_eq_true zz123; have q215 : x5_2 < (l1_1.length : Int) := of_decide_eq_true zz123; obtain ⟨ad215, A215_1, c215_1, A215_2, c215_2, e215, hx215_0, hx215_1, hx215_2, hl215_1, hi215_1, hl215_2, hi215_2⟩ := at_T74 HR1_1.out x5_2 p215 q215; have hw215_2 := hx215_2; have hw215_1 := hx215_1; have hw215_0 := hx215_0
                cases e215; replace hx215_0 := (HB.out.cell (World.block_lt_of_cell? w _ hx215_0)).trans hx215_0; replace hx215_1 := (HB.out.cell (World.block_lt_of_cell? w _ hx215_1)).trans hx215_1; replace hx215_2 := (HB.out.cell (World.block_lt_of_cell? w _ hx215_2)).trans hx215_2; have HR215_1 := Aside0.mk hi215_1; have HC215_1 := Aside0.mk hl215_1; clear hi215_1 hl215_1; have HR215_2 := Aside0.mk hi215_2; have HC215_2 := Aside0.mk hl215_2; clear hi215_2 hl215_2; replace p215 := eq_true p215; replace q215 := eq_true q215
                refine start_ (n := 14) (S := fun w' => w'.cell? ⟨gb212, 0, none⟩ = some (.int .i64 a0_0) ∧ w'.cell? ⟨gb212, 1, none⟩ = some (.slice (some ad214) l0_1.length c0_1) ∧ w'.cell? ⟨gb213, 0, none⟩ = some (.int .i64 a1_0) ∧ w'.cell? ⟨gb213, 1, none⟩ = some (.slice (some ad215) l1_1.length c1_1) ∧ w'.cell? (ad214.add ((x5_2).toNat * 3)) = some (.int .i64 ((rd_T74 l0_1 x5_2).f0)) ∧ w'.cell? ⟨(ad214.add ((x5_2).toNat * 3)).block, (ad214.add ((x5_2).toNat * 3)).off + 1, none⟩ = some (.slice A214_1 ((rd_T74 l0_1 x5_2).f1).length c214_1) ∧ w'.cell? ⟨(ad214.add ((x5_2).toNat * 3)).block, (ad214.add ((x5_2).toNat * 3)).off + 2, none⟩ = some (.slice A214_2 ((rd_T74 l0_1 x5_2).f2).length c214_2) ∧ w'.cell? (ad215.add ((x5_2).toNat * 3)) = some (.int .i64 ((rd_T74 l1_1 x5_2).f0)) ∧ w'.cell? ⟨(ad215.add ((x5_2).toNat * 3)).block, (ad215.add ((x5_2).toNat * 3)).off + 1, none⟩ = some (.slice A215_1 ((rd_T74 l1_1 x5_2).f1).length c215_1) ∧ w'.cell? ⟨(ad215.add ((x5_2).toNat * 3)).block, (ad215.add ((x5_2).toNat * 3)).off + 2, none⟩ = some (.slice A215_2 ((rd_T74 l1_1 x5_2).f2).length c215_2)) (ds := []) #[false, false, false, false, false, false, false, false, false, false, false, false, false, false] (by kernel_rfl) rfl rfl ⟨(blk_cell BK212.out 0).trans rfl, (blk_cell BK212.out 1).trans rfl, (blk_cell BK213.out 0).trans rfl, (blk_cell BK213.out 1).trans rfl, ((HB.out.cell (World.block_lt_of_cell? w _ hw214_0)).trans hw214_0), ((HB.out.cell (World.block_lt_of_cell? w _ hw214_1)).trans hw214_1), ((HB.out.cell (World.block_lt_of_cell? w _ hw214_2)).trans hw214_2), ((HB.out.cell (World.block_lt_of_cell? w _ hw215_0)).trans hw215_0), ((HB.out.cell (World.block_lt_of_cell? w _ hw215_1)).trans hw215_1), ((HB.out.cell (World.block_lt_of_cell? w _ hw215_2)).trans hw215_2)⟩ (fun hHeld => ?_); refine with_tabW codewrightref30_Same.tab6 codewrightref30_Same.bits6 (fun HT_ HW_ => ?_); generalize wr.drew = w20 at BK212 BK213 HB HR214_1 HR214_2 HR215_1 HR215_2 hx214_0 hx214_1 hx214_2 hx215_0 hx215_1 hx215_2 hHeld ⊢
                refine pure_ (i := 0) (N := some 29) (v := ?_) (a' := ?_) #[true, false, false, false, false, false, false, false, false, false, false, false, false, false] rfl rfl (any_of HT_.out (by kernel_rfl)) (fun _ _ _ h => h) (Or.inl ⟨by rfl, ?_⟩) ?_ ?_
                rotate_left
                · intro w'
                  go_simp
                  with_reducible rfl
                rotate_left
                · simp only [Act.put, List.setIfInBounds_toArray, List.set_cons_zero, List.set_cons_succ, i64_w, i32_w]
                  rfl
                refine pure_ (i := 2) (N := some 31) (v := ?_) (a' := ?_) #[true, false, true, false, false, false, false, false, false, false, false, false, false, false] rfl rfl (any_of HT_.out (by kernel_rfl)) (fun _ _ _ h => h) (Or.inl ⟨by rfl, ?_⟩) ?_ ?_
                rotate_left
                · intro w'
                  go_simp
                  with_reducible rfl
                rotate_left
                · simp only [Act.put, List.setIfInBounds_toArray, List.set_cons_zero, List.set_cons_succ, i64_w, i32_w]
                  rfl
                refine pure_ (i := 5) (N := some 34) (v := ?_) (a' := ?_) #[true, false, true, false, false, true, false, false, false, false, false, false, false, false] rfl rfl (any_of HT_.out (by kernel_rfl)) (fun _ _ _ h => h) (Or.inl ⟨by rfl, ?_⟩) ?_ ?_
                rotate_left
                · intro w'
                  go_simp
                  with_reducible rfl
                rotate_left
                · simp only [Act.put, List.setIfInBounds_toArray, List.set_cons_zero, List.set_cons_succ, i64_w, i32_w]
                  rfl
                refine pure_ (i := 7) (N := some 36) (v := ?_) (a' := ?_) #[true, false, true, false, false, true, false, true, false, false, false, false, false, false] rfl rfl (any_of HT_.out (by kernel_rfl)) (fun _ _ _ h => h) (Or.inl ⟨by rfl, ?_⟩) ?_ ?_
                rotate_left
                · intro w'
                  go_simp
                  with_reducible rfl
                rotate_left
                · simp only [Act.put, List.setIfInBounds_toArray, List.set_cons_zero, List.set_cons_succ, i64_w, i32_w]
                  rfl
                refine take_ (i := 1) (N := some 30) (v := ?_) (a' := ?_) #[true, true, true, false, false, true, false, true, false, false, false, false, false, false] rfl rfl (take_ofW HT_.out HW_.out (by kernel_rfl)) (fun _ _ _ h => h) (Or.inl ⟨by rfl, ?_⟩) hHeld ?_ ?_
                rotate_left
                · rintro w' ⟨s0, s1, s2, s3, s4, s5, s6, s7, s8, s9⟩
                  go_simp
                  with_reducible rfl
                rotate_left
                · simp only [Act.put, List.setIfInBounds_toArray, List.set_cons_zero, List.set_cons_succ, i64_w, i32_w]
                  rfl
                refine pure_ (i := 3) (N := some 32) (v := ?_) (a' := ?_) #[true, true, true, true, false, true, false, true, false, false, false, false, false, false] rfl rfl (any_of HT_.out (by kernel_rfl)) (fun _ _ _ h => h) (Or.inl ⟨by rfl, ?_⟩) ?_ ?_
                rotate_left
                · intro w'
                  go_simp
                  with_reducible rfl
                rotate_left
                · simp only [Act.put, List.setIfInBounds_toArray, List.set_cons_zero, List.set_cons_succ, i64_w, i32_w]
                  rfl
                refine take_ (i := 4) (N := some 33) (v := ?_) (a' := ?_) #[true, true, true, true, true, true, false, true, false, false, false, false, false, false] rfl rfl (take_ofW HT_.out HW_.out (by kernel_rfl)) (fun _ _ _ h => h) (Or.inl ⟨by rfl, ?_⟩) hHeld ?_ ?_
                rotate_left
                · rintro w' ⟨s0, s1, s2, s3, s4, s5, s6, s7, s8, s9⟩
                  go_simp
                  with_reducible rfl
                rotate_left
                · simp only [Act.put, List.setIfInBounds_toArray, List.set_cons_zero, List.set_cons_succ, i64_w, i32_w]
                  rfl
                refine take_ (i := 6) (N := some 35) (v := ?_) (a' := ?_) #[true, true, true, true, true, true, true, true, false, false, false, false, false, false] rfl rfl (take_ofW HT_.out HW_.out (by kernel_rfl)) (fun _ _ _ h => h) (Or.inl ⟨by rfl, ?_⟩) hHeld ?_ ?_
                rotate_left
                · rintro w' ⟨s0, s1, s2, s3, s4, s5, s6, s7, s8, s9⟩
                  go_simp
                  with_reducible rfl
                rotate_left
                · simp only [Act.put, List.setIfInBounds_toArray, List.set_cons_zero, List.set_cons_succ, i64_w, i32_w]
                  rfl
                refine pure_ (i := 8) (N := some 37) (v := ?_) (a' := ?_) #[true, true, true, true, true, true, true, true, true, false, false, false, false, false] rfl rfl (any_of HT_.out (by kernel_rfl)) (fun _ _ _ h => h) (Or.inl ⟨by rfl, ?_⟩) ?_ ?_
                rotate_left
                · intro w'
                  go_simp
                  with_reducible rfl
                rotate_left
                · simp only [Act.put, List.setIfInBounds_toArray, List.set_cons_zero, List.set_cons_succ, i64_w, i32_w]
                  rfl
                refine take_ (i := 9) (N := some 38) (v := ?_) (a' := ?_) #[true, true, true, true, true, true, true, true, true, true, false, false, false, false] rfl rfl (take_ofW HT_.out HW_.out (by kernel_rfl)) (fun _ _ _ h => h) (Or.inl ⟨by rfl, ?_⟩) hHeld ?_ ?_
                rotate_left
                · rintro w' ⟨s0, s1, s2, s3, s4, s5, s6, s7, s8, s9⟩
                  go_simp
                  with_reducible rfl
                rotate_left
                · simp only [Act.put, List.setIfInBounds_toArray, List.set_cons_zero, List.set_cons_succ, i64_w, i32_w]
                  rfl
                refine join_ (σ := Nat × Nat) 2 #[true, true, true, true, true, true, true, true, true, true, true, true, false, false] (fun s_ => [(6, .pointer (some ⟨s_.1, 0, none⟩)), (7, .pointer (some ⟨s_.2, 0, none⟩))]) (fun s_ w' => (w'.cell? ⟨gb212, 0, none⟩ = some (.int .i64 a0_0) ∧ w'.cell? ⟨gb212, 1, none⟩ = some (.slice (some ad214) l0_1.length c0_1) ∧ w'.cell? ⟨gb213, 0, none⟩ = some (.int .i64 a1_0) ∧ w'.cell? ⟨gb213, 1, none⟩ = some (.slice (some ad215) l1_1.length c1_1) ∧ w'.cell? (ad214.add ((x5_2).toNat * 3)) = some (.int .i64 ((rd_T74 l0_1 x5_2).f0)) ∧ w'.cell? ⟨(ad214.add ((x5_2).toNat * 3)).block, (ad214.add ((x5_2).toNat * 3)).off + 1, none⟩ = some (.slice A214_1 ((rd_T74 l0_1 x5_2).f1).length c214_1) ∧ w'.cell? ⟨(ad214.add ((x5_2).toNat * 3)).block, (ad214.add ((x5_2).toNat * 3)).off + 2, none⟩ = some (.slice A214_2 ((rd_T74 l0_1 x5_2).f2).length c214_2) ∧ w'.cell? (ad215.add ((x5_2).toNat * 3)) = some (.int .i64 ((rd_T74 l1_1 x5_2).f0)) ∧ w'.cell? ⟨(ad215.add ((x5_2).toNat * 3)).block, (ad215.add ((x5_2).toNat * 3)).off + 1, none⟩ = some (.slice A215_1 ((rd_T74 l1_1 x5_2).f1).length c215_1) ∧ w'.cell? ⟨(ad215.add ((x5_2).toNat * 3)).block, (ad215.add ((x5_2).toNat * 3)).off + 2, none⟩ = some (.slice A215_2 ((rd_T74 l1_1 x5_2).f2).length c215_2)) ∧ (w'.heap[gb212]? = some (.cells #[.int .i64 a0_0, .slice (some ad214) l0_1.length c0_1] 46 (0, 0))) ∧ (w'.heap[gb213]? = some (.cells #[.int .i64 a1_0, .slice (some ad215) l1_1.length c1_1] 46 (0, 0))) ∧ (w'.heap[s_.1]? = some (.cells #[.int .i64 0, .slice none 0 0, .slice none 0 0] 74 (0, 0))) ∧ (w'.heap[s_.2]? = some (.cells #[.int .i64 0, .slice none 0 0, .slice none 0 0] 74 (0, 0))) ∧ (w.heap.size ≤ s_.1) ∧ (w.heap.size ≤ s_.1) ∧ (gb212 ≠ s_.1) ∧ (s_.1 ≠ gb212) ∧ (gb213 ≠ s_.1) ∧ (s_.1 ≠ gb213) ∧ (s_.2 ≠ s_.1) ∧ (s_.1 ≠ s_.2) ∧ (w.heap.size ≤ s_.2) ∧ (w.heap.size ≤ s_.2) ∧ (gb212 ≠ s_.2) ∧ (s_.2 ≠ gb212) ∧ (gb213 ≠ s_.2) ∧ (s_.2 ≠ gb213) ∧ (Below w.heap.size w w')) ?_ ?_
                rotate_left
                · intro hCont
                  refine two_ (i := 10) (j := 11) (Ni := some 6) (Nj := some 7) #[true, true, true, true, true, true, true, true, true, true, true, false, false, false] #[true, true, true, true, true, true, true, true, true, true, false, true, false, false] rfl rfl rfl rfl (two_of HT_.out (by kernel_rfl)) (by decide) (by decide) (fun K hK => ?_) (fun K hK => ?_)
                  · skip
                    refine box_step ?hg (N := 6) ?hd (cs := #[.int .i64 0, .slice none 0 0, .slice none 0 0]) (t := 74) ?hr ?_; (case hd => rfl); (case hg => rfl); (case hr => first | (go_simp; done) | (go_simp; rfl))
                    intro gb216 hg w21 hbox hb
                    have n0_ := Aside0.mk (blk_below (g := gb212) (o := .cells #[.int .i64 a0_0, .slice (some ad214) l0_1.length c0_1] 46 (0, 0)) (zB BK212) hb); have n1_ := Aside0.mk (blk_below (g := gb213) (o := .cells #[.int .i64 a1_0, .slice (some ad215) l1_1.length c1_1] 46 (0, 0)) (zB BK213) hb); have n2_ := Aside0.mk (below_step zz75 hb); have n3_ := Aside0.mk (hbox); have n4_ := Aside0.mk ((by rw [hg]; exact (below_size zz75) : w.heap.size ≤ gb216)); have n5_ := Aside0.mk ((by rw [hg]; exact (below_size zz75) : w.heap.size ≤ gb216)); have n6_ := Aside0.mk ((by rw [hg]; exact Nat.ne_of_lt (blk_lt (g := gb212) (o := .cells #[.int .i64 a0_0, .slice (some ad214) l0_1.length c0_1] 46 (0, 0)) (zB BK212)) : gb212 ≠ gb216)); have n7_ := Aside0.mk ((by rw [hg]; exact Nat.ne_of_gt (blk_lt (g := gb212) (o := .cells #[.int .i64 a0_0, .slice (some ad214) l0_1.length c0_1] 46 (0, 0)) (zB BK212)) : gb216 ≠ gb212)); have n8_ := Aside0.mk ((by rw [hg]; exact Nat.ne_of_lt (blk_lt (g := gb213) (o := .cells #[.int .i64 a1_0, .slice (some ad215) l1_1.length c1_1] 46 (0, 0)) (zB BK213)) : gb213 ≠ gb216)); have n9_ := Aside0.mk ((by rw [hg]; exact Nat.ne_of_gt (blk_lt (g := gb213) (o := .cells #[.int .i64 a1_0, .slice (some ad215) l1_1.length c1_1] 46 (0, 0)) (zB BK213)) : gb216 ≠ gb213)); clear BK212; clear BK213; clear HB; have BK212 := n0_; have BK213 := n1_; have HB := n2_; have BK216 := n3_; have GW216 := n4_; have GE216 := n5_; have NB212_216 := n6_; have NB216_212 := n7_; have NB213_216 := n8_; have NB216_213 := n9_; clear n0_ n1_ n2_ n3_ n4_ n5_ n6_ n7_ n8_ n9_; clear hb hbox hg
                    refine hK.out _ _ ⟨(blk_cell BK212.out 0).trans rfl, (blk_cell BK212.out 1).trans rfl, (blk_cell BK213.out 0).trans rfl, (blk_cell BK213.out 1).trans rfl, ((HB.out.cell (World.block_lt_of_cell? w _ hw214_0)).trans hw214_0), ((HB.out.cell (World.block_lt_of_cell? w _ hw214_1)).trans hw214_1), ((HB.out.cell (World.block_lt_of_cell? w _ hw214_2)).trans hw214_2), ((HB.out.cell (World.block_lt_of_cell? w _ hw215_0)).trans hw215_0), ((HB.out.cell (World.block_lt_of_cell? w _ hw215_1)).trans hw215_1), ((HB.out.cell (World.block_lt_of_cell? w _ hw215_2)).trans hw215_2)⟩ (fun hHeld => ?_); clear hK K
                    refine norm_ (a' := ?_) ?_ ?_
                    rotate_left
                    · show Act.put _ (some 6) _ = _
                      simp only [Act.put, List.setIfInBounds_toArray, List.set_cons_zero, List.set_cons_succ, i64_w, i32_w]
                      rfl
                    refine one_ (i := 11) (N := some 7) #[true, true, true, true, true, true, true, true, true, true, true, true, false, false] rfl rfl (one_of HT_.out (by kernel_rfl)) (by decide) (fun K hK => ?_)
                    refine box_step ?hg (N := 7) ?hd (cs := #[.int .i64 0, .slice none 0 0, .slice none 0 0]) (t := 74) ?hr ?_; (case hd => rfl); (case hg => rfl); (case hr => first | (go_simp; done) | (go_simp; rfl))
                    intro gb217 hg w22 hbox hb
                    have n0_ := Aside0.mk (blk_below (g := gb212) (o := .cells #[.int .i64 a0_0, .slice (some ad214) l0_1.length c0_1] 46 (0, 0)) (zB BK212) hb); have n1_ := Aside0.mk (blk_below (g := gb213) (o := .cells #[.int .i64 a1_0, .slice (some ad215) l1_1.length c1_1] 46 (0, 0)) (zB BK213) hb); have n2_ := Aside0.mk (blk_below (g := gb216) (o := .cells #[.int .i64 0, .slice none 0 0, .slice none 0 0] 74 (0, 0)) (zB BK216) hb); have n3_ := Aside0.mk (below_step zz70 hb); have n4_ := Aside0.mk (hbox); have n5_ := Aside0.mk ((by rw [hg]; exact (below_size zz70) : w.heap.size ≤ gb217)); have n6_ := Aside0.mk ((by rw [hg]; exact (below_size zz70) : w.heap.size ≤ gb217)); have n7_ := Aside0.mk ((by rw [hg]; exact Nat.ne_of_lt (blk_lt (g := gb212) (o := .cells #[.int .i64 a0_0, .slice (some ad214) l0_1.length c0_1] 46 (0, 0)) (zB BK212)) : gb212 ≠ gb217)); have n8_ := Aside0.mk ((by rw [hg]; exact Nat.ne_of_gt (blk_lt (g := gb212) (o := .cells #[.int .i64 a0_0, .slice (some ad214) l0_1.length c0_1] 46 (0, 0)) (zB BK212)) : gb217 ≠ gb212)); have n9_ := Aside0.mk ((by rw [hg]; exact Nat.ne_of_lt (blk_lt (g := gb213) (o := .cells #[.int .i64 a1_0, .slice (some ad215) l1_1.length c1_1] 46 (0, 0)) (zB BK213)) : gb213 ≠ gb217)); have n10_ := Aside0.mk ((by rw [hg]; exact Nat.ne_of_gt (blk_lt (g := gb213) (o := .cells #[.int .i64 a1_0, .slice (some ad215) l1_1.length c1_1] 46 (0, 0)) (zB BK213)) : gb217 ≠ gb213)); have n11_ := Aside0.mk ((by rw [hg]; exact Nat.ne_of_lt (blk_lt (g := gb216) (o := .cells #[.int .i64 0, .slice none 0 0, .slice none 0 0] 74 (0, 0)) (zB BK216)) : gb216 ≠ gb217)); have n12_ := Aside0.mk ((by rw [hg]; exact Nat.ne_of_gt (blk_lt (g := gb216) (o := .cells #[.int .i64 0, .slice none 0 0, .slice none 0 0] 74 (0, 0)) (zB BK216)) : gb217 ≠ gb216)); clear BK212; clear BK213; clear BK216; clear HB; have BK212 := n0_; have BK213 := n1_; have BK216 := n2_; have HB := n3_; have BK217 := n4_; have GW217 := n5_; have GE217 := n6_; have NB212_217 := n7_; have NB217_212 := n8_; have NB213_217 := n9_; have NB217_213 := n10_; have NB216_217 := n11_; have NB217_216 := n12_; clear n0_ n1_ n2_ n3_ n4_ n5_ n6_ n7_ n8_ n9_ n10_ n11_ n12_; clear hb hbox hg
                    refine hK.out _ _ ⟨(blk_cell BK212.out 0).trans rfl, (blk_cell BK212.out 1).trans rfl, (blk_cell BK213.out 0).trans rfl, (blk_cell BK213.out 1).trans rfl, ((HB.out.cell (World.block_lt_of_cell? w _ hw214_0)).trans hw214_0), ((HB.out.cell (World.block_lt_of_cell? w _ hw214_1)).trans hw214_1), ((HB.out.cell (World.block_lt_of_cell? w _ hw214_2)).trans hw214_2), ((HB.out.cell (World.block_lt_of_cell? w _ hw215_0)).trans hw215_0), ((HB.out.cell (World.block_lt_of_cell? w _ hw215_1)).trans hw215_1), ((HB.out.cell (World.block_lt_of_cell? w _ hw215_2)).trans hw215_2)⟩ (fun hHeld => ?_); clear hK K
                    refine norm_ (a' := ?_) ?_ ?_
                    rotate_left
                    · show Act.put _ (some 7) _ = _
                      simp only [Act.put, List.setIfInBounds_toArray, List.set_cons_zero, List.set_cons_succ, i64_w, i32_w]
                      rfl
                    exact norm_ zz110 (hCont (gb216, gb217) _ ⟨hHeld, (zB BK212), (zB BK213), (zB BK216), (zB BK217), GW216.out, GE216.out, NB212_216.out, NB216_212.out, NB213_216.out, NB216_213.out, NB217_216.out, NB216_217.out, GW217.out, GE217.out, NB212_217.out, NB217_212.out, NB213_217.out, NB217_213.out, zz62⟩)
                  · skip
                    refine box_step ?hg (N := 7) ?hd (cs := #[.int .i64 0, .slice none 0 0, .slice none 0 0]) (t := 74) ?hr ?_; (case hd => rfl); (case hg => rfl); (case hr => first | (go_simp; done) | (go_simp; rfl))
                    intro gb217 hg w21 hbox hb
                    have n0_ := Aside0.mk (blk_below (g := gb212) (o := .cells #[.int .i64 a0_0, .slice (some ad214) l0_1.length c0_1] 46 (0, 0)) (zB BK212) hb); have n1_ := Aside0.mk (blk_below (g := gb213) (o := .cells #[.int .i64 a1_0, .slice (some ad215) l1_1.length c1_1] 46 (0, 0)) (zB BK213) hb); have n2_ := Aside0.mk (below_step zz75 hb); have n3_ := Aside0.mk (hbox); have n4_ := Aside0.mk ((by rw [hg]; exact (below_size zz75) : w.heap.size ≤ gb217)); have n5_ := Aside0.mk ((by rw [hg]; exact (below_size zz75) : w.heap.size ≤ gb217)); have n6_ := Aside0.mk ((by rw [hg]; exact Nat.ne_of_lt (blk_lt (g := gb212) (o := .cells #[.int .i64 a0_0, .slice (some ad214) l0_1.length c0_1] 46 (0, 0)) (zB BK212)) : gb212 ≠ gb217)); have n7_ := Aside0.mk ((by rw [hg]; exact Nat.ne_of_gt (blk_lt (g := gb212) (o := .cells #[.int .i64 a0_0, .slice (some ad214) l0_1.length c0_1] 46 (0, 0)) (zB BK212)) : gb217 ≠ gb212)); have n8_ := Aside0.mk ((by rw [hg]; exact Nat.ne_of_lt (blk_lt (g := gb213) (o := .cells #[.int .i64 a1_0, .slice (some ad215) l1_1.length c1_1] 46 (0, 0)) (zB BK213)) : gb213 ≠ gb217)); have n9_ := Aside0.mk ((by rw [hg]; exact Nat.ne_of_gt (blk_lt (g := gb213) (o := .cells #[.int .i64 a1_0, .slice (some ad215) l1_1.length c1_1] 46 (0, 0)) (zB BK213)) : gb217 ≠ gb213)); clear BK212; clear BK213; clear HB; have BK212 := n0_; have BK213 := n1_; have HB := n2_; have BK217 := n3_; have GW217 := n4_; have GE217 := n5_; have NB212_217 := n6_; have NB217_212 := n7_; have NB213_217 := n8_; have NB217_213 := n9_; clear n0_ n1_ n2_ n3_ n4_ n5_ n6_ n7_ n8_ n9_; clear hb hbox hg
                    refine hK.out _ _ ⟨(blk_cell BK212.out 0).trans rfl, (blk_cell BK212.out 1).trans rfl, (blk_cell BK213.out 0).trans rfl, (blk_cell BK213.out 1).trans rfl, ((HB.out.cell (World.block_lt_of_cell? w _ hw214_0)).trans hw214_0), ((HB.out.cell (World.block_lt_of_cell? w _ hw214_1)).trans hw214_1), ((HB.out.cell (World.block_lt_of_cell? w _ hw214_2)).trans hw214_2), ((HB.out.cell (World.block_lt_of_cell? w _ hw215_0)).trans hw215_0), ((HB.out.cell (World.block_lt_of_cell? w _ hw215_1)).trans hw215_1), ((HB.out.cell (World.block_lt_of_cell? w _ hw215_2)).trans hw215_2)⟩ (fun hHeld => ?_); clear hK K
                    refine norm_ (a' := ?_) ?_ ?_
                    rotate_left
                    · show Act.put _ (some 7) _ = _
                      simp only [Act.put, List.setIfInBounds_toArray, List.set_cons_zero, List.set_cons_succ, i64_w, i32_w]
                      rfl
                    refine one_ (i := 10) (N := some 6) #[true, true, true, true, true, true, true, true, true, true, true, true, false, false] rfl rfl (one_of HT_.out (by kernel_rfl)) (by decide) (fun K hK => ?_)
                    refine box_step ?hg (N := 6) ?hd (cs := #[.int .i64 0, .slice none 0 0, .slice none 0 0]) (t := 74) ?hr ?_; (case hd => rfl); (case hg => rfl); (case hr => first | (go_simp; done) | (go_simp; rfl))
                    intro gb216 hg w22 hbox hb
                    have n0_ := Aside0.mk (blk_below (g := gb212) (o := .cells #[.int .i64 a0_0, .slice (some ad214) l0_1.length c0_1] 46 (0, 0)) (zB BK212) hb); have n1_ := Aside0.mk (blk_below (g := gb213) (o := .cells #[.int .i64 a1_0, .slice (some ad215) l1_1.length c1_1] 46 (0, 0)) (zB BK213) hb); have n2_ := Aside0.mk (blk_below (g := gb217) (o := .cells #[.int .i64 0, .slice none 0 0, .slice none 0 0] 74 (0, 0)) (zB BK217) hb); have n3_ := Aside0.mk (below_step zz71 hb); have n4_ := Aside0.mk (hbox); have n5_ := Aside0.mk ((by rw [hg]; exact (below_size zz71) : w.heap.size ≤ gb216)); have n6_ := Aside0.mk ((by rw [hg]; exact (below_size zz71) : w.heap.size ≤ gb216)); have n7_ := Aside0.mk ((by rw [hg]; exact Nat.ne_of_lt (blk_lt (g := gb212) (o := .cells #[.int .i64 a0_0, .slice (some ad214) l0_1.length c0_1] 46 (0, 0)) (zB BK212)) : gb212 ≠ gb216)); have n8_ := Aside0.mk ((by rw [hg]; exact Nat.ne_of_gt (blk_lt (g := gb212) (o := .cells #[.int .i64 a0_0, .slice (some ad214) l0_1.length c0_1] 46 (0, 0)) (zB BK212)) : gb216 ≠ gb212)); have n9_ := Aside0.mk ((by rw [hg]; exact Nat.ne_of_lt (blk_lt (g := gb213) (o := .cells #[.int .i64 a1_0, .slice (some ad215) l1_1.length c1_1] 46 (0, 0)) (zB BK213)) : gb213 ≠ gb216)); have n10_ := Aside0.mk ((by rw [hg]; exact Nat.ne_of_gt (blk_lt (g := gb213) (o := .cells #[.int .i64 a1_0, .slice (some ad215) l1_1.length c1_1] 46 (0, 0)) (zB BK213)) : gb216 ≠ gb213)); have n11_ := Aside0.mk ((by rw [hg]; exact Nat.ne_of_lt (blk_lt (g := gb217) (o := .cells #[.int .i64 0, .slice none 0 0, .slice none 0 0] 74 (0, 0)) (zB BK217)) : gb217 ≠ gb216)); have n12_ := Aside0.mk ((by rw [hg]; exact Nat.ne_of_gt (blk_lt (g := gb217) (o := .cells #[.int .i64 0, .slice none 0 0, .slice none 0 0] 74 (0, 0)) (zB BK217)) : gb216 ≠ gb217)); clear BK212; clear BK213; clear BK217; clear HB; have BK212 := n0_; have BK213 := n1_; have BK217 := n2_; have HB := n3_; have BK216 := n4_; have GW216 := n5_; have GE216 := n6_; have NB212_216 := n7_; have NB216_212 := n8_; have NB213_216 := n9_; have NB216_213 := n10_; have NB217_216 := n11_; have NB216_217 := n12_; clear n0_ n1_ n2_ n3_ n4_ n5_ n6_ n7_ n8_ n9_ n10_ n11_ n12_; clear hb hbox hg
                    refine hK.out _ _ ⟨(blk_cell BK212.out 0).trans rfl, (blk_cell BK212.out 1).trans rfl, (blk_cell BK213.out 0).trans rfl, (blk_cell BK213.out 1).trans rfl, ((HB.out.cell (World.block_lt_of_cell? w _ hw214_0)).trans hw214_0), ((HB.out.cell (World.block_lt_of_cell? w _ hw214_1)).trans hw214_1), ((HB.out.cell (World.block_lt_of_cell? w _ hw214_2)).trans hw214_2), ((HB.out.cell (World.block_lt_of_cell? w _ hw215_0)).trans hw215_0), ((HB.out.cell (World.block_lt_of_cell? w _ hw215_1)).trans hw215_1), ((HB.out.cell (World.block_lt_of_cell? w _ hw215_2)).trans hw215_2)⟩ (fun hHeld => ?_); clear hK K
                    refine norm_ (a' := ?_) ?_ ?_
                    rotate_left
                    · show Act.put _ (some 6) _ = _
                      simp only [Act.put, List.setIfInBounds_toArray, List.set_cons_zero, List.set_cons_succ, i64_w, i32_w]
                      rfl
                    exact norm_ zz110 (hCont (gb216, gb217) _ ⟨hHeld, (zB BK212), (zB BK213), (zB BK216), (zB BK217), GW216.out, GE216.out, NB212_216.out, NB216_212.out, NB213_216.out, NB216_213.out, NB217_216.out, NB216_217.out, GW217.out, GE217.out, NB212_217.out, NB217_212.out, NB213_217.out, NB217_213.out, (by repeat (first | (with_reducible first | exact HB.out | apply below_alloc | apply pw_below_drewN | apply below_drew1 | refine below_set ?_ GE212.out | refine below_set ?_ GE213.out | refine below_set ?_ GE217.out | refine below_set ?_ GE216.out) | exact HB.out))⟩)
                rintro ⟨gb216, gb217⟩ w23 ⟨hS_, h0_, h1_, h2_, h3_, h4_, h5_, h6_, h7_, h8_, h9_, h10_, h11_, h12_, h13_, h14_, h15_, h16_, h17_, h18_⟩
                have n0_ : Aside0 (w23.heap[gb212]? = some (.cells #[.int .i64 a0_0, .slice (some ad214) l0_1.length c0_1] 46 (0, 0))) := ⟨h0_⟩; have n1_ : Aside0 (w23.heap[gb213]? = some (.cells #[.int .i64 a1_0, .slice (some ad215) l1_1.length c1_1] 46 (0, 0))) := ⟨h1_⟩; have n2_ : Aside0 (w23.heap[gb216]? = some (.cells #[.int .i64 0, .slice none 0 0, .slice none 0 0] 74 (0, 0))) := ⟨h2_⟩; have n3_ : Aside0 (w23.heap[gb217]? = some (.cells #[.int .i64 0, .slice none 0 0, .slice none 0 0] 74 (0, 0))) := ⟨h3_⟩; have n4_ : Aside0 (w.heap.size ≤ gb216) := ⟨h4_⟩; have n5_ : Aside0 (w.heap.size ≤ gb216) := ⟨h5_⟩; have n6_ : Aside0 (gb212 ≠ gb216) := ⟨h6_⟩; have n7_ : Aside0 (gb216 ≠ gb212) := ⟨h7_⟩; have n8_ : Aside0 (gb213 ≠ gb216) := ⟨h8_⟩; have n9_ : Aside0 (gb216 ≠ gb213) := ⟨h9_⟩; have n10_ : Aside0 (gb217 ≠ gb216) := ⟨h10_⟩; have n11_ : Aside0 (gb216 ≠ gb217) := ⟨h11_⟩; have n12_ : Aside0 (w.heap.size ≤ gb217) := ⟨h12_⟩; have n13_ : Aside0 (w.heap.size ≤ gb217) := ⟨h13_⟩; have n14_ : Aside0 (gb212 ≠ gb217) := ⟨h14_⟩; have n15_ : Aside0 (gb217 ≠ gb212) := ⟨h15_⟩; have n16_ : Aside0 (gb213 ≠ gb217) := ⟨h16_⟩; have n17_ : Aside0 (gb217 ≠ gb213) := ⟨h17_⟩; have n18_ : Aside0 (Below w.heap.size w w23) := ⟨h18_⟩; clear BK212; clear BK213; clear HB; clear h0_ h1_ h2_ h3_ h4_ h5_ h6_ h7_ h8_ h9_ h10_ h11_ h12_ h13_ h14_ h15_ h16_ h17_ h18_; have BK212 := n0_; have BK213 := n1_; have BK216 := n2_; have BK217 := n3_; have GW216 := n4_; have GE216 := n5_; have NB212_216 := n6_; have NB216_212 := n7_; have NB213_216 := n8_; have NB216_213 := n9_; have NB217_216 := n10_; have NB216_217 := n11_; have GW217 := n12_; have GE217 := n13_; have NB212_217 := n14_; have NB217_212 := n15_; have NB213_217 := n16_; have NB217_213 := n17_; have HB := n18_; clear n0_ n1_ n2_ n3_ n4_ n5_ n6_ n7_ n8_ n9_ n10_ n11_ n12_ n13_ n14_ n15_ n16_ n17_ n18_; have hHeld : w23.cell? ⟨gb212, 0, none⟩ = some (.int .i64 a0_0) ∧ w23.cell? ⟨gb212, 1, none⟩ = some (.slice (some ad214) l0_1.length c0_1) ∧ w23.cell? ⟨gb213, 0, none⟩ = some (.int .i64 a1_0) ∧ w23.cell? ⟨gb213, 1, none⟩ = some (.slice (some ad215) l1_1.length c1_1) ∧ w23.cell? (ad214.add ((x5_2).toNat * 3)) = some (.int .i64 ((rd_T74 l0_1 x5_2).f0)) ∧ w23.cell? ⟨(ad214.add ((x5_2).toNat * 3)).block, (ad214.add ((x5_2).toNat * 3)).off + 1, none⟩ = some (.slice A214_1 ((rd_T74 l0_1 x5_2).f1).length c214_1) ∧ w23.cell? ⟨(ad214.add ((x5_2).toNat * 3)).block, (ad214.add ((x5_2).toNat * 3)).off + 2, none⟩ = some (.slice A214_2 ((rd_T74 l0_1 x5_2).f2).length c214_2) ∧ w23.cell? (ad215.add ((x5_2).toNat * 3)) = some (.int .i64 ((rd_T74 l1_1 x5_2).f0)) ∧ w23.cell? ⟨(ad215.add ((x5_2).toNat * 3)).block, (ad215.add ((x5_2).toNat * 3)).off + 1, none⟩ = some (.slice A215_1 ((rd_T74 l1_1 x5_2).f1).length c215_1) ∧ w23.cell? ⟨(ad215.add ((x5_2).toNat * 3)).block, (ad215.add ((x5_2).toNat * 3)).off + 2, none⟩ = some (.slice A215_2 ((rd_T74 l1_1 x5_2).f2).length c215_2) := hS_
                refine norm_ (a' := ?_) ?_ ?_
                rotate_left
                · simp only [putAll, Act.put, List.setIfInBounds_toArray, List.set_cons_zero, List.set_cons_succ]
                  rfl
                refine one_ (i := 12) (N := none) #[true, true, true, true, true, true, true, true, true, true, true, true, true, false] rfl rfl (one_of HT_.out (by kernel_rfl)) (by decide) (fun K hK => ?_); have hs24 : w23.cell? ⟨gb216, 0, none⟩ = some (.int .i64 0) := (blk_cell BK216.out 0).trans rfl; have hfs24 := blk_frozen BK216.out 0; have hns24_0 := NB212_216.out; have hns24_1 := NB213_216.out; have hns24_3 := NB217_216.out; have hms24_0 := NB216_212.out; have hms24_1 := NB216_213.out; have hms24_3 := NB216_217.out; have hs25 : w23.cell? ⟨gb216, 1, none⟩ = some (.slice none 0 0) := (blk_cell BK216.out 1).trans rfl; have hfs25 := blk_frozen BK216.out 1; have hns25_0 := NB212_216.out; have hns25_1 := NB213_216.out; have hns25_3 := NB217_216.out; have hms25_0 := NB216_212.out; have hms25_1 := NB216_213.out; have hms25_3 := NB216_217.out; have hs26 : w23.cell? ⟨gb216, 2, none⟩ = some (.slice none 0 0) := (blk_cell BK216.out 2).trans rfl; have hfs26 := blk_frozen BK216.out 2; have hns26_0 := NB212_216.out; have hns26_1 := NB213_216.out; have hns26_3 := NB217_216.out; have hms26_0 := NB216_212.out; have hms26_1 := NB216_213.out; have hms26_3 := NB216_217.out
                refine skip_ (w1 := ?_) (by rfl) rfl ?_ ?_
                rotate_left
                · go_simp
                  rfl
                refine hK.out _ _ ⟨((cell_far (p := ⟨gb216, _, none⟩) NB212_216.out _).trans (((cell_far (p := ⟨gb216, _, none⟩) NB212_216.out _).trans (((cell_far (p := ⟨gb216, _, none⟩) NB212_216.out _).trans (hHeld.1)))))), ((cell_far (p := ⟨gb216, _, none⟩) NB212_216.out _).trans (((cell_far (p := ⟨gb216, _, none⟩) NB212_216.out _).trans (((cell_far (p := ⟨gb216, _, none⟩) NB212_216.out _).trans (hHeld.2.1)))))), ((cell_far (p := ⟨gb216, _, none⟩) NB213_216.out _).trans (((cell_far (p := ⟨gb216, _, none⟩) NB213_216.out _).trans (((cell_far (p := ⟨gb216, _, none⟩) NB213_216.out _).trans (hHeld.2.2.1)))))), ((cell_far (p := ⟨gb216, _, none⟩) NB213_216.out _).trans (((cell_far (p := ⟨gb216, _, none⟩) NB213_216.out _).trans (((cell_far (p := ⟨gb216, _, none⟩) NB213_216.out _).trans (hHeld.2.2.2.1)))))), ((cell_far (p := ⟨gb216, _, none⟩) zz14 _).trans (((cell_far (p := ⟨gb216, _, none⟩) zz14 _).trans (((cell_far (p := ⟨gb216, _, none⟩) zz14 _).trans (hHeld.2.2.2.2.1)))))), ((cell_far (p := ⟨gb216, _, none⟩) zz15 _).trans (((cell_far (p := ⟨gb216, _, none⟩) zz15 _).trans (((cell_far (p := ⟨gb216, _, none⟩) zz15 _).trans (hHeld.2.2.2.2.2.1)))))), ((cell_far (p := ⟨gb216, _, none⟩) zz16 _).trans (((cell_far (p := ⟨gb216, _, none⟩) zz16 _).trans (((cell_far (p := ⟨gb216, _, none⟩) zz16 _).trans (hHeld.2.2.2.2.2.2.1)))))), ((cell_far (p := ⟨gb216, _, none⟩) zz17 _).trans (((cell_far (p := ⟨gb216, _, none⟩) zz17 _).trans (((cell_far (p := ⟨gb216, _, none⟩) zz17 _).trans (hHeld.2.2.2.2.2.2.2.1)))))), ((cell_far (p := ⟨gb216, _, none⟩) zz18 _).trans (((cell_far (p := ⟨gb216, _, none⟩) zz18 _).trans (((cell_far (p := ⟨gb216, _, none⟩) zz18 _).trans (hHeld.2.2.2.2.2.2.2.2.1)))))), ((cell_far (p := ⟨gb216, _, none⟩) zz19 _).trans (((cell_far (p := ⟨gb216, _, none⟩) zz19 _).trans (((cell_far (p := ⟨gb216, _, none⟩) zz19 _).trans (hHeld.2.2.2.2.2.2.2.2.2))))))⟩ (fun hHeld => ?_); clear hK K
                refine one_ (i := 13) (N := none) #[true, true, true, true, true, true, true, true, true, true, true, true, true, true] rfl rfl (one_of HT_.out (by kernel_rfl)) (by decide) (fun K hK => ?_); have hs27 : w23.cell? ⟨gb217, 0, none⟩ = some (.int .i64 0) := (blk_cell BK217.out 0).trans rfl; have hfs27 := blk_frozen BK217.out 0; have hns27_0 := NB212_217.out; have hns27_1 := NB213_217.out; have hns27_2 := NB216_217.out; have hms27_0 := NB217_212.out; have hms27_1 := NB217_213.out; have hms27_2 := NB217_216.out; have hs28 : w23.cell? ⟨gb217, 1, none⟩ = some (.slice none 0 0) := (blk_cell BK217.out 1).trans rfl; have hfs28 := blk_frozen BK217.out 1; have hns28_0 := NB212_217.out; have hns28_1 := NB213_217.out; have hns28_2 := NB216_217.out; have hms28_0 := NB217_212.out; have hms28_1 := NB217_213.out; have hms28_2 := NB217_216.out; have hs29 : w23.cell? ⟨gb217, 2, none⟩ = some (.slice none 0 0) := (blk_cell BK217.out 2).trans rfl; have hfs29 := blk_frozen BK217.out 2; have hns29_0 := NB212_217.out; have hns29_1 := NB213_217.out; have hns29_2 := NB216_217.out; have hms29_0 := NB217_212.out; have hms29_1 := NB217_213.out; have hms29_2 := NB217_216.out
                refine skip_ (w1 := ?_) (by rfl) rfl ?_ ?_
                rotate_left
                · go_simp
                  rfl
                refine hK.out _ _ ⟨((cell_far (p := ⟨gb217, _, none⟩) NB212_217.out _).trans (((cell_far (p := ⟨gb217, _, none⟩) NB212_217.out _).trans (((cell_far (p := ⟨gb217, _, none⟩) NB212_217.out _).trans (hHeld.1)))))), ((cell_far (p := ⟨gb217, _, none⟩) NB212_217.out _).trans (((cell_far (p := ⟨gb217, _, none⟩) NB212_217.out _).trans (((cell_far (p := ⟨gb217, _, none⟩) NB212_217.out _).trans (hHeld.2.1)))))), ((cell_far (p := ⟨gb217, _, none⟩) NB213_217.out _).trans (((cell_far (p := ⟨gb217, _, none⟩) NB213_217.out _).trans (((cell_far (p := ⟨gb217, _, none⟩) NB213_217.out _).trans (hHeld.2.2.1)))))), ((cell_far (p := ⟨gb217, _, none⟩) NB213_217.out _).trans (((cell_far (p := ⟨gb217, _, none⟩) NB213_217.out _).trans (((cell_far (p := ⟨gb217, _, none⟩) NB213_217.out _).trans (hHeld.2.2.2.1)))))), ((cell_far (p := ⟨gb217, _, none⟩) zz20 _).trans (((cell_far (p := ⟨gb217, _, none⟩) zz20 _).trans (((cell_far (p := ⟨gb217, _, none⟩) zz20 _).trans (hHeld.2.2.2.2.1)))))), ((cell_far (p := ⟨gb217, _, none⟩) zz21 _).trans (((cell_far (p := ⟨gb217, _, none⟩) zz21 _).trans (((cell_far (p := ⟨gb217, _, none⟩) zz21 _).trans (hHeld.2.2.2.2.2.1)))))), ((cell_far (p := ⟨gb217, _, none⟩) zz22 _).trans (((cell_far (p := ⟨gb217, _, none⟩) zz22 _).trans (((cell_far (p := ⟨gb217, _, none⟩) zz22 _).trans (hHeld.2.2.2.2.2.2.1)))))), ((cell_far (p := ⟨gb217, _, none⟩) zz23 _).trans (((cell_far (p := ⟨gb217, _, none⟩) zz23 _).trans (((cell_far (p := ⟨gb217, _, none⟩) zz23 _).trans (hHeld.2.2.2.2.2.2.2.1)))))), ((cell_far (p := ⟨gb217, _, none⟩) zz24 _).trans (((cell_far (p := ⟨gb217, _, none⟩) zz24 _).trans (((cell_far (p := ⟨gb217, _, none⟩) zz24 _).trans (hHeld.2.2.2.2.2.2.2.2.1)))))), ((cell_far (p := ⟨gb217, _, none⟩) zz25 _).trans (((cell_far (p := ⟨gb217, _, none⟩) zz25 _).trans (((cell_far (p := ⟨gb217, _, none⟩) zz25 _).trans (hHeld.2.2.2.2.2.2.2.2.2))))))⟩ (fun hHeld => ?_); clear hK K
                refine done_ (done_of HT_.out (by kernel_rfl)) ?_
                go_upto_region 7 with (fail)
                go_cut [59] (fun v59 wc => ∃ (kq : Nat) (x59_16 : Bool), v59 = .bool x59_16 ∧ Aside0 (codewrightref30_Same.j2 kq x5_2 x59_16 a0_0 l0_1 a1_0 l1_1 = some r) ∧ Aside0 (kq ≤ k2) ∧ Aside0 (wc.heap[gb212]? = some (.cells #[.int .i64 a0_0, (.slice (some ad214) l0_1.length c0_1)] 46 (0, 0))) ∧ Aside0 (wc.heap[gb213]? = some (.cells #[.int .i64 a1_0, (.slice (some ad215) l1_1.length c1_1)] 46 (0, 0))) ∧ Aside0 (wc.heap[gb216]? = some (.cells #[.int .i64 ((rd_T74 l0_1 x5_2).f0), (.slice A214_1 ((rd_T74 l0_1 x5_2).f1).length c214_1), (.slice A214_2 ((rd_T74 l0_1 x5_2).f2).length c214_2)] 74 (0, 0))) ∧ Aside0 (wc.heap[gb217]? = some (.cells #[.int .i64 ((rd_T74 l1_1 x5_2).f0), (.slice A215_1 ((rd_T74 l1_1 x5_2).f1).length c215_1), (.slice A215_2 ((rd_T74 l1_1 x5_2).f2).length c215_2)] 74 (0, 0))) ∧ Aside0 (Below w.heap.size w wc))
                case first =>
                  have H := HC17.out; clear HC17
                  by_cases c30 : ((rd_T74 l0_1 x5_2).f0) = ((rd_T74 l1_1 x5_2).f0)
                  · rw [if_pos c30] at H; have c30b0 : (((rd_T74 l0_1 x5_2).f0) == ((rd_T74 l1_1 x5_2).f0)) = true := beq_iff_eq.mpr c30; have c30b1 : (((rd_T74 l0_1 x5_2).f0) != ((rd_T74 l1_1 x5_2).f0)) = false := bne_eq_false_iff_eq.mpr c30; clear c30
                    (first | rw [c30b0] | (simp only [i64_w, i32_w]; rw [c30b0]) | skip)
                    replace H := Option.bind_eq_some_iff.mp H; obtain ⟨t218, A310, H⟩ := H; replace H : (if t218 = true then ((codewrightref09_SameRows.f k2 ((rd_T74 l0_1 x5_2).f2) ((rd_T74 l1_1 x5_2).f2)).bind fun t219 => (codewrightref30_Same.j2 k2 x5_2 (!t219) a0_0 l0_1 a1_0 l1_1)) else (codewrightref30_Same.j2 k2 x5_2 true a0_0 l0_1 a1_0 l1_1)) = some r := H; have A31 := Aside0.mk A310; clear A310
                    by_cases c32 : t218 = true
                    · subst c32; have H1 : ((codewrightref09_SameRows.f k2 ((rd_T74 l0_1 x5_2).f2) ((rd_T74 l1_1 x5_2).f2)).bind fun t219 => (codewrightref30_Same.j2 k2 x5_2 (!t219) a0_0 l0_1 a1_0 l1_1)) = some r := by rw [if_pos rfl] at H; exact H
                      clear H; have H := H1; clear H1; replace H := Option.bind_eq_some_iff.mp H; obtain ⟨t219, A330, H⟩ := H; replace H : (codewrightref30_Same.j2 k2 x5_2 (!t219) a0_0 l0_1 a1_0 l1_1) = some r := H; have A33 := Aside0.mk A330; clear A330; have H' := Aside0.mk H; clear H; have hnb34 := NB216_212.out; have hnc34 := NB212_216.out; have hnb35 := NB216_213.out; have hnc35 := NB213_216.out; have hnb36 := NB216_217.out; have hnc36 := NB217_216.out; have hcz37_0 : w23.cell? ⟨gb216, 0, none⟩ = some (.int .i64 0) := (blk_cell BK216.out 0).trans rfl; have hcz37_1 : w23.cell? ⟨gb216, 1, none⟩ = some (.slice none 0 0) := (blk_cell BK216.out 1).trans rfl; have hcz37_2 : w23.cell? ⟨gb216, 2, none⟩ = some (.slice none 0 0) := (blk_cell BK216.out 2).trans rfl; have hfz37_0 := blk_frozen BK216.out 0; have hfz37_1 := blk_frozen BK216.out 1; have hfz37_2 := blk_frozen BK216.out 2; have hnb38 := NB217_212.out; have hnc38 := NB212_217.out; have hnb39 := NB217_213.out; have hnc39 := NB213_217.out; have hcz40_0 : w23.cell? ⟨gb217, 0, none⟩ = some (.int .i64 0) := (blk_cell BK217.out 0).trans rfl; have hcz40_1 : w23.cell? ⟨gb217, 1, none⟩ = some (.slice none 0 0) := (blk_cell BK217.out 1).trans rfl; have hcz40_2 : w23.cell? ⟨gb217, 2, none⟩ = some (.slice none 0 0) := (blk_cell BK217.out 2).trans rfl; have hfz40_0 := blk_frozen BK217.out 0; have hfz40_1 := blk_frozen BK217.out 1; have hfz40_2 := blk_frozen BK217.out 2
                      go_wp2_with (first | (go_at_call 15; (with_reducible refine (codewrightref09_SameInts.calls k2 _ _ ((rd_T74 l0_1 x5_2).f1) _ _ ((rd_T74 l1_1 x5_2).f1) true _ ?side1 ?side2 ?side3 ?side4 A31.out).mono ?_); (case side1 => exact Kd.C_below HR214_1.out zz62); (case side2 => exact HC214_1.out); (case side3 => exact Kd.C_below HR215_1.out zz62); (case side4 => exact HC215_1.out); rintro e w' ⟨rfl, ⟨nd, rfl⟩⟩) | (go_at_call 24; (with_reducible refine (codewrightref09_SameRows.calls k2 _ _ ((rd_T74 l0_1 x5_2).f2) _ _ ((rd_T74 l1_1 x5_2).f2) t219 _ ?side1 ?side2 ?side3 ?side4 A33.out).mono ?_); (case side1 => exact Kd.C_below HR214_2.out zz62); (case side2 => exact HC214_2.out); (case side3 => exact Kd.C_below HR215_2.out zz62); (case side4 => exact HC215_2.out); rintro e w' ⟨rfl, ⟨nd, rfl⟩⟩))
                      go_meet
                      case rel => exact ⟨_, (!t219), zz125, H', ⟨zz120⟩, ⟨zz8⟩, ⟨zz9⟩, ⟨zz0⟩, ⟨zz1⟩, ⟨zz62⟩⟩
                    replace c32 := Bool.eq_false_iff.mpr c32; subst c32; have H1 : (codewrightref30_Same.j2 k2 x5_2 true a0_0 l0_1 a1_0 l1_1) = some r := by rw [if_neg (show ¬ (false = true) by decide)] at H; exact H
                    clear H; have H := H1; clear H1; have H' := Aside0.mk H; clear H; have hnb41 := NB216_212.out; have hnc41 := NB212_216.out; have hnb42 := NB216_213.out; have hnc42 := NB213_216.out; have hnb43 := NB216_217.out; have hnc43 := NB217_216.out; have hcz44_0 : w23.cell? ⟨gb216, 0, none⟩ = some (.int .i64 0) := (blk_cell BK216.out 0).trans rfl; have hcz44_1 : w23.cell? ⟨gb216, 1, none⟩ = some (.slice none 0 0) := (blk_cell BK216.out 1).trans rfl; have hcz44_2 : w23.cell? ⟨gb216, 2, none⟩ = some (.slice none 0 0) := (blk_cell BK216.out 2).trans rfl; have hfz44_0 := blk_frozen BK216.out 0; have hfz44_1 := blk_frozen BK216.out 1; have hfz44_2 := blk_frozen BK216.out 2; have hnb45 := NB217_212.out; have hnc45 := NB212_217.out; have hnb46 := NB217_213.out; have hnc46 := NB213_217.out; have hcz47_0 : w23.cell? ⟨gb217, 0, none⟩ = some (.int .i64 0) := (blk_cell BK217.out 0).trans rfl; have hcz47_1 : w23.cell? ⟨gb217, 1, none⟩ = some (.slice none 0 0) := (blk_cell BK217.out 1).trans rfl; have hcz47_2 : w23.cell? ⟨gb217, 2, none⟩ = some (.slice none 0 0) := (blk_cell BK217.out 2).trans rfl; have hfz47_0 := blk_frozen BK217.out 0; have hfz47_1 := blk_frozen BK217.out 1; have hfz47_2 := blk_frozen BK217.out 2
                    go_wp2_with (first | (go_at_call 15; (with_reducible refine (codewrightref09_SameInts.calls k2 _ _ ((rd_T74 l0_1 x5_2).f1) _ _ ((rd_T74 l1_1 x5_2).f1) false _ ?side1 ?side2 ?side3 ?side4 A31.out).mono ?_); (case side1 => exact Kd.C_below HR214_1.out zz62); (case side2 => exact HC214_1.out); (case side3 => exact Kd.C_below HR215_1.out zz62); (case side4 => exact HC215_1.out); rintro e w' ⟨rfl, ⟨nd, rfl⟩⟩))
                    go_meet
                    case rel => exact ⟨_, (true), zz125, H', ⟨zz120⟩, ⟨zz8⟩, ⟨zz9⟩, ⟨zz0⟩, ⟨zz1⟩, ⟨zz62⟩⟩
                  rw [if_neg c30] at H; have c30b0 : (((rd_T74 l0_1 x5_2).f0) == ((rd_T74 l1_1 x5_2).f0)) = false := beq_eq_false_iff_ne.mpr c30; have c30b1 : (((rd_T74 l0_1 x5_2).f0) != ((rd_T74 l1_1 x5_2).f0)) = true := bne_iff_ne.mpr c30
                  (first | rw [c30b0] | (simp only [i64_w, i32_w]; rw [c30b0]) | skip)
                  have H' := Aside0.mk H; clear H; have hnb48 := NB216_212.out; have hnc48 := NB212_216.out; have hnb49 := NB216_213.out; have hnc49 := NB213_216.out; have hnb50 := NB216_217.out; have hnc50 := NB217_216.out; have hcz51_0 : w23.cell? ⟨gb216, 0, none⟩ = some (.int .i64 0) := (blk_cell BK216.out 0).trans rfl; have hcz51_1 : w23.cell? ⟨gb216, 1, none⟩ = some (.slice none 0 0) := (blk_cell BK216.out 1).trans rfl; have hcz51_2 : w23.cell? ⟨gb216, 2, none⟩ = some (.slice none 0 0) := (blk_cell BK216.out 2).trans rfl; have hfz51_0 := blk_frozen BK216.out 0; have hfz51_1 := blk_frozen BK216.out 1; have hfz51_2 := blk_frozen BK216.out 2; have hnb52 := NB217_212.out; have hnc52 := NB212_217.out; have hnb53 := NB217_213.out; have hnc53 := NB213_217.out; have hcz54_0 : w23.cell? ⟨gb217, 0, none⟩ = some (.int .i64 0) := (blk_cell BK217.out 0).trans rfl; have hcz54_1 : w23.cell? ⟨gb217, 1, none⟩ = some (.slice none 0 0) := (blk_cell BK217.out 1).trans rfl; have hcz54_2 : w23.cell? ⟨gb217, 2, none⟩ = some (.slice none 0 0) := (blk_cell BK217.out 2).trans rfl; have hfz54_0 := blk_frozen BK217.out 0; have hfz54_1 := blk_frozen BK217.out 1; have hfz54_2 := blk_frozen BK217.out 2; go_wp2; go_meet
                  case rel => exact ⟨_, (true), zz125, H', ⟨zz120⟩, ⟨zz8⟩, ⟨zz9⟩, ⟨zz0⟩, ⟨zz1⟩, ⟨zz62⟩⟩
                case rest =>
                  clear HC17; (try clear c1); (try clear c2); (try clear p2); (try clear q2); (try clear hx2); (try clear c3); (try clear c4); (try clear c5); (try clear c6); (try clear c6b0); (try clear c6b1); (try clear c7); (try clear c10); (try clear c13); (try clear c14); (try clear c14b0); (try clear c15); (try clear c15b0); (try clear c16); (try clear c16b0); (try clear c18); (try clear c21); (try clear p21); (try clear q21); (try clear hx21); (try clear c30); (try clear c30b0); (try clear c30b1); (try clear c32); (try clear c34); (try clear c35); (try clear c36); (try clear c38); (try clear c39); (try clear c41); (try clear c42); (try clear c43); (try clear c45); (try clear c46); (try clear c48); (try clear c49); (try clear c50); (try clear c52); (try clear c53); (try clear hcz11_0); (try clear hcz11_1); (try clear hcz12_0); (try clear hcz12_1); (try clear hcz19_0); (try clear hcz19_1); (try clear hcz37_0); (try clear hcz37_1); (try clear hcz37_2); (try clear hcz40_0); (try clear hcz40_1); (try clear hcz40_2); (try clear hcz44_0); (try clear hcz44_1); (try clear hcz44_2); (try clear hcz47_0); (try clear hcz47_1); (try clear hcz47_2); (try clear hcz51_0); (try clear hcz51_1); (try clear hcz51_2); (try clear hcz54_0); (try clear hcz54_1); (try clear hcz54_2); (try clear hcz8_0); (try clear hcz8_1); (try clear hcz9_0); (try clear hcz9_1); (try clear hfz11_0); (try clear hfz11_1); (try clear hfz12_0); (try clear hfz12_1); (try clear hfz19_0); (try clear hfz19_1); (try clear hfz37_0); (try clear hfz37_1); (try clear hfz37_2); (try clear hfz40_0); (try clear hfz40_1); (try clear hfz40_2); (try clear hfz44_0); (try clear hfz44_1); (try clear hfz44_2); (try clear hfz47_0); (try clear hfz47_1); (try clear hfz47_2); (try clear hfz51_0); (try clear hfz51_1); (try clear hfz51_2); (try clear hfz54_0); (try clear hfz54_1); (try clear hfz54_2); (try clear hfz8_0); (try clear hfz8_1); (try clear hfz9_0); (try clear hfz9_1); (try clear hx214_0); (try clear hx214_1); (try clear hx214_2); (try clear hx215_0); (try clear hx215_1); (try clear hx215_2); (try clear p2); (try clear p214); (try clear p215); (try clear q214); (try clear q215); obtain ⟨kq, x59_16, rfl, HA, HJ16, BK212, BK213, BK216, BK217, HB⟩ := hcut
                  cases kq with
                  | zero => exact absurd HA.out (by simp [codewrightref30_Same.j2])
                  | succ kj16 =>
                    have H := HA.out; clear HA; simp only [codewrightref30_Same.j2] at H
                    by_cases c55 : x59_16 = true
                    · subst c55; have H1 : (some false) = some r := by rw [if_pos rfl] at H; exact H
                      clear H; have H := H1; clear H1; obtain rfl := Option.some.inj H; go_wp2; go_ret
                      exact ⟨by first | rfl | (simp [errW_none, errW_some] <;> rfl) | (simp [*, errW_none, errW_some] <;> rfl), by repeat (first | (with_reducible first | exact HB.out | apply below_alloc | apply pw_below_drewN | apply below_drew1 | refine below_set ?_ GE212.out | refine below_set ?_ GE213.out | refine below_set ?_ GE216.out | refine below_set ?_ GE217.out) | exact HB.out)⟩
                    replace c55 := Bool.eq_false_iff.mpr c55; subst c55; have H1 : (codewrightref30_Same.l0 kj16 (wrap64 (x5_2 + 1)) a0_0 l0_1 a1_0 l1_1) = some r := by rw [if_neg (show ¬ (false = true) by decide)] at H; exact H
                    clear H; have H := H1; clear H1; have H' := Aside0.mk H; clear H; go_wp2
                    go_roundg kj16
                    case measure => have := HJ2.out; have := HK2.out; have := HJ16.out; omega
                    case rel => exact ⟨(wrap64 (x5_2 + 1)), zz125, H', ⟨(by have := HJ2.out; have := HK2.out; have := HJ16.out; omega)⟩, ⟨(zB BK212)⟩, ⟨(zB BK213)⟩, ⟨zz62⟩⟩
              rw [if_neg c16] at H
              exact absurd H (by simp)
            rw [if_neg c15] at H
            exact absurd H (by simp)
          rw [if_neg c14] at H; have c14b0 : decide (x5_2 < (l0_1.length : Int)) = false := decide_eq_false c14; clear c14; obtain rfl := Option.some.inj H; have hnb56 := NB212_213.out; have hnc56 := NB213_212.out; have hcz57_0 : wr.cell? ⟨gb212, 0, none⟩ = some (.int .i64 a0_0) := (blk_cell BK212.out 0).trans rfl; have hcz57_1 : wr.cell? ⟨gb212, 1, none⟩ = some (.slice A0_1 l0_1.length c0_1) := (blk_cell BK212.out 1).trans rfl; have hfz57_0 := blk_frozen BK212.out 0; have hfz57_1 := blk_frozen BK212.out 1; go_wp2; go_ret
          exact ⟨by first | rfl | (simp [errW_none, errW_some] <;> rfl) | (simp [*, errW_none, errW_some] <;> rfl), by repeat (first | (with_reducible first | exact HB.out | apply below_alloc | apply pw_below_drewN | apply below_drew1 | refine below_set ?_ GE212.out | refine below_set ?_ GE213.out) | exact HB.out)⟩
end
section
attribute [local go_sem] max2_int min2_int max_two min_two max_three min_three max_four min_four
def codewrightref30_Unit.l0 : Nat → Int → List Int → Int → Option (List Int)
  | 0, _, _, _ => none
  | k + 1, x0, x3, x4 => if x4 < x0 then (if 0 ≤ x4 then (if x4 < (x3.length : Int) then (codewrightref30_Unit.l0 k x0 (x3.set (x4 : Int).toNat x4) (wrap64 (x4 + 1))) else (none)) else (none)) else (some x3)
def codewrightref30_Unit.f (k : Nat) (a0 : Int) : Option (List Int) := if 0 ≤ a0 then (if (a0 : Int).toNat ≤ 35184372088832 then (codewrightref30_Unit.l0 k a0 (List.replicate (a0 : Int).toNat 0) 0) else (none)) else (none)
theorem codewrightref30_Unit.calls (k : Nat) (a0 : Int) (r : List Int) (w : World) (h : codewrightref30_Unit.f k a0 = some r) :
    Calls Try.prog 26 #[.int .i64 a0] w fun e w' => ∃ v0_ : Value, e = .returned (v0_) ∧ Kd.R (Kd.int .i64) 3 w' w.heap.size (fun _ => True) v0_ r ∧ Below w.heap.size w w' := by
  have HB := Aside0.mk (Below.refl w.heap.size w)
  have H : (if 0 ≤ a0 then (if (a0 : Int).toNat ≤ 35184372088832 then (codewrightref30_Unit.l0 k a0 (List.replicate (a0 : Int).toNat 0) 0) else (none)) else (none)) = some r := h
  clear h
  by_cases c2 : 0 ≤ a0
  · rw [if_pos c2] at H
    have c2b0 := eq_true c2; have c2b1 : decide (0 ≤ a0) = true := decide_eq_true c2; clear c2
    by_cases c3 : (a0 : Int).toNat ≤ 35184372088832
    · rw [if_pos c3] at H; have c3b0 := eq_true c3; have c3b1 : decide ((a0 : Int).toNat ≤ 35184372088832) = true := decide_eq_true c3; clear c3; obtain ⟨y301, hy301⟩ : ∃ y_ : List Int, y_ = (List.replicate (a0 : Int).toNat 0) := ⟨_, rfl⟩; replace H : (codewrightref30_Unit.l0 k a0 y301 0) = some r := by first | (rw [hy301]; with_reducible exact H) | (have H2_ := (Option.bind_some _ _).symm.trans H; rw [hy301]; with_reducible exact H2_) | (have H2_ := (Option.bind_some _ _).symm.trans H; with_reducible exact H2_) | with_reducible exact H | (rw [hy301]; exact H) | exact H
      have Ny301 := Aside0.mk hy301; clear hy301; have H' := Aside0.mk H; clear H
      go_enter Try.func26, Try.ntmps26
      go_wp2_with (first | ((with_reducible refine gate_dst (N := 6) rfl ?_); refine Kd.R_make (Kd.int .i64) _ 3 rfl (N := 6) rfl 22 _ _ rfl a0 rfl rfl Try.underlying22 (.int .i64 0) 8 info3 rfl (by decide) (by omega) 0 (ok := fun _ => True) (okp := fun _ => True) rfl (fun _ hk => hk) trivial (of_decide_eq_true zz123) (Nat.le_trans (Nat.mul_le_mul_right _ (of_decide_eq_true zz123 : a0.toNat ≤ 35184372088832)) (by omega)) (Below.refl _ _) (Nat.le_refl _) ?_; intro v302 w4 ho5 hb hg_ hnew_; clear hg_ hnew_; (first | rw [← Ny301.out] at ho5 | (simp only [Int.reduceToNat] at ho5; rw [← Ny301.out] at ho5)); have HO303 := Aside0.mk (Kd.R_lower ho5 (below_size zz100)); replace HB := Aside0.mk (below_step zz100 hb); clear hb ho5))
      go_loopg [4] k (fun kq v4 w' => ∃ (x3_1 : List Int) (x4_1 : Int), v4 = .int .i64 x4_1 ∧ Aside0 (codewrightref30_Unit.l0 kq a0 x3_1 x4_1 = some r) ∧ Aside0 (kq ≤ k) ∧ Aside0 (Kd.R (Kd.int .i64) 3 w' w.heap.size (fun _ => True) v302 x3_1) ∧ Aside0 (Below w.heap.size w w'))
      case atStart => exact ⟨(y301), (0), zz125, H', ⟨Nat.le_refl _⟩, ⟨(zR HO303)⟩, ⟨zz100⟩⟩
      case round =>
        clear H'; (try clear c2); (try clear c2b0); (try clear c2b1); (try clear p2); (try clear c3); (try clear c3b0); (try clear c3b1); obtain ⟨x3_1, x4_1, rfl, HA, HK1, HO_3, HB⟩ := hrel
        cases gk with
        | zero => exact absurd HA.out (by simp [codewrightref30_Unit.l0])
        | succ k1 =>
          have H := HA.out; clear HA; simp only [codewrightref30_Unit.l0] at H
          by_cases c6 : x4_1 < a0
          · rw [if_pos c6] at H; have c6b0 : decide (x4_1 < a0) = true := decide_eq_true c6; clear c6
            by_cases c7 : 0 ≤ x4_1
            · rw [if_pos c7] at H; have c7b0 : decide (0 ≤ x4_1) = true := decide_eq_true c7; clear c7
              by_cases c8 : x4_1 < (x3_1.length : Int)
              · rw [if_pos c8] at H; have c8b0 : decide (x4_1 < (x3_1.length : Int)) = true := decide_eq_true c8; clear c8; obtain ⟨y304, hy304⟩ : ∃ y_ : List Int, y_ = (x3_1.set (x4_1 : Int).toNat x4_1) := ⟨_, rfl⟩; replace H : (codewrightref30_Unit.l0 k1 a0 y304 (wrap64 (x4_1 + 1))) = some r := by first | (rw [hy304]; with_reducible exact H) | (have H2_ := (Option.bind_some _ _).symm.trans H; rw [hy304]; with_reducible exact H2_) | (have H2_ := (Option.bind_some _ _).symm.trans H; with_reducible exact H2_) | with_reducible exact H | (rw [hy304]; exact H) | exact H
                have Ny304 := Aside0.mk hy304; clear hy304; have H' := Aside0.mk H; clear H; have p9 : 0 ≤ (x4_1 : Int) := of_decide_eq_true zz123; have q9 : (x4_1 : Int) < ((x3_1.length : Int) : Int) := of_decide_eq_true zz123; obtain ⟨go9, co9, eo9, gb9, gl9, cl9, HG9⟩ := Kd.R_form HO_3.out (by omega)
                (first | cases eo9 | (injection eo9 with ea_ en_ ec_; (first | subst ea_ | (injection ea_ with ea_; subst ea_)); subst ec_; clear en_))
                have GB9 := Aside0.mk gb9; have GG9 := Aside0.mk HG9; clear gb9 gl9 HG9; obtain ⟨hx9_0, hf9_0⟩ := Kd.R_celln 0 HO_3.out (x4_1 : Int) p9 q9; replace p9 := eq_true p9; replace q9 := eq_true q9; have HP10 := Kd.R_putg HO_3.out (x4_1 : Int) x4_1
                go_wp2_with (first | ((with_reducible refine gate_store (t := 3) (p := 15) rfl ?_); refine store_event (t := 3) (p := 15) (v := ?vo_w11) (w1 := (wr.setCell ⟨go9, (x4_1 : Int).toNat, none⟩ (.int .i64 x4_1))) ?hg ?ho ?hn ?hr ?_; (case ho => rfl); (case hg => rfl); (case hn => rfl); (case hr => first | (go_simp; done) | (go_simp; rfl)); intro w11 hw; have hg : wr.grownBy w11 (some go9) := (by rw [hw]; exact HP10.2); have hp_ : Kd.R (Kd.int .i64) 3 w11 w.heap.size (fun _ => True) (.slice (some ⟨go9, 0, none⟩) x3_1.length co9) y304 := (by rw [hw, Ny304.out]; exact HP10.1); clear HP10; replace HO_3 := Aside0.mk (hp_); replace HB := Aside0.mk ((by rw [hw]; exact below_set (HB.out) GB9.out : Below w.heap.size w w11)); clear hg hw hp_))
                go_roundg k1
                case measure => have := HK1.out; omega
                case rel => exact ⟨(y304), (wrap64 (x4_1 + 1)), zz125, H', ⟨zz131⟩, ⟨(zR HO_3)⟩, ⟨zz100⟩⟩
              rw [if_neg c8] at H
              exact absurd H (by simp)
            rw [if_neg c7] at H
            exact absurd H (by simp)
          rw [if_neg c6] at H; have c6b0 : decide (x4_1 < a0) = false := decide_eq_false c6; clear c6; obtain rfl := Option.some.inj H; go_wp2; go_ret
          exact ⟨_, by first | rfl | (simp [errW_none, errW_some] <;> rfl) | (simp [*, errW_none, errW_some] <;> rfl), by (with_reducible repeat (first | apply Kd.R_alloc | apply Kd.R_drewN | apply Kd.R_drew)); exact HO_3.out, by repeat (first | (with_reducible first | exact HB.out | apply below_alloc | apply pw_below_drewN | apply below_drew1) | exact HB.out)⟩
    rw [if_neg c3] at H
    exact absurd H (by simp)
  rw [if_neg c2] at H
  exact absurd H (by simp)
end
section
attribute [local go_sem] max2_int min2_int max_two min_two max_three min_three max_four min_four
def codewrightref30_Then.l0 : Nat → List Int → List Int → List Int → Int → Option (List Int)
  | 0, _, _, _, _ => none
  | k + 1, x0, x1, x5, x6 => if x6 < (x0.length : Int) then (if 0 ≤ x6 then (if 0 ≤ (rd x0 x6) then (if (rd x0 x6) < (x1.length : Int) then (if x6 < (x5.length : Int) then (codewrightref30_Then.l0 k x0 x1 (x5.set (x6 : Int).toNat (rd x1 (rd x0 x6))) (wrap64 (x6 + 1))) else (none)) else (none)) else (none)) else (none)) else (some x5)
def codewrightref30_Then.f (k : Nat) (l0 : List Int) (l1 : List Int) : Option (List Int) := if 0 ≤ (l0.length : Int) then (if ((l0.length : Int) : Int).toNat ≤ 35184372088832 then (codewrightref30_Then.l0 k l0 l1 (List.replicate ((l0.length : Int) : Int).toNat 0) 0) else (none)) else (none)
theorem codewrightref30_Then.calls (k : Nat) (A0 : Option Addr) (c0 : Nat) (l0 : List Int) (A1 : Option Addr) (c1 : Nat) (l1 : List Int) (r : List Int) (w : World) (hr0 : Kd.C (Kd.int .i64) w A0 l0.length l0) (hc0 : l0.length ≤ c0) (hr1 : Kd.C (Kd.int .i64) w A1 l1.length l1) (hc1 : l1.length ≤ c1) (h : codewrightref30_Then.f k l0 l1 = some r) :
    Calls Try.prog 43 #[.slice A0 l0.length c0, .slice A1 l1.length c1] w fun e w' => ∃ v0_ : Value, e = .returned (v0_) ∧ Kd.R (Kd.int .i64) 3 w' w.heap.size (fun _ => True) v0_ r ∧ Below w.heap.size w w' := by
  have HR0 := Aside0.mk hr0
  have HC0 := Aside0.mk hc0
  clear hr0 hc0
  have HR1 := Aside0.mk hr1
  have HC1 := Aside0.mk hc1
  clear hr1 hc1
  have HB := Aside0.mk (Below.refl w.heap.size w)
  have H : (if 0 ≤ (l0.length : Int) then (if ((l0.length : Int) : Int).toNat ≤ 35184372088832 then (codewrightref30_Then.l0 k l0 l1 (List.replicate ((l0.length : Int) : Int).toNat 0) 0) else (none)) else (none)) = some r := h
  clear h
  by_cases c3 : 0 ≤ (l0.length : Int)
  · rw [if_pos c3] at H
    have c3b0 := eq_true c3; have c3b1 : decide (0 ≤ (l0.length : Int)) = true := decide_eq_true c3; clear c3
    by_cases c4 : ((l0.length : Int) : Int).toNat ≤ 35184372088832
    · rw [if_pos c4] at H; have c4b0 := eq_true c4; have c4b1 : decide (((l0.length : Int) : Int).toNat ≤ 35184372088832) = true := decide_eq_true c4; clear c4; obtain ⟨y305, hy305⟩ : ∃ y_ : List Int, y_ = (List.replicate ((l0.length : Int) : Int).toNat 0) := ⟨_, rfl⟩; replace H : (codewrightref30_Then.l0 k l0 l1 y305 0) = some r := by first | (rw [hy305]; with_reducible exact H) | (have H2_ := (Option.bind_some _ _).symm.trans H; rw [hy305]; with_reducible exact H2_) | (have H2_ := (Option.bind_some _ _).symm.trans H; with_reducible exact H2_) | with_reducible exact H | (rw [hy305]; exact H) | exact H
      have Ny305 := Aside0.mk hy305; clear hy305; have H' := Aside0.mk H; clear H
      go_enter Try.func43, Try.ntmps43
      go_wp2_with (first | ((with_reducible refine gate_dst (N := 9) rfl ?_); refine Kd.R_make (Kd.int .i64) _ 3 rfl (N := 9) rfl 22 _ _ rfl (l0.length : Int) rfl rfl Try.underlying22 (.int .i64 0) 8 info3 rfl (by decide) (by omega) 0 (ok := fun _ => True) (okp := fun _ => True) rfl (fun _ hk => hk) trivial (of_decide_eq_true zz123) (Nat.le_trans (Nat.mul_le_mul_right _ (of_decide_eq_true zz123 : (l0.length : Int).toNat ≤ 35184372088832)) (by omega)) (Below.refl _ _) (Nat.le_refl _) ?_; intro v306 w5 ho6 hb hg_ hnew_; clear hg_ hnew_; (first | rw [← Ny305.out] at ho6 | (simp only [Int.reduceToNat] at ho6; rw [← Ny305.out] at ho6)); have HO307 := Aside0.mk (Kd.R_lower ho6 (below_size zz100)); replace HB := Aside0.mk (below_step zz100 hb); clear hb ho6))
      go_loopg [6] k (fun kq v6 w' => ∃ (x5_1 : List Int) (x6_1 : Int), v6 = .int .i64 x6_1 ∧ Aside0 (codewrightref30_Then.l0 kq l0 l1 x5_1 x6_1 = some r) ∧ Aside0 (kq ≤ k) ∧ Aside0 (Kd.R (Kd.int .i64) 3 w' w.heap.size (fun _ => True) v306 x5_1) ∧ Aside0 (Below w.heap.size w w'))
      case atStart => exact ⟨(y305), (0), zz125, H', ⟨Nat.le_refl _⟩, ⟨(zR HO307)⟩, ⟨zz100⟩⟩
      case round =>
        clear H'; (try clear c1); (try clear p2); (try clear c3); (try clear c3b0); (try clear c3b1); (try clear c4); (try clear c4b0); (try clear c4b1); obtain ⟨x5_1, x6_1, rfl, HA, HK1, HO_5, HB⟩ := hrel
        cases gk with
        | zero => exact absurd HA.out (by simp [codewrightref30_Then.l0])
        | succ k1 =>
          have H := HA.out; clear HA; simp only [codewrightref30_Then.l0] at H
          by_cases c7 : x6_1 < (l0.length : Int)
          · rw [if_pos c7] at H; have c7b0 : decide (x6_1 < (l0.length : Int)) = true := decide_eq_true c7; clear c7
            by_cases c8 : 0 ≤ x6_1
            · rw [if_pos c8] at H; have c8b0 : decide (0 ≤ x6_1) = true := decide_eq_true c8; clear c8
              by_cases c9 : 0 ≤ (rd l0 x6_1)
              · rw [if_pos c9] at H; have c9b0 : decide (0 ≤ (rd l0 x6_1)) = true := decide_eq_true c9; clear c9
                by_cases c10 : (rd l0 x6_1) < (l1.length : Int)
                · rw [if_pos c10] at H; have c10b0 : decide ((rd l0 x6_1) < (l1.length : Int)) = true := decide_eq_true c10; clear c10
                  by_cases c11 : x6_1 < (x5_1.length : Int)
                  · rw [if_pos c11] at H; have c11b0 : decide (x6_1 < (x5_1.length : Int)) = true := decide_eq_true c11; clear c11; obtain ⟨y310, hy310⟩ : ∃ y_ : List Int, y_ = (x5_1.set (x6_1 : Int).toNat (rd l1 (rd l0 x6_1))) := ⟨_, rfl⟩; replace H : (codewrightref30_Then.l0 k1 l0 l1 y310 (wrap64 (x6_1 + 1))) = some r := by first | (rw [hy310]; with_reducible exact H) | (have H2_ := (Option.bind_some _ _).symm.trans H; rw [hy310]; with_reducible exact H2_) | (have H2_ := (Option.bind_some _ _).symm.trans H; with_reducible exact H2_) | with_reducible exact H | (rw [hy310]; exact H) | exact H
                    have Ny310 := Aside0.mk hy310; clear hy310; have H' := Aside0.mk H; clear H; have p308 : 0 ≤ (x6_1 : Int) := of_decide_eq_true zz123; have q308 : x6_1 < (l0.length : Int) := of_decide_eq_true zz123; obtain ⟨ad308, e308, hx308_0⟩ := Kd.at_int HR0.out x6_1 p308 q308
                    cases e308; replace hx308_0 := (HB.out.cell (World.block_lt_of_cell? w _ hx308_0)).trans hx308_0; replace p308 := eq_true p308; replace q308 := eq_true q308; have p309 : 0 ≤ ((rd l0 x6_1) : Int) := of_decide_eq_true zz123; have q309 : (rd l0 x6_1) < (l1.length : Int) := of_decide_eq_true zz123; obtain ⟨ad309, e309, hx309_0⟩ := Kd.at_int HR1.out (rd l0 x6_1) p309 q309
                    cases e309; replace hx309_0 := (HB.out.cell (World.block_lt_of_cell? w _ hx309_0)).trans hx309_0; replace p309 := eq_true p309; replace q309 := eq_true q309; have p12 : 0 ≤ (x6_1 : Int) := of_decide_eq_true zz123; have q12 : (x6_1 : Int) < ((x5_1.length : Int) : Int) := of_decide_eq_true zz123; obtain ⟨go12, co12, eo12, gb12, gl12, cl12, HG12⟩ := Kd.R_form HO_5.out (by omega)
                    (first | cases eo12 | (injection eo12 with ea_ en_ ec_; (first | subst ea_ | (injection ea_ with ea_; subst ea_)); subst ec_; clear en_))
                    have GB12 := Aside0.mk gb12; have GG12 := Aside0.mk HG12; clear gb12 gl12 HG12; obtain ⟨hx12_0, hf12_0⟩ := Kd.R_celln 0 HO_5.out (x6_1 : Int) p12 q12; replace p12 := eq_true p12; replace q12 := eq_true q12; have HP13 := Kd.R_putg HO_5.out (x6_1 : Int) (rd l1 (rd l0 x6_1))
                    go_wp2_with (first | ((with_reducible refine gate_store (t := 3) (p := 25) rfl ?_); refine store_event (t := 3) (p := 25) (v := ?vo_w14) (w1 := (wr.setCell ⟨go12, (x6_1 : Int).toNat, none⟩ (.int .i64 (rd l1 (rd l0 x6_1))))) ?hg ?ho ?hn ?hr ?_; (case ho => rfl); (case hg => rfl); (case hn => rfl); (case hr => first | (go_simp; done) | (go_simp; rfl)); intro w14 hw; have hg : wr.grownBy w14 (some go12) := (by rw [hw]; exact HP13.2); have hp_ : Kd.R (Kd.int .i64) 3 w14 w.heap.size (fun _ => True) (.slice (some ⟨go12, 0, none⟩) x5_1.length co12) y310 := (by rw [hw, Ny310.out]; exact HP13.1); clear HP13; replace HO_5 := Aside0.mk (hp_); replace HB := Aside0.mk ((by rw [hw]; exact below_set (HB.out) GB12.out : Below w.heap.size w w14)); clear hg hw hp_))
                    go_roundg k1
                    case measure => have := HK1.out; omega
                    case rel => exact ⟨(y310), (wrap64 (x6_1 + 1)), zz125, H', ⟨zz131⟩, ⟨(zR HO_5)⟩, ⟨zz100⟩⟩
                  rw [if_neg c11] at H
                  exact absurd H (by simp)
                rw [if_neg c10] at H
                exact absurd H (by simp)
              rw [if_neg c9] at H
              exact absurd H (by simp)
            rw [if_neg c8] at H
            exact absurd H (by simp)
          rw [if_neg c7] at H; have c7b0 : decide (x6_1 < (l0.length : Int)) = false := decide_eq_false c7; clear c7; obtain rfl := Option.some.inj H; go_wp2; go_ret
          exact ⟨_, by first | rfl | (simp [errW_none, errW_some] <;> rfl) | (simp [*, errW_none, errW_some] <;> rfl), by (with_reducible repeat (first | apply Kd.R_alloc | apply Kd.R_drewN | apply Kd.R_drew)); exact HO_5.out, by repeat (first | (with_reducible first | exact HB.out | apply below_alloc | apply pw_below_drewN | apply below_drew1) | exact HB.out)⟩
    rw [if_neg c4] at H
    exact absurd H (by simp)
  rw [if_neg c3] at H
  exact absurd H (by simp)
end
section
attribute [local go_sem] max2_int min2_int max_two min_two max_three min_three max_four min_four
mutual
def codewrightref30_Check.j0 : Nat → List Int → Int → Bool → Option (Int)
  | 0, _, _, _ => none
  | k + 1, x0, x3, x14 => if x14 = true then (some 4) else (codewrightref30_Check.l0 k x0 x3 0)
def codewrightref30_Check.l0 : Nat → List Int → Int → Int → Option (Int)
  | 0, _, _, _ => none
  | k + 1, x0, x3, x4 => if x4 < x3 then (if 0 ≤ x4 then (if x4 < (x0.length : Int) then (if (rd x0 x4) < 0 then (some 6) else (if (rd x0 x4) ≥ x3 then (some 6) else (codewrightref30_Check.l0 k x0 x3 (wrap64 (x4 + 1))))) else (none)) else (none)) else (codewrightref30_Check.l1 k x0 x3 0)
def codewrightref30_Check.l1 : Nat → List Int → Int → Int → Option (Int)
  | 0, _, _, _ => none
  | k + 1, x0, x3, x5 => if x5 < x3 then (codewrightref30_Check.l2 k x0 x3 x5 0) else (some 0)
def codewrightref30_Check.l2 : Nat → List Int → Int → Int → Int → Option (Int)
  | 0, _, _, _, _ => none
  | k + 1, x0, x3, x5, x6 => if x6 < x5 then (if 0 ≤ x5 then (if x5 < (x0.length : Int) then (if 0 ≤ x6 then (if x6 < (x0.length : Int) then (if (rd x0 x5) = (rd x0 x6) then (some 18) else (codewrightref30_Check.l2 k x0 x3 x5 (wrap64 (x6 + 1)))) else (none)) else (none)) else (none)) else (none)) else (codewrightref30_Check.l1 k x0 x3 (wrap64 (x5 + 1)))
end
def codewrightref30_Check.f (k : Nat) (l0 : List Int) : Option (Int) := if (l0.length : Int) < 1 then (codewrightref30_Check.j0 k l0 (l0.length : Int) true) else (codewrightref30_Check.j0 k l0 (l0.length : Int) (decide ((l0.length : Int) > 64)))
theorem codewrightref30_Check.calls (k : Nat) (A0 : Option Addr) (c0 : Nat) (l0 : List Int) (r : Int) (w : World) (hr0 : Kd.C (Kd.int .i64) w A0 l0.length l0) (hc0 : l0.length ≤ c0) (h : codewrightref30_Check.f k l0 = some r) :
    Calls Try.prog 17 #[.slice A0 l0.length c0] w fun e w' => e = .returned (.int .i64 r) ∧ Drawn0 w w' := by
  have HR0 := Aside0.mk hr0
  have HC0 := Aside0.mk hc0
  clear hr0 hc0
  have H : (if (l0.length : Int) < 1 then (codewrightref30_Check.j0 k l0 (l0.length : Int) true) else (codewrightref30_Check.j0 k l0 (l0.length : Int) (decide ((l0.length : Int) > 64)))) = some r := h
  clear h
  have HC2 := Aside0.mk H
  clear H
  go_enter Try.func17, Try.ntmps17
  go_upto_region 2 with (fail)
  repeat (go_quiet (fail); go_upto_region 2 with (fail))
  go_cut [14] (fun v14 wc => ∃ (kq : Nat) (x14_1 : Bool), v14 = .bool x14_1 ∧ Aside0 (codewrightref30_Check.j0 kq l0 (l0.length : Int) x14_1 = some r) ∧ Aside0 (kq ≤ k) ∧ Drawn0 w wc)
  case first =>
    have H := HC2.out; clear HC2
    by_cases c3 : (l0.length : Int) < 1
    · rw [if_pos c3] at H; have c3b0 : decide ((l0.length : Int) < 1) = true := decide_eq_true c3; have c3b1 : decide (l0.length < 1) = true := decide_eq_true (by omega); clear c3
      (first | rw [c3b0] | (simp only [i64_w, i32_w]; rw [c3b0]) | skip)
      have H' := Aside0.mk H; clear H; go_wp2
      repeat (go_quiet (fail); try go_wp2)
      go_meet
      case rel => exact ⟨_, (true), zz125, H', ⟨zz128⟩, by repeat (first | exact Drawn0.refl _ | apply Drawn0.step)⟩
    rw [if_neg c3] at H; have c3b0 : decide ((l0.length : Int) < 1) = false := decide_eq_false c3; have c3b1 : decide (l0.length < 1) = false := decide_eq_false (by omega); clear c3
    (first | rw [c3b0] | (simp only [i64_w, i32_w]; rw [c3b0]) | skip)
    have H' := Aside0.mk H; clear H; go_wp2
    repeat (go_quiet (fail); try go_wp2)
    go_meet
    case rel => exact ⟨_, (decide ((l0.length : Int) > 64)), zz125, H', ⟨zz128⟩, by repeat (first | exact Drawn0.refl _ | apply Drawn0.step)⟩
  case rest =>
    clear HC2; (try clear c1); (try clear p2); (try clear c3); (try clear c3b0); (try clear c3b1); obtain ⟨kq, x14_1, rfl, HA, HJ1, ⟨mc1, rfl⟩⟩ := hcut
    cases kq with
    | zero => exact absurd HA.out (by simp [codewrightref30_Check.j0])
    | succ kj1 =>
      have H := HA.out; clear HA; simp only [codewrightref30_Check.j0] at H
      by_cases c4 : x14_1 = true
      · subst c4; have H1 : (some 4) = some r := by rw [if_pos rfl] at H; exact H
        clear H; have H := H1; clear H1; obtain rfl := Option.some.inj H; go_wp2
        repeat (go_quiet (fail); try go_wp2)
        go_ret
        exact ⟨by first | rfl | (simp; done) | (simp [*]; done), by repeat (first | exact Drawn0.refl _ | apply Drawn0.step)⟩
      replace c4 := Bool.eq_false_iff.mpr c4; subst c4; have H1 : (codewrightref30_Check.l0 kj1 l0 (l0.length : Int) 0) = some r := by rw [if_neg (show ¬ (false = true) by decide)] at H; exact H
      clear H; have H := H1; clear H1; have H' := Aside0.mk H; clear H; go_wp2
      repeat (go_quiet (fail); try go_wp2)
      go_loopg [4] kj1 (fun kq v4 w' => ∃ (x4_2 : Int), v4 = .int .i64 x4_2 ∧ Aside0 (codewrightref30_Check.l0 kq l0 (l0.length : Int) x4_2 = some r) ∧ Aside0 (kq ≤ kj1) ∧ Drawn0 w w')
      case atStart => exact ⟨(0), zz125, H', ⟨Nat.le_refl _⟩, by repeat (first | exact Drawn0.refl _ | apply Drawn0.step)⟩
      case round =>
        clear H'; (try clear c1); (try clear p2); (try clear c3); (try clear c3b0); (try clear c3b1); (try clear c4); (try clear p2); obtain ⟨x4_2, rfl, HA, HK2, ⟨m2, rfl⟩⟩ := hrel
        cases gk with
        | zero => exact absurd HA.out (by simp [codewrightref30_Check.l0])
        | succ k2 =>
          have H := HA.out; clear HA; simp only [codewrightref30_Check.l0] at H
          by_cases c5 : x4_2 < (l0.length : Int)
          · rw [if_pos c5] at H; have c5b0 : decide (x4_2 < (l0.length : Int)) = true := decide_eq_true c5; clear c5
            by_cases c6 : 0 ≤ x4_2
            · rw [if_pos c6] at H; have c6b0 : decide (0 ≤ x4_2) = true := decide_eq_true c6; clear c6
              by_cases c7 : x4_2 < (l0.length : Int)
              · rw [if_pos c7] at H; have c7b0 : decide (x4_2 < (l0.length : Int)) = true := decide_eq_true c7; clear c7
                by_cases c8 : (rd l0 x4_2) < 0
                · rw [if_pos c8] at H; have c8b0 : decide ((rd l0 x4_2) < 0) = true := decide_eq_true c8; clear c8; obtain rfl := Option.some.inj H; have p311 : 0 ≤ (x4_2 : Int) := of_decide_eq_true zz123; have q311 : x4_2 < (l0.length : Int) := of_decide_eq_true zz123; obtain ⟨ad311, e311, hx311_0⟩ := Kd.at_int HR0.out x4_2 p311 q311
                  cases e311; replace p311 := eq_true p311; replace q311 := eq_true q311; go_wp2
                  repeat (go_quiet (fail); try go_wp2)
                  go_ret
                  exact ⟨by first | rfl | (simp; done) | (simp [*]; done), by repeat (first | exact Drawn0.refl _ | apply Drawn0.step)⟩
                rw [if_neg c8] at H; have c8b0 : decide ((rd l0 x4_2) < 0) = false := decide_eq_false c8; clear c8
                by_cases c9 : (rd l0 x4_2) ≥ (l0.length : Int)
                · rw [if_pos c9] at H; have c9b0 : decide ((l0.length : Int) ≤ (rd l0 x4_2)) = true := decide_eq_true c9; clear c9; obtain rfl := Option.some.inj H; have p311 : 0 ≤ (x4_2 : Int) := of_decide_eq_true zz123; have q311 : x4_2 < (l0.length : Int) := of_decide_eq_true zz123; obtain ⟨ad311, e311, hx311_0⟩ := Kd.at_int HR0.out x4_2 p311 q311
                  cases e311; replace p311 := eq_true p311; replace q311 := eq_true q311; have p312 : 0 ≤ (x4_2 : Int) := of_decide_eq_true zz123; have q312 : x4_2 < (l0.length : Int) := of_decide_eq_true zz123; obtain ⟨ad312, e312, hx312_0⟩ := Kd.at_int HR0.out x4_2 p312 q312; obtain rfl : ad311 = ad312 := (by injection e312); replace p312 := eq_true p312; replace q312 := eq_true q312; go_wp2
                  repeat (go_quiet (fail); try go_wp2)
                  go_ret
                  exact ⟨by first | rfl | (simp; done) | (simp [*]; done), by repeat (first | exact Drawn0.refl _ | apply Drawn0.step)⟩
                rw [if_neg c9] at H; have c9b0 : decide ((l0.length : Int) ≤ (rd l0 x4_2)) = false := decide_eq_false c9; clear c9; have H' := Aside0.mk H; clear H; have p311 : 0 ≤ (x4_2 : Int) := of_decide_eq_true zz123; have q311 : x4_2 < (l0.length : Int) := of_decide_eq_true zz123; obtain ⟨ad311, e311, hx311_0⟩ := Kd.at_int HR0.out x4_2 p311 q311
                cases e311; replace p311 := eq_true p311; replace q311 := eq_true q311; have p312 : 0 ≤ (x4_2 : Int) := of_decide_eq_true zz123; have q312 : x4_2 < (l0.length : Int) := of_decide_eq_true zz123; obtain ⟨ad312, e312, hx312_0⟩ := Kd.at_int HR0.out x4_2 p312 q312; obtain rfl : ad311 = ad312 := (by injection e312); replace p312 := eq_true p312; replace q312 := eq_true q312; go_wp2
                repeat (go_quiet (fail); try go_wp2)
                go_roundg k2
                case measure => have := HJ1.out; have := HK2.out; omega
                case rel => exact ⟨(wrap64 (x4_2 + 1)), zz125, H', ⟨(by have := HJ1.out; have := HK2.out; omega)⟩, by repeat (first | exact Drawn0.refl _ | apply Drawn0.step)⟩
              rw [if_neg c7] at H
              exact absurd H (by simp)
            rw [if_neg c6] at H
            exact absurd H (by simp)
          rw [if_neg c5] at H; have c5b0 : decide (x4_2 < (l0.length : Int)) = false := decide_eq_false c5; clear c5; have H' := Aside0.mk H; clear H; go_wp2
          repeat (go_quiet (fail); try go_wp2)
          go_loopg [5] k2 (fun kq v5 w' => ∃ (x5_3 : Int), v5 = .int .i64 x5_3 ∧ Aside0 (codewrightref30_Check.l1 kq l0 (l0.length : Int) x5_3 = some r) ∧ Aside0 (kq ≤ k2) ∧ Drawn0 w w')
          case atStart => exact ⟨(0), zz125, H', ⟨Nat.le_refl _⟩, by repeat (first | exact Drawn0.refl _ | apply Drawn0.step)⟩
          case round =>
            clear H'; (try clear c1); (try clear p2); (try clear c3); (try clear c3b0); (try clear c3b1); (try clear p3); (try clear q3); (try clear hx3); (try clear c4); (try clear c5); (try clear c5b0); (try clear c6); (try clear c6b0); (try clear p6); (try clear c7); (try clear c7b0); (try clear c8); (try clear c8b0); (try clear c9); (try clear c9b0); (try clear hx311_0); (try clear hx312_0); (try clear p2); (try clear p311); (try clear p312); (try clear q311); (try clear q312); obtain ⟨x5_3, rfl, HA, HK3, ⟨m3, rfl⟩⟩ := hrel
            cases gk with
            | zero => exact absurd HA.out (by simp [codewrightref30_Check.l1])
            | succ k3 =>
              have H := HA.out; clear HA; simp only [codewrightref30_Check.l1] at H
              by_cases c10 : x5_3 < (l0.length : Int)
              · rw [if_pos c10] at H; have c10b0 : decide (x5_3 < (l0.length : Int)) = true := decide_eq_true c10; clear c10; have H' := Aside0.mk H; clear H; go_wp2
                repeat (go_quiet (fail); try go_wp2)
                go_loopg [6] k3 (fun kq v6 w' => ∃ (x6_4 : Int), v6 = .int .i64 x6_4 ∧ Aside0 (codewrightref30_Check.l2 kq l0 (l0.length : Int) x5_3 x6_4 = some r) ∧ Aside0 (kq ≤ k3) ∧ Drawn0 w w')
                case atStart => exact ⟨(0), zz125, H', ⟨Nat.le_refl _⟩, by repeat (first | exact Drawn0.refl _ | apply Drawn0.step)⟩
                case round =>
                  clear H'; (try clear c1); (try clear p2); (try clear c3); (try clear c3b0); (try clear c3b1); (try clear p3); (try clear q3); (try clear hx3); (try clear c4); (try clear c5); (try clear c5b0); (try clear c6); (try clear c6b0); (try clear p6); (try clear c7); (try clear c7b0); (try clear c8); (try clear c8b0); (try clear c9); (try clear c9b0); (try clear c10); (try clear c10b0); (try clear hx311_0); (try clear hx312_0); (try clear p2); (try clear p3); (try clear p311); (try clear p312); (try clear p6); (try clear q3); (try clear q311); (try clear q312); obtain ⟨x6_4, rfl, HA, HK4, ⟨m4, rfl⟩⟩ := hrel
                  cases gk with
                  | zero => exact absurd HA.out (by simp [codewrightref30_Check.l2])
                  | succ k4 =>
                    have H := HA.out; clear HA; simp only [codewrightref30_Check.l2] at H
                    by_cases c11 : x6_4 < x5_3
                    · rw [if_pos c11] at H; have c11b0 : decide (x6_4 < x5_3) = true := decide_eq_true c11; clear c11
                      by_cases c12 : 0 ≤ x5_3
                      · rw [if_pos c12] at H; have c12b0 : decide (0 ≤ x5_3) = true := decide_eq_true c12; clear c12
                        by_cases c13 : x5_3 < (l0.length : Int)
                        · rw [if_pos c13] at H; have c13b0 : decide (x5_3 < (l0.length : Int)) = true := decide_eq_true c13; clear c13
                          by_cases c14 : 0 ≤ x6_4
                          · rw [if_pos c14] at H; have c14b0 : decide (0 ≤ x6_4) = true := decide_eq_true c14; clear c14
                            by_cases c15 : x6_4 < (l0.length : Int)
                            · rw [if_pos c15] at H; have c15b0 : decide (x6_4 < (l0.length : Int)) = true := decide_eq_true c15; clear c15
                              by_cases c16 : (rd l0 x5_3) = (rd l0 x6_4)
                              · rw [if_pos c16] at H; have c16b0 : ((rd l0 x5_3) == (rd l0 x6_4)) = true := beq_iff_eq.mpr c16; have c16b1 : ((rd l0 x5_3) != (rd l0 x6_4)) = false := bne_eq_false_iff_eq.mpr c16; clear c16; obtain rfl := Option.some.inj H; have p313 : 0 ≤ (x5_3 : Int) := of_decide_eq_true zz123; have q313 : x5_3 < (l0.length : Int) := of_decide_eq_true zz123; obtain ⟨ad313, e313, hx313_0⟩ := Kd.at_int HR0.out x5_3 p313 q313
                                cases e313; replace p313 := eq_true p313; replace q313 := eq_true q313; have p314 : 0 ≤ (x6_4 : Int) := of_decide_eq_true zz123; have q314 : x6_4 < (l0.length : Int) := of_decide_eq_true zz123; obtain ⟨ad314, e314, hx314_0⟩ := Kd.at_int HR0.out x6_4 p314 q314; obtain rfl : ad313 = ad314 := (by injection e314); replace p314 := eq_true p314; replace q314 := eq_true q314; go_wp2
                                repeat (go_quiet (fail); try go_wp2)
                                go_ret
                                exact ⟨by first | rfl | (simp; done) | (simp [*]; done), by repeat (first | exact Drawn0.refl _ | apply Drawn0.step)⟩
                              rw [if_neg c16] at H; have c16b0 : ((rd l0 x5_3) == (rd l0 x6_4)) = false := beq_eq_false_iff_ne.mpr c16; have c16b1 : ((rd l0 x5_3) != (rd l0 x6_4)) = true := bne_iff_ne.mpr c16; have H' := Aside0.mk H; clear H; have p313 : 0 ≤ (x5_3 : Int) := of_decide_eq_true zz123; have q313 : x5_3 < (l0.length : Int) := of_decide_eq_true zz123; obtain ⟨ad313, e313, hx313_0⟩ := Kd.at_int HR0.out x5_3 p313 q313
                              cases e313; replace p313 := eq_true p313; replace q313 := eq_true q313; have p314 : 0 ≤ (x6_4 : Int) := of_decide_eq_true zz123; have q314 : x6_4 < (l0.length : Int) := of_decide_eq_true zz123; obtain ⟨ad314, e314, hx314_0⟩ := Kd.at_int HR0.out x6_4 p314 q314; obtain rfl : ad313 = ad314 := (by injection e314); replace p314 := eq_true p314; replace q314 := eq_true q314; go_wp2
                              repeat (go_quiet (fail); try go_wp2)
                              go_roundg k4
                              case measure => have := HJ1.out; have := HK2.out; have := HK3.out; have := HK4.out; omega
                              case rel => exact ⟨(wrap64 (x6_4 + 1)), zz125, H', ⟨zz118⟩, by repeat (first | exact Drawn0.refl _ | apply Drawn0.step)⟩
                            rw [if_neg c15] at H
                            exact absurd H (by simp)
                          rw [if_neg c14] at H
                          exact absurd H (by simp)
                        rw [if_neg c13] at H
                        exact absurd H (by simp)
                      rw [if_neg c12] at H
                      exact absurd H (by simp)
                    rw [if_neg c11] at H; have c11b0 : decide (x6_4 < x5_3) = false := decide_eq_false c11; clear c11; have H' := Aside0.mk H; clear H; go_wp2
                    repeat (go_quiet (fail); try go_wp2)
                    go_roundg k4
                    case measure => have := HJ1.out; have := HK2.out; have := HK3.out; have := HK4.out; omega
                    case rel => exact ⟨(wrap64 (x5_3 + 1)), zz125, H', ⟨zz118⟩, by repeat (first | exact Drawn0.refl _ | apply Drawn0.step)⟩
              rw [if_neg c10] at H; have c10b0 : decide (x5_3 < (l0.length : Int)) = false := decide_eq_false c10; clear c10; obtain rfl := Option.some.inj H; go_wp2
              repeat (go_quiet (fail); try go_wp2)
              go_ret
              exact ⟨by first | rfl | (simp; done) | (simp [*]; done), by repeat (first | exact Drawn0.refl _ | apply Drawn0.step)⟩
end
section
attribute [local go_sem] max2_int min2_int max_two min_two max_three min_three max_four min_four
def codewrightlaw30_valid.l0 : Nat → Int → List (List Int) → Int → Int → Option (Bool)
  | 0, _, _, _, _ => none
  | k + 1, x0, x7, x8, x9 => if x9 < x8 then (if 0 ≤ x9 then (if x9 < (x7.length : Int) then ((codewrightref30_Check.f k (rd_L1 x7 x9)).bind fun t410 => (if t410 = 0 then (if ((rd_L1 x7 x9).length : Int) = x0 then (codewrightlaw30_valid.l0 k x0 x7 x8 (wrap64 (x9 + 1))) else (some false)) else (some false))) else (none)) else (none)) else (some true)
def codewrightlaw30_valid.f (k : Nat) (a0 : Int) (l1 : List (List Int)) : Option (Bool) := codewrightlaw30_valid.l0 k a0 l1 (l1.length : Int) 0
theorem codewrightlaw30_valid.calls (k : Nat) (a0 : Int) (A1 : Option Addr) (c1 : Nat) (l1 : List (List Int)) (r : Bool) (w : World) (hr1 : Kd.C (Kd.slice 3 (Kd.int .i64)) w A1 l1.length l1) (hc1 : l1.length ≤ c1) (h : codewrightlaw30_valid.f k a0 l1 = some r) :
    Calls Try.prog 25 #[.int .i64 a0, .slice A1 l1.length c1] w fun e w' => e = .returned (.bool r) ∧ Drawn0 w w' := by
  have HR1 := Aside0.mk hr1
  have HC1 := Aside0.mk hc1
  clear hr1 hc1
  have H : (codewrightlaw30_valid.l0 k a0 l1 (l1.length : Int) 0) = some r := h
  clear h
  have H' := Aside0.mk H
  clear H
  go_enter Try.func25, Try.ntmps25
  go_wp2
  go_loopg [9] k (fun kq v9 w' => ∃ (x9_1 : Int), v9 = .int .i64 x9_1 ∧ Aside0 (codewrightlaw30_valid.l0 kq a0 l1 (l1.length : Int) x9_1 = some r) ∧ Aside0 (kq ≤ k) ∧ Drawn0 w w')
  case atStart => exact ⟨(0), zz125, H', ⟨Nat.le_refl _⟩, by repeat (first | exact Drawn0.refl _ | apply Drawn0.step)⟩
  case round =>
    clear H'; (try clear c1); (try clear c2); (try clear p2); obtain ⟨x9_1, rfl, HA, HK1, ⟨m1, rfl⟩⟩ := hrel
    cases gk with
    | zero => exact absurd HA.out (by simp [codewrightlaw30_valid.l0])
    | succ k1 =>
      have H := HA.out; clear HA; simp only [codewrightlaw30_valid.l0] at H
      by_cases c3 : x9_1 < (l1.length : Int)
      · rw [if_pos c3] at H; have c3b0 : decide (x9_1 < (l1.length : Int)) = true := decide_eq_true c3; clear c3
        by_cases c4 : 0 ≤ x9_1
        · rw [if_pos c4] at H; have c4b0 : decide (0 ≤ x9_1) = true := decide_eq_true c4; clear c4
          by_cases c5 : x9_1 < (l1.length : Int)
          · rw [if_pos c5] at H; have c5b0 : decide (x9_1 < (l1.length : Int)) = true := decide_eq_true c5; clear c5; replace H := Option.bind_eq_some_iff.mp H; obtain ⟨t410, A60, H⟩ := H; replace H : (if t410 = 0 then (if ((rd_L1 l1 x9_1).length : Int) = a0 then (codewrightlaw30_valid.l0 k1 a0 l1 (l1.length : Int) (wrap64 (x9_1 + 1))) else (some false)) else (some false)) = some r := H; have A6 := Aside0.mk A60; clear A60
            by_cases c7 : t410 = 0
            · rw [if_pos c7] at H; have c7b0 : (t410 == 0) = true := beq_iff_eq.mpr c7; have c7b1 : (t410 != 0) = false := bne_eq_false_iff_eq.mpr c7; clear c7
              by_cases c8 : ((rd_L1 l1 x9_1).length : Int) = a0
              · rw [if_pos c8] at H; have c8b0 : (((rd_L1 l1 x9_1).length : Int) == a0) = true := beq_iff_eq.mpr c8; have c8b1 : (((rd_L1 l1 x9_1).length : Int) != a0) = false := bne_eq_false_iff_eq.mpr c8; clear c8; have H' := Aside0.mk H; clear H; have p409 : 0 ≤ (x9_1 : Int) := of_decide_eq_true zz123; have q409 : x9_1 < (l1.length : Int) := of_decide_eq_true zz123; obtain ⟨ad409, A409_0, c409_0, e409, hx409_0, hl409_0, hi409_0⟩ := at_L1 HR1.out x9_1 p409 q409
                cases e409; have HR409_0 := Aside0.mk hi409_0; have HC409_0 := Aside0.mk hl409_0; clear hi409_0 hl409_0; replace p409 := eq_true p409; replace q409 := eq_true q409
                go_wp2_with (first | ((with_reducible refine gate_callee (f := 17) rfl ?_); refine goesL_ (some 14) rfl rfl Try.func17 (by kernel_rfl) rfl #[.slice A409_0 (rd_L1 l1 x9_1).length c409_0] rfl zz99 ?_; (with_reducible refine (codewrightref30_Check.calls k1 _ _ (rd_L1 l1 x9_1) t410 _ ?side1 ?side2 A6.out).mono ?_); (case side1 => repeat (first | exact HR409_0.out | (with_reducible refine Kd.C_alloc ?_ _) | (with_reducible refine Kd.C_drewN ?_ _) | (with_reducible refine Kd.C_drew ?_))); (case side2 => exact HC409_0.out); rintro e w' ⟨rfl, ⟨nd, rfl⟩⟩; refine ⟨_, rfl, ?_⟩))
                go_roundg k1
                case measure => have := HK1.out; omega
                case rel => exact ⟨(wrap64 (x9_1 + 1)), zz125, H', ⟨zz131⟩, by repeat (first | exact Drawn0.refl _ | apply Drawn0.step)⟩
              rw [if_neg c8] at H; have c8b0 : (((rd_L1 l1 x9_1).length : Int) == a0) = false := beq_eq_false_iff_ne.mpr c8; have c8b1 : (((rd_L1 l1 x9_1).length : Int) != a0) = true := bne_iff_ne.mpr c8; obtain rfl := Option.some.inj H; have p409 : 0 ≤ (x9_1 : Int) := of_decide_eq_true zz123; have q409 : x9_1 < (l1.length : Int) := of_decide_eq_true zz123; obtain ⟨ad409, A409_0, c409_0, e409, hx409_0, hl409_0, hi409_0⟩ := at_L1 HR1.out x9_1 p409 q409
              cases e409; have HR409_0 := Aside0.mk hi409_0; have HC409_0 := Aside0.mk hl409_0; clear hi409_0 hl409_0; replace p409 := eq_true p409; replace q409 := eq_true q409
              go_wp2_with (first | ((with_reducible refine gate_callee (f := 17) rfl ?_); refine goesL_ (some 14) rfl rfl Try.func17 (by kernel_rfl) rfl #[.slice A409_0 (rd_L1 l1 x9_1).length c409_0] rfl zz99 ?_; (with_reducible refine (codewrightref30_Check.calls k1 _ _ (rd_L1 l1 x9_1) t410 _ ?side1 ?side2 A6.out).mono ?_); (case side1 => repeat (first | exact HR409_0.out | (with_reducible refine Kd.C_alloc ?_ _) | (with_reducible refine Kd.C_drewN ?_ _) | (with_reducible refine Kd.C_drew ?_))); (case side2 => exact HC409_0.out); rintro e w' ⟨rfl, ⟨nd, rfl⟩⟩; refine ⟨_, rfl, ?_⟩))
              go_ret
              exact ⟨by first | rfl | (simp; done) | (simp [*]; done), by repeat (first | exact Drawn0.refl _ | apply Drawn0.step)⟩
            rw [if_neg c7] at H; have c7b0 : (t410 == 0) = false := beq_eq_false_iff_ne.mpr c7; have c7b1 : (t410 != 0) = true := bne_iff_ne.mpr c7; obtain rfl := Option.some.inj H; have p409 : 0 ≤ (x9_1 : Int) := of_decide_eq_true zz123; have q409 : x9_1 < (l1.length : Int) := of_decide_eq_true zz123; obtain ⟨ad409, A409_0, c409_0, e409, hx409_0, hl409_0, hi409_0⟩ := at_L1 HR1.out x9_1 p409 q409
            cases e409; have HR409_0 := Aside0.mk hi409_0; have HC409_0 := Aside0.mk hl409_0; clear hi409_0 hl409_0; replace p409 := eq_true p409; replace q409 := eq_true q409
            go_wp2_with (first | ((with_reducible refine gate_callee (f := 17) rfl ?_); refine goesL_ (some 14) rfl rfl Try.func17 (by kernel_rfl) rfl #[.slice A409_0 (rd_L1 l1 x9_1).length c409_0] rfl zz99 ?_; (with_reducible refine (codewrightref30_Check.calls k1 _ _ (rd_L1 l1 x9_1) t410 _ ?side1 ?side2 A6.out).mono ?_); (case side1 => repeat (first | exact HR409_0.out | (with_reducible refine Kd.C_alloc ?_ _) | (with_reducible refine Kd.C_drewN ?_ _) | (with_reducible refine Kd.C_drew ?_))); (case side2 => exact HC409_0.out); rintro e w' ⟨rfl, ⟨nd, rfl⟩⟩; refine ⟨_, rfl, ?_⟩))
            go_ret
            exact ⟨by first | rfl | (simp; done) | (simp [*]; done), by repeat (first | exact Drawn0.refl _ | apply Drawn0.step)⟩
          rw [if_neg c5] at H
          exact absurd H (by simp)
        rw [if_neg c4] at H
        exact absurd H (by simp)
      rw [if_neg c3] at H; have c3b0 : decide (x9_1 < (l1.length : Int)) = false := decide_eq_false c3; clear c3; obtain rfl := Option.some.inj H; go_wp2; go_ret
      exact ⟨by first | rfl | (simp; done) | (simp [*]; done), by repeat (first | exact Drawn0.refl _ | apply Drawn0.step)⟩
end
section
attribute [local go_sem] max2_int min2_int max_two min_two max_three min_three max_four min_four
def codewrightref30_Gens.l0 : Nat → List (List Int) → Int → Int → List (S74) → Option ((List (List Int)))
  | 0, _, _, _, _ => none
  | k + 1, x3, x4, x569000, x569001 => if x4 < (x569001.length : Int) then (if 0 ≤ x4 then (if x3.length + ((rd_T74 x569001 x4).f2).length < 5864062014805 then (codewrightref30_Gens.l0 k (x3 ++ ((rd_T74 x569001 x4).f2)) (wrap64 (x4 + 1)) x569000 x569001) else (none)) else (none)) else (some x3)
def codewrightref30_Gens.f (k : Nat) (a0_0 : Int) (l0_1 : List (S74)) : Option ((List (List Int))) := codewrightref30_Gens.l0 k ([] : List (List Int)) 0 a0_0 l0_1
theorem codewrightref30_Gens.calls (k : Nat) (a0_0 : Int) (P0_1_ : Nat → Prop) (A0_1 : Option Addr) (c0_1 : Nat) (l0_1 : List (S74)) (r : List (List Int)) (w : World) (hs0_1 : Kd.V k74 74 w w.heap.size (fun k_ => P0_1_ k_) (.slice A0_1 l0_1.length c0_1) l0_1) (h : codewrightref30_Gens.f k a0_0 l0_1 = some r) :
    Calls Try.prog 45 #[.agg #[.int .i64 a0_0, .slice A0_1 l0_1.length c0_1]] w fun e w' => ∃ v0_ : Value, e = .returned (v0_) ∧ Kd.N (Kd.slice 3 (Kd.int .i64)) 22 w' w.heap.size (fun k_ => (P0_1_ k_ ∨ w.heap.size ≤ k_)) v0_ r ∧ Below w.heap.size w w' := by
  have hu46 := Try.underlying46
  have HO0_1 := Aside0.mk (show Kd.V k74 74 w w.heap.size (fun k_ => (P0_1_ k_ ∨ w.heap.size ≤ k_)) (.slice A0_1 l0_1.length c0_1) l0_1 from Kd.V_mono hs0_1 (fun k_ hk => .inl hk))
  have HB := Aside0.mk (Below.refl w.heap.size w)
  have H : (codewrightref30_Gens.l0 k ([] : List (List Int)) 0 a0_0 l0_1) = some r := h
  clear h
  have H' := Aside0.mk H
  clear H
  go_enter Try.func45, Try.ntmps45
  go_wp2_with (first | ((with_reducible refine gate_dst (N := 1) rfl ?_); refine box_event ?hg (N := 1) ?hd (cs := #[.int .i64 a0_0, .slice A0_1 l0_1.length c0_1]) (t := 46) ?hr ?_; (case hd => rfl); (case hg => rfl); (case hr => first | (go_simp; done) | (go_simp; rfl)); intro gb568 hg w2 hbox hb; replace HO0_1 := Aside0.mk (Kd.V_below (Kd.V_elderB (zV HO0_1) gb568 (Nat.le_of_eq hg.symm)) hb); have BK568 := Aside0.mk (hbox); have GW568 := Aside0.mk ((by rw [hg]; exact (below_size zz100) : w.heap.size ≤ gb568)); have GE568 := Aside0.mk ((by rw [hg]; exact (below_size zz100) : w.heap.size ≤ gb568)); replace HB := Aside0.mk (below_step zz100 hb); clear hb hbox hg))
  go_loopg [3, 4] k (fun kq v3 v4 w' => ∃ (x3_1 : List (List Int)) (x4_1 : Int), v4 = .int .i64 x4_1 ∧ Aside0 (codewrightref30_Gens.l0 kq x3_1 x4_1 a0_0 l0_1 = some r) ∧ Aside0 (kq ≤ k) ∧ Aside0 (Kd.N (Kd.slice 3 (Kd.int .i64)) 22 w' w.heap.size (fun k_ => (P0_1_ k_ ∨ w.heap.size ≤ k_) ∧ k_ ≠ gb568) v3 x3_1) ∧ Aside0 (Kd.V k74 74 w' w.heap.size (fun k_ => (P0_1_ k_ ∨ w.heap.size ≤ k_) ∧ some k_ ≠ (v3 : Value).ownBlock ∧ k_ ≠ gb568) (.slice A0_1 l0_1.length c0_1) l0_1) ∧ Aside0 (w'.heap[gb568]? = some (.cells #[.int .i64 a0_0, (.slice A0_1 l0_1.length c0_1)] 46 (0, 0))) ∧ Aside0 (Below w.heap.size w w'))
  case atStart => exact ⟨(([] : List (List Int))), (0), zz125, H', ⟨Nat.le_refl _⟩, ⟨zz98⟩, ⟨zz83⟩, ⟨(zB BK568)⟩, ⟨zz85⟩⟩
  case round =>
    clear H'; (try clear p2); obtain ⟨x3_1, x4_1, rfl, HA, HK1, HO_3, HO_569001, BK568, HB⟩ := hrel
    cases gk with
    | zero => exact absurd HA.out (by simp [codewrightref30_Gens.l0])
    | succ k1 =>
      have H := HA.out; clear HA; simp only [codewrightref30_Gens.l0] at H
      by_cases c3 : x4_1 < (l0_1.length : Int)
      · rw [if_pos c3] at H; have c3b0 : decide (x4_1 < (l0_1.length : Int)) = true := decide_eq_true c3; clear c3
        by_cases c4 : 0 ≤ x4_1
        · rw [if_pos c4] at H; have c4b0 : decide (0 ≤ x4_1) = true := decide_eq_true c4; clear c4
          by_cases c5 : x3_1.length + ((rd_T74 l0_1 x4_1).f2).length < 5864062014805
          · rw [if_pos c5] at H; have LMc5 := Aside0.mk c5; clear c5; obtain ⟨y570, hy570⟩ : ∃ y_ : List (List Int), y_ = (x3_1 ++ ((rd_T74 l0_1 x4_1).f2)) := ⟨_, rfl⟩; replace H : (codewrightref30_Gens.l0 k1 y570 (wrap64 (x4_1 + 1)) a0_0 l0_1) = some r := by first | (rw [hy570]; with_reducible exact H) | (have H2_ := (Option.bind_some _ _).symm.trans H; rw [hy570]; with_reducible exact H2_) | (have H2_ := (Option.bind_some _ _).symm.trans H; with_reducible exact H2_) | with_reducible exact H | (rw [hy570]; exact H) | exact H
            have Ny570 := Aside0.mk hy570; clear hy570; have H' := Aside0.mk H; clear H; have hcz6_0 : wr.cell? ⟨gb568, 0, none⟩ = some (.int .i64 a0_0) := (blk_cell BK568.out 0).trans rfl; have hcz6_1 : wr.cell? ⟨gb568, 1, none⟩ = some (.slice A0_1 l0_1.length c0_1) := (blk_cell BK568.out 1).trans rfl; have hfz6_0 := blk_frozen BK568.out 0; have hfz6_1 := blk_frozen BK568.out 1; have p569 : 0 ≤ (x4_1 : Int) := of_decide_eq_true zz123; have q569 : x4_1 < (l0_1.length : Int) := of_decide_eq_true zz123; obtain ⟨ad569, A569_1, c569_1, A569_2, c569_2, e569, hx569_0, hx569_1, hx569_2, hl569_1, hi569_1, hl569_2, hi569_2⟩ := at_T74 (Kd.V_reads' HO_569001.out).2.2 x4_1 p569 q569
            cases e569; obtain ⟨ce569, hce569, hMe569, hcc569⟩ := Kd.V_get HO_569001.out z74 x4_1 p569 (by first | exact q569 | exact of_decide_eq_true zz123 | (have e_ := (Kd.V_reads' HO_569001.out).1; omega)); obtain ⟨ua569_1, uc569_1, ua569_2, uc569_2, rfl, ul569_1, ge569_1, ul569_2, ge569_2⟩ := k74_openF hMe569; have hv569_1 := hcc569 1 _ rfl; rw [add_field _ _ 1 (by omega)] at hv569_1; replace hv569_1 := Option.some.inj (hv569_1.symm.trans hx569_1); injection hv569_1 with hva_ hvn_ hvc_
            rw [hva_] at ge569_1; rw [hvc_] at ul569_1; have HL569_1 := Aside0.mk (show Kd.V (Kd.int .i64) 3 _ w.heap.size _ _ ((rd_T74 l0_1 x4_1).f1) from Kd.V_mk ul569_1 ge569_1); clear hva_ hvn_ hvc_ ge569_1 ul569_1; have hv569_2 := hcc569 2 _ rfl; rw [add_field _ _ 2 (by omega)] at hv569_2; replace hv569_2 := Option.some.inj (hv569_2.symm.trans hx569_2); injection hv569_2 with hva_ hvn_ hvc_
            rw [hva_] at ge569_2; rw [hvc_] at ul569_2; have HL569_2 := Aside0.mk (show Kd.V (Kd.slice 3 (Kd.int .i64)) 22 _ w.heap.size _ _ ((rd_T74 l0_1 x4_1).f2) from Kd.V_mk ul569_2 ge569_2); clear hva_ hvn_ hvc_ ge569_2 ul569_2; clear hcc569 hce569; have HR569_1 := Aside0.mk hi569_1; have HC569_1 := Aside0.mk hl569_1; clear hi569_1 hl569_1; have HR569_2 := Aside0.mk hi569_2; have HC569_2 := Aside0.mk hl569_2; clear hi569_2 hl569_2; replace p569 := eq_true p569; replace q569 := eq_true q569
            go_wp2_with (first | ((with_reducible refine gate_builtin (b := .append) (xs := #[.tmp 12, .tmp 18]) rfl ?_); at_builtin; refine Kd.N_append_rows (Kd.slice 3 (Kd.int .i64)) (w0 := w) w.heap.size rfl (.tmp 12) (.tmp 18) 28 22 (.slice none 0 0) 24 rfl Try.underlying28 info22 rfl (by decide) (by omega) u3 x3_1 ((rd_T74 l0_1 x4_1).f2) _ _ _ (fun k_ => (P0_1_ k_ ∨ w.heap.size ≤ k_) ∧ k_ ≠ gb568) (fun k_ => ((fun k_ => (P0_1_ k_ ∨ w.heap.size ≤ k_) ∧ k_ ≠ gb568)) k_ ∧ some k_ ≠ (u3 : Value).ownBlock) rfl rfl ?aO ?aR (fun _ hk => hk) ?aF ?aB ?aS ?aL ?_; (case aR => exact (by skip; exact Kd.V_F (Kd.V_mono (ok' := (fun k_ => ((fun k_ => (P0_1_ k_ ∨ w.heap.size ≤ k_) ∧ k_ ≠ gb568)) k_ ∧ some k_ ≠ (u3 : Value).ownBlock)) (HL569_2.out) (fun k_ hk => ⟨⟨hk.1, hk.2.2⟩, hk.2.1⟩)))); (case aB => exact zz85); (case aF => exact (fun k_ hk => ⟨(.inr (Nat.le_trans (below_size zz85) hk)), Kd.freshB (g := gb568) (o := .cells #[.int .i64 a0_0, .slice (some ad569) l0_1.length c0_1] 46 (0, 0)) (zB BK568) k_ hk⟩)); (case aO => exact (zN HO_3)); (case aS => exact (below_size zz85)); (case aL => have := LMc5.out; omega); intro v571 w7 ho hb hg hat; rw [← Ny570.out] at ho; replace HO_569001 := Aside0.mk (Kd.V_afterv (ok := (fun k_ => (P0_1_ k_ ∨ w.heap.size ≤ k_) ∧ k_ ≠ gb568)) (by (with_reducible repeat (first | apply Kd.V_alloc | apply Kd.V_drewN | apply Kd.V_drew)); exact Kd.V_mono HO_569001.out (fun _ hk => ⟨⟨hk.1, hk.2.2⟩, hk.2.1⟩)) hg hat); replace BK568 := Aside0.mk (blk_grown (g := gb568) (o := .cells #[.int .i64 a0_0, .slice (some ad569) l0_1.length c0_1] 46 (0, 0)) (zB BK568) hg (Kd.N_ne HO_3.out BK568.out (by decide))); replace HL569_1 := Aside0.mk (Kd.V_afterv (ok := (fun k_ => (P0_1_ k_ ∨ w.heap.size ≤ k_) ∧ k_ ≠ gb568)) (by (with_reducible repeat (first | apply Kd.V_alloc | apply Kd.V_drewN | apply Kd.V_drew)); exact Kd.V_mono HL569_1.out (fun _ hk => ⟨⟨hk.1, hk.2.2⟩, hk.2.1⟩)) hg hat); replace HL569_2 := Aside0.mk (Kd.V_afterv (ok := (fun k_ => (P0_1_ k_ ∨ w.heap.size ≤ k_) ∧ k_ ≠ gb568)) (by (with_reducible repeat (first | apply Kd.V_alloc | apply Kd.V_drewN | apply Kd.V_drew)); exact Kd.V_mono HL569_2.out (fun _ hk => ⟨⟨hk.1, hk.2.2⟩, hk.2.1⟩)) hg hat); replace HB := Aside0.mk (hb); have HO572 := Aside0.mk (ho); clear HO_3; clear ho hb hg hat))
            go_roundg k1
            case measure => have := HK1.out; omega
            case rel => exact ⟨(y570), (wrap64 (x4_1 + 1)), zz125, H', ⟨zz131⟩, ⟨(zN HO572)⟩, ⟨(by (with_reducible repeat (first | apply Kd.V_alloc | apply Kd.V_drewN | apply Kd.V_drew)); exact Kd.V_mono HO_569001.out (fun _ hk => ⟨hk.1.1, ⟨hk.2, hk.1.2⟩⟩))⟩, ⟨(zB BK568)⟩, ⟨zz85⟩⟩
          rw [if_neg c5] at H
          exact absurd H (by simp)
        rw [if_neg c4] at H
        exact absurd H (by simp)
      rw [if_neg c3] at H; have c3b0 : decide (x4_1 < (l0_1.length : Int)) = false := decide_eq_false c3; clear c3; obtain rfl := Option.some.inj H; have hcz8_0 : wr.cell? ⟨gb568, 0, none⟩ = some (.int .i64 a0_0) := (blk_cell BK568.out 0).trans rfl; have hcz8_1 : wr.cell? ⟨gb568, 1, none⟩ = some (.slice A0_1 l0_1.length c0_1) := (blk_cell BK568.out 1).trans rfl; have hfz8_0 := blk_frozen BK568.out 0; have hfz8_1 := blk_frozen BK568.out 1; go_wp2; go_ret
      exact ⟨_, by first | rfl | (simp [errW_none, errW_some] <;> rfl) | (simp [*, errW_none, errW_some] <;> rfl), by (with_reducible repeat (first | apply Kd.N_alloc | apply Kd.N_drewN | apply Kd.N_drew)); exact Kd.N_mono HO_3.out (fun _ hk => hk.1), by repeat (first | (with_reducible first | exact HB.out | apply below_alloc | apply pw_below_drewN | apply below_drew1 | refine below_set ?_ GE568.out) | exact HB.out)⟩
end
section
attribute [local go_sem] max2_int min2_int max_two min_two max_three min_three max_four min_four
def perm_identity.l0 : Nat → List Int → Int → Int → Option (List Int)
  | 0, _, _, _ => none
  | k + 1, x3, x8, x9 => if x9 < x8 then (if 0 ≤ x9 then (if x9 < (x3.length : Int) then (perm_identity.l0 k (x3.set (x9 : Int).toNat x9) x8 (wrap64 (x9 + 1))) else (none)) else (none)) else (some x3)
def perm_identity.f (k : Nat) (a0 : Int) : Option (List Int) := if 0 ≤ a0 then (if (a0 : Int).toNat ≤ 35184372088832 then ((some (List.replicate (a0 : Int).toNat 0 : List Int)).bind fun y101 => (perm_identity.l0 k y101 (y101.length : Int) 0)) else (none)) else (none)
theorem perm_identity.mono_l : ∀ k, (∀ y0 y1 y2, LeO (perm_identity.l0 k y0 y1 y2) (perm_identity.l0 (k + 1) y0 y1 y2))
  | 0 => fun _ _ _ r h => by simp [perm_identity.l0] at h
  | k + 1 => by
    have ih0 := perm_identity.mono_l k
    · intro y0 y1 y2
      unfold perm_identity.l0
      repeat' first
      | (with_reducible exact ih0 _ _ _)
      | (with_reducible exact LeO.refl _)
      | (with_reducible exact LeO.none _)
      | (with_reducible refine LeO.ite ?_ ?_)
      | (with_reducible refine LeO.bind ?_ (fun _ => ?_))
theorem perm_identity.mono : ∀ a0 k, LeO (perm_identity.f k a0) (perm_identity.f (k + 1) a0) := by
  intro a0 k
  have ih0 := perm_identity.mono_l k
  unfold perm_identity.f
  repeat' first
      | (with_reducible exact ih0 _ _ _)
      | (with_reducible exact LeO.refl _)
      | (with_reducible exact LeO.none _)
      | (with_reducible refine LeO.ite ?_ ?_)
      | (with_reducible refine LeO.bind ?_ (fun _ => ?_))
theorem perm_identity.calls (k : Nat) (a0 : Int) (r : List Int) (w : World) (h : perm_identity.f k a0 = some r) :
    Calls Try.prog 49 #[.int .i64 a0] w fun e w' => ∃ v0_ : Value, e = .returned (v0_) ∧ Kd.R (Kd.int .i64) 3 w' w.heap.size (fun _ => True) v0_ r ∧ Below w.heap.size w w' := by
  have HB := Aside0.mk (Below.refl w.heap.size w)
  have H : (if 0 ≤ a0 then (if (a0 : Int).toNat ≤ 35184372088832 then ((some (List.replicate (a0 : Int).toNat 0 : List Int)).bind fun y101 => (perm_identity.l0 k y101 (y101.length : Int) 0)) else (none)) else (none)) = some r := h
  clear h
  by_cases c2 : 0 ≤ a0
  · rw [if_pos c2] at H
    have c2b0 := eq_true c2; have c2b1 : decide (0 ≤ a0) = true := decide_eq_true c2; clear c2
    by_cases c3 : (a0 : Int).toNat ≤ 35184372088832
    · rw [if_pos c3] at H; have c3b0 := eq_true c3; have c3b1 : decide ((a0 : Int).toNat ≤ 35184372088832) = true := decide_eq_true c3; clear c3; obtain ⟨y101, hy101⟩ : ∃ y_ : List Int, y_ = (List.replicate (a0 : Int).toNat 0) := ⟨_, rfl⟩; replace H : (perm_identity.l0 k y101 (y101.length : Int) 0) = some r := by first | (rw [hy101]; with_reducible exact H) | (have H2_ := (Option.bind_some _ _).symm.trans H; rw [hy101]; with_reducible exact H2_) | (have H2_ := (Option.bind_some _ _).symm.trans H; with_reducible exact H2_) | with_reducible exact H | (rw [hy101]; exact H) | exact H
      have Ny101 := Aside0.mk hy101; clear hy101; have H' := Aside0.mk H; clear H
      go_enter Try.func49, Try.ntmps49
      go_wp2_with (first | ((with_reducible refine gate_dst (N := 6) rfl ?_); refine Kd.R_make (Kd.int .i64) _ 3 rfl (N := 6) rfl 22 _ _ rfl a0 rfl rfl Try.underlying22 (.int .i64 0) 8 info3 rfl (by decide) (by omega) 0 (ok := fun _ => True) (okp := fun _ => True) rfl (fun _ hk => hk) trivial (of_decide_eq_true zz123) (Nat.le_trans (Nat.mul_le_mul_right _ (of_decide_eq_true zz123 : a0.toNat ≤ 35184372088832)) (by omega)) (Below.refl _ _) (Nat.le_refl _) ?_; intro v102 w4 ho5 hb hg_ hnew_; clear hg_ hnew_; (first | rw [← Ny101.out] at ho5 | (simp only [Int.reduceToNat] at ho5; rw [← Ny101.out] at ho5)); have HO103 := Aside0.mk (Kd.R_lower ho5 (below_size zz100)); replace HB := Aside0.mk (below_step zz100 hb); clear hb ho5; obtain ⟨Ao6, co6, eo6⟩ := Kd.R_slice HO103.out; subst eo6))
      go_loopg [9] k (fun kq v9 w' => ∃ (x3_1 : List Int) (x9_1 : Int), v9 = .int .i64 x9_1 ∧ Aside0 (perm_identity.l0 kq x3_1 (y101.length : Int) x9_1 = some r) ∧ Aside0 (kq ≤ k) ∧ Aside0 (Kd.R (Kd.int .i64) 3 w' w.heap.size (fun _ => True) (.slice Ao6 y101.length co6) x3_1) ∧ Aside0 (Below w.heap.size w w'))
      case atStart => exact ⟨(y101), (0), zz125, H', ⟨Nat.le_refl _⟩, ⟨(zR HO103)⟩, ⟨zz100⟩⟩
      case round =>
        clear H'; (try clear c2); (try clear c2b0); (try clear c2b1); (try clear p2); (try clear c3); (try clear c3b0); (try clear c3b1); (try clear c4); obtain ⟨x3_1, x9_1, rfl, HA, HK1, HO_3, HB⟩ := hrel; have hl3_1 := (Kd.R_reads' HO_3.out).1; rw [hl3_1] at HO_3
        (try simp only [hl3_1])
        cases gk with
        | zero => exact absurd HA.out (by simp [perm_identity.l0])
        | succ k1 =>
          have H := HA.out; clear HA; simp only [perm_identity.l0] at H
          by_cases c7 : x9_1 < (y101.length : Int)
          · rw [if_pos c7] at H; have c7b0 : decide (x9_1 < (y101.length : Int)) = true := decide_eq_true c7; clear c7
            by_cases c8 : 0 ≤ x9_1
            · rw [if_pos c8] at H; have c8b0 : decide (0 ≤ x9_1) = true := decide_eq_true c8; clear c8
              by_cases c9 : x9_1 < (x3_1.length : Int)
              · rw [if_pos c9] at H; have c9b0 : decide (x9_1 < (x3_1.length : Int)) = true := decide_eq_true c9; clear c9; obtain ⟨y104, hy104⟩ : ∃ y_ : List Int, y_ = (x3_1.set (x9_1 : Int).toNat x9_1) := ⟨_, rfl⟩; replace H : (perm_identity.l0 k1 y104 (y101.length : Int) (wrap64 (x9_1 + 1))) = some r := by first | (rw [hy104]; with_reducible exact H) | (have H2_ := (Option.bind_some _ _).symm.trans H; rw [hy104]; with_reducible exact H2_) | (have H2_ := (Option.bind_some _ _).symm.trans H; with_reducible exact H2_) | with_reducible exact H | (rw [hy104]; exact H) | exact H
                have Ny104 := Aside0.mk hy104; clear hy104; have H' := Aside0.mk H; clear H; have p10 : 0 ≤ (x9_1 : Int) := of_decide_eq_true zz123; have q10 : (x9_1 : Int) < ((x3_1.length : Int) : Int) := of_decide_eq_true zz123; obtain ⟨go10, co10, eo10, gb10, gl10, cl10, HG10⟩ := Kd.R_form HO_3.out (by omega)
                (first | cases eo10 | (injection eo10 with ea_ en_ ec_; (first | subst ea_ | (injection ea_ with ea_; subst ea_)); subst ec_; clear en_))
                have GB10 := Aside0.mk gb10; have GG10 := Aside0.mk HG10; clear gb10 gl10 HG10; obtain ⟨hx10_0, hf10_0⟩ := Kd.R_celln 0 HO_3.out (x9_1 : Int) p10 q10; replace p10 := eq_true p10; replace q10 := eq_true q10; have HP11 := Kd.R_putg HO_3.out (x9_1 : Int) x9_1
                go_wp2_with (first | ((with_reducible refine gate_store (t := 3) (p := 15) rfl ?_); refine store_event (t := 3) (p := 15) (v := ?vo_w12) (w1 := (wr.setCell ⟨go10, (x9_1 : Int).toNat, none⟩ (.int .i64 x9_1))) ?hg ?ho ?hn ?hr ?_; (case ho => rfl); (case hg => rfl); (case hn => rfl); (case hr => first | (go_simp; done) | (go_simp; rfl)); intro w12 hw; have hg : wr.grownBy w12 (some go10) := (by rw [hw]; exact HP11.2); have hp_ : Kd.R (Kd.int .i64) 3 w12 w.heap.size (fun _ => True) (.slice (some ⟨go10, 0, none⟩) x3_1.length co6) y104 := (by rw [hw, Ny104.out]; exact HP11.1); clear HP11; replace HO_3 := Aside0.mk (hp_); replace HB := Aside0.mk ((by rw [hw]; exact below_set (HB.out) GB10.out : Below w.heap.size w w12)); clear hg hw hp_))
                (try simp only [← hl3_1])
                go_roundg k1
                case measure => have := HK1.out; omega
                case rel => exact ⟨(y104), (wrap64 (x9_1 + 1)), zz125, H', ⟨zz131⟩, ⟨(by (try simp only [hl3_1]); (with_reducible repeat (first | apply Kd.R_alloc | apply Kd.R_drewN | apply Kd.R_drew)); exact HO_3.out)⟩, ⟨zz100⟩⟩
              rw [if_neg c9] at H
              exact absurd H (by simp)
            rw [if_neg c8] at H
            exact absurd H (by simp)
          rw [if_neg c7] at H; have c7b0 : decide (x9_1 < (y101.length : Int)) = false := decide_eq_false c7; have c7b1 : decide (x9_1 < (x3_1.length : Int)) = false := by rw [← hl3_1]; exact c7b0
          clear c7; obtain rfl := Option.some.inj H; go_wp2; go_ret
          exact ⟨_, by first | rfl | (simp [errW_none, errW_some] <;> rfl) | (simp [*, errW_none, errW_some] <;> rfl), by (with_reducible repeat (first | apply Kd.R_alloc | apply Kd.R_drewN | apply Kd.R_drew)); exact HO_3.out, by repeat (first | (with_reducible first | exact HB.out | apply below_alloc | apply pw_below_drewN | apply below_drew1) | exact HB.out)⟩
    rw [if_neg c3] at H
    exact absurd H (by simp)
  rw [if_neg c2] at H
  exact absurd H (by simp)
end
section
attribute [local go_sem] max2_int min2_int max_two min_two max_three min_three max_four min_four
def perm_then.l0 : Nat → List Int → List Int → List Int → Int → Int → Option (List Int)
  | 0, _, _, _, _, _ => none
  | k + 1, x1, x5, x11, x12, x13 => if x13 < x12 then (if 0 ≤ x13 then (if x13 < (x11.length : Int) then (if 0 ≤ (rd x11 x13) then (if (rd x11 x13) < (x1.length : Int) then (if x13 < (x5.length : Int) then (perm_then.l0 k x1 (x5.set (x13 : Int).toNat (rd x1 (rd x11 x13))) x11 x12 (wrap64 (x13 + 1))) else (none)) else (none)) else (none)) else (none)) else (none)) else (some x5)
def perm_then.f (k : Nat) (l0 : List Int) (l1 : List Int) : Option (List Int) := if 0 ≤ (l0.length : Int) then (if ((l0.length : Int) : Int).toNat ≤ 35184372088832 then (perm_then.l0 k l1 (List.replicate ((l0.length : Int) : Int).toNat 0) l0 (l0.length : Int) 0) else (none)) else (none)
theorem perm_then.mono_l : ∀ k, (∀ y0 y1 y2 y3 y4, LeO (perm_then.l0 k y0 y1 y2 y3 y4) (perm_then.l0 (k + 1) y0 y1 y2 y3 y4))
  | 0 => fun _ _ _ _ _ r h => by simp [perm_then.l0] at h
  | k + 1 => by
    have ih0 := perm_then.mono_l k
    · intro y0 y1 y2 y3 y4
      unfold perm_then.l0
      repeat' first
      | (with_reducible exact ih0 _ _ _ _ _)
      | (with_reducible exact LeO.refl _)
      | (with_reducible exact LeO.none _)
      | (with_reducible refine LeO.ite ?_ ?_)
      | (with_reducible refine LeO.bind ?_ (fun _ => ?_))
theorem perm_then.mono : ∀ a0 a1 k, LeO (perm_then.f k a0 a1) (perm_then.f (k + 1) a0 a1) := by
  intro a0 a1 k
  have ih0 := perm_then.mono_l k
  unfold perm_then.f
  repeat' first
      | (with_reducible exact ih0 _ _ _ _ _)
      | (with_reducible exact LeO.refl _)
      | (with_reducible exact LeO.none _)
      | (with_reducible refine LeO.ite ?_ ?_)
      | (with_reducible refine LeO.bind ?_ (fun _ => ?_))
theorem perm_then.calls (k : Nat) (A0 : Option Addr) (c0 : Nat) (l0 : List Int) (A1 : Option Addr) (c1 : Nat) (l1 : List Int) (r : List Int) (w : World) (hr0 : Kd.C (Kd.int .i64) w A0 l0.length l0) (hc0 : l0.length ≤ c0) (hr1 : Kd.C (Kd.int .i64) w A1 l1.length l1) (hc1 : l1.length ≤ c1) (h : perm_then.f k l0 l1 = some r) :
    Calls Try.prog 50 #[.slice A0 l0.length c0, .slice A1 l1.length c1] w fun e w' => ∃ v0_ : Value, e = .returned (v0_) ∧ Kd.R (Kd.int .i64) 3 w' w.heap.size (fun _ => True) v0_ r ∧ Below w.heap.size w w' := by
  have HR0 := Aside0.mk hr0
  have HC0 := Aside0.mk hc0
  clear hr0 hc0
  have HR1 := Aside0.mk hr1
  have HC1 := Aside0.mk hc1
  clear hr1 hc1
  have HB := Aside0.mk (Below.refl w.heap.size w)
  have H : (if 0 ≤ (l0.length : Int) then (if ((l0.length : Int) : Int).toNat ≤ 35184372088832 then (perm_then.l0 k l1 (List.replicate ((l0.length : Int) : Int).toNat 0) l0 (l0.length : Int) 0) else (none)) else (none)) = some r := h
  clear h
  by_cases c3 : 0 ≤ (l0.length : Int)
  · rw [if_pos c3] at H
    have c3b0 := eq_true c3; have c3b1 : decide (0 ≤ (l0.length : Int)) = true := decide_eq_true c3; clear c3
    by_cases c4 : ((l0.length : Int) : Int).toNat ≤ 35184372088832
    · rw [if_pos c4] at H; have c4b0 := eq_true c4; have c4b1 : decide (((l0.length : Int) : Int).toNat ≤ 35184372088832) = true := decide_eq_true c4; clear c4; obtain ⟨y105, hy105⟩ : ∃ y_ : List Int, y_ = (List.replicate ((l0.length : Int) : Int).toNat 0) := ⟨_, rfl⟩; replace H : (perm_then.l0 k l1 y105 l0 (l0.length : Int) 0) = some r := by first | (rw [hy105]; with_reducible exact H) | (have H2_ := (Option.bind_some _ _).symm.trans H; rw [hy105]; with_reducible exact H2_) | (have H2_ := (Option.bind_some _ _).symm.trans H; with_reducible exact H2_) | with_reducible exact H | (rw [hy105]; exact H) | exact H
      have Ny105 := Aside0.mk hy105; clear hy105; have H' := Aside0.mk H; clear H
      go_enter Try.func50, Try.ntmps50
      go_wp2_with (first | ((with_reducible refine gate_dst (N := 10) rfl ?_); refine Kd.R_make (Kd.int .i64) _ 3 rfl (N := 10) rfl 22 _ _ rfl (l0.length : Int) rfl rfl Try.underlying22 (.int .i64 0) 8 info3 rfl (by decide) (by omega) 0 (ok := fun _ => True) (okp := fun _ => True) rfl (fun _ hk => hk) trivial (of_decide_eq_true zz123) (Nat.le_trans (Nat.mul_le_mul_right _ (of_decide_eq_true zz123 : (l0.length : Int).toNat ≤ 35184372088832)) (by omega)) (Below.refl _ _) (Nat.le_refl _) ?_; intro v106 w5 ho6 hb hg_ hnew_; clear hg_ hnew_; (first | rw [← Ny105.out] at ho6 | (simp only [Int.reduceToNat] at ho6; rw [← Ny105.out] at ho6)); have HO107 := Aside0.mk (Kd.R_lower ho6 (below_size zz100)); replace HB := Aside0.mk (below_step zz100 hb); clear hb ho6))
      go_loopg [13] k (fun kq v13 w' => ∃ (x5_1 : List Int) (x13_1 : Int), v13 = .int .i64 x13_1 ∧ Aside0 (perm_then.l0 kq l1 x5_1 l0 (l0.length : Int) x13_1 = some r) ∧ Aside0 (kq ≤ k) ∧ Aside0 (Kd.R (Kd.int .i64) 3 w' w.heap.size (fun _ => True) v106 x5_1) ∧ Aside0 (Below w.heap.size w w'))
      case atStart => exact ⟨(y105), (0), zz125, H', ⟨Nat.le_refl _⟩, ⟨(zR HO107)⟩, ⟨zz100⟩⟩
      case round =>
        clear H'; (try clear c1); (try clear p2); (try clear c3); (try clear c3b0); (try clear c3b1); (try clear c4); (try clear c4b0); (try clear c4b1); (try clear c5); obtain ⟨x5_1, x13_1, rfl, HA, HK1, HO_5, HB⟩ := hrel
        cases gk with
        | zero => exact absurd HA.out (by simp [perm_then.l0])
        | succ k1 =>
          have H := HA.out; clear HA; simp only [perm_then.l0] at H
          by_cases c7 : x13_1 < (l0.length : Int)
          · rw [if_pos c7] at H; have c7b0 : decide (x13_1 < (l0.length : Int)) = true := decide_eq_true c7; clear c7
            by_cases c8 : 0 ≤ x13_1
            · rw [if_pos c8] at H; have c8b0 : decide (0 ≤ x13_1) = true := decide_eq_true c8; clear c8
              by_cases c9 : x13_1 < (l0.length : Int)
              · rw [if_pos c9] at H; have c9b0 : decide (x13_1 < (l0.length : Int)) = true := decide_eq_true c9; clear c9
                by_cases c10 : 0 ≤ (rd l0 x13_1)
                · rw [if_pos c10] at H; have c10b0 : decide (0 ≤ (rd l0 x13_1)) = true := decide_eq_true c10; clear c10
                  by_cases c11 : (rd l0 x13_1) < (l1.length : Int)
                  · rw [if_pos c11] at H; have c11b0 : decide ((rd l0 x13_1) < (l1.length : Int)) = true := decide_eq_true c11; clear c11
                    by_cases c12 : x13_1 < (x5_1.length : Int)
                    · rw [if_pos c12] at H; have c12b0 : decide (x13_1 < (x5_1.length : Int)) = true := decide_eq_true c12; clear c12; obtain ⟨y110, hy110⟩ : ∃ y_ : List Int, y_ = (x5_1.set (x13_1 : Int).toNat (rd l1 (rd l0 x13_1))) := ⟨_, rfl⟩; replace H : (perm_then.l0 k1 l1 y110 l0 (l0.length : Int) (wrap64 (x13_1 + 1))) = some r := by first | (rw [hy110]; with_reducible exact H) | (have H2_ := (Option.bind_some _ _).symm.trans H; rw [hy110]; with_reducible exact H2_) | (have H2_ := (Option.bind_some _ _).symm.trans H; with_reducible exact H2_) | with_reducible exact H | (rw [hy110]; exact H) | exact H
                      have Ny110 := Aside0.mk hy110; clear hy110; have H' := Aside0.mk H; clear H; have p108 : 0 ≤ (x13_1 : Int) := of_decide_eq_true zz123; have q108 : x13_1 < (l0.length : Int) := of_decide_eq_true zz123; obtain ⟨ad108, e108, hx108_0⟩ := Kd.at_int HR0.out x13_1 p108 q108
                      cases e108; replace hx108_0 := (HB.out.cell (World.block_lt_of_cell? w _ hx108_0)).trans hx108_0; replace p108 := eq_true p108; replace q108 := eq_true q108; have p109 : 0 ≤ ((rd l0 x13_1) : Int) := of_decide_eq_true zz123; have q109 : (rd l0 x13_1) < (l1.length : Int) := of_decide_eq_true zz123; obtain ⟨ad109, e109, hx109_0⟩ := Kd.at_int HR1.out (rd l0 x13_1) p109 q109
                      cases e109; replace hx109_0 := (HB.out.cell (World.block_lt_of_cell? w _ hx109_0)).trans hx109_0; replace p109 := eq_true p109; replace q109 := eq_true q109; have p13 : 0 ≤ (x13_1 : Int) := of_decide_eq_true zz123; have q13 : (x13_1 : Int) < ((x5_1.length : Int) : Int) := of_decide_eq_true zz123; obtain ⟨go13, co13, eo13, gb13, gl13, cl13, HG13⟩ := Kd.R_form HO_5.out (by omega)
                      (first | cases eo13 | (injection eo13 with ea_ en_ ec_; (first | subst ea_ | (injection ea_ with ea_; subst ea_)); subst ec_; clear en_))
                      have GB13 := Aside0.mk gb13; have GG13 := Aside0.mk HG13; clear gb13 gl13 HG13; obtain ⟨hx13_0, hf13_0⟩ := Kd.R_celln 0 HO_5.out (x13_1 : Int) p13 q13; replace p13 := eq_true p13; replace q13 := eq_true q13; have HP14 := Kd.R_putg HO_5.out (x13_1 : Int) (rd l1 (rd l0 x13_1))
                      go_wp2_with (first | ((with_reducible refine gate_store (t := 3) (p := 24) rfl ?_); refine store_event (t := 3) (p := 24) (v := ?vo_w15) (w1 := (wr.setCell ⟨go13, (x13_1 : Int).toNat, none⟩ (.int .i64 (rd l1 (rd l0 x13_1))))) ?hg ?ho ?hn ?hr ?_; (case ho => rfl); (case hg => rfl); (case hn => rfl); (case hr => first | (go_simp; done) | (go_simp; rfl)); intro w15 hw; have hg : wr.grownBy w15 (some go13) := (by rw [hw]; exact HP14.2); have hp_ : Kd.R (Kd.int .i64) 3 w15 w.heap.size (fun _ => True) (.slice (some ⟨go13, 0, none⟩) x5_1.length co13) y110 := (by rw [hw, Ny110.out]; exact HP14.1); clear HP14; replace HO_5 := Aside0.mk (hp_); replace HB := Aside0.mk ((by rw [hw]; exact below_set (HB.out) GB13.out : Below w.heap.size w w15)); clear hg hw hp_))
                      go_roundg k1
                      case measure => have := HK1.out; omega
                      case rel => exact ⟨(y110), (wrap64 (x13_1 + 1)), zz125, H', ⟨zz131⟩, ⟨(zR HO_5)⟩, ⟨zz100⟩⟩
                    rw [if_neg c12] at H
                    exact absurd H (by simp)
                  rw [if_neg c11] at H
                  exact absurd H (by simp)
                rw [if_neg c10] at H
                exact absurd H (by simp)
              rw [if_neg c9] at H
              exact absurd H (by simp)
            rw [if_neg c8] at H
            exact absurd H (by simp)
          rw [if_neg c7] at H; have c7b0 : decide (x13_1 < (l0.length : Int)) = false := decide_eq_false c7; clear c7; obtain rfl := Option.some.inj H; go_wp2; go_ret
          exact ⟨_, by first | rfl | (simp [errW_none, errW_some] <;> rfl) | (simp [*, errW_none, errW_some] <;> rfl), by (with_reducible repeat (first | apply Kd.R_alloc | apply Kd.R_drewN | apply Kd.R_drew)); exact HO_5.out, by repeat (first | (with_reducible first | exact HB.out | apply below_alloc | apply pw_below_drewN | apply below_drew1) | exact HB.out)⟩
    rw [if_neg c4] at H
    exact absurd H (by simp)
  rw [if_neg c3] at H
  exact absurd H (by simp)
end
section
attribute [local go_sem] max2_int min2_int max_two min_two max_three min_three max_four min_four
def perm_degree.f (a0 : Int) : Option (Int) := if a0 < 1 then (some 4) else (if a0 > 64 then (some 4) else (some 0))
theorem perm_degree.calls (a0 : Int) (r : Int) (w : World) (h : perm_degree.f a0 = some r) :
    Calls Try.prog 52 #[.int .i64 a0] w fun e w' => e = .returned (.int .i64 r) ∧ Drawn0 w w' := by
  have H : (if a0 < 1 then (some 4) else (if a0 > 64 then (some 4) else (some 0))) = some r := h
  clear h
  by_cases c2 : a0 < 1
  · rw [if_pos c2] at H
    have c2b0 : decide (a0 < 1) = true := decide_eq_true c2; clear c2; obtain rfl := Option.some.inj H
    go_enter Try.func52, Try.ntmps52
    go_wp2; go_ret
    exact ⟨by first | rfl | (simp; done) | (simp [*]; done), by repeat (first | exact Drawn0.refl _ | apply Drawn0.step)⟩
  rw [if_neg c2] at H
  have c2b0 : decide (a0 < 1) = false := decide_eq_false c2
  clear c2
  by_cases c3 : a0 > 64
  · rw [if_pos c3] at H
    have c3b0 : decide (64 < a0) = true := decide_eq_true c3; clear c3; obtain rfl := Option.some.inj H
    go_enter Try.func52, Try.ntmps52
    go_wp2; go_ret
    exact ⟨by first | rfl | (simp; done) | (simp [*]; done), by repeat (first | exact Drawn0.refl _ | apply Drawn0.step)⟩
  rw [if_neg c3] at H
  have c3b0 : decide (64 < a0) = false := decide_eq_false c3
  clear c3
  obtain rfl := Option.some.inj H
  go_enter Try.func52, Try.ntmps52
  go_wp2
  go_ret
  exact ⟨by first | rfl | (simp; done) | (simp [*]; done), by repeat (first | exact Drawn0.refl _ | apply Drawn0.step)⟩
end
section
def permOk (n : Nat) (l : List Int) : Prop := l.length = n ∧ (∀ x ∈ l, 0 ≤ x ∧ x < n) ∧ l.Nodup
instance (n : Nat) (l : List Int) : Decidable (permOk n l) := by unfold permOk; infer_instance
def checkL (l : List Int) : Int := if l.length < 1 ∨ 64 < l.length then 4 else if ∃ x ∈ l, x < 0 ∨ (l.length : Int) ≤ x then 6 else if l.Nodup then 0 else 18
def perm_Check.f (l0 : List Int) : Option Int := some (checkL l0)
def outB (n : Nat) (x : Int) : Bool := decide (x < 0) || decide ((n : Int) ≤ x)
theorem check1_lo (x : Int) (g n c : Nat) (A : Option Addr) (w : World) (hcell : w.cell? ⟨g, 0, none⟩ = some (.slice A n c)) (hx : x < 0) :
    Calls Try.prog 54 #[.int .i64 x, .pointer (some ⟨g, 0, none⟩)] w fun e w' => e = .returned (.bool true) ∧ w = w' := by
  have h1 : decide (x < 0) = true := decide_eq_true hx
  go_enter Try.func54, Try.ntmps54
  go_wp2
  go_ret
  exact ⟨rfl, rfl⟩
theorem check1_hi (x : Int) (g n c : Nat) (A : Option Addr) (w : World) (hcell : w.cell? ⟨g, 0, none⟩ = some (.slice A n c)) (hx : 0 ≤ x) (b : Bool) (hb : decide ((n : Int) ≤ x) = b) :
    Calls Try.prog 54 #[.int .i64 x, .pointer (some ⟨g, 0, none⟩)] w fun e w' => e = .returned (.bool b) ∧ w = w' := by
  have h1 : decide (x < 0) = false := decide_eq_false (by omega)
  have Hb := Aside0.mk hb
  clear hb
  go_enter Try.func54, Try.ntmps54
  go_wp2
  go_ret
  exact ⟨by rw [← Hb.out]; rfl, rfl⟩
theorem check1 (x : Int) (g n c : Nat) (A : Option Addr) (w : World) (hcell : w.cell? ⟨g, 0, none⟩ = some (.slice A n c)) :
    Calls Try.prog 54 #[.int .i64 x, .pointer (some ⟨g, 0, none⟩)] w fun e w' => e = .returned (.bool (outB n x)) ∧ w = w' := by
  unfold outB
  by_cases hx : x < 0
  · rw [decide_eq_true hx]; exact check1_lo x g n c A w hcell hx
  rw [decide_eq_false hx, Bool.false_or]; exact check1_hi x g n c A w hcell (by omega) _ rfl
theorem rd_mem {l : List Int} {i : Int} (h0 : 0 ≤ i) (h1 : i < (l.length : Int)) : rd l i ∈ l := by
  unfold rd
  rw [List.getD_eq_getElem?_getD, List.getElem?_eq_getElem (by omega)]
  exact List.getElem_mem _
theorem take_rd {l : List Int} {i : Int} (h0 : 0 ≤ i) (h1 : i < (l.length : Int)) : l.take (i + 1).toNat = l.take i.toNat ++ [rd l i] := by
  have e : (i + 1).toNat = i.toNat + 1 := by omega
  rw [e, List.take_succ_eq_append_getElem (by omega)]
  congr 2
  unfold rd
  rw [List.getD_eq_getElem?_getD, List.getElem?_eq_getElem (by omega)]
  rfl
def IdxPost (p : Int → Bool) (l : List Int) (w : World) (e : Ending) (w' : World) : Prop := ∃ r : Int, e = .returned (.int .i64 r) ∧ decide (0 ≤ r) = l.any p ∧ Drawn0 w w'
theorem idx75_calls (A0 : Option Addr) (c0 : Nat) (l0 : List Int) (g n c : Nat) (A : Option Addr) (w : World) (hr0 : Kd.C (Kd.int .i64) w A0 l0.length l0) (hcell : w.cell? ⟨g, 0, none⟩ = some (.slice A n c)) :
    Calls Try.prog 75 #[.slice A0 l0.length c0, .func (Fn.func 54) #[] #[.pointer (some ⟨g, 0, none⟩)]] w (IdxPost (outB n) l0 w) := by
  have HR := Aside0.mk hr0
  have HC := Aside0.mk hcell
  clear hr0 hcell
  go_enter Try.func75, Try.ntmps75
  go_wp2
  go_loopg [8] l0.length (fun kq v8 w' => ∃ i : Int, v8 = .int .i64 i ∧ Aside0 (0 ≤ i) ∧ Aside0 (i.toNat + kq = l0.length) ∧ Aside0 ((l0.take i.toNat).any (outB n) = false) ∧ Aside0 (Drawn0 w w'))
  case atStart => exact ⟨0, rfl, ⟨by omega⟩, ⟨by simp⟩, ⟨by simp⟩, ⟨Drawn0.refl _⟩⟩
  case round =>
    obtain ⟨i, rfl, HI0, HI1, HA, HD⟩ := hrel; have i0 := HI0.out
    by_cases d1 : i < (l0.length : Int)
    · have d1b : decide (i < (l0.length : Int)) = true := decide_eq_true d1; have q0 := eq_true i0; have q1 := eq_true d1; have hmax : l0.length ≤ 9223372036854775807 := HR.out.2.1; obtain ⟨ad, ea, hx1⟩ := Kd.at_int HR.out i i0 d1
      cases ea; replace hx1 := (HD.out.below.cell (World.block_lt_of_cell? w _ hx1)).trans hx1; have hc1 := (HD.out.below.cell (World.block_lt_of_cell? w _ HC.out)).trans HC.out; have HC1 := Aside0.mk hc1; clear hc1
      cases hb : outB n (rd l0 i) with
      | true =>
        have HBo := Aside0.mk hb; clear hb
        go_wp2_with (first
          | (go_at_call 54; (with_reducible refine (check1 (rd l0 i) g n c A _ HC1.out).mono ?_); rintro e w5 ⟨rfl, rfl⟩; rw [HBo.out]))
        go_ret
        exact ⟨i, rfl, by rw [decide_eq_true HI0.out]; exact (List.any_eq_true.2 ⟨_, rd_mem HI0.out d1, HBo.out⟩).symm, HD.out⟩
      | false =>
        have HBo := Aside0.mk hb; clear hb
        go_wp2_with (first
          | (go_at_call 54; (with_reducible refine (check1 (rd l0 i) g n c A _ HC1.out).mono ?_); rintro e w5 ⟨rfl, rfl⟩; rw [HBo.out]))
        obtain ⟨k1, rfl⟩ : ∃ m, gk = m + 1 := ⟨gk - 1, by have := HI1.out; omega⟩
        go_roundg k1
        case measure => omega
        case rel => exact ⟨i + 1, rfl, ⟨by have := HI0.out; omega⟩, ⟨by have := HI1.out; have := HI0.out; omega⟩, ⟨by rw [take_rd HI0.out d1, List.any_append, HA.out]; simp [HBo.out]⟩, HD⟩
    have d1b : decide (i < (l0.length : Int)) = false := decide_eq_false d1; have ha := HA.out; rw [List.take_of_length_le (by omega)] at ha; have HA2 := Aside0.mk ha; clear ha; go_wp2; go_ret
    exact ⟨-1, rfl, by rw [HA2.out]; rfl, HD.out⟩
def ContPost (p : Int → Bool) (l : List Int) (w : World) (e : Ending) (w' : World) : Prop := e = .returned (.bool (l.any p)) ∧ Drawn0 w w'
theorem cont53_calls (A0 : Option Addr) (c0 : Nat) (l0 : List Int) (g n c : Nat) (A : Option Addr) (w : World) (hr0 : Kd.C (Kd.int .i64) w A0 l0.length l0) (hcell : w.cell? ⟨g, 0, none⟩ = some (.slice A n c)) :
    Calls Try.prog 53 #[.slice A0 l0.length c0, .func (Fn.func 54) #[] #[.pointer (some ⟨g, 0, none⟩)]] w (ContPost (outB n) l0 w) := by
  have HR := Aside0.mk hr0
  have HC := Aside0.mk hcell
  clear hr0 hcell
  go_enter Try.func53, Try.ntmps53
  go_wp2_with (first
    | (go_at_call 75; (with_reducible refine (idx75_calls _ _ l0 g n c A _ HR.out HC.out).mono ?_); rintro e w5 ⟨r, rfl, hr, hd⟩; have HDr := Aside0.mk (And.intro hr hd); clear hr hd))
  go_ret
  exact ⟨by rw [← HDr.out.1]; rfl, HDr.out.2⟩
theorem any_out (l : List Int) : l.any (outB l.length) = true ↔ ∃ x ∈ l, x < 0 ∨ (l.length : Int) ≤ x := by
  simp [List.any_eq_true, outB]
def SeenOk (l : List Int) (i : Int) (sx : List Bool) : Prop := sx.length = l.length ∧ (l.take i.toNat).Nodup ∧ ∀ y : Int, 0 ≤ y → y < l.length → (rdOf false sx y = true ↔ y ∈ l.take i.toNat)
theorem seen_start (l : List Int) : SeenOk l 0 (List.replicate l.length false) := by
  refine ⟨by simp, by simp, fun y h0 h1 => ?_⟩
  simp [rdOf, List.getD_eq_getElem?_getD, show y.toNat < l.length by omega]
theorem seen_next {l : List Int} {i : Int} {sx : List Bool} (h : SeenOk l i sx) (h0 : 0 ≤ i) (h1 : i < l.length) (hx0 : 0 ≤ rd l i) (hx1 : rd l i < l.length) (hs : rdOf false sx (rd l i) = false) : SeenOk l (i + 1) (sx.set (rd l i).toNat true) := by
  obtain ⟨hl, hn, hy⟩ := h
  have hnot : rd l i ∉ l.take i.toNat := fun hm => by
    have := (hy (rd l i) hx0 hx1).2 hm; rw [hs] at this
    cases this
  refine ⟨by simpa using hl, ?_, fun y y0 y1 => ?_⟩
  · rw [take_rd h0 h1, List.nodup_append]
    exact ⟨hn, by simp, fun a ha b hb => by rw [List.mem_singleton.1 hb]; exact fun e => hnot (e ▸ ha)⟩
  · rw [take_rd h0 h1, List.mem_append, List.mem_singleton]
    by_cases e : y = rd l i
    · subst e
      simp [rdOf, List.getD_eq_getElem?_getD, show (rd l i).toNat < sx.length by omega]
    have e' : (rd l i).toNat ≠ y.toNat := by omega
    have := hy y y0 y1; simp only [rdOf, List.getD_eq_getElem?_getD] at this ⊢; rw [List.getElem?_set_ne e']; rw [this]
    simp [e]
theorem seen_dup {l : List Int} {i : Int} {sx : List Bool} (h : SeenOk l i sx) (h0 : 0 ≤ i) (h1 : i < l.length) (hx0 : 0 ≤ rd l i) (hx1 : rd l i < l.length) (hs : rdOf false sx (rd l i) = true) : ¬ l.Nodup := by
  obtain ⟨hl, hn, hy⟩ := h
  have hm := (hy (rd l i) hx0 hx1).1 hs
  intro hd
  have h2 : (l.take (i + 1).toNat).Nodup := hd.sublist (List.take_sublist _ _)
  rw [take_rd h0 h1, List.nodup_append] at h2
  exact h2.2.2 _ hm _ (List.mem_singleton.2 rfl) rfl
theorem degree_ok (n : Int) (h1 : 1 ≤ n) (h2 : n ≤ 64) : perm_degree.f n = some 0 := by
  unfold perm_degree.f
  rw [if_neg (by omega), if_neg (by omega)]
theorem degree_bad (n : Int) (h : n < 1 ∨ 64 < n) : perm_degree.f n = some 4 := by
  unfold perm_degree.f
  by_cases h1 : n < 1
  · rw [if_pos h1]
  rw [if_neg h1, if_pos (by omega)]
theorem check_bad (A0 : Option Addr) (c0 : Nat) (l0 : List Int) (w : World) (hr0 : Kd.C (Kd.int .i64) w A0 l0.length l0) (hb : l0.length < 1 ∨ 64 < l0.length) :
    Calls Try.prog 16 #[.slice A0 l0.length c0] w fun e w' => e = .returned (.int .i64 4) ∧ Below w.heap.size w w' := by
  have hd := degree_bad l0.length (by omega)
  have HD := Aside0.mk hd
  clear hd hb hr0
  go_enter Try.func16, Try.ntmps16
  go_wp2_with (first
   | ((with_reducible refine gate_dst (N := 1) rfl ?_); refine box_event ?hg (N := 1) ?hd (cs := #[.slice A0 l0.length c0]) (t := 22) ?hr ?_; (case hd => rfl); (case hg => rfl); (case hr => first | (go_simp; done) | (go_simp; rfl)); intro g hgr w3 hbox3 hb3; have hz : w3.cell? ⟨g, 0, none⟩ = some (.slice A0 l0.length c0) := (blk_cell hbox3 0).trans rfl; have HB3 := Aside0.mk hb3; clear hgr hb3 hbox3)
   | (go_at_call 52; (with_reducible refine (perm_degree.calls l0.length 4 _ HD.out).mono ?_); rintro e w5 ⟨rfl, ⟨nd, rfl⟩⟩))
  go_ret
  exact ⟨rfl, pw_below_drewN HB3.out _⟩
theorem check_range (A0 : Option Addr) (c0 : Nat) (l0 : List Int) (w : World) (hr0 : Kd.C (Kd.int .i64) w A0 l0.length l0) (h1 : 1 ≤ l0.length) (h2 : l0.length ≤ 64) (ho : l0.any (outB l0.length) = true) :
    Calls Try.prog 16 #[.slice A0 l0.length c0] w fun e w' => e = .returned (.int .i64 6) ∧ Below w.heap.size w w' := by
  have HD := Aside0.mk (degree_ok l0.length (by omega) (by omega))
  have HO := Aside0.mk ho
  have HR := Aside0.mk hr0
  clear ho hr0
  go_enter Try.func16, Try.ntmps16
  go_wp2_with (first
   | ((with_reducible refine gate_dst (N := 1) rfl ?_); refine box_event ?hg (N := 1) ?hd (cs := #[.slice A0 l0.length c0]) (t := 22) ?hr ?_; (case hd => rfl); (case hg => rfl); (case hr => first | (go_simp; done) | (go_simp; rfl)); intro g hgr w3 hbox3 hb3; have hz : w3.cell? ⟨g, 0, none⟩ = some (.slice A0 l0.length c0) := (blk_cell hbox3 0).trans rfl; have HZ := Aside0.mk hz; have HB3 := Aside0.mk hb3; clear hgr hb3 hbox3)
   | (go_at_call 52; (with_reducible refine (perm_degree.calls l0.length 0 _ HD.out).mono ?_); rintro e w5 ⟨rfl, ⟨nd, rfl⟩⟩)
   | (go_at_call 53; (with_reducible refine (cont53_calls _ _ l0 g l0.length c0 A0 _ ?s1 ?s2).mono ?_); (case s1 => exact Kd.C_drewN (Kd.C_below HR.out HB3.out) _); (case s2 => exact HZ.out); rintro e w6 ⟨rfl, hd6⟩; rw [HO.out]; have HB6 := Aside0.mk (below_step (pw_below_drewN HB3.out nd) hd6.below); clear hd6))
  go_ret
  exact ⟨rfl, HB6.out⟩
theorem perm_Check.calls (A0 : Option Addr) (c0 : Nat) (l0 : List Int) (r : Int) (w : World) (hr0 : Kd.C (Kd.int .i64) w A0 l0.length l0) (hc0 : l0.length ≤ c0) (h : perm_Check.f l0 = some r) :
    Calls Try.prog 16 #[.slice A0 l0.length c0] w fun e w' => e = .returned (.int .i64 r) ∧ Below w.heap.size w w' := by
  unfold perm_Check.f at h
  obtain rfl := Option.some.inj h
  clear h
  unfold checkL
  by_cases hb : l0.length < 1 ∨ 64 < l0.length
  · rw [if_pos hb]
    exact check_bad A0 c0 l0 w hr0 hb
  rw [if_neg hb]
  have h1 : 1 ≤ l0.length := by omega
  have h2 : l0.length ≤ 64 := by omega
  clear hb
  cases ho : l0.any (outB l0.length) with
  | true =>
    rw [if_pos ((any_out l0).1 ho)]
    exact check_range A0 c0 l0 w hr0 h1 h2 ho
  | false =>
  have hno : ¬ ∃ x ∈ l0, x < 0 ∨ (l0.length : Int) ≤ x := fun h => by rw [(any_out l0).2 h] at ho; cases ho
  rw [if_neg hno]
  have HIN := Aside0.mk (show ∀ i : Int, 0 ≤ i → i < l0.length → 0 ≤ rd l0 i ∧ rd l0 i < l0.length from fun i a b => by
    have hm := rd_mem a b
    refine ⟨?_, ?_⟩
    · apply Classical.byContradiction; intro hc; exact hno ⟨_, hm, .inl (by omega)⟩
    · apply Classical.byContradiction; intro hc; exact hno ⟨_, hm, .inr (by omega)⟩)
  have HD := Aside0.mk (degree_ok l0.length (by omega) (by omega))
  have HO := Aside0.mk ho
  have HR := Aside0.mk hr0
  have HC := Aside0.mk hc0
  have HST := Aside0.mk (seen_start l0)
  clear ho hr0 hno hc0
  generalize hres : (if l0.Nodup then (0 : Int) else 18) = res
  have HRES := Aside0.mk hres
  clear hres
  go_enter Try.func16, Try.ntmps16
  go_wp2_with (first
   | ((with_reducible refine gate_dst (N := 1) rfl ?_); refine box_event ?hg (N := 1) ?hd (cs := #[.slice A0 l0.length c0]) (t := 22) ?hr ?_; (case hd => rfl); (case hg => rfl); (case hr => first | (go_simp; done) | (go_simp; rfl)); intro g hgr w3 hbox3 hb3; have hz : w3.cell? ⟨g, 0, none⟩ = some (.slice A0 l0.length c0) := (blk_cell hbox3 0).trans rfl; have HZ := Aside0.mk hz; have HB3 := Aside0.mk hb3; clear hgr hb3 hbox3)
   | (go_at_call 52; (with_reducible refine (perm_degree.calls l0.length 0 _ HD.out).mono ?_); rintro e w5 ⟨rfl, ⟨nd, rfl⟩⟩)
   | (go_at_call 53; (with_reducible refine (cont53_calls _ _ l0 g l0.length c0 A0 _ ?s1 ?s2).mono ?_); (case s1 => exact Kd.C_drewN (Kd.C_below HR.out HB3.out) _); (case s2 => exact HZ.out); rintro e w6 ⟨rfl, ⟨nd6, rfl⟩⟩; rw [HO.out])
   | ((with_reducible refine gate_dst (N := 18) rfl ?_); refine Kd.R_make Kd.bool _ 4 rfl (N := 18) rfl 83 _ _ rfl (l0.length : Int) rfl rfl Try.underlying83 (.bool false) 1 info4 rfl (by decide) (by omega) false (ok := fun _ => True) (okp := fun _ => True) rfl (fun _ hk => hk) trivial (by omega) (by omega) (Below.refl _ _) (Nat.le_refl _) ?_; intro v7 w7 ho7 hb7 hg_ hnew_; clear hg_ hnew_; rw [Int.toNat_natCast] at ho7; have HO7 := Aside0.mk (Kd.R_lower ho7 (show w.heap.size ≤ w3.heap.size from HB3.out.size)); have HB7 := Aside0.mk (below_step (pw_below_drewN HB3.out _) hb7); have hz7 := (hb7.cell (World.block_lt_of_cell? _ _ HZ.out)).trans HZ.out; clear ho7 hb7))
  go_loopg [21] l0.length (fun kq v21 w' => ∃ (i : Int) (sx : List Bool), v21 = .int .i64 i ∧ Aside0 (0 ≤ i) ∧ Aside0 (i.toNat + kq = l0.length) ∧ Aside0 (SeenOk l0 i sx) ∧ Aside0 (Kd.R Kd.bool 4 w' w.heap.size (fun _ => True) v7 sx) ∧ Aside0 (Below w.heap.size w w'))
  case atStart => exact ⟨0, _, rfl, ⟨by omega⟩, ⟨by simp⟩, HST, HO7, HB7⟩
  case round =>
    clear HO7 HB7 hz7 hz; obtain ⟨i, sx, rfl, HI0, HI1, HS, HO7, HB7⟩ := hrel; have i0 := HI0.out
    by_cases d1 : i < (l0.length : Int)
    · have d1b : decide (i < (l0.length : Int)) = true := decide_eq_true d1; have q0 := eq_true i0; have q1 := eq_true d1; obtain ⟨ad, ea, hx1⟩ := Kd.at_int HR.out i i0 d1
      cases ea; replace hx1 := (HB7.out.cell (World.block_lt_of_cell? w _ hx1)).trans hx1; obtain ⟨x0, x1⟩ := HIN.out i i0 d1; have hsl := HS.out.1; have x2 : rd l0 i < (sx.length : Int) := by omega
      obtain ⟨go, co, eo, gb, gl, cl, HG⟩ := Kd.R_form HO7.out (by omega); subst eo; obtain ⟨hx2, hf2⟩ := Kd.R_celln false HO7.out (rd l0 i) x0 x2; have GB := Aside0.mk gb; have HSL := Aside0.mk hsl; have p0 := eq_true x0; have p2 := eq_true x2; clear gb gl HG hsl
      cases hb : rdOf false sx (rd l0 i) with
      | true =>
        rw [hb] at hx2; have HBo := Aside0.mk hb; clear hb; go_wp2; go_ret
        exact ⟨by rw [← HRES.out, if_neg (seen_dup HS.out i0 d1 x0 x1 HBo.out)]; rfl, HB7.out⟩
      | false =>
        rw [hb] at hx2; have HBo := Aside0.mk hb; clear hb; have HP14 := Aside0.mk (Kd.R_putg HO7.out (rd l0 i) true); have HSn := Aside0.mk (seen_next HS.out i0 d1 x0 x1 HBo.out); go_wp2; obtain ⟨k1, rfl⟩ : ∃ m, gk = m + 1 := ⟨gk - 1, by have := HI1.out; omega⟩
        go_roundg k1
        case measure => omega
        case rel => exact ⟨i + 1, _, rfl, ⟨by have := HI0.out; omega⟩, ⟨by have := HI1.out; have := HI0.out; omega⟩, HSn, ⟨HP14.out.1⟩, ⟨below_set HB7.out GB.out⟩⟩
    have d1b : decide (i < (l0.length : Int)) = false := decide_eq_false d1; have hn := HS.out.2.1; rw [List.take_of_length_le (by omega)] at hn; have HN := Aside0.mk hn; clear hn; go_wp2; go_ret
    exact ⟨by rw [← HRES.out, if_pos HN.out]; rfl, HB7.out⟩
end
section
attribute [local go_sem] max2_int min2_int max_two min_two max_three min_three max_four min_four
mutual
def perm_Compose.l0 : Nat → List (List Int) → List (List Int) → Int → Int → Option (List Int × Int)
  | 0, _, _, _, _ => none
  | k + 1, x0, x13, x14, x15 => if x15 < x14 then (if 0 ≤ x15 then (if x15 < (x13.length : Int) then ((perm_Check.f (rd_L1 x13 x15)).bind fun t112 => (if t112 = 0 then (perm_Compose.l0 k x0 x13 x14 (wrap64 (x15 + 1))) else (some (([] : List Int), t112)))) else (none)) else (none)) else (if 0 < (x0.length : Int) then ((perm_identity.f k ((rd_L1 x0 0).length : Int)).bind fun t114 => (perm_Compose.l1 k t114 x0 (x0.length : Int) 0)) else (none))
def perm_Compose.l1 : Nat → List Int → List (List Int) → Int → Int → Option (List Int × Int)
  | 0, _, _, _, _ => none
  | k + 1, x7, x30, x31, x32 => if x32 < x31 then (if 0 ≤ x32 then (if x32 < (x30.length : Int) then (if ((rd_L1 x30 x32).length : Int) = (x7.length : Int) then ((perm_then.f k x7 (rd_L1 x30 x32)).bind fun t118 => (perm_Compose.l1 k t118 x30 x31 (wrap64 (x32 + 1)))) else (some (([] : List Int), 10))) else (none)) else (none)) else (some (x7, 0))
end
def perm_Compose.f (k : Nat) (l0 : List (List Int)) : Option (List Int × Int) := if (l0.length : Int) = 0 then (some (([] : List Int), 11)) else (perm_Compose.l0 k l0 l0 (l0.length : Int) 0)
theorem perm_Compose.calls (k : Nat) (A0 : Option Addr) (c0 : Nat) (l0 : List (List Int)) (r1 : List Int) (r2 : Int) (w : World) (hr0 : Kd.C (Kd.slice 3 (Kd.int .i64)) w A0 l0.length l0) (hc0 : l0.length ≤ c0) (h : perm_Compose.f k l0 = some (r1, r2)) :
    Calls Try.prog 13 #[.slice A0 l0.length c0] w fun e w' => ∃ v0_ : Value, e = .returned (.tuple #[v0_, .int .i64 r2]) ∧ Kd.R (Kd.int .i64) 3 w' w.heap.size (fun _ => True) v0_ r1 ∧ Below w.heap.size w w' := by
  have HR0 := Aside0.mk hr0
  have HC0 := Aside0.mk hc0
  clear hr0 hc0
  have HB := Aside0.mk (Below.refl w.heap.size w)
  have H : (if (l0.length : Int) = 0 then (some (([] : List Int), 11)) else (perm_Compose.l0 k l0 l0 (l0.length : Int) 0)) = some (r1, r2) := h
  clear h
  by_cases c2 : (l0.length : Int) = 0
  · rw [if_pos c2] at H
    have c2b0 : ((l0.length : Int) == 0) = true := beq_iff_eq.mpr c2; have c2b1 : ((l0.length : Int) != 0) = false := bne_eq_false_iff_eq.mpr c2; clear c2; simp only [Option.some.injEq, Prod.mk.injEq] at H; obtain ⟨rfl, rfl⟩ := H
    go_enter Try.func13, Try.ntmps13
    go_wp2
    go_ret2
    exact ⟨_, by first | rfl | (simp [errW_none, errW_some] <;> rfl) | (simp [*, errW_none, errW_some] <;> rfl), by first | exact Kd.R_nil _ _ _ _ _ | exact Kd.N_nil _ _ _ _ _ | exact Kd.V_nil _ _ _ _ _ | exact Kd.Q_nil _ _ _ _ _ | exact Kd.S_nil _ _ _ _ _, by repeat (first | (with_reducible first | exact HB.out | apply below_alloc | apply pw_below_drewN | apply below_drew1) | exact HB.out)⟩
  rw [if_neg c2] at H
  have c2b0 : ((l0.length : Int) == 0) = false := beq_eq_false_iff_ne.mpr c2
  have c2b1 : ((l0.length : Int) != 0) = true := bne_iff_ne.mpr c2
  have c2b2 : ¬ (l0 = []) := fun h_ => c2 (by rw [h_]; rfl)
  have H' := Aside0.mk H
  clear H
  go_enter Try.func13, Try.ntmps13
  go_wp2
  go_loopg [15] k (fun kq v15 w' => ∃ (x15_1 : Int), v15 = .int .i64 x15_1 ∧ Aside0 (perm_Compose.l0 kq l0 l0 (l0.length : Int) x15_1 = some (r1, r2)) ∧ Aside0 (kq ≤ k) ∧ Aside0 (Below w.heap.size w w'))
  case atStart => exact ⟨(0), zz125, H', ⟨Nat.le_refl _⟩, ⟨zz100⟩⟩
  case round =>
    clear H'; (try clear c1); (try clear c2); (try clear c2b0); (try clear c2b1); (try clear c2b2); (try clear p2); obtain ⟨x15_1, rfl, HA, HK1, HB⟩ := hrel
    cases gk with
    | zero => exact absurd HA.out (by simp [perm_Compose.l0])
    | succ k1 =>
      have H := HA.out; clear HA; simp only [perm_Compose.l0] at H
      by_cases c3 : x15_1 < (l0.length : Int)
      · rw [if_pos c3] at H; have c3b0 : decide (x15_1 < (l0.length : Int)) = true := decide_eq_true c3; clear c3
        by_cases c4 : 0 ≤ x15_1
        · rw [if_pos c4] at H; have c4b0 : decide (0 ≤ x15_1) = true := decide_eq_true c4; clear c4
          by_cases c5 : x15_1 < (l0.length : Int)
          · rw [if_pos c5] at H; have c5b0 : decide (x15_1 < (l0.length : Int)) = true := decide_eq_true c5; clear c5; replace H := Option.bind_eq_some_iff.mp H; obtain ⟨t112, A60, H⟩ := H; replace H : (if t112 = 0 then (perm_Compose.l0 k1 l0 l0 (l0.length : Int) (wrap64 (x15_1 + 1))) else (some (([] : List Int), t112))) = some (r1, r2) := H; have A6 := Aside0.mk A60; clear A60
            by_cases c7 : t112 = 0
            · rw [if_pos c7] at H; have c7b0 : (t112 == 0) = true := beq_iff_eq.mpr c7; have c7b1 : (t112 != 0) = false := bne_eq_false_iff_eq.mpr c7; clear c7; have H' := Aside0.mk H; clear H; have p111 : 0 ≤ (x15_1 : Int) := of_decide_eq_true zz123; have q111 : x15_1 < (l0.length : Int) := of_decide_eq_true zz123; obtain ⟨ad111, A111_0, c111_0, e111, hx111_0, hl111_0, hi111_0⟩ := at_L1 HR0.out x15_1 p111 q111
              cases e111; replace hx111_0 := (HB.out.cell (World.block_lt_of_cell? w _ hx111_0)).trans hx111_0; have HR111_0 := Aside0.mk hi111_0; have HC111_0 := Aside0.mk hl111_0; clear hi111_0 hl111_0; replace p111 := eq_true p111; replace q111 := eq_true q111
              go_wp2_with (first | ((with_reducible refine gate_callee (f := 16) rfl ?_); refine goesL_ (some 20) rfl rfl Try.func16 (by kernel_rfl) rfl #[.slice A111_0 (rd_L1 l0 x15_1).length c111_0] rfl zz99 ?_; (with_reducible refine (perm_Check.calls _ _ (rd_L1 l0 x15_1) t112 _ ?side1 ?side2 A6.out).mono ?_); (case side1 => repeat (first | exact (Kd.C_below HR111_0.out HB.out) | (with_reducible refine Kd.C_alloc ?_ _) | (with_reducible refine Kd.C_drewN ?_ _) | (with_reducible refine Kd.C_drew ?_))); (case side2 => exact HC111_0.out); rintro e w8 ⟨rfl, hb⟩; refine ⟨_, rfl, ?_⟩; replace HB := Aside0.mk (below_step zz100 hb); (try clear hb); (try clear hb2); (try clear hk); (try clear hi)))
              go_roundg k1
              case measure => have := HK1.out; omega
              case rel => exact ⟨(wrap64 (x15_1 + 1)), zz125, H', ⟨zz131⟩, ⟨zz100⟩⟩
            rw [if_neg c7] at H; have c7b0 : (t112 == 0) = false := beq_eq_false_iff_ne.mpr c7; have c7b1 : (t112 != 0) = true := bne_iff_ne.mpr c7; simp only [Option.some.injEq, Prod.mk.injEq] at H; obtain ⟨rfl, rfl⟩ := H; have p111 : 0 ≤ (x15_1 : Int) := of_decide_eq_true zz123; have q111 : x15_1 < (l0.length : Int) := of_decide_eq_true zz123; obtain ⟨ad111, A111_0, c111_0, e111, hx111_0, hl111_0, hi111_0⟩ := at_L1 HR0.out x15_1 p111 q111
            cases e111; replace hx111_0 := (HB.out.cell (World.block_lt_of_cell? w _ hx111_0)).trans hx111_0; have HR111_0 := Aside0.mk hi111_0; have HC111_0 := Aside0.mk hl111_0; clear hi111_0 hl111_0; replace p111 := eq_true p111; replace q111 := eq_true q111
            go_wp2_with (first | ((with_reducible refine gate_callee (f := 16) rfl ?_); refine goesL_ (some 20) rfl rfl Try.func16 (by kernel_rfl) rfl #[.slice A111_0 (rd_L1 l0 x15_1).length c111_0] rfl zz99 ?_; (with_reducible refine (perm_Check.calls _ _ (rd_L1 l0 x15_1) t112 _ ?side1 ?side2 A6.out).mono ?_); (case side1 => repeat (first | exact (Kd.C_below HR111_0.out HB.out) | (with_reducible refine Kd.C_alloc ?_ _) | (with_reducible refine Kd.C_drewN ?_ _) | (with_reducible refine Kd.C_drew ?_))); (case side2 => exact HC111_0.out); rintro e w9 ⟨rfl, hb⟩; refine ⟨_, rfl, ?_⟩; replace HB := Aside0.mk (below_step zz100 hb); (try clear hb); (try clear hb2); (try clear hk); (try clear hi)))
            go_ret2
            exact ⟨_, by first | rfl | (simp [errW_none, errW_some] <;> rfl) | (simp [*, errW_none, errW_some] <;> rfl), by first | exact Kd.R_nil _ _ _ _ _ | exact Kd.N_nil _ _ _ _ _ | exact Kd.V_nil _ _ _ _ _ | exact Kd.Q_nil _ _ _ _ _ | exact Kd.S_nil _ _ _ _ _, by repeat (first | (with_reducible first | exact HB.out | apply below_alloc | apply pw_below_drewN | apply below_drew1) | exact HB.out)⟩
          rw [if_neg c5] at H
          exact absurd H (by simp)
        rw [if_neg c4] at H
        exact absurd H (by simp)
      rw [if_neg c3] at H; have c3b0 : decide (x15_1 < (l0.length : Int)) = false := decide_eq_false c3; clear c3
      by_cases c10 : 0 < (l0.length : Int)
      · rw [if_pos c10] at H; have c10b0 : decide (0 < (l0.length : Int)) = true := decide_eq_true c10; have c10b1 : decide (0 < l0.length) = true := decide_eq_true (by omega); clear c10; replace H := Option.bind_eq_some_iff.mp H; obtain ⟨t114, A110, H⟩ := H; replace H : (perm_Compose.l1 k1 t114 l0 (l0.length : Int) 0) = some (r1, r2) := H; have A11 := Aside0.mk A110; clear A110; have H' := Aside0.mk H; clear H; have p113 : 0 ≤ (0 : Int) := (by omega); have q113 : 0 < (l0.length : Int) := of_decide_eq_true zz123; obtain ⟨ad113, A113_0, c113_0, e113, hx113_0, hl113_0, hi113_0⟩ := at_L1 HR0.out 0 p113 q113
        cases e113; have qi113 : (0 < l0.length) = True := eq_true (by omega)
        (try rw [show ((0 : Int)).toNat = 0 from rfl] at hx113_0)
        (try rw [Addr.add_zero'] at hx113_0)
        replace hx113_0 := (HB.out.cell (World.block_lt_of_cell? w _ hx113_0)).trans hx113_0; have HR113_0 := Aside0.mk hi113_0; have HC113_0 := Aside0.mk hl113_0; clear hi113_0 hl113_0; replace p113 := eq_true p113; replace q113 := eq_true q113
        go_wp2_with (first | ((with_reducible refine gate_callee (f := 49) rfl ?_); refine goesL_ (some 29) rfl rfl Try.func49 (by kernel_rfl) rfl #[.int .i64 ((rd_L1 l0 0).length : Int)] rfl zz99 ?_; (with_reducible refine (perm_identity.calls k1 ((rd_L1 l0 0).length : Int) t114 _ A11.out).mono ?_); rintro e w12 ⟨v115, rfl, ho0, hb⟩; refine ⟨_, rfl, ?_⟩; have HO116 := Aside0.mk (Kd.R_lower ho0 (below_size zz100)); replace HB := Aside0.mk (below_step zz100 hb); (try clear hb); (try clear hb2); (try clear hk); (try clear hi); (try clear ho0)))
        go_loopg [7, 32] k1 (fun kq v7 v32 w' => ∃ (x7_2 : List Int) (x32_2 : Int), v32 = .int .i64 x32_2 ∧ Aside0 (perm_Compose.l1 kq x7_2 l0 (l0.length : Int) x32_2 = some (r1, r2)) ∧ Aside0 (kq ≤ k1) ∧ Aside0 (Kd.R (Kd.int .i64) 3 w' w.heap.size (fun _ => True) v7 x7_2) ∧ Aside0 (Below w.heap.size w w'))
        case atStart => exact ⟨(t114), (0), zz125, H', ⟨Nat.le_refl _⟩, ⟨(zR HO116)⟩, ⟨zz100⟩⟩
        case round =>
          clear H'; (try clear c1); (try clear p1); (try clear q1); (try clear hx1); (try clear qi1); (try clear c2); (try clear c2b0); (try clear c2b1); (try clear c2b2); (try clear p2); (try clear c3); (try clear c3b0); (try clear c4); (try clear c4b0); (try clear c5); (try clear c5b0); (try clear p6); (try clear c7); (try clear c7b0); (try clear c7b1); (try clear c10); (try clear c10b0); (try clear c10b1); (try clear c11); (try clear p11); (try clear q11); (try clear hx11); (try clear qi11); (try clear hx111_0); (try clear hx113_0); (try clear p111); (try clear p113); (try clear p2); (try clear q111); (try clear q113); obtain ⟨x7_2, x32_2, rfl, HA, HK2, HO_7, HB⟩ := hrel
          cases gk with
          | zero => exact absurd HA.out (by simp [perm_Compose.l1])
          | succ k2 =>
            have H := HA.out; clear HA; simp only [perm_Compose.l1] at H
            by_cases c13 : x32_2 < (l0.length : Int)
            · rw [if_pos c13] at H; have c13b0 : decide (x32_2 < (l0.length : Int)) = true := decide_eq_true c13; clear c13
              by_cases c14 : 0 ≤ x32_2
              · rw [if_pos c14] at H; have c14b0 : decide (0 ≤ x32_2) = true := decide_eq_true c14; clear c14
                by_cases c15 : x32_2 < (l0.length : Int)
                · rw [if_pos c15] at H; have c15b0 : decide (x32_2 < (l0.length : Int)) = true := decide_eq_true c15; clear c15
                  by_cases c16 : ((rd_L1 l0 x32_2).length : Int) = (x7_2.length : Int)
                  · rw [if_pos c16] at H; have c16b0 : (((rd_L1 l0 x32_2).length : Int) == (x7_2.length : Int)) = true := beq_iff_eq.mpr c16; have c16b1 : (((rd_L1 l0 x32_2).length : Int) != (x7_2.length : Int)) = false := bne_eq_false_iff_eq.mpr c16; have c16b2 : ((rd_L1 l0 x32_2).length == x7_2.length) = true := by first | simpa using c16 | (simp at c16 ⊢; omega)
                    clear c16; replace H := Option.bind_eq_some_iff.mp H; obtain ⟨t118, A170, H⟩ := H; replace H : (perm_Compose.l1 k2 t118 l0 (l0.length : Int) (wrap64 (x32_2 + 1))) = some (r1, r2) := H; have A17 := Aside0.mk A170; clear A170; have H' := Aside0.mk H; clear H; have p117 : 0 ≤ (x32_2 : Int) := of_decide_eq_true zz123; have q117 : x32_2 < (l0.length : Int) := of_decide_eq_true zz123; obtain ⟨ad117, A117_0, c117_0, e117, hx117_0, hl117_0, hi117_0⟩ := at_L1 HR0.out x32_2 p117 q117; obtain rfl : ad113 = ad117 := (by injection e117); replace hx117_0 := (HB.out.cell (World.block_lt_of_cell? w _ hx117_0)).trans hx117_0; have HR117_0 := Aside0.mk hi117_0; have HC117_0 := Aside0.mk hl117_0; clear hi117_0 hl117_0; replace p117 := eq_true p117; replace q117 := eq_true q117; obtain ⟨Ao18, co18, eo18⟩ := Kd.R_slice HO_7.out; subst eo18
                    go_wp2_with (first | ((with_reducible refine gate_callee (f := 50) rfl ?_); refine goesL_ (some 43) rfl rfl Try.func50 (by kernel_rfl) rfl #[.slice Ao18 x7_2.length co18, .slice A117_0 (rd_L1 l0 x32_2).length c117_0] rfl zz99 ?_; (with_reducible refine (perm_then.calls k2 _ _ x7_2 _ _ (rd_L1 l0 x32_2) t118 _ ?side1 ?side2 ?side3 ?side4 A17.out).mono ?_); (case side1 => repeat (first | exact (Kd.R_reads' HO_7.out).2.2 | (with_reducible refine Kd.C_alloc ?_ _) | (with_reducible refine Kd.C_drewN ?_ _) | (with_reducible refine Kd.C_drew ?_))); (case side2 => exact (Kd.R_reads' HO_7.out).2.1); (case side3 => repeat (first | exact (Kd.C_below HR117_0.out HB.out) | (with_reducible refine Kd.C_alloc ?_ _) | (with_reducible refine Kd.C_drewN ?_ _) | (with_reducible refine Kd.C_drew ?_))); (case side4 => exact HC117_0.out); rintro e w19 ⟨v119, rfl, ho0, hb⟩; refine ⟨_, rfl, ?_⟩; have HO120 := Aside0.mk (Kd.R_lower (Kd.R_new' ho0 (Kd.R_lt (zR HO_7))) (below_size zz100)); replace HO_7 := Aside0.mk (Kd.R_elder' (zR HO_7) (Kd.R_base ho0) hb); replace HB := Aside0.mk (below_step zz100 hb); (try clear hb); (try clear hb2); (try clear hk); (try clear hi); (try clear ho0)))
                    go_roundg k2
                    case measure => have := HK1.out; have := HK2.out; omega
                    case rel => exact ⟨(t118), (wrap64 (x32_2 + 1)), zz125, H', ⟨zz127⟩, ⟨(by (with_reducible repeat (first | apply Kd.R_alloc | apply Kd.R_drewN | apply Kd.R_drew)); exact Kd.R_mono HO120.out (fun _ hk => trivial))⟩, ⟨zz100⟩⟩
                  rw [if_neg c16] at H; have c16b0 : (((rd_L1 l0 x32_2).length : Int) == (x7_2.length : Int)) = false := beq_eq_false_iff_ne.mpr c16; have c16b1 : (((rd_L1 l0 x32_2).length : Int) != (x7_2.length : Int)) = true := bne_iff_ne.mpr c16; have c16b2 : ((rd_L1 l0 x32_2).length == x7_2.length) = false := by first | simpa using c16 | (simp at c16 ⊢; omega)
                  simp only [Option.some.injEq, Prod.mk.injEq] at H; obtain ⟨rfl, rfl⟩ := H; have p117 : 0 ≤ (x32_2 : Int) := of_decide_eq_true zz123; have q117 : x32_2 < (l0.length : Int) := of_decide_eq_true zz123; obtain ⟨ad117, A117_0, c117_0, e117, hx117_0, hl117_0, hi117_0⟩ := at_L1 HR0.out x32_2 p117 q117; obtain rfl : ad113 = ad117 := (by injection e117); replace hx117_0 := (HB.out.cell (World.block_lt_of_cell? w _ hx117_0)).trans hx117_0; have HR117_0 := Aside0.mk hi117_0; have HC117_0 := Aside0.mk hl117_0; clear hi117_0 hl117_0; replace p117 := eq_true p117; replace q117 := eq_true q117; obtain ⟨Ao20, co20, eo20⟩ := Kd.R_slice HO_7.out; subst eo20; go_wp2
                  go_ret2
                  exact ⟨_, by first | rfl | (simp [errW_none, errW_some] <;> rfl) | (simp [*, errW_none, errW_some] <;> rfl), by first | exact Kd.R_nil _ _ _ _ _ | exact Kd.N_nil _ _ _ _ _ | exact Kd.V_nil _ _ _ _ _ | exact Kd.Q_nil _ _ _ _ _ | exact Kd.S_nil _ _ _ _ _, by repeat (first | (with_reducible first | exact HB.out | apply below_alloc | apply pw_below_drewN | apply below_drew1) | exact HB.out)⟩
                rw [if_neg c15] at H
                exact absurd H (by simp)
              rw [if_neg c14] at H
              exact absurd H (by simp)
            rw [if_neg c13] at H; have c13b0 : decide (x32_2 < (l0.length : Int)) = false := decide_eq_false c13; clear c13; simp only [Option.some.injEq, Prod.mk.injEq] at H; obtain ⟨rfl, rfl⟩ := H; go_wp2
            go_ret2
            exact ⟨_, by first | rfl | (simp [errW_none, errW_some] <;> rfl) | (simp [*, errW_none, errW_some] <;> rfl), by (with_reducible repeat (first | apply Kd.R_alloc | apply Kd.R_drewN | apply Kd.R_drew)); exact HO_7.out, by repeat (first | (with_reducible first | exact HB.out | apply below_alloc | apply pw_below_drewN | apply below_drew1) | exact HB.out)⟩
      rw [if_neg c10] at H
      exact absurd H (by simp)
end
section
attribute [local go_sem] max2_int min2_int max_two min_two max_three min_three max_four min_four
def perm_inverse.l0 : Nat → List Int → List Int → Int → Int → Option (List Int)
  | 0, _, _, _, _ => none
  | k + 1, x3, x9, x10, x11 => if x11 < x10 then (if 0 ≤ x11 then (if x11 < (x9.length : Int) then (if 0 ≤ (rd x9 x11) then (if (rd x9 x11) < (x3.length : Int) then (perm_inverse.l0 k (x3.set ((rd x9 x11) : Int).toNat x11) x9 x10 (wrap64 (x11 + 1))) else (none)) else (none)) else (none)) else (none)) else (some x3)
def perm_inverse.f (k : Nat) (l0 : List Int) : Option (List Int) := if 0 ≤ (l0.length : Int) then (if ((l0.length : Int) : Int).toNat ≤ 35184372088832 then (perm_inverse.l0 k (List.replicate ((l0.length : Int) : Int).toNat 0) l0 (l0.length : Int) 0) else (none)) else (none)
theorem perm_inverse.mono_l : ∀ k, (∀ y0 y1 y2 y3, LeO (perm_inverse.l0 k y0 y1 y2 y3) (perm_inverse.l0 (k + 1) y0 y1 y2 y3))
  | 0 => fun _ _ _ _ r h => by simp [perm_inverse.l0] at h
  | k + 1 => by
    have ih0 := perm_inverse.mono_l k
    · intro y0 y1 y2 y3
      unfold perm_inverse.l0
      repeat' first
      | (with_reducible exact ih0 _ _ _ _)
      | (with_reducible exact LeO.refl _)
      | (with_reducible exact LeO.none _)
      | (with_reducible refine LeO.ite ?_ ?_)
      | (with_reducible refine LeO.bind ?_ (fun _ => ?_))
theorem perm_inverse.mono : ∀ a0 k, LeO (perm_inverse.f k a0) (perm_inverse.f (k + 1) a0) := by
  intro a0 k
  have ih0 := perm_inverse.mono_l k
  unfold perm_inverse.f
  repeat' first
      | (with_reducible exact ih0 _ _ _ _)
      | (with_reducible exact LeO.refl _)
      | (with_reducible exact LeO.none _)
      | (with_reducible refine LeO.ite ?_ ?_)
      | (with_reducible refine LeO.bind ?_ (fun _ => ?_))
theorem perm_inverse.calls (k : Nat) (A0 : Option Addr) (c0 : Nat) (l0 : List Int) (r : List Int) (w : World) (hr0 : Kd.C (Kd.int .i64) w A0 l0.length l0) (hc0 : l0.length ≤ c0) (h : perm_inverse.f k l0 = some r) :
    Calls Try.prog 55 #[.slice A0 l0.length c0] w fun e w' => ∃ v0_ : Value, e = .returned (v0_) ∧ Kd.R (Kd.int .i64) 3 w' w.heap.size (fun _ => True) v0_ r ∧ Below w.heap.size w w' := by
  have HR0 := Aside0.mk hr0
  have HC0 := Aside0.mk hc0
  clear hr0 hc0
  have HB := Aside0.mk (Below.refl w.heap.size w)
  have H : (if 0 ≤ (l0.length : Int) then (if ((l0.length : Int) : Int).toNat ≤ 35184372088832 then (perm_inverse.l0 k (List.replicate ((l0.length : Int) : Int).toNat 0) l0 (l0.length : Int) 0) else (none)) else (none)) = some r := h
  clear h
  by_cases c2 : 0 ≤ (l0.length : Int)
  · rw [if_pos c2] at H
    have c2b0 := eq_true c2; have c2b1 : decide (0 ≤ (l0.length : Int)) = true := decide_eq_true c2; clear c2
    by_cases c3 : ((l0.length : Int) : Int).toNat ≤ 35184372088832
    · rw [if_pos c3] at H; have c3b0 := eq_true c3; have c3b1 : decide (((l0.length : Int) : Int).toNat ≤ 35184372088832) = true := decide_eq_true c3; clear c3; obtain ⟨y123, hy123⟩ : ∃ y_ : List Int, y_ = (List.replicate ((l0.length : Int) : Int).toNat 0) := ⟨_, rfl⟩; replace H : (perm_inverse.l0 k y123 l0 (l0.length : Int) 0) = some r := by first | (rw [hy123]; with_reducible exact H) | (have H2_ := (Option.bind_some _ _).symm.trans H; rw [hy123]; with_reducible exact H2_) | (have H2_ := (Option.bind_some _ _).symm.trans H; with_reducible exact H2_) | with_reducible exact H | (rw [hy123]; exact H) | exact H
      have Ny123 := Aside0.mk hy123; clear hy123; have H' := Aside0.mk H; clear H
      go_enter Try.func55, Try.ntmps55
      go_wp2_with (first | ((with_reducible refine gate_dst (N := 8) rfl ?_); refine Kd.R_make (Kd.int .i64) _ 3 rfl (N := 8) rfl 22 _ _ rfl (l0.length : Int) rfl rfl Try.underlying22 (.int .i64 0) 8 info3 rfl (by decide) (by omega) 0 (ok := fun _ => True) (okp := fun _ => True) rfl (fun _ hk => hk) trivial (of_decide_eq_true zz123) (Nat.le_trans (Nat.mul_le_mul_right _ (of_decide_eq_true zz123 : (l0.length : Int).toNat ≤ 35184372088832)) (by omega)) (Below.refl _ _) (Nat.le_refl _) ?_; intro v124 w4 ho5 hb hg_ hnew_; clear hg_ hnew_; (first | rw [← Ny123.out] at ho5 | (simp only [Int.reduceToNat] at ho5; rw [← Ny123.out] at ho5)); have HO125 := Aside0.mk (Kd.R_lower ho5 (below_size zz100)); replace HB := Aside0.mk (below_step zz100 hb); clear hb ho5))
      go_loopg [11] k (fun kq v11 w' => ∃ (x3_1 : List Int) (x11_1 : Int), v11 = .int .i64 x11_1 ∧ Aside0 (perm_inverse.l0 kq x3_1 l0 (l0.length : Int) x11_1 = some r) ∧ Aside0 (kq ≤ k) ∧ Aside0 (Kd.R (Kd.int .i64) 3 w' w.heap.size (fun _ => True) v124 x3_1) ∧ Aside0 (Below w.heap.size w w'))
      case atStart => exact ⟨(y123), (0), zz125, H', ⟨Nat.le_refl _⟩, ⟨(zR HO125)⟩, ⟨zz100⟩⟩
      case round =>
        clear H'; (try clear c2); (try clear c2b0); (try clear c2b1); (try clear p2); (try clear c3); (try clear c3b0); (try clear c3b1); (try clear c5); obtain ⟨x3_1, x11_1, rfl, HA, HK1, HO_3, HB⟩ := hrel
        cases gk with
        | zero => exact absurd HA.out (by simp [perm_inverse.l0])
        | succ k1 =>
          have H := HA.out; clear HA; simp only [perm_inverse.l0] at H
          by_cases c6 : x11_1 < (l0.length : Int)
          · rw [if_pos c6] at H; have c6b0 : decide (x11_1 < (l0.length : Int)) = true := decide_eq_true c6; clear c6
            by_cases c7 : 0 ≤ x11_1
            · rw [if_pos c7] at H; have c7b0 : decide (0 ≤ x11_1) = true := decide_eq_true c7; clear c7
              by_cases c8 : x11_1 < (l0.length : Int)
              · rw [if_pos c8] at H; have c8b0 : decide (x11_1 < (l0.length : Int)) = true := decide_eq_true c8; clear c8
                by_cases c9 : 0 ≤ (rd l0 x11_1)
                · rw [if_pos c9] at H; have c9b0 : decide (0 ≤ (rd l0 x11_1)) = true := decide_eq_true c9; clear c9
                  by_cases c10 : (rd l0 x11_1) < (x3_1.length : Int)
                  · rw [if_pos c10] at H; have c10b0 : decide ((rd l0 x11_1) < (x3_1.length : Int)) = true := decide_eq_true c10; clear c10; obtain ⟨y127, hy127⟩ : ∃ y_ : List Int, y_ = (x3_1.set ((rd l0 x11_1) : Int).toNat x11_1) := ⟨_, rfl⟩; replace H : (perm_inverse.l0 k1 y127 l0 (l0.length : Int) (wrap64 (x11_1 + 1))) = some r := by first | (rw [hy127]; with_reducible exact H) | (have H2_ := (Option.bind_some _ _).symm.trans H; rw [hy127]; with_reducible exact H2_) | (have H2_ := (Option.bind_some _ _).symm.trans H; with_reducible exact H2_) | with_reducible exact H | (rw [hy127]; exact H) | exact H
                    have Ny127 := Aside0.mk hy127; clear hy127; have H' := Aside0.mk H; clear H; have p126 : 0 ≤ (x11_1 : Int) := of_decide_eq_true zz123; have q126 : x11_1 < (l0.length : Int) := of_decide_eq_true zz123; obtain ⟨ad126, e126, hx126_0⟩ := Kd.at_int HR0.out x11_1 p126 q126
                    cases e126; replace hx126_0 := (HB.out.cell (World.block_lt_of_cell? w _ hx126_0)).trans hx126_0; replace p126 := eq_true p126; replace q126 := eq_true q126; have p11 : 0 ≤ ((rd l0 x11_1) : Int) := of_decide_eq_true zz123; have q11 : ((rd l0 x11_1) : Int) < ((x3_1.length : Int) : Int) := of_decide_eq_true zz123; obtain ⟨go11, co11, eo11, gb11, gl11, cl11, HG11⟩ := Kd.R_form HO_3.out (by omega)
                    (first | cases eo11 | (injection eo11 with ea_ en_ ec_; (first | subst ea_ | (injection ea_ with ea_; subst ea_)); subst ec_; clear en_))
                    have GB11 := Aside0.mk gb11; have GG11 := Aside0.mk HG11; clear gb11 gl11 HG11; obtain ⟨hx11_0, hf11_0⟩ := Kd.R_celln 0 HO_3.out ((rd l0 x11_1) : Int) p11 q11; replace p11 := eq_true p11; replace q11 := eq_true q11; have HP12 := Kd.R_putg HO_3.out ((rd l0 x11_1) : Int) x11_1
                    go_wp2_with (first | ((with_reducible refine gate_store (t := 3) (p := 19) rfl ?_); refine store_event (t := 3) (p := 19) (v := ?vo_w13) (w1 := (wr.setCell ⟨go11, ((rd l0 x11_1) : Int).toNat, none⟩ (.int .i64 x11_1))) ?hg ?ho ?hn ?hr ?_; (case ho => rfl); (case hg => rfl); (case hn => rfl); (case hr => first | (go_simp; done) | (go_simp; rfl)); intro w13 hw; have hg : wr.grownBy w13 (some go11) := (by rw [hw]; exact HP12.2); have hp_ : Kd.R (Kd.int .i64) 3 w13 w.heap.size (fun _ => True) (.slice (some ⟨go11, 0, none⟩) x3_1.length co11) y127 := (by rw [hw, Ny127.out]; exact HP12.1); clear HP12; replace HO_3 := Aside0.mk (hp_); replace HB := Aside0.mk ((by rw [hw]; exact below_set (HB.out) GB11.out : Below w.heap.size w w13)); clear hg hw hp_))
                    go_roundg k1
                    case measure => have := HK1.out; omega
                    case rel => exact ⟨(y127), (wrap64 (x11_1 + 1)), zz125, H', ⟨zz131⟩, ⟨(zR HO_3)⟩, ⟨zz100⟩⟩
                  rw [if_neg c10] at H
                  exact absurd H (by simp)
                rw [if_neg c9] at H
                exact absurd H (by simp)
              rw [if_neg c8] at H
              exact absurd H (by simp)
            rw [if_neg c7] at H
            exact absurd H (by simp)
          rw [if_neg c6] at H; have c6b0 : decide (x11_1 < (l0.length : Int)) = false := decide_eq_false c6; clear c6; obtain rfl := Option.some.inj H; go_wp2; go_ret
          exact ⟨_, by first | rfl | (simp [errW_none, errW_some] <;> rfl) | (simp [*, errW_none, errW_some] <;> rfl), by (with_reducible repeat (first | apply Kd.R_alloc | apply Kd.R_drewN | apply Kd.R_drew)); exact HO_3.out, by repeat (first | (with_reducible first | exact HB.out | apply below_alloc | apply pw_below_drewN | apply below_drew1) | exact HB.out)⟩
    rw [if_neg c3] at H
    exact absurd H (by simp)
  rw [if_neg c2] at H
  exact absurd H (by simp)
end
section
attribute [local go_sem] max2_int min2_int max_two min_two max_three min_three max_four min_four
def perm_Inverse.f (k : Nat) (l0 : List Int) : Option (List Int × Int) := (perm_Check.f l0).bind fun t128 => (if t128 = 0 then ((perm_inverse.f k l0).bind fun t129 => (some (t129, 0))) else (some (([] : List Int), t128)))
theorem perm_Inverse.calls (k : Nat) (A0 : Option Addr) (c0 : Nat) (l0 : List Int) (r1 : List Int) (r2 : Int) (w : World) (hr0 : Kd.C (Kd.int .i64) w A0 l0.length l0) (hc0 : l0.length ≤ c0) (h : perm_Inverse.f k l0 = some (r1, r2)) :
    Calls Try.prog 18 #[.slice A0 l0.length c0] w fun e w' => ∃ v0_ : Value, e = .returned (.tuple #[v0_, .int .i64 r2]) ∧ Kd.R (Kd.int .i64) 3 w' w.heap.size (fun _ => True) v0_ r1 ∧ Below w.heap.size w w' := by
  have HR0 := Aside0.mk hr0
  have HC0 := Aside0.mk hc0
  clear hr0 hc0
  have HB := Aside0.mk (Below.refl w.heap.size w)
  have H : ((perm_Check.f l0).bind fun t128 => (if t128 = 0 then ((perm_inverse.f k l0).bind fun t129 => (some (t129, 0))) else (some (([] : List Int), t128)))) = some (r1, r2) := h
  clear h
  replace H := Option.bind_eq_some_iff.mp H
  obtain ⟨t128, A20, H⟩ := H
  replace H : (if t128 = 0 then ((perm_inverse.f k l0).bind fun t129 => (some (t129, 0))) else (some (([] : List Int), t128))) = some (r1, r2) := H
  have A2 := Aside0.mk A20
  clear A20
  by_cases c3 : t128 = 0
  · rw [if_pos c3] at H
    have c3b0 : (t128 == 0) = true := beq_iff_eq.mpr c3; have c3b1 : (t128 != 0) = false := bne_eq_false_iff_eq.mpr c3; clear c3; replace H := Option.bind_eq_some_iff.mp H; obtain ⟨t129, A40, H⟩ := H; replace H : (some (t129, 0)) = some (r1, r2) := H; have A4 := Aside0.mk A40; clear A40; simp only [Option.some.injEq, Prod.mk.injEq] at H; obtain ⟨rfl, rfl⟩ := H
    go_enter Try.func18, Try.ntmps18
    go_wp2_with (first | ((with_reducible refine gate_callee (f := 16) rfl ?_); refine goesL_ (some 6) rfl rfl Try.func16 (by kernel_rfl) rfl #[.slice A0 l0.length c0] rfl zz99 ?_; (with_reducible refine (perm_Check.calls _ _ l0 t128 _ ?side1 ?side2 A2.out).mono ?_); (case side1 => repeat (first | exact HR0.out | (with_reducible refine Kd.C_alloc ?_ _) | (with_reducible refine Kd.C_drewN ?_ _) | (with_reducible refine Kd.C_drew ?_))); (case side2 => exact HC0.out); rintro e w5 ⟨rfl, hb⟩; refine ⟨_, rfl, ?_⟩; replace HB := Aside0.mk (below_step zz100 hb); (try clear hb); (try clear hb2); (try clear hk); (try clear hi)) | ((with_reducible refine gate_callee (f := 55) rfl ?_); refine goesL_ (some 11) rfl rfl Try.func55 (by kernel_rfl) rfl #[.slice A0 l0.length c0] rfl zz99 ?_; (with_reducible refine (perm_inverse.calls k _ _ l0 t129 _ ?side1 ?side2 A4.out).mono ?_); (case side1 => repeat (first | exact (Kd.C_below HR0.out HB.out) | (with_reducible refine Kd.C_alloc ?_ _) | (with_reducible refine Kd.C_drewN ?_ _) | (with_reducible refine Kd.C_drew ?_))); (case side2 => exact HC0.out); rintro e w6 ⟨v130, rfl, ho0, hb⟩; refine ⟨_, rfl, ?_⟩; have HO131 := Aside0.mk (Kd.R_lower ho0 (below_size zz100)); replace HB := Aside0.mk (below_step zz100 hb); (try clear hb); (try clear hb2); (try clear hk); (try clear hi); (try clear ho0)))
    go_ret2
    exact ⟨_, by first | rfl | (simp [errW_none, errW_some] <;> rfl) | (simp [*, errW_none, errW_some] <;> rfl), by (with_reducible repeat (first | apply Kd.R_alloc | apply Kd.R_drewN | apply Kd.R_drew)); exact HO131.out, by repeat (first | (with_reducible first | exact HB.out | apply below_alloc | apply pw_below_drewN | apply below_drew1) | exact HB.out)⟩
  rw [if_neg c3] at H
  have c3b0 : (t128 == 0) = false := beq_eq_false_iff_ne.mpr c3
  have c3b1 : (t128 != 0) = true := bne_iff_ne.mpr c3
  simp only [Option.some.injEq, Prod.mk.injEq] at H
  obtain ⟨rfl, rfl⟩ := H
  go_enter Try.func18, Try.ntmps18
  go_wp2_with (first | ((with_reducible refine gate_callee (f := 16) rfl ?_); refine goesL_ (some 6) rfl rfl Try.func16 (by kernel_rfl) rfl #[.slice A0 l0.length c0] rfl zz99 ?_; (with_reducible refine (perm_Check.calls _ _ l0 t128 _ ?side1 ?side2 A2.out).mono ?_); (case side1 => repeat (first | exact HR0.out | (with_reducible refine Kd.C_alloc ?_ _) | (with_reducible refine Kd.C_drewN ?_ _) | (with_reducible refine Kd.C_drew ?_))); (case side2 => exact HC0.out); rintro e w7 ⟨rfl, hb⟩; refine ⟨_, rfl, ?_⟩; replace HB := Aside0.mk (below_step zz100 hb); (try clear hb); (try clear hb2); (try clear hk); (try clear hi)))
  go_ret2
  exact ⟨_, by first | rfl | (simp [errW_none, errW_some] <;> rfl) | (simp [*, errW_none, errW_some] <;> rfl), by first | exact Kd.R_nil _ _ _ _ _ | exact Kd.N_nil _ _ _ _ _ | exact Kd.V_nil _ _ _ _ _ | exact Kd.Q_nil _ _ _ _ _ | exact Kd.S_nil _ _ _ _ _, by repeat (first | (with_reducible first | exact HB.out | apply below_alloc | apply pw_below_drewN | apply below_drew1) | exact HB.out)⟩
end
end Go.Proofs.Ytjjlhbgpdncpcaa.P
