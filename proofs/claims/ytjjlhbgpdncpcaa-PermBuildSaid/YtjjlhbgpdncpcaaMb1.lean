/- What the claim's theorem is built on, part 1: words, walks of the code, and what they tell. -/
import Derived.Test.YtjjlhbgpdncpcaaProg
import Derived.Below
import Derived.Deep.Draws
import Derived.Deep.AppendLies
import Derived.Maps.AppendAt
import Derived.OwnWalk
import Derived.Laws.BytesArg
import Derived.Laws.MakeOwn
import Derived.Laws.OwnMore
import Derived.Deep.OwnRows
import Derived.Tactics
import Derived.Lib.ConvBytes
import Derived.Laws.Slices
import Derived.WalkKit
import Derived.KernelRfl
import Derived.RowKit3
import Derived.Deep.LoopGhost
import Derived.Deep.QuietTactic
import Derived.BigQuiet
import Derived.WideLaws
import Derived.Deep.DeepCutAuto
import Derived.Deep.CutBlock
import Derived.Deep.RegionHeld3
import Derived.Laws.Rows
import Derived.Lib.AppendStr
import Derived.ArgAppend
import Derived.Laws.IdiomCopy
import Derived.OrdersHeld
import Derived.Laws.BitsLemmas
import Derived.RowKit
import Derived.Test.YtjjlhbgpdncpcaaMb0
namespace Go.Proofs.Ytjjlhbgpdncpcaa.P
open Go.RowKit Go.Proofs.YtjjlhbgpdncpcaaW.PrintWords Go.Proofs.YtjjlhbgpdncpcaaW.PrintLast Go.Proofs.YtjjlhbgpdncpcaaW.PrintMore
set_option linter.unusedVariables false
set_option linter.unusedSimpArgs false
set_option maxHeartbeats 8000000
set_option maxRecDepth 100000
section
attribute [local go_sem] max2_int min2_int max_two min_two max_three min_three max_four min_four
def errW : Option Int → Value
  | none => .nilIface
  | some c => .iface 0 (.int .i64 c)
theorem errW_none : errW none = .nilIface := rfl
theorem errW_some (c : Int) : errW (some c) = .iface 0 (.int .i64 c) := rfl
theorem info3 : (Try.prog.info? 3).map (fun i => (i.zero, i.size, i.bytes)) = some (some (.int .i64 0), 1, 8) := by kernel_rfl
theorem info4 : (Try.prog.info? 4).map (fun i => (i.zero, i.size, i.bytes)) = some (some (.bool false), 1, 1) := by kernel_rfl
theorem info22 : (Try.prog.info? 22).map (fun i => (i.zero, i.size, i.bytes)) = some (some (.slice none 0 0), 1, 24) := by kernel_rfl
theorem info72 : (Try.prog.info? 72).map (fun i => (i.zero, i.size, i.bytes)) = some (some (.int .u32 0), 1, 4) := by kernel_rfl
theorem info74 : (Try.prog.info? 74).map (fun i => (i.zero, i.size, i.bytes)) = some (some (.agg #[(.int .i64 0), (.slice none 0 0), (.slice none 0 0)]), 3, 56) := by kernel_rfl
def rd_L1 (xs : List (List Int)) (i : Int) : (List Int) := xs.getD i.toNat ([] : List Int)
theorem at_L1 {w : World} {A : Option Addr} {n : Nat} {xs : List (List Int)} (h : Kd.C (Kd.slice 3 (Kd.int .i64)) w A n xs) (i : Int) (h0 : 0 ≤ i) (h1 : i < n) : ∃ ad A0 c0, A = some ad ∧ w.cell? (ad.add i.toNat) = some (.slice A0 (rd_L1 xs i).length c0) ∧ (rd_L1 xs i).length ≤ c0 ∧ (Kd.int .i64).C w A0 (rd_L1 xs i).length (rd_L1 xs i) := by
  obtain ⟨ad, c, e, _, hK, hc0⟩ := Kd.C_get h ([] : List Int) i h0 h1
  have hc : ∀ j u, c[j]? = some u → w.cell? (ad.add (i.toNat * 1 + j)) = some u := hc0
  obtain ⟨A0, c0, rfl, l0, g0⟩ := hK
  exact ⟨ad, A0, c0, e, by have hq := hc 0 _ rfl; rwa [Nat.mul_one, Nat.add_zero] at hq, l0, g0⟩
structure S74 where
  f0 : Int
  f1 : (List Int)
  f2 : (List (List Int))
def z74 : S74 := ⟨(0 : Int), ([] : List Int), ([] : List (List Int))⟩
def k74 : Kd S74 := Kd.iso (Kd.pair (Kd.int .i64) (Kd.pair (Kd.slice 3 (Kd.int .i64)) (Kd.slice 22 (Kd.slice 3 (Kd.int .i64))))) (fun x : S74 => (x.f0, x.f1, x.f2))
theorem k74_heap : Kd.Heap k74 := Kd.heap_iso _ (Kd.heap_pair (Kd.heap_int .i64) (Kd.heap_pair (Kd.heap_slice 3 (Kd.heap_int .i64)) (Kd.heap_slice 22 (Kd.heap_slice 3 (Kd.heap_int .i64)))))
theorem k74_open {w : World} {x : S74} {cs : List Value} (h : k74.K w x cs) : ∃ A1 c1 A2 c2, cs = [.int .i64 x.f0, .slice A1 x.f1.length c1, .slice A2 x.f2.length c2] ∧ x.f1.length ≤ c1 ∧ (Kd.int .i64).C w A1 x.f1.length x.f1 ∧ x.f2.length ≤ c2 ∧ (Kd.slice 3 (Kd.int .i64)).C w A2 x.f2.length x.f2 := by
  obtain ⟨_, _, rfl, rfl, ⟨_, _, rfl, ⟨A1, c1, rfl, l1, g1⟩, ⟨A2, c2, rfl, l2, g2⟩⟩⟩ := h
  exact ⟨A1, c1, A2, c2, rfl, l1, g1, l2, g2⟩
theorem k74_mk (w : World) (x : S74) {A1 : Option Addr} {c1 : Nat} (l1 : x.f1.length ≤ c1) (g1 : (Kd.int .i64).C w A1 x.f1.length x.f1) {A2 : Option Addr} {c2 : Nat} (l2 : x.f2.length ≤ c2) (g2 : (Kd.slice 3 (Kd.int .i64)).C w A2 x.f2.length x.f2) : k74.K w x [.int .i64 x.f0, .slice A1 x.f1.length c1, .slice A2 x.f2.length c2] := ⟨[.int .i64 x.f0], [.slice A1 x.f1.length c1, .slice A2 x.f2.length c2], rfl, rfl, ⟨[.slice A1 x.f1.length c1], [.slice A2 x.f2.length c2], rfl, ⟨A1, c1, rfl, l1, g1⟩, ⟨A2, c2, rfl, l2, g2⟩⟩⟩
theorem k74_openF {W : World} {ok : Nat → Prop} {x : S74} {cs : List Value} (h : Kd.FK k74 W ok x cs) : ∃ A1 c1 A2 c2, cs = [.int .i64 x.f0, .slice A1 x.f1.length c1, .slice A2 x.f2.length c2] ∧ x.f1.length ≤ c1 ∧ Kd.F (Kd.int .i64) W ok A1 x.f1.length x.f1 ∧ x.f2.length ≤ c2 ∧ Kd.F (Kd.slice 3 (Kd.int .i64)) W ok A2 x.f2.length x.f2 := by
  obtain ⟨A1, c1, A2, c2, rfl, l1, _, l2, _⟩ := k74_open (Kd.FK_now h)
  exact ⟨A1, c1, A2, c2, rfl, l1, (fun W' hW => by obtain ⟨A1_, c1_, A2_, c2_, he, l1_, g1_, l2_, g2_⟩ := k74_open (h W' hW); injection (Option.some.inj (show some (Value.slice A1 x.f1.length c1) = some (Value.slice A1_ x.f1.length c1_) from congrArg (fun l => l[1]?) he)) with ha_ _ _; rw [ha_]; exact g1_), l2, (fun W' hW => by obtain ⟨A1_, c1_, A2_, c2_, he, l1_, g1_, l2_, g2_⟩ := k74_open (h W' hW); injection (Option.some.inj (show some (Value.slice A2 x.f2.length c2) = some (Value.slice A2_ x.f2.length c2_) from congrArg (fun l => l[2]?) he)) with ha_ _ _; rw [ha_]; exact g2_)⟩
theorem k74_mkF (W : World) (ok : Nat → Prop) (x : S74) {A1 : Option Addr} {c1 : Nat} (l1 : x.f1.length ≤ c1) (g1 : Kd.F (Kd.int .i64) W ok A1 x.f1.length x.f1) {A2 : Option Addr} {c2 : Nat} (l2 : x.f2.length ≤ c2) (g2 : Kd.F (Kd.slice 3 (Kd.int .i64)) W ok A2 x.f2.length x.f2) : Kd.FK k74 W ok x [.int .i64 x.f0, .slice A1 x.f1.length c1, .slice A2 x.f2.length c2] := fun W2 hW => k74_mk W2 x l1 (g1 W2 hW) l2 (g2 W2 hW)
def rd_T74 (xs : List S74) (i : Int) : S74 := xs.getD i.toNat z74
theorem at_T74 {w : World} {A : Option Addr} {n : Nat} {xs : List S74} (h : Kd.C k74 w A n xs) (i : Int) (h0 : 0 ≤ i) (h1 : i < n) : ∃ ad A1 c1 A2 c2, A = some ad ∧ w.cell? (ad.add (i.toNat * 3)) = some (.int .i64 (rd_T74 xs i).f0) ∧ w.cell? ⟨(ad.add (i.toNat * 3)).block, (ad.add (i.toNat * 3)).off + 1, none⟩ = some (.slice A1 (rd_T74 xs i).f1.length c1) ∧ w.cell? ⟨(ad.add (i.toNat * 3)).block, (ad.add (i.toNat * 3)).off + 2, none⟩ = some (.slice A2 (rd_T74 xs i).f2.length c2) ∧ (rd_T74 xs i).f1.length ≤ c1 ∧ (Kd.int .i64).C w A1 (rd_T74 xs i).f1.length (rd_T74 xs i).f1 ∧ (rd_T74 xs i).f2.length ≤ c2 ∧ (Kd.slice 3 (Kd.int .i64)).C w A2 (rd_T74 xs i).f2.length (rd_T74 xs i).f2 := by
  obtain ⟨ad, c, e, _, hK, hc0⟩ := Kd.C_get h z74 i h0 h1
  have hc : ∀ j u, c[j]? = some u → w.cell? (ad.add (i.toNat * 3 + j)) = some u := hc0
  obtain ⟨A1, c1, A2, c2, rfl, l1, g1, l2, g2⟩ := k74_open hK
  exact ⟨ad, A1, c1, A2, c2, e, hc 0 _ rfl, by rw [← add_field _ _ 1 (by omega)]; exact hc 1 _ rfl, by rw [← add_field _ _ 2 (by omega)]; exact hc 2 _ rfl, l1, g1, l2, g2⟩
structure S46 where
  f0 : Int
  f1 : (List S74)
def z46 : S46 := ⟨(0 : Int), ([] : List S74)⟩
def rd_L8 (xs : List (List Int)) (i : Int) : (List Int) := xs.getD i.toNat ([] : List Int)
theorem at_L8 {w : World} {A : Option Addr} {n : Nat} {xs : List (List Int)} (h : Kd.C (Kd.slice 72 (Kd.int .u32)) w A n xs) (i : Int) (h0 : 0 ≤ i) (h1 : i < n) : ∃ ad A0 c0, A = some ad ∧ w.cell? (ad.add i.toNat) = some (.slice A0 (rd_L8 xs i).length c0) ∧ (rd_L8 xs i).length ≤ c0 ∧ (Kd.int .u32).C w A0 (rd_L8 xs i).length (rd_L8 xs i) := by
  obtain ⟨ad, c, e, _, hK, hc0⟩ := Kd.C_get h ([] : List Int) i h0 h1
  have hc : ∀ j u, c[j]? = some u → w.cell? (ad.add (i.toNat * 1 + j)) = some u := hc0
  obtain ⟨A0, c0, rfl, l0, g0⟩ := hK
  exact ⟨ad, A0, c0, e, by have hq := hc 0 _ rfl; rwa [Nat.mul_one, Nat.add_zero] at hq, l0, g0⟩
theorem aM {p : Prop} (h : p) : Aside0 p := ⟨h⟩
theorem zR {p q : Prop} (a : Aside0 q) (h : q → p := by intro a_; (with_reducible repeat (first | apply Kd.R_alloc | apply Kd.R_drewN | apply Kd.R_drew)); exact a_) : p := h a.out
theorem zV {p q : Prop} (a : Aside0 q) (h : q → p := by intro a_; (with_reducible repeat (first | apply Kd.V_alloc | apply Kd.V_drewN | apply Kd.V_drew)); exact a_) : p := h a.out
theorem zN {p q : Prop} (a : Aside0 q) (h : q → p := by intro a_; (with_reducible repeat (first | apply Kd.N_alloc | apply Kd.N_drewN | apply Kd.N_drew)); exact a_) : p := h a.out
theorem zS {p q : Prop} (a : Aside0 q) (h : q → p := by intro a_; (with_reducible repeat (first | apply Kd.S_alloc | apply Kd.S_drewN | apply Kd.S_drew)); exact a_) : p := h a.out
theorem zB {p q : Prop} (a : Aside0 q) (h : q → p := by intro a_; (with_reducible repeat (first | refine blk_drewN ?_ _ | refine blk_drew ?_ | refine blk_alloc ?_ _)); exact a_) : p := h a.out
theorem zz121 {p : Prop} (h : p := by simp [Value.ownBlock]) : p := h
theorem zz120 {p : Prop} (h : p := by have := HK1.out; omega) : p := h
theorem zz119 {p : Prop} (h : p := by simp [Kd.int, Kd.scalar]) : p := h
theorem zz118 {p : Prop} (h : p := by rw [List.length_set]; exact hx) : p := h
theorem zz117 {p : Prop} (h : p := by cases k <;> simp [l30_awakeW.j0]) : p := h
theorem zz116 {p : Prop} (h : p := by rw [List.length_replicate]; omega) : p := h
theorem zz115 {p : Prop} (h : p := by cases kj6 <;> simp [l30_awakeW.j1]) : p := h
theorem zz114 {p : Prop} (h : p := by first | omega | exact Nat.le_refl _) : p := h
theorem zz113 {p : Prop} (h : p := by have := HK1.out; have := HK2.out; omega) : p := h
theorem zz112 {p : Prop} (h : p := by first | rfl | (simp; done) | (simp [*]; done)) : p := h
theorem zz111 {p : Prop} (h : p := by first | (with_reducible assumption) | assumption) : p := h
theorem zz110 {p : Prop} (h : p := by have := HK1.out; have := HK2.out; have := HK3.out; omega) : p := h
theorem zz109 {p : Prop} (h : p := by first | rfl | assumption | exact beq_iff_eq.mp (by assumption)) : p := h
theorem zz108 {p : Prop} (h : p := by have := HJ2.out; have := HK2.out; first | omega | exact Nat.le_refl _) : p := h
theorem zz107 {p : Prop} (h : p := by have := HJ1.out; have := HK2.out; have := HK3.out; have := HK4.out; omega) : p := h
theorem zz100 {p : Prop} (h : p := by have := World.block_lt_of_cell? _ _ hx279_0; first | rwa [add_block] at this | exact this) : p := h
theorem zz98 {p : Prop} (h : p := by first | rfl | assumption | exact beq_iff_eq.mp (by assumption) | (have h_ := HR_.out; simp_all)) : p := h
theorem zz99 {p : Prop} (h : p := by simp only [putAll, Act.put, List.setIfInBounds_toArray, List.set_cons_zero, List.set_cons_succ]) : p := h
theorem zz96 {p : Prop} (h : p := by have h1_ := HGR.out; have h2_ := lt_of_some HT.out.ht; have h3_ := HB3.out.size; show bt ≠ gout; omega) : p := h
theorem zz97 {p : Prop} (h : p := by first | exact Kd.N_base ho0 | exact Kd.N_base (Kd.S_N ho0) | exact Kd.N_base (Kd.S_N (Kd.S_bound ho0))) : p := h
theorem zz90 {p : Prop} (h : p := by first | (rw [add_block]; exact hn277_0) | (show (Addr.add _ _).block ≠ _; rw [add_block]; exact hn277_0) | exact hn277_0) : p := h
theorem zz91 {p : Prop} (h : p := by first | (rw [add_block]; exact hn277_1) | (show (Addr.add _ _).block ≠ _; rw [add_block]; exact hn277_1) | exact hn277_1) : p := h
theorem zz92 {p : Prop} (h : p := by first | (rw [add_block]; exact hn277_2) | (show (Addr.add _ _).block ≠ _; rw [add_block]; exact hn277_2) | exact hn277_2) : p := h
theorem zz93 {p : Prop} (h : p := by first | (rw [add_block]; exact hn279_0) | (show (Addr.add _ _).block ≠ _; rw [add_block]; exact hn279_0) | exact hn279_0) : p := h
theorem zz94 {p : Prop} (h : p := by first | (rw [add_block]; exact hn279_1) | (show (Addr.add _ _).block ≠ _; rw [add_block]; exact hn279_1) | exact hn279_1) : p := h
theorem zz95 {p : Prop} (h : p := by first | (rw [add_block]; exact hn279_2) | (show (Addr.add _ _).block ≠ _; rw [add_block]; exact hn279_2) | exact hn279_2) : p := h
theorem zz89 {p : Prop} (h : p := by (try simp only [hl7_2]); (with_reducible repeat (first | apply Kd.R_alloc | apply Kd.R_drewN | apply Kd.R_drew)); exact HO_7.out) : p := h
theorem zz88 {p : Prop} (h : p := by repeat (first | (with_reducible first | exact HB.out | apply below_alloc | apply pw_below_drewN | apply below_drew1) | exact HB.out)) : p := h
theorem zz87 {p : Prop} (h : p := by (try simp only [List.map_toArray, List.map_cons, List.map_nil]); first | done | rfl | (simp only [List.length_drop, List.length_take]; rfl)) : p := h
theorem zz85 {p : Prop} (h : p := by first | exact Kd.R_nil _ _ _ _ _ | exact Kd.N_nil _ _ _ _ _ | exact Kd.V_nil _ _ _ _ _ | exact Kd.Q_nil _ _ _ _ _ | exact Kd.S_nil _ _ _ _ _) : p := h
theorem zz86 {p : Prop} (h : p := by first | exact Kd.S_nil _ _ _ _ _ | exact Kd.N_nil _ _ _ _ _ | exact Kd.V_nil _ _ _ _ _ | exact Kd.Q_nil _ _ _ _ _ | exact Kd.R_nil _ _ _ _ _) : p := h
theorem zz80 {p : Prop} (h : p := by first | exact q522 | exact of_decide_eq_true zz111 | (have e_ := (Kd.V_reads' HO_1.out).1; omega)) : p := h
theorem zz81 {p : Prop} (h : p := by first | exact q524 | exact of_decide_eq_true zz111 | (have e_ := (Kd.V_reads' HO_1.out).1; omega)) : p := h
theorem zz82 {p : Prop} (h : p := by first | exact q550 | exact of_decide_eq_true zz111 | (have e_ := (Kd.N_reads' HO_6.out).1; omega)) : p := h
theorem zz83 {p : Prop} (h : p := by first | exact q562 | exact of_decide_eq_true zz111 | (have e_ := (Kd.N_reads' HO_6.out).1; omega)) : p := h
theorem zz84 {p : Prop} (h : p := by first | exact q563 | exact of_decide_eq_true zz111 | (have e_ := (Kd.N_reads' HO_6.out).1; omega)) : p := h
theorem zz77 {p : Prop} (h : p := by (try simp only [hl5_1]); (try simp only [hl5_2]); (with_reducible repeat (first | apply Kd.R_alloc | apply Kd.R_drewN | apply Kd.R_drew)); exact HO_5.out) : p := h
theorem zz78 {p : Prop} (h : p := by (try simp only [hl7_2]); (try simp only [hl7_3]); (with_reducible repeat (first | apply Kd.R_alloc | apply Kd.R_drewN | apply Kd.R_drew)); exact HO_7.out) : p := h
theorem zz79 {p : Prop} (h : p := by (try simp only [hl7_2]); (try simp only [hl7_3]); (with_reducible repeat (first | apply Kd.S_alloc | apply Kd.S_drewN | apply Kd.S_drew)); exact HO_8.out) : p := h
theorem zz76 {p : Prop} (h : p := by (try simp only [hl7_2]); (try simp only [hl7_3]); (with_reducible repeat (first | apply Kd.R_alloc | apply Kd.R_drewN | apply Kd.R_drew)); exact HO_10.out) : p := h
theorem zz75 {p : Prop} (h : p := by rw [← hq_]; exact zz88) : p := h
theorem zz65 {p : Prop} (h : p := by repeat (first | (with_reducible first | exact HB.out | apply below_alloc | apply pw_below_drewN | apply below_drew1 | refine below_set ?_ GE480.out) | exact HB.out)) : p := h
theorem zz66 {p : Prop} (h : p := by repeat (first | (with_reducible first | exact HB.out | apply below_alloc | apply pw_below_drewN | apply below_drew1 | refine below_set ?_ GE516.out) | exact HB.out)) : p := h
theorem zz67 {p : Prop} (h : p := by repeat (first | (with_reducible first | exact HB.out | apply below_alloc | apply pw_below_drewN | apply below_drew1 | refine below_set ?_ GE538.out) | exact HB.out)) : p := h
theorem zz68 {p : Prop} (h : p := by repeat (first | (with_reducible first | exact HB.out | apply below_alloc | apply pw_below_drewN | apply below_drew1 | refine below_set ?_ GE222.out) | exact HB.out)) : p := h
theorem zz69 {p : Prop} (h : p := by repeat (first | (with_reducible first | exact HB.out | apply below_alloc | apply pw_below_drewN | apply below_drew1 | refine below_set ?_ GE252.out) | exact HB.out)) : p := h
theorem zz70 {p : Prop} (h : p := by repeat (first | (with_reducible first | exact HB.out | apply below_alloc | apply pw_below_drewN | apply below_drew1 | refine below_set ?_ GE269.out) | exact HB.out)) : p := h
theorem zz71 {p : Prop} (h : p := by repeat (first | (with_reducible first | exact HB.out | apply below_alloc | apply pw_below_drewN | apply below_drew1 | refine below_set ?_ GE286.out) | exact HB.out)) : p := h
theorem zz72 {p : Prop} (h : p := by repeat (first | (with_reducible first | exact HB.out | apply below_alloc | apply pw_below_drewN | apply below_drew1 | refine below_set ?_ GE212.out) | exact HB.out)) : p := h
theorem zz73 {p : Prop} (h : p := by repeat (first | (with_reducible first | exact HB.out | apply below_alloc | apply pw_below_drewN | apply below_drew1 | refine below_set ?_ GE339.out) | exact HB.out)) : p := h
theorem zz74 {p : Prop} (h : p := by repeat (first | (with_reducible first | exact HB.out | apply below_alloc | apply pw_below_drewN | apply below_drew1 | refine below_set ?_ GE555.out) | exact HB.out)) : p := h
theorem zz64 {p : Prop} (h : p := by (try simp only [List.map_toArray, List.map_cons, List.map_nil]); first | done | (simp only [hji52]; rfl) | rfl | (simp only [List.length_drop, List.length_take]; rfl)) : p := h
theorem zz63 {p : Prop} (h : p := by (with_reducible repeat (first | apply Kd.V_alloc | apply Kd.V_drewN | apply Kd.V_drew)); exact Kd.V_mono HO0_1.out (fun _ hk => ⟨hk.1, ⟨zz121, hk.2⟩⟩)) : p := h
theorem zz62 {p : Prop} (h : p := by (try simp only [hl5_1]); (try simp only [hl6_2]); (try simp only [hl6_3]); (with_reducible repeat (first | apply Kd.N_alloc | apply Kd.N_drewN | apply Kd.N_drew)); exact HO_6.out) : p := h
theorem zz61 {p : Prop} (h : p := by rw [← hq_]; exact zz67) : p := h
theorem zz54 {p : Prop} (h : p := by repeat (first | (with_reducible exact HR522_0.out) | (with_reducible refine Kd.C_alloc ?_ _) | (with_reducible refine Kd.C_drewN ?_ _) | (with_reducible refine Kd.C_drew ?_) | exact HR522_0.out)) : p := h
theorem zz55 {p : Prop} (h : p := by repeat (first | (with_reducible exact HR524_0.out) | (with_reducible refine Kd.C_alloc ?_ _) | (with_reducible refine Kd.C_drewN ?_ _) | (with_reducible refine Kd.C_drew ?_) | exact HR524_0.out)) : p := h
theorem zz56 {p : Prop} (h : p := by repeat (first | (with_reducible exact HR547_0.out) | (with_reducible refine Kd.C_alloc ?_ _) | (with_reducible refine Kd.C_drewN ?_ _) | (with_reducible refine Kd.C_drew ?_) | exact HR547_0.out)) : p := h
theorem zz57 {p : Prop} (h : p := by repeat (first | (with_reducible exact HR550_0.out) | (with_reducible refine Kd.C_alloc ?_ _) | (with_reducible refine Kd.C_drewN ?_ _) | (with_reducible refine Kd.C_drew ?_) | exact HR550_0.out)) : p := h
theorem zz58 {p : Prop} (h : p := by repeat (first | (with_reducible exact HR562_0.out) | (with_reducible refine Kd.C_alloc ?_ _) | (with_reducible refine Kd.C_drewN ?_ _) | (with_reducible refine Kd.C_drew ?_) | exact HR562_0.out)) : p := h
theorem zz59 {p : Prop} (h : p := by repeat (first | (with_reducible exact HR563_0.out) | (with_reducible refine Kd.C_alloc ?_ _) | (with_reducible refine Kd.C_drewN ?_ _) | (with_reducible refine Kd.C_drew ?_) | exact HR563_0.out)) : p := h
theorem zz60 {p : Prop} (h : p := by repeat (first | (with_reducible exact HR149_0.out) | (with_reducible refine Kd.C_alloc ?_ _) | (with_reducible refine Kd.C_drewN ?_ _) | (with_reducible refine Kd.C_drew ?_) | exact HR149_0.out)) : p := h
theorem zz47 {p : Prop} (h : p := by repeat (first | (with_reducible first | exact HB.out | apply below_alloc | apply pw_below_drewN | apply below_drew1 | refine below_set ?_ GE516.out | refine below_set ?_ GE517.out) | exact HB.out)) : p := h
theorem zz48 {p : Prop} (h : p := by repeat (first | (with_reducible first | exact HB.out | apply below_alloc | apply pw_below_drewN | apply below_drew1 | refine below_set ?_ GE222.out | refine below_set ?_ GE225.out) | exact HB.out)) : p := h
theorem zz49 {p : Prop} (h : p := by repeat (first | (with_reducible first | exact HB.out | apply below_alloc | apply pw_below_drewN | apply below_drew1 | refine below_set ?_ GE222.out | refine below_set ?_ GE234.out) | exact HB.out)) : p := h
theorem zz50 {p : Prop} (h : p := by repeat (first | (with_reducible first | exact HB.out | apply below_alloc | apply pw_below_drewN | apply below_drew1 | refine below_set ?_ GE252.out | refine below_set ?_ GE258.out) | exact HB.out)) : p := h
theorem zz51 {p : Prop} (h : p := by repeat (first | (with_reducible first | exact HB.out | apply below_alloc | apply pw_below_drewN | apply below_drew1 | refine below_set ?_ GE269.out | refine below_set ?_ GE276.out) | exact HB.out)) : p := h
theorem zz52 {p : Prop} (h : p := by repeat (first | (with_reducible first | exact HB.out | apply below_alloc | apply pw_below_drewN | apply below_drew1 | refine below_set ?_ GE212.out | refine below_set ?_ GE213.out) | exact HB.out)) : p := h
theorem zz53 {p : Prop} (h : p := by repeat (first | (with_reducible first | exact HB.out | apply below_alloc | apply pw_below_drewN | apply below_drew1 | refine below_set ?_ GE339.out | refine below_set ?_ GE395.out) | exact HB.out)) : p := h
theorem zz46 {p : Prop} (h : p := by rw [← hq_]; exact zz57) : p := h
theorem zz42 {p : Prop} (h : p := by repeat (first | (with_reducible first | exact HB.out | apply below_alloc | apply pw_below_drewN | apply below_drew1 | refine below_set ?_ GE516.out | refine below_set ?_ GE517.out | refine below_set ?_ GE518.out) | exact HB.out)) : p := h
theorem zz43 {p : Prop} (h : p := by repeat (first | (with_reducible first | exact HB.out | apply below_alloc | apply pw_below_drewN | apply below_drew1 | refine below_set ?_ GE222.out | refine below_set ?_ GE234.out | refine below_set ?_ GE236.out) | exact HB.out)) : p := h
theorem zz44 {p : Prop} (h : p := by repeat (first | (with_reducible first | exact HB.out | apply below_alloc | apply pw_below_drewN | apply below_drew1 | refine below_set ?_ GE212.out | refine below_set ?_ GE213.out | refine below_set ?_ GE216.out) | exact HB.out)) : p := h
theorem zz45 {p : Prop} (h : p := by repeat (first | (with_reducible first | exact HB.out | apply below_alloc | apply pw_below_drewN | apply below_drew1 | refine below_set ?_ GE212.out | refine below_set ?_ GE213.out | refine below_set ?_ GE217.out) | exact HB.out)) : p := h
theorem zz40 {p : Prop} (h : p := by first | exact (Kd.V_reads' HL235_1.out).2.2 | (repeat (first | (with_reducible exact HR235_1.out) | (with_reducible refine Kd.C_alloc ?_ _) | (with_reducible refine Kd.C_drewN ?_ _) | (with_reducible refine Kd.C_drew ?_) | exact HR235_1.out))) : p := h
theorem zz41 {p : Prop} (h : p := by first | exact (Kd.V_reads' HL235_2.out).2.2 | (repeat (first | (with_reducible exact HR235_2.out) | (with_reducible refine Kd.C_alloc ?_ _) | (with_reducible refine Kd.C_drewN ?_ _) | (with_reducible refine Kd.C_drew ?_) | exact HR235_2.out))) : p := h
theorem zz38 {p : Prop} (h : p := by (with_reducible repeat (first | refine blk_drewN ?_ _ | refine blk_drew ?_ | refine blk_alloc ?_ _)); refine blk_far ?_ NB516_518.out _; (with_reducible repeat (first | refine blk_drewN ?_ _ | refine blk_drew ?_ | refine blk_alloc ?_ _)); exact BK516.out) : p := h
theorem zz39 {p : Prop} (h : p := by (with_reducible repeat (first | refine blk_drewN ?_ _ | refine blk_drew ?_ | refine blk_alloc ?_ _)); refine blk_far ?_ NB517_518.out _; (with_reducible repeat (first | refine blk_drewN ?_ _ | refine blk_drew ?_ | refine blk_alloc ?_ _)); exact BK517.out) : p := h
theorem zz37 {p : Prop} (h : p := by repeat (first | (with_reducible first | exact HB.out | apply below_alloc | apply pw_below_drewN | apply below_drew1 | refine below_set ?_ GE212.out | refine below_set ?_ GE213.out | refine below_set ?_ GE216.out | refine below_set ?_ GE217.out) | exact HB.out)) : p := h
theorem zz34 {p : Prop} (h : p := by (with_reducible repeat (first | apply Kd.N_alloc | apply Kd.N_drewN | apply Kd.N_drew)); exact (Kd.N_mono (Kd.N_far (p := ⟨gb555, 1, none⟩) (Kd.N_far (p := ⟨gb555, 0, none⟩) (Kd.N_mono HO553.out (fun k_ hk => (⟨hk, hk.2⟩ : _ ∧ k_ ≠ gb555))) (fun _ hk => hk.2) (.int .i64 t550)) (fun _ hk => hk.2) (.slice Ao26 t551.length co26)) (fun _ h_ => h_.1))) : p := h
theorem zz35 {p : Prop} (h : p := by (with_reducible repeat (first | apply Kd.N_alloc | apply Kd.N_drewN | apply Kd.N_drew)); exact (Kd.N_mono (Kd.N_far (p := ⟨gb561, 1, none⟩) (Kd.N_far (p := ⟨gb561, 0, none⟩) (Kd.N_mono HO553.out (fun k_ hk => (⟨hk, hk.2⟩ : _ ∧ k_ ≠ gb561))) (fun _ hk => hk.2) (.int .i64 t556)) (fun _ hk => hk.2) (.slice Ao31 t557.length co31)) (fun _ h_ => h_.1))) : p := h
theorem zz36 {p : Prop} (h : p := by (with_reducible repeat (first | apply Kd.N_alloc | apply Kd.N_drewN | apply Kd.N_drew)); exact (Kd.N_mono (Kd.N_far (p := ⟨gb561, 1, none⟩) (Kd.N_far (p := ⟨gb561, 0, none⟩) (Kd.N_mono HO559.out (fun k_ hk => (⟨hk, hk.2⟩ : _ ∧ k_ ≠ gb561))) (fun _ hk => hk.2) (.int .i64 t556)) (fun _ hk => hk.2) (.slice Ao31 t557.length co31)) (fun _ h_ => h_.1))) : p := h
theorem zz33 {p : Prop} (h : p := by (with_reducible repeat (first | refine blk_drewN ?_ _ | refine blk_drew ?_ | refine blk_alloc ?_ _)); refine blk_put (cs := #[.int .i64 t550, .slice none 0 0]) ?_ 1 _ rfl; (with_reducible repeat (first | refine blk_drewN ?_ _ | refine blk_drew ?_ | refine blk_alloc ?_ _)); refine blk_put (cs := #[.int .i64 0, .slice none 0 0]) ?_ 0 _ rfl; (with_reducible repeat (first | refine blk_drewN ?_ _ | refine blk_drew ?_ | refine blk_alloc ?_ _)); exact BK555.out) : p := h
theorem zz32 {p : Prop} (h : p := by (with_reducible repeat (first | apply Kd.R_alloc | apply Kd.R_drewN | apply Kd.R_drew)); exact (Kd.R_mono (Kd.R_far (p := ⟨gb258, 2, none⟩) (Kd.R_far (p := ⟨gb258, 1, none⟩) (Kd.R_far (p := ⟨gb258, 0, none⟩) (Kd.R_types HO_5.out BK258.out (by decide)) (fun _ hk => hk.2) (.int .i64 ((rd_T74 l0_1 x17_1).f0))) (fun _ hk => hk.2) (.slice A257_1 ((rd_T74 l0_1 x17_1).f1).length c257_1)) (fun _ hk => hk.2) (.slice A257_2 ((rd_T74 l0_1 x17_1).f2).length c257_2)) (fun _ h_ => h_.1))) : p := h
theorem zz31 {p : Prop} (h : p := by (with_reducible repeat (first | apply Kd.R_alloc | apply Kd.R_drewN | apply Kd.R_drew)); exact (Kd.R_mono (Kd.R_far (p := ⟨gb276, 2, none⟩) (Kd.R_far (p := ⟨gb276, 1, none⟩) (Kd.R_far (p := ⟨gb276, 0, none⟩) (Kd.R_types HO_8.out BK276.out (by decide)) (fun _ hk => hk.2) (.int .i64 ((rd_T74 l0_1 x35_4).f0))) (fun _ hk => hk.2) (.slice A275_1 ((rd_T74 l0_1 x35_4).f1).length c275_1)) (fun _ hk => hk.2) (.slice (some ad279) ((rd_T74 l0_1 x35_4).f2).length c275_2)) (fun _ h_ => h_.1))) : p := h
theorem zz28 {p : Prop} (h : p := by rw [← hq_]; exact (by (with_reducible repeat (first | apply Kd.R_alloc | apply Kd.R_drewN | apply Kd.R_drew)); exact Kd.R_mono HO554.out (fun _ hk => by first | exact hk.1 | ((repeat' apply And.intro) <;> (first | exact hk | exact hk.1 | exact hk.2 | exact hk.1.1 | exact hk.1.2 | exact hk.2.1 | exact hk.2.2 | exact hk.1.1.1 | exact hk.1.1.2 | exact hk.1.2.1 | exact hk.1.2.2 | exact hk.2.1.1 | exact hk.2.1.2 | exact hk.2.2.1 | exact hk.2.2.2 | exact hk.1.1.1.1 | exact hk.1.1.1.2 | exact hk.2.2.2.1 | exact hk.2.2.2.2))))) : p := h
theorem zz26 {p : Prop} (h : p := by (with_reducible repeat (first | refine blk_drewN ?_ _ | refine blk_drew ?_ | refine blk_alloc ?_ _)); refine blk_far ?_ NB222_225.out _; (with_reducible repeat (first | refine blk_drewN ?_ _ | refine blk_drew ?_ | refine blk_alloc ?_ _)); refine blk_far ?_ NB222_225.out _; (with_reducible repeat (first | refine blk_drewN ?_ _ | refine blk_drew ?_ | refine blk_alloc ?_ _)); refine blk_far ?_ NB222_225.out _; (with_reducible repeat (first | refine blk_drewN ?_ _ | refine blk_drew ?_ | refine blk_alloc ?_ _)); exact BK222.out) : p := h
theorem zz27 {p : Prop} (h : p := by (with_reducible repeat (first | refine blk_drewN ?_ _ | refine blk_drew ?_ | refine blk_alloc ?_ _)); refine blk_far ?_ NB269_276.out _; (with_reducible repeat (first | refine blk_drewN ?_ _ | refine blk_drew ?_ | refine blk_alloc ?_ _)); refine blk_far ?_ NB269_276.out _; (with_reducible repeat (first | refine blk_drewN ?_ _ | refine blk_drew ?_ | refine blk_alloc ?_ _)); refine blk_far ?_ NB269_276.out _; (with_reducible repeat (first | refine blk_drewN ?_ _ | refine blk_drew ?_ | refine blk_alloc ?_ _)); exact BK269.out) : p := h
theorem zz24 {p : Prop} (h : p := by rw [← hq_]; exact (by (with_reducible repeat (first | apply Kd.N_alloc | apply Kd.N_drewN | apply Kd.N_drew)); exact Kd.N_mono HO_6.out (fun _ hk => by first | exact ⟨hk.1.1, ⟨hk.2, hk.1.2⟩⟩ | ((repeat' apply And.intro) <;> (first | exact hk | exact hk.1 | exact hk.2 | exact hk.1.1 | exact hk.1.2 | exact hk.2.1 | exact hk.2.2 | exact hk.1.1.1 | exact hk.1.1.2 | exact hk.1.2.1 | exact hk.1.2.2 | exact hk.2.1.1 | exact hk.2.1.2 | exact hk.2.2.1 | exact hk.2.2.2 | exact hk.1.1.1.1 | exact hk.1.1.1.2 | exact hk.2.2.2.1 | exact hk.2.2.2.2))))) : p := h
theorem zz23 {p : Prop} (h : p := by rw [← hq_]; exact (by (with_reducible repeat (first | apply Kd.V_alloc | apply Kd.V_drewN | apply Kd.V_drew)); exact Kd.V_mono HL550_0.out (fun _ hk => by first | exact ⟨hk.1.1.1, ⟨hk.2, ⟨hk.1.1.2, hk.1.2⟩⟩⟩ | ((repeat' apply And.intro) <;> (first | exact hk | exact hk.1 | exact hk.2 | exact hk.1.1 | exact hk.1.2 | exact hk.2.1 | exact hk.2.2 | exact hk.1.1.1 | exact hk.1.1.2 | exact hk.1.2.1 | exact hk.1.2.2 | exact hk.2.1.1 | exact hk.2.1.2 | exact hk.2.2.1 | exact hk.2.2.2 | exact hk.1.1.1.1 | exact hk.1.1.1.2 | exact hk.2.2.2.1 | exact hk.2.2.2.2))))) : p := h
theorem zz22 {p : Prop} (h : p := by (with_reducible repeat (first | apply Kd.N_alloc | apply Kd.N_drewN | apply Kd.N_drew)); exact Kd.N_mono HO_518001.out (fun _ hk => by first | exact ⟨⟨hk.1, ⟨hk.2.2.1, ⟨hk.2.2.2.1, ⟨hk.2.2.2.2.1, hk.2.2.2.2.2⟩⟩⟩⟩, hk.2.1⟩ | ((repeat' apply And.intro) <;> (first | exact hk | exact hk.1 | exact hk.2 | exact hk.1.1 | exact hk.1.2 | exact hk.2.1 | exact hk.2.2 | exact hk.1.1.1 | exact hk.1.1.2 | exact hk.1.2.1 | exact hk.1.2.2 | exact hk.2.1.1 | exact hk.2.1.2 | exact hk.2.2.1 | exact hk.2.2.2 | exact hk.1.1.1.1 | exact hk.1.1.1.2 | exact hk.2.2.2.1 | exact hk.2.2.2.2)))) : p := h
theorem zz21 {p : Prop} (h : p := by (with_reducible repeat (first | apply Kd.V_alloc | apply Kd.V_drewN | apply Kd.V_drew)); exact Kd.V_mono HO_1.out (fun _ hk => by first | exact ⟨⟨hk.1, ⟨hk.2.1, ⟨hk.2.2.2.1, ⟨hk.2.2.2.2.1, ⟨hk.2.2.2.2.2.1, hk.2.2.2.2.2.2⟩⟩⟩⟩⟩, hk.2.2.1⟩ | ((repeat' apply And.intro) <;> (first | exact hk | exact hk.1 | exact hk.2 | exact hk.1.1 | exact hk.1.2 | exact hk.2.1 | exact hk.2.2 | exact hk.1.1.1 | exact hk.1.1.2 | exact hk.1.2.1 | exact hk.1.2.2 | exact hk.2.1.1 | exact hk.2.1.2 | exact hk.2.2.1 | exact hk.2.2.2 | exact hk.1.1.1.1 | exact hk.1.1.1.2 | exact hk.2.2.2.1 | exact hk.2.2.2.2)))) : p := h
theorem zz19 {p : Prop} (h : p := by (with_reducible repeat (first | apply Kd.V_alloc | apply Kd.V_drewN | apply Kd.V_drew)); exact Kd.V_mono HL522_0.out (fun _ hk => by first | exact ⟨⟨hk.1, ⟨hk.2.1, ⟨hk.2.2.2.1, ⟨hk.2.2.2.2.1, ⟨hk.2.2.2.2.2.1, hk.2.2.2.2.2.2⟩⟩⟩⟩⟩, hk.2.2.1⟩ | ((repeat' apply And.intro) <;> (first | exact hk | exact hk.1 | exact hk.2 | exact hk.1.1 | exact hk.1.2 | exact hk.2.1 | exact hk.2.2 | exact hk.1.1.1 | exact hk.1.1.2 | exact hk.1.2.1 | exact hk.1.2.2 | exact hk.2.1.1 | exact hk.2.1.2 | exact hk.2.2.1 | exact hk.2.2.2 | exact hk.1.1.1.1 | exact hk.1.1.1.2 | exact hk.2.2.2.1 | exact hk.2.2.2.2)))) : p := h
theorem zz20 {p : Prop} (h : p := by (with_reducible repeat (first | apply Kd.V_alloc | apply Kd.V_drewN | apply Kd.V_drew)); exact Kd.V_mono HL524_0.out (fun _ hk => by first | exact ⟨⟨hk.1, ⟨hk.2.1, ⟨hk.2.2.2.1, ⟨hk.2.2.2.2.1, ⟨hk.2.2.2.2.2.1, hk.2.2.2.2.2.2⟩⟩⟩⟩⟩, hk.2.2.1⟩ | ((repeat' apply And.intro) <;> (first | exact hk | exact hk.1 | exact hk.2 | exact hk.1.1 | exact hk.1.2 | exact hk.2.1 | exact hk.2.2 | exact hk.1.1.1 | exact hk.1.1.2 | exact hk.1.2.1 | exact hk.1.2.2 | exact hk.2.1.1 | exact hk.2.1.2 | exact hk.2.2.1 | exact hk.2.2.2 | exact hk.1.1.1.1 | exact hk.1.1.1.2 | exact hk.2.2.2.1 | exact hk.2.2.2.2)))) : p := h
theorem zz7 {p : Prop} (h : p := by first | exact Nat.ne_of_lt (Nat.lt_of_lt_of_le (by have := World.block_lt_of_cell? _ _ hw214_0; first | rwa [add_block] at this | exact this) GW216.out) | (rw [add_block]; exact Nat.ne_of_lt (Nat.lt_of_lt_of_le (by have := World.block_lt_of_cell? _ _ hw214_0; first | rwa [add_block] at this | exact this) GW216.out)) | (show (Addr.add _ _).block ≠ _; rw [add_block]; exact Nat.ne_of_lt (Nat.lt_of_lt_of_le (by have := World.block_lt_of_cell? _ _ hw214_0; first | rwa [add_block] at this | exact this) GW216.out)) | (dsimp only; exact Nat.ne_of_lt (Nat.lt_of_lt_of_le (by have := World.block_lt_of_cell? _ _ hw214_0; first | rwa [add_block] at this | exact this) GW216.out))) : p := h
theorem zz8 {p : Prop} (h : p := by first | exact Nat.ne_of_lt (Nat.lt_of_lt_of_le (by have := World.block_lt_of_cell? _ _ hw214_1; first | rwa [add_block] at this | exact this) GW216.out) | (rw [add_block]; exact Nat.ne_of_lt (Nat.lt_of_lt_of_le (by have := World.block_lt_of_cell? _ _ hw214_1; first | rwa [add_block] at this | exact this) GW216.out)) | (show (Addr.add _ _).block ≠ _; rw [add_block]; exact Nat.ne_of_lt (Nat.lt_of_lt_of_le (by have := World.block_lt_of_cell? _ _ hw214_1; first | rwa [add_block] at this | exact this) GW216.out)) | (dsimp only; exact Nat.ne_of_lt (Nat.lt_of_lt_of_le (by have := World.block_lt_of_cell? _ _ hw214_1; first | rwa [add_block] at this | exact this) GW216.out))) : p := h
theorem zz9 {p : Prop} (h : p := by first | exact Nat.ne_of_lt (Nat.lt_of_lt_of_le (by have := World.block_lt_of_cell? _ _ hw214_2; first | rwa [add_block] at this | exact this) GW216.out) | (rw [add_block]; exact Nat.ne_of_lt (Nat.lt_of_lt_of_le (by have := World.block_lt_of_cell? _ _ hw214_2; first | rwa [add_block] at this | exact this) GW216.out)) | (show (Addr.add _ _).block ≠ _; rw [add_block]; exact Nat.ne_of_lt (Nat.lt_of_lt_of_le (by have := World.block_lt_of_cell? _ _ hw214_2; first | rwa [add_block] at this | exact this) GW216.out)) | (dsimp only; exact Nat.ne_of_lt (Nat.lt_of_lt_of_le (by have := World.block_lt_of_cell? _ _ hw214_2; first | rwa [add_block] at this | exact this) GW216.out))) : p := h
theorem zz10 {p : Prop} (h : p := by first | exact Nat.ne_of_lt (Nat.lt_of_lt_of_le (by have := World.block_lt_of_cell? _ _ hw215_0; first | rwa [add_block] at this | exact this) GW216.out) | (rw [add_block]; exact Nat.ne_of_lt (Nat.lt_of_lt_of_le (by have := World.block_lt_of_cell? _ _ hw215_0; first | rwa [add_block] at this | exact this) GW216.out)) | (show (Addr.add _ _).block ≠ _; rw [add_block]; exact Nat.ne_of_lt (Nat.lt_of_lt_of_le (by have := World.block_lt_of_cell? _ _ hw215_0; first | rwa [add_block] at this | exact this) GW216.out)) | (dsimp only; exact Nat.ne_of_lt (Nat.lt_of_lt_of_le (by have := World.block_lt_of_cell? _ _ hw215_0; first | rwa [add_block] at this | exact this) GW216.out))) : p := h
theorem zz11 {p : Prop} (h : p := by first | exact Nat.ne_of_lt (Nat.lt_of_lt_of_le (by have := World.block_lt_of_cell? _ _ hw215_1; first | rwa [add_block] at this | exact this) GW216.out) | (rw [add_block]; exact Nat.ne_of_lt (Nat.lt_of_lt_of_le (by have := World.block_lt_of_cell? _ _ hw215_1; first | rwa [add_block] at this | exact this) GW216.out)) | (show (Addr.add _ _).block ≠ _; rw [add_block]; exact Nat.ne_of_lt (Nat.lt_of_lt_of_le (by have := World.block_lt_of_cell? _ _ hw215_1; first | rwa [add_block] at this | exact this) GW216.out)) | (dsimp only; exact Nat.ne_of_lt (Nat.lt_of_lt_of_le (by have := World.block_lt_of_cell? _ _ hw215_1; first | rwa [add_block] at this | exact this) GW216.out))) : p := h
theorem zz12 {p : Prop} (h : p := by first | exact Nat.ne_of_lt (Nat.lt_of_lt_of_le (by have := World.block_lt_of_cell? _ _ hw215_2; first | rwa [add_block] at this | exact this) GW216.out) | (rw [add_block]; exact Nat.ne_of_lt (Nat.lt_of_lt_of_le (by have := World.block_lt_of_cell? _ _ hw215_2; first | rwa [add_block] at this | exact this) GW216.out)) | (show (Addr.add _ _).block ≠ _; rw [add_block]; exact Nat.ne_of_lt (Nat.lt_of_lt_of_le (by have := World.block_lt_of_cell? _ _ hw215_2; first | rwa [add_block] at this | exact this) GW216.out)) | (dsimp only; exact Nat.ne_of_lt (Nat.lt_of_lt_of_le (by have := World.block_lt_of_cell? _ _ hw215_2; first | rwa [add_block] at this | exact this) GW216.out))) : p := h
theorem zz13 {p : Prop} (h : p := by first | exact Nat.ne_of_lt (Nat.lt_of_lt_of_le (by have := World.block_lt_of_cell? _ _ hw214_0; first | rwa [add_block] at this | exact this) GW217.out) | (rw [add_block]; exact Nat.ne_of_lt (Nat.lt_of_lt_of_le (by have := World.block_lt_of_cell? _ _ hw214_0; first | rwa [add_block] at this | exact this) GW217.out)) | (show (Addr.add _ _).block ≠ _; rw [add_block]; exact Nat.ne_of_lt (Nat.lt_of_lt_of_le (by have := World.block_lt_of_cell? _ _ hw214_0; first | rwa [add_block] at this | exact this) GW217.out)) | (dsimp only; exact Nat.ne_of_lt (Nat.lt_of_lt_of_le (by have := World.block_lt_of_cell? _ _ hw214_0; first | rwa [add_block] at this | exact this) GW217.out))) : p := h
theorem zz14 {p : Prop} (h : p := by first | exact Nat.ne_of_lt (Nat.lt_of_lt_of_le (by have := World.block_lt_of_cell? _ _ hw214_1; first | rwa [add_block] at this | exact this) GW217.out) | (rw [add_block]; exact Nat.ne_of_lt (Nat.lt_of_lt_of_le (by have := World.block_lt_of_cell? _ _ hw214_1; first | rwa [add_block] at this | exact this) GW217.out)) | (show (Addr.add _ _).block ≠ _; rw [add_block]; exact Nat.ne_of_lt (Nat.lt_of_lt_of_le (by have := World.block_lt_of_cell? _ _ hw214_1; first | rwa [add_block] at this | exact this) GW217.out)) | (dsimp only; exact Nat.ne_of_lt (Nat.lt_of_lt_of_le (by have := World.block_lt_of_cell? _ _ hw214_1; first | rwa [add_block] at this | exact this) GW217.out))) : p := h
theorem zz15 {p : Prop} (h : p := by first | exact Nat.ne_of_lt (Nat.lt_of_lt_of_le (by have := World.block_lt_of_cell? _ _ hw214_2; first | rwa [add_block] at this | exact this) GW217.out) | (rw [add_block]; exact Nat.ne_of_lt (Nat.lt_of_lt_of_le (by have := World.block_lt_of_cell? _ _ hw214_2; first | rwa [add_block] at this | exact this) GW217.out)) | (show (Addr.add _ _).block ≠ _; rw [add_block]; exact Nat.ne_of_lt (Nat.lt_of_lt_of_le (by have := World.block_lt_of_cell? _ _ hw214_2; first | rwa [add_block] at this | exact this) GW217.out)) | (dsimp only; exact Nat.ne_of_lt (Nat.lt_of_lt_of_le (by have := World.block_lt_of_cell? _ _ hw214_2; first | rwa [add_block] at this | exact this) GW217.out))) : p := h
theorem zz16 {p : Prop} (h : p := by first | exact Nat.ne_of_lt (Nat.lt_of_lt_of_le (by have := World.block_lt_of_cell? _ _ hw215_0; first | rwa [add_block] at this | exact this) GW217.out) | (rw [add_block]; exact Nat.ne_of_lt (Nat.lt_of_lt_of_le (by have := World.block_lt_of_cell? _ _ hw215_0; first | rwa [add_block] at this | exact this) GW217.out)) | (show (Addr.add _ _).block ≠ _; rw [add_block]; exact Nat.ne_of_lt (Nat.lt_of_lt_of_le (by have := World.block_lt_of_cell? _ _ hw215_0; first | rwa [add_block] at this | exact this) GW217.out)) | (dsimp only; exact Nat.ne_of_lt (Nat.lt_of_lt_of_le (by have := World.block_lt_of_cell? _ _ hw215_0; first | rwa [add_block] at this | exact this) GW217.out))) : p := h
theorem zz17 {p : Prop} (h : p := by first | exact Nat.ne_of_lt (Nat.lt_of_lt_of_le (by have := World.block_lt_of_cell? _ _ hw215_1; first | rwa [add_block] at this | exact this) GW217.out) | (rw [add_block]; exact Nat.ne_of_lt (Nat.lt_of_lt_of_le (by have := World.block_lt_of_cell? _ _ hw215_1; first | rwa [add_block] at this | exact this) GW217.out)) | (show (Addr.add _ _).block ≠ _; rw [add_block]; exact Nat.ne_of_lt (Nat.lt_of_lt_of_le (by have := World.block_lt_of_cell? _ _ hw215_1; first | rwa [add_block] at this | exact this) GW217.out)) | (dsimp only; exact Nat.ne_of_lt (Nat.lt_of_lt_of_le (by have := World.block_lt_of_cell? _ _ hw215_1; first | rwa [add_block] at this | exact this) GW217.out))) : p := h
theorem zz18 {p : Prop} (h : p := by first | exact Nat.ne_of_lt (Nat.lt_of_lt_of_le (by have := World.block_lt_of_cell? _ _ hw215_2; first | rwa [add_block] at this | exact this) GW217.out) | (rw [add_block]; exact Nat.ne_of_lt (Nat.lt_of_lt_of_le (by have := World.block_lt_of_cell? _ _ hw215_2; first | rwa [add_block] at this | exact this) GW217.out)) | (show (Addr.add _ _).block ≠ _; rw [add_block]; exact Nat.ne_of_lt (Nat.lt_of_lt_of_le (by have := World.block_lt_of_cell? _ _ hw215_2; first | rwa [add_block] at this | exact this) GW217.out)) | (dsimp only; exact Nat.ne_of_lt (Nat.lt_of_lt_of_le (by have := World.block_lt_of_cell? _ _ hw215_2; first | rwa [add_block] at this | exact this) GW217.out))) : p := h
theorem zz5 {p : Prop} (h : p := by (with_reducible repeat (first | refine blk_drewN ?_ _ | refine blk_drew ?_ | refine blk_alloc ?_ _)); refine blk_put (cs := #[.int .i64 ((rd_T74 l0_1 x27_1).f0), .slice A224_1 ((rd_T74 l0_1 x27_1).f1).length c224_1, .slice none 0 0]) ?_ 2 _ rfl; (with_reducible repeat (first | refine blk_drewN ?_ _ | refine blk_drew ?_ | refine blk_alloc ?_ _)); refine blk_put (cs := #[.int .i64 ((rd_T74 l0_1 x27_1).f0), .slice none 0 0, .slice none 0 0]) ?_ 1 _ rfl; (with_reducible repeat (first | refine blk_drewN ?_ _ | refine blk_drew ?_ | refine blk_alloc ?_ _)); refine blk_put (cs := #[.int .i64 0, .slice none 0 0, .slice none 0 0]) ?_ 0 _ rfl; (with_reducible repeat (first | refine blk_drewN ?_ _ | refine blk_drew ?_ | refine blk_alloc ?_ _)); exact BK225.out) : p := h
theorem zz6 {p : Prop} (h : p := by (with_reducible repeat (first | refine blk_drewN ?_ _ | refine blk_drew ?_ | refine blk_alloc ?_ _)); refine blk_put (cs := #[.int .i64 ((rd_T74 l0_1 x35_4).f0), .slice A275_1 ((rd_T74 l0_1 x35_4).f1).length c275_1, .slice none 0 0]) ?_ 2 _ rfl; (with_reducible repeat (first | refine blk_drewN ?_ _ | refine blk_drew ?_ | refine blk_alloc ?_ _)); refine blk_put (cs := #[.int .i64 ((rd_T74 l0_1 x35_4).f0), .slice none 0 0, .slice none 0 0]) ?_ 1 _ rfl; (with_reducible repeat (first | refine blk_drewN ?_ _ | refine blk_drew ?_ | refine blk_alloc ?_ _)); refine blk_put (cs := #[.int .i64 0, .slice none 0 0, .slice none 0 0]) ?_ 0 _ rfl; (with_reducible repeat (first | refine blk_drewN ?_ _ | refine blk_drew ?_ | refine blk_alloc ?_ _)); exact BK276.out) : p := h
theorem zz3 {p : Prop} (h : p := by (with_reducible repeat (first | refine blk_drewN ?_ _ | refine blk_drew ?_ | refine blk_alloc ?_ _)); refine blk_far ?_ NB212_217.out _; (with_reducible repeat (first | refine blk_drewN ?_ _ | refine blk_drew ?_ | refine blk_alloc ?_ _)); refine blk_far ?_ NB212_217.out _; (with_reducible repeat (first | refine blk_drewN ?_ _ | refine blk_drew ?_ | refine blk_alloc ?_ _)); refine blk_far ?_ NB212_217.out _; (with_reducible repeat (first | refine blk_drewN ?_ _ | refine blk_drew ?_ | refine blk_alloc ?_ _)); refine blk_far ?_ NB212_216.out _; (with_reducible repeat (first | refine blk_drewN ?_ _ | refine blk_drew ?_ | refine blk_alloc ?_ _)); refine blk_far ?_ NB212_216.out _; (with_reducible repeat (first | refine blk_drewN ?_ _ | refine blk_drew ?_ | refine blk_alloc ?_ _)); refine blk_far ?_ NB212_216.out _; (with_reducible repeat (first | refine blk_drewN ?_ _ | refine blk_drew ?_ | refine blk_alloc ?_ _)); exact BK212.out) : p := h
theorem zz4 {p : Prop} (h : p := by (with_reducible repeat (first | refine blk_drewN ?_ _ | refine blk_drew ?_ | refine blk_alloc ?_ _)); refine blk_far ?_ NB213_217.out _; (with_reducible repeat (first | refine blk_drewN ?_ _ | refine blk_drew ?_ | refine blk_alloc ?_ _)); refine blk_far ?_ NB213_217.out _; (with_reducible repeat (first | refine blk_drewN ?_ _ | refine blk_drew ?_ | refine blk_alloc ?_ _)); refine blk_far ?_ NB213_217.out _; (with_reducible repeat (first | refine blk_drewN ?_ _ | refine blk_drew ?_ | refine blk_alloc ?_ _)); refine blk_far ?_ NB213_216.out _; (with_reducible repeat (first | refine blk_drewN ?_ _ | refine blk_drew ?_ | refine blk_alloc ?_ _)); refine blk_far ?_ NB213_216.out _; (with_reducible repeat (first | refine blk_drewN ?_ _ | refine blk_drew ?_ | refine blk_alloc ?_ _)); refine blk_far ?_ NB213_216.out _; (with_reducible repeat (first | refine blk_drewN ?_ _ | refine blk_drew ?_ | refine blk_alloc ?_ _)); exact BK213.out) : p := h
theorem zz2 {p : Prop} (h : p := by (with_reducible repeat (first | apply Kd.N_alloc | apply Kd.N_drewN | apply Kd.N_drew)); exact (Kd.N_mono (Kd.N_far (p := ⟨gb395, 1, none⟩) (Kd.N_far (p := ⟨gb395, 0, none⟩) (Kd.N_mono HO_340001.out (fun k_ hk => (⟨hk, hk.2⟩ : _ ∧ k_ ≠ gb395))) (fun _ hk => by first | exact hk.2 | ((repeat' apply And.intro) <;> (first | exact hk | exact hk.1 | exact hk.2 | exact hk.1.1 | exact hk.1.2 | exact hk.2.1 | exact hk.2.2 | exact hk.1.1.1 | exact hk.1.1.2 | exact hk.1.2.1 | exact hk.1.2.2 | exact hk.2.1.1 | exact hk.2.1.2 | exact hk.2.2.1 | exact hk.2.2.2 | exact hk.1.1.1.1 | exact hk.1.1.1.2 | exact hk.2.2.2.1 | exact hk.2.2.2.2))) (.int .i64 4)) (fun _ hk => by first | exact hk.2 | ((repeat' apply And.intro) <;> (first | exact hk | exact hk.1 | exact hk.2 | exact hk.1.1 | exact hk.1.2 | exact hk.2.1 | exact hk.2.2 | exact hk.1.1.1 | exact hk.1.1.2 | exact hk.1.2.1 | exact hk.1.2.2 | exact hk.2.1.1 | exact hk.2.1.2 | exact hk.2.2.1 | exact hk.2.2.2 | exact hk.1.1.1.1 | exact hk.1.1.1.2 | exact hk.2.2.2.1 | exact hk.2.2.2.2))) (.slice Ao146 y392.length co146)) (fun _ h_ => h_.1))) : p := h
theorem zz0 {p : Prop} (h : p := by (with_reducible repeat (first | refine blk_drewN ?_ _ | refine blk_drew ?_ | refine blk_alloc ?_ _)); refine blk_far ?_ NB216_217.out _; (with_reducible repeat (first | refine blk_drewN ?_ _ | refine blk_drew ?_ | refine blk_alloc ?_ _)); refine blk_far ?_ NB216_217.out _; (with_reducible repeat (first | refine blk_drewN ?_ _ | refine blk_drew ?_ | refine blk_alloc ?_ _)); refine blk_far ?_ NB216_217.out _; (with_reducible repeat (first | refine blk_drewN ?_ _ | refine blk_drew ?_ | refine blk_alloc ?_ _)); refine blk_put (cs := #[.int .i64 ((rd_T74 l0_1 x5_2).f0), .slice A214_1 ((rd_T74 l0_1 x5_2).f1).length c214_1, .slice none 0 0]) ?_ 2 _ rfl; (with_reducible repeat (first | refine blk_drewN ?_ _ | refine blk_drew ?_ | refine blk_alloc ?_ _)); refine blk_put (cs := #[.int .i64 ((rd_T74 l0_1 x5_2).f0), .slice none 0 0, .slice none 0 0]) ?_ 1 _ rfl; (with_reducible repeat (first | refine blk_drewN ?_ _ | refine blk_drew ?_ | refine blk_alloc ?_ _)); refine blk_put (cs := #[.int .i64 0, .slice none 0 0, .slice none 0 0]) ?_ 0 _ rfl; (with_reducible repeat (first | refine blk_drewN ?_ _ | refine blk_drew ?_ | refine blk_alloc ?_ _)); exact BK216.out) : p := h
theorem zz1 {p : Prop} (h : p := by (with_reducible repeat (first | refine blk_drewN ?_ _ | refine blk_drew ?_ | refine blk_alloc ?_ _)); refine blk_put (cs := #[.int .i64 ((rd_T74 l1_1 x5_2).f0), .slice A215_1 ((rd_T74 l1_1 x5_2).f1).length c215_1, .slice none 0 0]) ?_ 2 _ rfl; (with_reducible repeat (first | refine blk_drewN ?_ _ | refine blk_drew ?_ | refine blk_alloc ?_ _)); refine blk_put (cs := #[.int .i64 ((rd_T74 l1_1 x5_2).f0), .slice none 0 0, .slice none 0 0]) ?_ 1 _ rfl; (with_reducible repeat (first | refine blk_drewN ?_ _ | refine blk_drew ?_ | refine blk_alloc ?_ _)); refine blk_put (cs := #[.int .i64 0, .slice none 0 0, .slice none 0 0]) ?_ 0 _ rfl; (with_reducible repeat (first | refine blk_drewN ?_ _ | refine blk_drew ?_ | refine blk_alloc ?_ _)); refine blk_far ?_ NB217_216.out _; (with_reducible repeat (first | refine blk_drewN ?_ _ | refine blk_drew ?_ | refine blk_alloc ?_ _)); refine blk_far ?_ NB217_216.out _; (with_reducible repeat (first | refine blk_drewN ?_ _ | refine blk_drew ?_ | refine blk_alloc ?_ _)); refine blk_far ?_ NB217_216.out _; (with_reducible repeat (first | refine blk_drewN ?_ _ | refine blk_drew ?_ | refine blk_alloc ?_ _)); exact BK217.out) : p := h
end
section
attribute [local go_sem] max2_int min2_int max_two min_two max_three min_three max_four min_four
def r09_SameInts.l0 : Nat → List Int → List Int → Int → Option (Bool)
  | 0, _, _, _ => none
  | k + 1, x0, x1, x5 => if x5 < (x0.length : Int) then (if 0 ≤ x5 then (if x5 < (x1.length : Int) then (if (rd x0 x5) = (rd x1 x5) then (r09_SameInts.l0 k x0 x1 (wrap64 (x5 + 1))) else (some false)) else (none)) else (none)) else (some true)
def r09_SameInts.f (k : Nat) (l0 : List Int) (l1 : List Int) : Option (Bool) := if (l0.length : Int) = (l1.length : Int) then (r09_SameInts.l0 k l0 l1 0) else (some false)
theorem r09_SameInts.calls (k : Nat) (A0 : Option Addr) (c0 : Nat) (l0 : List Int) (A1 : Option Addr) (c1 : Nat) (l1 : List Int) (r : Bool) (w : World) (hr0 : Kd.C (Kd.int .i64) w A0 l0.length l0) (hc0 : l0.length ≤ c0) (hr1 : Kd.C (Kd.int .i64) w A1 l1.length l1) (hc1 : l1.length ≤ c1) (h : r09_SameInts.f k l0 l1 = some r) :
    Calls Try.prog 15 #[.slice A0 l0.length c0, .slice A1 l1.length c1] w fun e w' => e = .returned (.bool r) ∧ Drawn0 w w' := by
  have HR0 := aM hr0
  have HC0 := aM hc0
  clear hr0 hc0
  have HR1 := aM hr1
  have HC1 := aM hc1
  clear hr1 hc1
  have H : (if (l0.length : Int) = (l1.length : Int) then (r09_SameInts.l0 k l0 l1 0) else (some false)) = some r := h
  clear h
  by_cases c3 : (l0.length : Int) = (l1.length : Int)
  · rw [if_pos c3] at H
    have c3b0 := beq_iff_eq.mpr c3; have c3b1 := bne_eq_false_iff_eq.mpr c3; have c3b2 : (l0.length == l1.length) = true := by first | simpa using c3 | (simp at c3 ⊢; omega)
    clear c3; have H' := aM H; clear H
    go_enter Try.func15, Try.ntmps15
    go_wp2
    repeat (go_quiet (fail); try go_wp2)
    go_loopg [5] k (fun kq v5 w' => ∃ (x5_1 : Int), v5 = .int .i64 x5_1 ∧ Aside0 (r09_SameInts.l0 kq l0 l1 x5_1 = some r) ∧ Aside0 (kq ≤ k) ∧ Drawn0 w w')
    case atStart => exact ⟨(0), zz112, H', ⟨Nat.le_refl _⟩, by repeat (first | exact Drawn0.refl _ | apply Drawn0.step)⟩
    case round =>
      clear H'; (try clear c1); (try clear p2); (try clear c3); (try clear c3b0); (try clear c3b1); (try clear c3b2); obtain ⟨x5_1, rfl, HA, HK1, ⟨m1, rfl⟩⟩ := hrel
      cases gk with
      | zero => exact absurd HA.out (by simp [r09_SameInts.l0])
      | succ k1 =>
        have H := HA.out; clear HA; simp only [r09_SameInts.l0] at H
        by_cases c4 : x5_1 < (l0.length : Int)
        · rw [if_pos c4] at H; have c4b0 := decide_eq_true c4; clear c4
          by_cases c5 : 0 ≤ x5_1
          · rw [if_pos c5] at H; have c5b0 := decide_eq_true c5; clear c5
            by_cases c6 : x5_1 < (l1.length : Int)
            · rw [if_pos c6] at H; have c6b0 := decide_eq_true c6; clear c6
              by_cases c7 : (rd l0 x5_1) = (rd l1 x5_1)
              · rw [if_pos c7] at H; have c7b0 := beq_iff_eq.mpr c7; have c7b1 := bne_eq_false_iff_eq.mpr c7; clear c7; have H' := aM H; clear H; have p121 : 0 ≤ (x5_1 : Int) := of_decide_eq_true zz111; have q121 : x5_1 < (l0.length : Int) := of_decide_eq_true zz111; obtain ⟨ad121, e121, hx121_0⟩ := Kd.at_int HR0.out x5_1 p121 q121
                cases e121; replace p121 := eq_true p121; replace q121 := eq_true q121; have p122 : 0 ≤ (x5_1 : Int) := of_decide_eq_true zz111; have q122 : x5_1 < (l1.length : Int) := of_decide_eq_true zz111; obtain ⟨ad122, e122, hx122_0⟩ := Kd.at_int HR1.out x5_1 p122 q122
                cases e122; replace p122 := eq_true p122; replace q122 := eq_true q122; go_wp2
                repeat (go_quiet (fail); try go_wp2)
                go_roundg k1
                case measure => have := HK1.out; omega
                case rel => exact ⟨(wrap64 (x5_1 + 1)), zz112, H', ⟨zz120⟩, by repeat (first | exact Drawn0.refl _ | apply Drawn0.step)⟩
              rw [if_neg c7] at H; have c7b0 := beq_eq_false_iff_ne.mpr c7; have c7b1 := bne_iff_ne.mpr c7; obtain rfl := Option.some.inj H; have p121 : 0 ≤ (x5_1 : Int) := of_decide_eq_true zz111; have q121 : x5_1 < (l0.length : Int) := of_decide_eq_true zz111; obtain ⟨ad121, e121, hx121_0⟩ := Kd.at_int HR0.out x5_1 p121 q121
              cases e121; replace p121 := eq_true p121; replace q121 := eq_true q121; have p122 : 0 ≤ (x5_1 : Int) := of_decide_eq_true zz111; have q122 : x5_1 < (l1.length : Int) := of_decide_eq_true zz111; obtain ⟨ad122, e122, hx122_0⟩ := Kd.at_int HR1.out x5_1 p122 q122
              cases e122; replace p122 := eq_true p122; replace q122 := eq_true q122; go_wp2
              repeat (go_quiet (fail); try go_wp2)
              go_ret
              exact ⟨by first | rfl | (simp; done) | (simp [*]; done), by repeat (first | exact Drawn0.refl _ | apply Drawn0.step)⟩
            rw [if_neg c6] at H
            exact absurd H (by simp)
          rw [if_neg c5] at H
          exact absurd H (by simp)
        rw [if_neg c4] at H; have c4b0 := decide_eq_false c4; clear c4; obtain rfl := Option.some.inj H; go_wp2
        repeat (go_quiet (fail); try go_wp2)
        go_ret
        exact ⟨by first | rfl | (simp; done) | (simp [*]; done), by repeat (first | exact Drawn0.refl _ | apply Drawn0.step)⟩
  rw [if_neg c3] at H
  have c3b0 := beq_eq_false_iff_ne.mpr c3
  have c3b1 := bne_iff_ne.mpr c3
  have c3b2 : (l0.length == l1.length) = false := by first | simpa using c3 | (simp at c3 ⊢; omega)
  obtain rfl := Option.some.inj H
  go_enter Try.func15, Try.ntmps15
  go_wp2
  repeat (go_quiet (fail); try go_wp2)
  go_ret
  exact ⟨by first | rfl | (simp; done) | (simp [*]; done), by repeat (first | exact Drawn0.refl _ | apply Drawn0.step)⟩
end
section
attribute [local go_sem] max2_int min2_int max_two min_two max_three min_three max_four min_four
def r09_SameRows.l0 : Nat → List (List Int) → List (List Int) → Int → Option (Bool)
  | 0, _, _, _ => none
  | k + 1, x0, x1, x5 => if x5 < (x0.length : Int) then (if 0 ≤ x5 then (if x5 < (x1.length : Int) then ((r09_SameInts.f k (rd_L1 x0 x5) (rd_L1 x1 x5)).bind fun t152 => (if t152 = true then (r09_SameRows.l0 k x0 x1 (wrap64 (x5 + 1))) else (some false))) else (none)) else (none)) else (some true)
def r09_SameRows.f (k : Nat) (l0 : List (List Int)) (l1 : List (List Int)) : Option (Bool) := if (l0.length : Int) = (l1.length : Int) then (r09_SameRows.l0 k l0 l1 0) else (some false)
theorem r09_SameRows.calls (k : Nat) (A0 : Option Addr) (c0 : Nat) (l0 : List (List Int)) (A1 : Option Addr) (c1 : Nat) (l1 : List (List Int)) (r : Bool) (w : World) (hr0 : Kd.C (Kd.slice 3 (Kd.int .i64)) w A0 l0.length l0) (hc0 : l0.length ≤ c0) (hr1 : Kd.C (Kd.slice 3 (Kd.int .i64)) w A1 l1.length l1) (hc1 : l1.length ≤ c1) (h : r09_SameRows.f k l0 l1 = some r) :
    Calls Try.prog 24 #[.slice A0 l0.length c0, .slice A1 l1.length c1] w fun e w' => e = .returned (.bool r) ∧ Drawn0 w w' := by
  have HR0 := aM hr0
  have HC0 := aM hc0
  clear hr0 hc0
  have HR1 := aM hr1
  have HC1 := aM hc1
  clear hr1 hc1
  have H : (if (l0.length : Int) = (l1.length : Int) then (r09_SameRows.l0 k l0 l1 0) else (some false)) = some r := h
  clear h
  by_cases c3 : (l0.length : Int) = (l1.length : Int)
  · rw [if_pos c3] at H
    have c3b0 := beq_iff_eq.mpr c3; have c3b1 := bne_eq_false_iff_eq.mpr c3; have c3b2 : (l0.length == l1.length) = true := by first | simpa using c3 | (simp at c3 ⊢; omega)
    clear c3; have H' := aM H; clear H
    go_enter Try.func24, Try.ntmps24
    go_wp2
    repeat (go_quiet (fail); try go_wp2)
    go_loopg [5] k (fun kq v5 w' => ∃ (x5_1 : Int), v5 = .int .i64 x5_1 ∧ Aside0 (r09_SameRows.l0 kq l0 l1 x5_1 = some r) ∧ Aside0 (kq ≤ k) ∧ Drawn0 w w')
    case atStart => exact ⟨(0), zz112, H', ⟨Nat.le_refl _⟩, by repeat (first | exact Drawn0.refl _ | apply Drawn0.step)⟩
    case round =>
      clear H'; (try clear c1); (try clear c2); (try clear p2); (try clear c3); (try clear c3b0); (try clear c3b1); (try clear c3b2); obtain ⟨x5_1, rfl, HA, HK1, ⟨m1, rfl⟩⟩ := hrel
      cases gk with
      | zero => exact absurd HA.out (by simp [r09_SameRows.l0])
      | succ k1 =>
        have H := HA.out; clear HA; simp only [r09_SameRows.l0] at H
        by_cases c4 : x5_1 < (l0.length : Int)
        · rw [if_pos c4] at H; have c4b0 := decide_eq_true c4; clear c4
          by_cases c5 : 0 ≤ x5_1
          · rw [if_pos c5] at H; have c5b0 := decide_eq_true c5; clear c5
            by_cases c6 : x5_1 < (l1.length : Int)
            · rw [if_pos c6] at H; have c6b0 := decide_eq_true c6; clear c6; replace H := Option.bind_eq_some_iff.mp H; obtain ⟨t152, A70, H⟩ := H; replace H : (if t152 = true then (r09_SameRows.l0 k1 l0 l1 (wrap64 (x5_1 + 1))) else (some false)) = some r := H; have A7 := aM A70; clear A70
              by_cases c8 : t152 = true
              · subst c8; have H1 : (r09_SameRows.l0 k1 l0 l1 (wrap64 (x5_1 + 1))) = some r := by rw [if_pos rfl] at H; exact H
                clear H; have H := H1; clear H1; have H' := aM H; clear H; have p150 : 0 ≤ (x5_1 : Int) := of_decide_eq_true zz111; have q150 : x5_1 < (l0.length : Int) := of_decide_eq_true zz111; obtain ⟨ad150, A150_0, c150_0, e150, hx150_0, hl150_0, hi150_0⟩ := at_L1 HR0.out x5_1 p150 q150
                cases e150; have HR150_0 := aM hi150_0; have HC150_0 := aM hl150_0; clear hi150_0 hl150_0; replace p150 := eq_true p150; replace q150 := eq_true q150; have p151 : 0 ≤ (x5_1 : Int) := of_decide_eq_true zz111; have q151 : x5_1 < (l1.length : Int) := of_decide_eq_true zz111; obtain ⟨ad151, A151_0, c151_0, e151, hx151_0, hl151_0, hi151_0⟩ := at_L1 HR1.out x5_1 p151 q151
                cases e151; have HR151_0 := aM hi151_0; have HC151_0 := aM hl151_0; clear hi151_0 hl151_0; replace p151 := eq_true p151; replace q151 := eq_true q151
                go_wp2_with (first | (go_at_call 15; (with_reducible refine (r09_SameInts.calls k1 _ _ (rd_L1 l0 x5_1) _ _ (rd_L1 l1 x5_1) true _ ?side1 ?side2 ?side3 ?side4 A7.out).mono ?_); (case side1 => repeat (first | exact HR150_0.out | (with_reducible refine Kd.C_alloc ?_ _) | (with_reducible refine Kd.C_drewN ?_ _) | (with_reducible refine Kd.C_drew ?_))); (case side2 => exact HC150_0.out); (case side3 => repeat (first | exact HR151_0.out | (with_reducible refine Kd.C_alloc ?_ _) | (with_reducible refine Kd.C_drewN ?_ _) | (with_reducible refine Kd.C_drew ?_))); (case side4 => exact HC151_0.out); rintro e w' ⟨rfl, ⟨nd, rfl⟩⟩; (try first | exact ⟨rfl, _, World.drewN_drewN _ _ _⟩ | exact ⟨rfl, _, Eq.trans (World.drewN_drewN _ _ _) (congrArg (World.drewN _) (Nat.add_assoc _ _ _))⟩)))
                repeat (go_quiet (first | (go_at_call 15; (with_reducible refine (r09_SameInts.calls k1 _ _ (rd_L1 l0 x5_1) _ _ (rd_L1 l1 x5_1) true _ ?side1 ?side2 ?side3 ?side4 A7.out).mono ?_); (case side1 => repeat (first | exact HR150_0.out | (with_reducible refine Kd.C_alloc ?_ _) | (with_reducible refine Kd.C_drewN ?_ _) | (with_reducible refine Kd.C_drew ?_))); (case side2 => exact HC150_0.out); (case side3 => repeat (first | exact HR151_0.out | (with_reducible refine Kd.C_alloc ?_ _) | (with_reducible refine Kd.C_drewN ?_ _) | (with_reducible refine Kd.C_drew ?_))); (case side4 => exact HC151_0.out); rintro e w' ⟨rfl, ⟨nd, rfl⟩⟩; (try first | exact ⟨rfl, _, World.drewN_drewN _ _ _⟩ | exact ⟨rfl, _, Eq.trans (World.drewN_drewN _ _ _) (congrArg (World.drewN _) (Nat.add_assoc _ _ _))⟩))); try go_wp2_with (first | (go_at_call 15; (with_reducible refine (r09_SameInts.calls k1 _ _ (rd_L1 l0 x5_1) _ _ (rd_L1 l1 x5_1) true _ ?side1 ?side2 ?side3 ?side4 A7.out).mono ?_); (case side1 => repeat (first | exact HR150_0.out | (with_reducible refine Kd.C_alloc ?_ _) | (with_reducible refine Kd.C_drewN ?_ _) | (with_reducible refine Kd.C_drew ?_))); (case side2 => exact HC150_0.out); (case side3 => repeat (first | exact HR151_0.out | (with_reducible refine Kd.C_alloc ?_ _) | (with_reducible refine Kd.C_drewN ?_ _) | (with_reducible refine Kd.C_drew ?_))); (case side4 => exact HC151_0.out); rintro e w' ⟨rfl, ⟨nd, rfl⟩⟩; (try first | exact ⟨rfl, _, World.drewN_drewN _ _ _⟩ | exact ⟨rfl, _, Eq.trans (World.drewN_drewN _ _ _) (congrArg (World.drewN _) (Nat.add_assoc _ _ _))⟩))))
                go_roundg k1
                case measure => have := HK1.out; omega
                case rel => exact ⟨(wrap64 (x5_1 + 1)), zz112, H', ⟨zz120⟩, by repeat (first | exact Drawn0.refl _ | apply Drawn0.step)⟩
              replace c8 := Bool.eq_false_iff.mpr c8; subst c8; have H1 : (some false) = some r := by rw [if_neg (show ¬ (false = true) by decide)] at H; exact H
              clear H; have H := H1; clear H1; obtain rfl := Option.some.inj H; have p150 : 0 ≤ (x5_1 : Int) := of_decide_eq_true zz111; have q150 : x5_1 < (l0.length : Int) := of_decide_eq_true zz111; obtain ⟨ad150, A150_0, c150_0, e150, hx150_0, hl150_0, hi150_0⟩ := at_L1 HR0.out x5_1 p150 q150
              cases e150; have HR150_0 := aM hi150_0; have HC150_0 := aM hl150_0; clear hi150_0 hl150_0; replace p150 := eq_true p150; replace q150 := eq_true q150; have p151 : 0 ≤ (x5_1 : Int) := of_decide_eq_true zz111; have q151 : x5_1 < (l1.length : Int) := of_decide_eq_true zz111; obtain ⟨ad151, A151_0, c151_0, e151, hx151_0, hl151_0, hi151_0⟩ := at_L1 HR1.out x5_1 p151 q151
              cases e151; have HR151_0 := aM hi151_0; have HC151_0 := aM hl151_0; clear hi151_0 hl151_0; replace p151 := eq_true p151; replace q151 := eq_true q151
              go_wp2_with (first | (go_at_call 15; (with_reducible refine (r09_SameInts.calls k1 _ _ (rd_L1 l0 x5_1) _ _ (rd_L1 l1 x5_1) false _ ?side1 ?side2 ?side3 ?side4 A7.out).mono ?_); (case side1 => repeat (first | exact HR150_0.out | (with_reducible refine Kd.C_alloc ?_ _) | (with_reducible refine Kd.C_drewN ?_ _) | (with_reducible refine Kd.C_drew ?_))); (case side2 => exact HC150_0.out); (case side3 => repeat (first | exact HR151_0.out | (with_reducible refine Kd.C_alloc ?_ _) | (with_reducible refine Kd.C_drewN ?_ _) | (with_reducible refine Kd.C_drew ?_))); (case side4 => exact HC151_0.out); rintro e w' ⟨rfl, ⟨nd, rfl⟩⟩; (try first | exact ⟨rfl, _, World.drewN_drewN _ _ _⟩ | exact ⟨rfl, _, Eq.trans (World.drewN_drewN _ _ _) (congrArg (World.drewN _) (Nat.add_assoc _ _ _))⟩)))
              repeat (go_quiet (first | (go_at_call 15; (with_reducible refine (r09_SameInts.calls k1 _ _ (rd_L1 l0 x5_1) _ _ (rd_L1 l1 x5_1) false _ ?side1 ?side2 ?side3 ?side4 A7.out).mono ?_); (case side1 => repeat (first | exact HR150_0.out | (with_reducible refine Kd.C_alloc ?_ _) | (with_reducible refine Kd.C_drewN ?_ _) | (with_reducible refine Kd.C_drew ?_))); (case side2 => exact HC150_0.out); (case side3 => repeat (first | exact HR151_0.out | (with_reducible refine Kd.C_alloc ?_ _) | (with_reducible refine Kd.C_drewN ?_ _) | (with_reducible refine Kd.C_drew ?_))); (case side4 => exact HC151_0.out); rintro e w' ⟨rfl, ⟨nd, rfl⟩⟩; (try first | exact ⟨rfl, _, World.drewN_drewN _ _ _⟩ | exact ⟨rfl, _, Eq.trans (World.drewN_drewN _ _ _) (congrArg (World.drewN _) (Nat.add_assoc _ _ _))⟩))); try go_wp2_with (first | (go_at_call 15; (with_reducible refine (r09_SameInts.calls k1 _ _ (rd_L1 l0 x5_1) _ _ (rd_L1 l1 x5_1) false _ ?side1 ?side2 ?side3 ?side4 A7.out).mono ?_); (case side1 => repeat (first | exact HR150_0.out | (with_reducible refine Kd.C_alloc ?_ _) | (with_reducible refine Kd.C_drewN ?_ _) | (with_reducible refine Kd.C_drew ?_))); (case side2 => exact HC150_0.out); (case side3 => repeat (first | exact HR151_0.out | (with_reducible refine Kd.C_alloc ?_ _) | (with_reducible refine Kd.C_drewN ?_ _) | (with_reducible refine Kd.C_drew ?_))); (case side4 => exact HC151_0.out); rintro e w' ⟨rfl, ⟨nd, rfl⟩⟩; (try first | exact ⟨rfl, _, World.drewN_drewN _ _ _⟩ | exact ⟨rfl, _, Eq.trans (World.drewN_drewN _ _ _) (congrArg (World.drewN _) (Nat.add_assoc _ _ _))⟩))))
              go_ret
              exact ⟨by first | rfl | (simp; done) | (simp [*]; done), by repeat (first | exact Drawn0.refl _ | apply Drawn0.step)⟩
            rw [if_neg c6] at H
            exact absurd H (by simp)
          rw [if_neg c5] at H
          exact absurd H (by simp)
        rw [if_neg c4] at H; have c4b0 := decide_eq_false c4; clear c4; obtain rfl := Option.some.inj H; go_wp2
        repeat (go_quiet (fail); try go_wp2)
        go_ret
        exact ⟨by first | rfl | (simp; done) | (simp [*]; done), by repeat (first | exact Drawn0.refl _ | apply Drawn0.step)⟩
  rw [if_neg c3] at H
  have c3b0 := beq_eq_false_iff_ne.mpr c3
  have c3b1 := bne_iff_ne.mpr c3
  have c3b2 : (l0.length == l1.length) = false := by first | simpa using c3 | (simp at c3 ⊢; omega)
  obtain rfl := Option.some.inj H
  go_enter Try.func24, Try.ntmps24
  go_wp2
  repeat (go_quiet (fail); try go_wp2)
  go_ret
  exact ⟨by first | rfl | (simp; done) | (simp [*]; done), by repeat (first | exact Drawn0.refl _ | apply Drawn0.step)⟩
end
section
attribute [local go_sem] max2_int min2_int max_two min_two max_three min_three max_four min_four
mutual
def r30_Same.j0 : Nat → Bool → Int → List (S74) → Int → List (S74) → Option (Bool)
  | 0, _, _, _, _, _ => none
  | k + 1, x21, x213000, x213001, x214000, x214001 => if x21 = true then (some false) else (r30_Same.l0 k 0 x213000 x213001 x214000 x214001)
def r30_Same.l0 : Nat → Int → Int → List (S74) → Int → List (S74) → Option (Bool)
  | 0, _, _, _, _, _ => none
  | k + 1, x5, x213000, x213001, x214000, x214001 => if x5 < (x213001.length : Int) then (if 0 ≤ x5 then (if x5 < (x214001.length : Int) then (if ((rd_T74 x213001 x5).f0) = ((rd_T74 x214001 x5).f0) then ((r09_SameInts.f k ((rd_T74 x213001 x5).f1) ((rd_T74 x214001 x5).f1)).bind fun t218 => (if t218 = true then ((r09_SameRows.f k ((rd_T74 x213001 x5).f2) ((rd_T74 x214001 x5).f2)).bind fun t219 => (r30_Same.j2 k x5 (!t219) x213000 x213001 x214000 x214001)) else (r30_Same.j2 k x5 true x213000 x213001 x214000 x214001))) else (r30_Same.j2 k x5 true x213000 x213001 x214000 x214001)) else (none)) else (none)) else (some true)
def r30_Same.j2 : Nat → Int → Bool → Int → List (S74) → Int → List (S74) → Option (Bool)
  | 0, _, _, _, _, _, _ => none
  | k + 1, x5, x59, x213000, x213001, x214000, x214001 => if x59 = true then (some false) else (r30_Same.l0 k (wrap64 (x5 + 1)) x213000 x213001 x214000 x214001)
end
def r30_Same.f (k : Nat) (a0_0 : Int) (l0_1 : List (S74)) (a1_0 : Int) (l1_1 : List (S74)) : Option (Bool) := if a0_0 = a1_0 then (r30_Same.j0 k ((l0_1.length : Int) != (l1_1.length : Int)) a0_0 l0_1 a1_0 l1_1) else (r30_Same.j0 k true a0_0 l0_1 a1_0 l1_1)
def r30_Same.T6 : Bool × List (List Nat × List Nat) := (true, [([], []), ([0], [0]), ([], []), ([1, 2], [1, 2]), ([3], [3]), ([], []), ([5], [5]), ([], []), ([6, 7], [6, 7]), ([8], [8]), ([], []), ([], []), ([10, 4, 0, 1, 2, 3, 4, 10, 11], [4, 10]), ([11, 9, 12, 0, 1, 2, 3, 4, 5, 6, 7, 8, 9, 10, 11, 12], [9, 11])])
def r30_Same.B6 : List Nat := [0, 1, 0, 7, 15, 0, 32, 0, 224, 480, 0, 0, 3103, 8191]
theorem r30_Same.tab6 : rtab .any (opsOf Try.f32 6) = r30_Same.T6 := by kernel_rfl
theorem r30_Same.bits6 : waitsOk r30_Same.T6.2 r30_Same.B6 = true := by kernel_rfl
end
section
attribute [local go_sem] max2_int min2_int max_two min_two max_three min_three max_four min_four
mutual
def r09_Few.j0 : Nat → Int → Bool → Int → List (List Int) → Option (Bool)
  | 0, _, _, _, _ => none
  | k + 1, x1, x16, x481000, x481001 => if x16 = true then (some false) else (r09_Few.l0 k (wrap64 (x1 - (x481001.length : Int))) 0 x481000 x481001)
def r09_Few.l0 : Nat → Int → Int → Int → List (List Int) → Option (Bool)
  | 0, _, _, _, _ => none
  | k + 1, x5, x6, x481000, x481001 => if x6 < (x481001.length : Int) then (if 0 ≤ x6 then (if ((rd_L1 x481001 x6).length : Int) > x5 then (some false) else (r09_Few.l0 k (wrap64 (x5 - ((rd_L1 x481001 x6).length : Int))) (wrap64 (x6 + 1)) x481000 x481001)) else (none)) else (some true)
end
def r09_Few.f (k : Nat) (a0_0 : Int) (l0_1 : List (List Int)) (a1 : Int) : Option (Bool) := if a0_0 > 260 then (r09_Few.j0 k a1 true a0_0 l0_1) else (r09_Few.j0 k a1 (decide ((l0_1.length : Int) > a1)) a0_0 l0_1)
theorem r09_Few.calls (k : Nat) (a0_0 : Int) (A0_1 : Option Addr) (c0_1 : Nat) (l0_1 : List (List Int)) (a1 : Int) (r : Bool) (w : World) (hr0_1 : Kd.C (Kd.slice 3 (Kd.int .i64)) w A0_1 l0_1.length l0_1) (hc0_1 : l0_1.length ≤ c0_1) (h : r09_Few.f k a0_0 l0_1 a1 = some r) :
    Calls Try.prog 27 #[.agg #[.int .i64 a0_0, .slice A0_1 l0_1.length c0_1], .int .i64 a1] w fun e w' => e = .returned (.bool r) ∧ Below w.heap.size w w' := by
  have hu42 := Try.underlying42
  have HR0_1 := aM hr0_1
  have HC0_1 := aM hc0_1
  clear hr0_1 hc0_1
  have HB := aM (Below.refl w.heap.size w)
  have H : (if a0_0 > 260 then (r09_Few.j0 k a1 true a0_0 l0_1) else (r09_Few.j0 k a1 (decide ((l0_1.length : Int) > a1)) a0_0 l0_1)) = some r := h
  clear h
  have HC3 := aM H
  clear H
  go_enter Try.func27, Try.ntmps27
  go_upto_region 1 with (first | ((with_reducible refine gate_dst (N := 2) rfl ?_); (try (refine gate_guard (by rfl) ?_; dsimp only)); refine box_event ?hg (N := 2) ?hd (cs := #[.int .i64 a0_0, .slice A0_1 l0_1.length c0_1]) (t := 42) ?hr ?_; (case hd => rfl); (case hg => rfl); (case hr => first | (go_simp; done) | (go_simp; rfl)); intro gb480 hg w4 hbox hb; have BK480 := aM (hbox); have GW480 := aM ((by rw [hg]; exact (below_size zz88) : w.heap.size ≤ gb480)); have GE480 := aM ((by rw [hg]; exact (below_size zz88) : w.heap.size ≤ gb480)); replace HB := aM (below_step zz88 hb); clear hb hbox hg))
  (try simp only [Act.put, List.setIfInBounds_toArray, List.set_cons_zero, List.set_cons_succ])
  go_cut [16] (fun v16 wc => ∃ (kq : Nat) (x16_2 : Bool), v16 = .bool x16_2 ∧ Aside0 (r09_Few.j0 kq a1 x16_2 a0_0 l0_1 = some r) ∧ Aside0 (kq ≤ k) ∧ Aside0 (wc.heap[gb480]? = some (.cells #[.int .i64 a0_0, (.slice A0_1 l0_1.length c0_1)] 42 (0, 0))) ∧ Aside0 (Below w.heap.size w wc))
  case first =>
    have H := HC3.out; clear HC3
    by_cases c5 : a0_0 > 260
    · rw [if_pos c5] at H; have c5b0 := decide_eq_true c5; clear c5
      (first | rw [c5b0] | (simp only [i64_w, i32_w]; rw [c5b0]) | skip)
      have H' := aM H; clear H; have hcz6_0 : w4.cell? ⟨gb480, 0, none⟩ = some (.int .i64 a0_0) := (blk_cell BK480.out 0).trans rfl; have hcz6_1 : w4.cell? ⟨gb480, 1, none⟩ = some (.slice A0_1 l0_1.length c0_1) := (blk_cell BK480.out 1).trans rfl; have hfz6_0 := blk_frozen BK480.out 0; have hfz6_1 := blk_frozen BK480.out 1; go_wp2; go_meet
      case rel => exact ⟨_, (true), zz112, H', ⟨zz114⟩, ⟨(zB BK480)⟩, ⟨zz65⟩⟩
    rw [if_neg c5] at H; have c5b0 := decide_eq_false c5; clear c5
    (first | rw [c5b0] | (simp only [i64_w, i32_w]; rw [c5b0]) | skip)
    have H' := aM H; clear H; have hcz7_0 : w4.cell? ⟨gb480, 0, none⟩ = some (.int .i64 a0_0) := (blk_cell BK480.out 0).trans rfl; have hcz7_1 : w4.cell? ⟨gb480, 1, none⟩ = some (.slice A0_1 l0_1.length c0_1) := (blk_cell BK480.out 1).trans rfl; have hfz7_0 := blk_frozen BK480.out 0; have hfz7_1 := blk_frozen BK480.out 1; go_wp2; go_meet
    case rel => exact ⟨_, (decide ((l0_1.length : Int) > a1)), zz112, H', ⟨zz114⟩, ⟨(zB BK480)⟩, ⟨zz65⟩⟩
  case rest =>
    clear HC3; (try clear c2); (try clear p2); (try clear c5); (try clear c5b0); (try clear hcz6_0); (try clear hcz6_1); (try clear hcz7_0); (try clear hcz7_1); (try clear hfz6_0); (try clear hfz6_1); (try clear hfz7_0); (try clear hfz7_1); obtain ⟨kq, x16_2, rfl, HA, HJ2, BK480, HB⟩ := hcut
    cases kq with
    | zero => exact absurd HA.out (by simp [r09_Few.j0])
    | succ kj2 =>
      have H := HA.out; clear HA; simp only [r09_Few.j0] at H
      by_cases c8 : x16_2 = true
      · subst c8; have H1 : (some false) = some r := by rw [if_pos rfl] at H; exact H
        clear H; have H := H1; clear H1; obtain rfl := Option.some.inj H; go_wp2; go_ret
        exact ⟨by first | rfl | (simp [errW_none, errW_some] <;> rfl) | (simp [*, errW_none, errW_some] <;> rfl), by repeat (first | (with_reducible first | exact HB.out | apply below_alloc | apply pw_below_drewN | apply below_drew1 | refine below_set ?_ GE480.out) | exact HB.out)⟩
      replace c8 := Bool.eq_false_iff.mpr c8; subst c8; have H1 : (r09_Few.l0 kj2 (wrap64 (a1 - (l0_1.length : Int))) 0 a0_0 l0_1) = some r := by rw [if_neg (show ¬ (false = true) by decide)] at H; exact H
      clear H; have H := H1; clear H1; have H' := aM H; clear H; have hcz9_0 : wc.cell? ⟨gb480, 0, none⟩ = some (.int .i64 a0_0) := (blk_cell BK480.out 0).trans rfl; have hcz9_1 : wc.cell? ⟨gb480, 1, none⟩ = some (.slice A0_1 l0_1.length c0_1) := (blk_cell BK480.out 1).trans rfl; have hfz9_0 := blk_frozen BK480.out 0; have hfz9_1 := blk_frozen BK480.out 1; go_wp2
      go_loopg [5, 6] kj2 (fun kq v5 v6 w' => ∃ (x5_2 : Int) (x6_2 : Int), v5 = .int .i64 x5_2 ∧ v6 = .int .i64 x6_2 ∧ Aside0 (r09_Few.l0 kq x5_2 x6_2 a0_0 l0_1 = some r) ∧ Aside0 (kq ≤ kj2) ∧ Aside0 (w'.heap[gb480]? = some (.cells #[.int .i64 a0_0, (.slice A0_1 l0_1.length c0_1)] 42 (0, 0))) ∧ Aside0 (Below w.heap.size w w'))
      case atStart => exact ⟨(wrap64 (a1 - (l0_1.length : Int))), (0), zz112, zz112, H', ⟨Nat.le_refl _⟩, ⟨(zB BK480)⟩, ⟨zz65⟩⟩
      case round =>
        clear H'; (try clear c2); (try clear p2); (try clear c5); (try clear c5b0); (try clear p6); (try clear c8); (try clear hcz6_0); (try clear hcz6_1); (try clear hcz7_0); (try clear hcz7_1); (try clear hcz9_0); (try clear hcz9_1); (try clear hfz6_0); (try clear hfz6_1); (try clear hfz7_0); (try clear hfz7_1); (try clear hfz9_0); (try clear hfz9_1); (try clear p2); obtain ⟨x5_2, x6_2, rfl, rfl, HA, HK2, BK480, HB⟩ := hrel
        cases gk with
        | zero => exact absurd HA.out (by simp [r09_Few.l0])
        | succ k2 =>
          have H := HA.out; clear HA; simp only [r09_Few.l0] at H
          by_cases c10 : x6_2 < (l0_1.length : Int)
          · rw [if_pos c10] at H; have c10b0 := decide_eq_true c10; clear c10
            by_cases c11 : 0 ≤ x6_2
            · rw [if_pos c11] at H; have c11b0 := decide_eq_true c11; clear c11
              by_cases c12 : ((rd_L1 l0_1 x6_2).length : Int) > x5_2
              · rw [if_pos c12] at H; have c12b0 := decide_eq_true c12; clear c12; obtain rfl := Option.some.inj H; have hcz13_0 : wr.cell? ⟨gb480, 0, none⟩ = some (.int .i64 a0_0) := (blk_cell BK480.out 0).trans rfl; have hcz13_1 : wr.cell? ⟨gb480, 1, none⟩ = some (.slice A0_1 l0_1.length c0_1) := (blk_cell BK480.out 1).trans rfl; have hfz13_0 := blk_frozen BK480.out 0; have hfz13_1 := blk_frozen BK480.out 1; have p481 : 0 ≤ (x6_2 : Int) := of_decide_eq_true zz111; have q481 : x6_2 < (l0_1.length : Int) := of_decide_eq_true zz111; obtain ⟨ad481, A481_0, c481_0, e481, hx481_0, hl481_0, hi481_0⟩ := at_L1 HR0_1.out x6_2 p481 q481
                cases e481; replace hx481_0 := (HB.out.cell (World.block_lt_of_cell? w _ hx481_0)).trans hx481_0; have HR481_0 := aM hi481_0; have HC481_0 := aM hl481_0; clear hi481_0 hl481_0; replace p481 := eq_true p481; replace q481 := eq_true q481; go_wp2; go_ret
                exact ⟨by first | rfl | (simp [errW_none, errW_some] <;> rfl) | (simp [*, errW_none, errW_some] <;> rfl), by repeat (first | (with_reducible first | exact HB.out | apply below_alloc | apply pw_below_drewN | apply below_drew1 | refine below_set ?_ GE480.out) | exact HB.out)⟩
              rw [if_neg c12] at H; have c12b0 := decide_eq_false c12; clear c12; have H' := aM H; clear H; have hcz14_0 : wr.cell? ⟨gb480, 0, none⟩ = some (.int .i64 a0_0) := (blk_cell BK480.out 0).trans rfl; have hcz14_1 : wr.cell? ⟨gb480, 1, none⟩ = some (.slice A0_1 l0_1.length c0_1) := (blk_cell BK480.out 1).trans rfl; have hfz14_0 := blk_frozen BK480.out 0; have hfz14_1 := blk_frozen BK480.out 1; have p481 : 0 ≤ (x6_2 : Int) := of_decide_eq_true zz111; have q481 : x6_2 < (l0_1.length : Int) := of_decide_eq_true zz111; obtain ⟨ad481, A481_0, c481_0, e481, hx481_0, hl481_0, hi481_0⟩ := at_L1 HR0_1.out x6_2 p481 q481
              cases e481; replace hx481_0 := (HB.out.cell (World.block_lt_of_cell? w _ hx481_0)).trans hx481_0; have HR481_0 := aM hi481_0; have HC481_0 := aM hl481_0; clear hi481_0 hl481_0; replace p481 := eq_true p481; replace q481 := eq_true q481; have p482 : 0 ≤ (x6_2 : Int) := of_decide_eq_true zz111; have q482 : x6_2 < (l0_1.length : Int) := of_decide_eq_true zz111; obtain ⟨ad482, A482_0, c482_0, e482, hx482_0, hl482_0, hi482_0⟩ := at_L1 HR0_1.out x6_2 p482 q482; obtain rfl : ad481 = ad482 := (by injection e482); replace hx482_0 := (HB.out.cell (World.block_lt_of_cell? w _ hx482_0)).trans hx482_0; have HR482_0 := aM hi482_0; have HC482_0 := aM hl482_0; clear hi482_0 hl482_0; replace p482 := eq_true p482; replace q482 := eq_true q482; have ea_ := Option.some.inj (hx481_0.symm.trans hx482_0); injection ea_ with ea_ en_ ec_
              subst ea_; subst ec_; clear en_; go_wp2
              go_roundg k2
              case measure => have := HJ2.out; have := HK2.out; omega
              case rel => exact ⟨(wrap64 (x5_2 - ((rd_L1 l0_1 x6_2).length : Int))), (wrap64 (x6_2 + 1)), zz112, zz112, H', ⟨(by have := HJ2.out; have := HK2.out; omega)⟩, ⟨(zB BK480)⟩, ⟨zz65⟩⟩
            rw [if_neg c11] at H
            exact absurd H (by simp)
          rw [if_neg c10] at H; have c10b0 := decide_eq_false c10; clear c10; obtain rfl := Option.some.inj H; have hcz15_0 : wr.cell? ⟨gb480, 0, none⟩ = some (.int .i64 a0_0) := (blk_cell BK480.out 0).trans rfl; have hcz15_1 : wr.cell? ⟨gb480, 1, none⟩ = some (.slice A0_1 l0_1.length c0_1) := (blk_cell BK480.out 1).trans rfl; have hfz15_0 := blk_frozen BK480.out 0; have hfz15_1 := blk_frozen BK480.out 1; go_wp2; go_ret
          exact ⟨by first | rfl | (simp [errW_none, errW_some] <;> rfl) | (simp [*, errW_none, errW_some] <;> rfl), by repeat (first | (with_reducible first | exact HB.out | apply below_alloc | apply pw_below_drewN | apply below_drew1 | refine below_set ?_ GE480.out) | exact HB.out)⟩
end
section
attribute [local go_sem] max2_int min2_int max_two min_two max_three min_three max_four min_four
mutual
def r30_Check.j0 : Nat → List Int → Int → Bool → Option (Int)
  | 0, _, _, _ => none
  | k + 1, x0, x3, x14 => if x14 = true then (some 4) else (r30_Check.l0 k x0 x3 0)
def r30_Check.l0 : Nat → List Int → Int → Int → Option (Int)
  | 0, _, _, _ => none
  | k + 1, x0, x3, x4 => if x4 < x3 then (if 0 ≤ x4 then (if x4 < (x0.length : Int) then (if (rd x0 x4) < 0 then (some 6) else (if (rd x0 x4) ≥ x3 then (some 6) else (r30_Check.l0 k x0 x3 (wrap64 (x4 + 1))))) else (none)) else (none)) else (r30_Check.l1 k x0 x3 0)
def r30_Check.l1 : Nat → List Int → Int → Int → Option (Int)
  | 0, _, _, _ => none
  | k + 1, x0, x3, x5 => if x5 < x3 then (r30_Check.l2 k x0 x3 x5 0) else (some 0)
def r30_Check.l2 : Nat → List Int → Int → Int → Int → Option (Int)
  | 0, _, _, _, _ => none
  | k + 1, x0, x3, x5, x6 => if x6 < x5 then (if 0 ≤ x5 then (if x5 < (x0.length : Int) then (if 0 ≤ x6 then (if x6 < (x0.length : Int) then (if (rd x0 x5) = (rd x0 x6) then (some 18) else (r30_Check.l2 k x0 x3 x5 (wrap64 (x6 + 1)))) else (none)) else (none)) else (none)) else (none)) else (r30_Check.l1 k x0 x3 (wrap64 (x5 + 1)))
end
def r30_Check.f (k : Nat) (l0 : List Int) : Option (Int) := if (l0.length : Int) < 1 then (r30_Check.j0 k l0 (l0.length : Int) true) else (r30_Check.j0 k l0 (l0.length : Int) (decide ((l0.length : Int) > 64)))
theorem r30_Check.calls (k : Nat) (A0 : Option Addr) (c0 : Nat) (l0 : List Int) (r : Int) (w : World) (hr0 : Kd.C (Kd.int .i64) w A0 l0.length l0) (hc0 : l0.length ≤ c0) (h : r30_Check.f k l0 = some r) :
    Calls Try.prog 17 #[.slice A0 l0.length c0] w fun e w' => e = .returned (.int .i64 r) ∧ Drawn0 w w' := by
  have HR0 := aM hr0
  have HC0 := aM hc0
  clear hr0 hc0
  have H : (if (l0.length : Int) < 1 then (r30_Check.j0 k l0 (l0.length : Int) true) else (r30_Check.j0 k l0 (l0.length : Int) (decide ((l0.length : Int) > 64)))) = some r := h
  clear h
  have HC2 := aM H
  clear H
  go_enter Try.func17, Try.ntmps17
  go_upto_region 2 with (fail)
  repeat (go_quiet (fail); go_upto_region 2 with (fail))
  go_cut [14] (fun v14 wc => ∃ (kq : Nat) (x14_1 : Bool), v14 = .bool x14_1 ∧ Aside0 (r30_Check.j0 kq l0 (l0.length : Int) x14_1 = some r) ∧ Aside0 (kq ≤ k) ∧ Drawn0 w wc)
  case first =>
    have H := HC2.out; clear HC2
    by_cases c3 : (l0.length : Int) < 1
    · rw [if_pos c3] at H; have c3b0 := decide_eq_true c3; have c3b1 : decide (l0.length < 1) = true := decide_eq_true (by omega); clear c3
      (first | rw [c3b0] | (simp only [i64_w, i32_w]; rw [c3b0]) | skip)
      have H' := aM H; clear H; go_wp2
      repeat (go_quiet (fail); try go_wp2)
      go_meet
      case rel => exact ⟨_, (true), zz112, H', ⟨zz114⟩, by repeat (first | exact Drawn0.refl _ | apply Drawn0.step)⟩
    rw [if_neg c3] at H; have c3b0 := decide_eq_false c3; have c3b1 : decide (l0.length < 1) = false := decide_eq_false (by omega); clear c3
    (first | rw [c3b0] | (simp only [i64_w, i32_w]; rw [c3b0]) | skip)
    have H' := aM H; clear H; go_wp2
    repeat (go_quiet (fail); try go_wp2)
    go_meet
    case rel => exact ⟨_, (decide ((l0.length : Int) > 64)), zz112, H', ⟨zz114⟩, by repeat (first | exact Drawn0.refl _ | apply Drawn0.step)⟩
  case rest =>
    clear HC2; (try clear c1); (try clear p2); (try clear c3); (try clear c3b0); (try clear c3b1); obtain ⟨kq, x14_1, rfl, HA, HJ1, ⟨mc1, rfl⟩⟩ := hcut
    cases kq with
    | zero => exact absurd HA.out (by simp [r30_Check.j0])
    | succ kj1 =>
      have H := HA.out; clear HA; simp only [r30_Check.j0] at H
      by_cases c4 : x14_1 = true
      · subst c4; have H1 : (some 4) = some r := by rw [if_pos rfl] at H; exact H
        clear H; have H := H1; clear H1; obtain rfl := Option.some.inj H; go_wp2
        repeat (go_quiet (fail); try go_wp2)
        go_ret
        exact ⟨by first | rfl | (simp; done) | (simp [*]; done), by repeat (first | exact Drawn0.refl _ | apply Drawn0.step)⟩
      replace c4 := Bool.eq_false_iff.mpr c4; subst c4; have H1 : (r30_Check.l0 kj1 l0 (l0.length : Int) 0) = some r := by rw [if_neg (show ¬ (false = true) by decide)] at H; exact H
      clear H; have H := H1; clear H1; have H' := aM H; clear H; go_wp2
      repeat (go_quiet (fail); try go_wp2)
      go_loopg [4] kj1 (fun kq v4 w' => ∃ (x4_2 : Int), v4 = .int .i64 x4_2 ∧ Aside0 (r30_Check.l0 kq l0 (l0.length : Int) x4_2 = some r) ∧ Aside0 (kq ≤ kj1) ∧ Drawn0 w w')
      case atStart => exact ⟨(0), zz112, H', ⟨Nat.le_refl _⟩, by repeat (first | exact Drawn0.refl _ | apply Drawn0.step)⟩
      case round =>
        clear H'; (try clear c1); (try clear p2); (try clear c3); (try clear c3b0); (try clear c3b1); (try clear c4); (try clear p2); obtain ⟨x4_2, rfl, HA, HK2, ⟨m2, rfl⟩⟩ := hrel
        cases gk with
        | zero => exact absurd HA.out (by simp [r30_Check.l0])
        | succ k2 =>
          have H := HA.out; clear HA; simp only [r30_Check.l0] at H
          by_cases c5 : x4_2 < (l0.length : Int)
          · rw [if_pos c5] at H; have c5b0 := decide_eq_true c5; clear c5
            by_cases c6 : 0 ≤ x4_2
            · rw [if_pos c6] at H; have c6b0 := decide_eq_true c6; clear c6
              by_cases c7 : x4_2 < (l0.length : Int)
              · rw [if_pos c7] at H; have c7b0 := decide_eq_true c7; clear c7
                by_cases c8 : (rd l0 x4_2) < 0
                · rw [if_pos c8] at H; have c8b0 := decide_eq_true c8; clear c8; obtain rfl := Option.some.inj H; have p311 : 0 ≤ (x4_2 : Int) := of_decide_eq_true zz111; have q311 : x4_2 < (l0.length : Int) := of_decide_eq_true zz111; obtain ⟨ad311, e311, hx311_0⟩ := Kd.at_int HR0.out x4_2 p311 q311
                  cases e311; replace p311 := eq_true p311; replace q311 := eq_true q311; go_wp2
                  repeat (go_quiet (fail); try go_wp2)
                  go_ret
                  exact ⟨by first | rfl | (simp; done) | (simp [*]; done), by repeat (first | exact Drawn0.refl _ | apply Drawn0.step)⟩
                rw [if_neg c8] at H; have c8b0 := decide_eq_false c8; clear c8
                by_cases c9 : (rd l0 x4_2) ≥ (l0.length : Int)
                · rw [if_pos c9] at H; have c9b0 := decide_eq_true c9; clear c9; obtain rfl := Option.some.inj H; have p311 : 0 ≤ (x4_2 : Int) := of_decide_eq_true zz111; have q311 : x4_2 < (l0.length : Int) := of_decide_eq_true zz111; obtain ⟨ad311, e311, hx311_0⟩ := Kd.at_int HR0.out x4_2 p311 q311
                  cases e311; replace p311 := eq_true p311; replace q311 := eq_true q311; have p312 : 0 ≤ (x4_2 : Int) := of_decide_eq_true zz111; have q312 : x4_2 < (l0.length : Int) := of_decide_eq_true zz111; obtain ⟨ad312, e312, hx312_0⟩ := Kd.at_int HR0.out x4_2 p312 q312; obtain rfl : ad311 = ad312 := (by injection e312); replace p312 := eq_true p312; replace q312 := eq_true q312; go_wp2
                  repeat (go_quiet (fail); try go_wp2)
                  go_ret
                  exact ⟨by first | rfl | (simp; done) | (simp [*]; done), by repeat (first | exact Drawn0.refl _ | apply Drawn0.step)⟩
                rw [if_neg c9] at H; have c9b0 := decide_eq_false c9; clear c9; have H' := aM H; clear H; have p311 : 0 ≤ (x4_2 : Int) := of_decide_eq_true zz111; have q311 : x4_2 < (l0.length : Int) := of_decide_eq_true zz111; obtain ⟨ad311, e311, hx311_0⟩ := Kd.at_int HR0.out x4_2 p311 q311
                cases e311; replace p311 := eq_true p311; replace q311 := eq_true q311; have p312 : 0 ≤ (x4_2 : Int) := of_decide_eq_true zz111; have q312 : x4_2 < (l0.length : Int) := of_decide_eq_true zz111; obtain ⟨ad312, e312, hx312_0⟩ := Kd.at_int HR0.out x4_2 p312 q312; obtain rfl : ad311 = ad312 := (by injection e312); replace p312 := eq_true p312; replace q312 := eq_true q312; go_wp2
                repeat (go_quiet (fail); try go_wp2)
                go_roundg k2
                case measure => have := HJ1.out; have := HK2.out; omega
                case rel => exact ⟨(wrap64 (x4_2 + 1)), zz112, H', ⟨(by have := HJ1.out; have := HK2.out; omega)⟩, by repeat (first | exact Drawn0.refl _ | apply Drawn0.step)⟩
              rw [if_neg c7] at H
              exact absurd H (by simp)
            rw [if_neg c6] at H
            exact absurd H (by simp)
          rw [if_neg c5] at H; have c5b0 := decide_eq_false c5; clear c5; have H' := aM H; clear H; go_wp2
          repeat (go_quiet (fail); try go_wp2)
          go_loopg [5] k2 (fun kq v5 w' => ∃ (x5_3 : Int), v5 = .int .i64 x5_3 ∧ Aside0 (r30_Check.l1 kq l0 (l0.length : Int) x5_3 = some r) ∧ Aside0 (kq ≤ k2) ∧ Drawn0 w w')
          case atStart => exact ⟨(0), zz112, H', ⟨Nat.le_refl _⟩, by repeat (first | exact Drawn0.refl _ | apply Drawn0.step)⟩
          case round =>
            clear H'; (try clear c1); (try clear p2); (try clear c3); (try clear c3b0); (try clear c3b1); (try clear p3); (try clear q3); (try clear hx3); (try clear c4); (try clear c5); (try clear c5b0); (try clear c6); (try clear c6b0); (try clear p6); (try clear c7); (try clear c7b0); (try clear c8); (try clear c8b0); (try clear c9); (try clear c9b0); (try clear hx311_0); (try clear hx312_0); (try clear p2); (try clear p311); (try clear p312); (try clear q311); (try clear q312); obtain ⟨x5_3, rfl, HA, HK3, ⟨m3, rfl⟩⟩ := hrel
            cases gk with
            | zero => exact absurd HA.out (by simp [r30_Check.l1])
            | succ k3 =>
              have H := HA.out; clear HA; simp only [r30_Check.l1] at H
              by_cases c10 : x5_3 < (l0.length : Int)
              · rw [if_pos c10] at H; have c10b0 := decide_eq_true c10; clear c10; have H' := aM H; clear H; go_wp2
                repeat (go_quiet (fail); try go_wp2)
                go_loopg [6] k3 (fun kq v6 w' => ∃ (x6_4 : Int), v6 = .int .i64 x6_4 ∧ Aside0 (r30_Check.l2 kq l0 (l0.length : Int) x5_3 x6_4 = some r) ∧ Aside0 (kq ≤ k3) ∧ Drawn0 w w')
                case atStart => exact ⟨(0), zz112, H', ⟨Nat.le_refl _⟩, by repeat (first | exact Drawn0.refl _ | apply Drawn0.step)⟩
                case round =>
                  clear H'; (try clear c1); (try clear p2); (try clear c3); (try clear c3b0); (try clear c3b1); (try clear p3); (try clear q3); (try clear hx3); (try clear c4); (try clear c5); (try clear c5b0); (try clear c6); (try clear c6b0); (try clear p6); (try clear c7); (try clear c7b0); (try clear c8); (try clear c8b0); (try clear c9); (try clear c9b0); (try clear c10); (try clear c10b0); (try clear hx311_0); (try clear hx312_0); (try clear p2); (try clear p3); (try clear p311); (try clear p312); (try clear p6); (try clear q3); (try clear q311); (try clear q312); obtain ⟨x6_4, rfl, HA, HK4, ⟨m4, rfl⟩⟩ := hrel
                  cases gk with
                  | zero => exact absurd HA.out (by simp [r30_Check.l2])
                  | succ k4 =>
                    have H := HA.out; clear HA; simp only [r30_Check.l2] at H
                    by_cases c11 : x6_4 < x5_3
                    · rw [if_pos c11] at H; have c11b0 := decide_eq_true c11; clear c11
                      by_cases c12 : 0 ≤ x5_3
                      · rw [if_pos c12] at H; have c12b0 := decide_eq_true c12; clear c12
                        by_cases c13 : x5_3 < (l0.length : Int)
                        · rw [if_pos c13] at H; have c13b0 := decide_eq_true c13; clear c13
                          by_cases c14 : 0 ≤ x6_4
                          · rw [if_pos c14] at H; have c14b0 := decide_eq_true c14; clear c14
                            by_cases c15 : x6_4 < (l0.length : Int)
                            · rw [if_pos c15] at H; have c15b0 := decide_eq_true c15; clear c15
                              by_cases c16 : (rd l0 x5_3) = (rd l0 x6_4)
                              · rw [if_pos c16] at H; have c16b0 := beq_iff_eq.mpr c16; have c16b1 := bne_eq_false_iff_eq.mpr c16; clear c16; obtain rfl := Option.some.inj H; have p313 : 0 ≤ (x5_3 : Int) := of_decide_eq_true zz111; have q313 : x5_3 < (l0.length : Int) := of_decide_eq_true zz111; obtain ⟨ad313, e313, hx313_0⟩ := Kd.at_int HR0.out x5_3 p313 q313
                                cases e313; replace p313 := eq_true p313; replace q313 := eq_true q313; have p314 : 0 ≤ (x6_4 : Int) := of_decide_eq_true zz111; have q314 : x6_4 < (l0.length : Int) := of_decide_eq_true zz111; obtain ⟨ad314, e314, hx314_0⟩ := Kd.at_int HR0.out x6_4 p314 q314; obtain rfl : ad313 = ad314 := (by injection e314); replace p314 := eq_true p314; replace q314 := eq_true q314; go_wp2
                                repeat (go_quiet (fail); try go_wp2)
                                go_ret
                                exact ⟨by first | rfl | (simp; done) | (simp [*]; done), by repeat (first | exact Drawn0.refl _ | apply Drawn0.step)⟩
                              rw [if_neg c16] at H; have c16b0 := beq_eq_false_iff_ne.mpr c16; have c16b1 := bne_iff_ne.mpr c16; have H' := aM H; clear H; have p313 : 0 ≤ (x5_3 : Int) := of_decide_eq_true zz111; have q313 : x5_3 < (l0.length : Int) := of_decide_eq_true zz111; obtain ⟨ad313, e313, hx313_0⟩ := Kd.at_int HR0.out x5_3 p313 q313
                              cases e313; replace p313 := eq_true p313; replace q313 := eq_true q313; have p314 : 0 ≤ (x6_4 : Int) := of_decide_eq_true zz111; have q314 : x6_4 < (l0.length : Int) := of_decide_eq_true zz111; obtain ⟨ad314, e314, hx314_0⟩ := Kd.at_int HR0.out x6_4 p314 q314; obtain rfl : ad313 = ad314 := (by injection e314); replace p314 := eq_true p314; replace q314 := eq_true q314; go_wp2
                              repeat (go_quiet (fail); try go_wp2)
                              go_roundg k4
                              case measure => have := HJ1.out; have := HK2.out; have := HK3.out; have := HK4.out; omega
                              case rel => exact ⟨(wrap64 (x6_4 + 1)), zz112, H', ⟨zz107⟩, by repeat (first | exact Drawn0.refl _ | apply Drawn0.step)⟩
                            rw [if_neg c15] at H
                            exact absurd H (by simp)
                          rw [if_neg c14] at H
                          exact absurd H (by simp)
                        rw [if_neg c13] at H
                        exact absurd H (by simp)
                      rw [if_neg c12] at H
                      exact absurd H (by simp)
                    rw [if_neg c11] at H; have c11b0 := decide_eq_false c11; clear c11; have H' := aM H; clear H; go_wp2
                    repeat (go_quiet (fail); try go_wp2)
                    go_roundg k4
                    case measure => have := HJ1.out; have := HK2.out; have := HK3.out; have := HK4.out; omega
                    case rel => exact ⟨(wrap64 (x5_3 + 1)), zz112, H', ⟨zz107⟩, by repeat (first | exact Drawn0.refl _ | apply Drawn0.step)⟩
              rw [if_neg c10] at H; have c10b0 := decide_eq_false c10; clear c10; obtain rfl := Option.some.inj H; go_wp2
              repeat (go_quiet (fail); try go_wp2)
              go_ret
              exact ⟨by first | rfl | (simp; done) | (simp [*]; done), by repeat (first | exact Drawn0.refl _ | apply Drawn0.step)⟩
end
section
attribute [local go_sem] max2_int min2_int max_two min_two max_three min_three max_four min_four
mutual
def r30_all.l0 : Nat → Int → List (List Int) → Int → Option (Int)
  | 0, _, _, _ => none
  | k + 1, x0, x1, x5 => if x5 < (x1.length : Int) then (if 0 ≤ x5 then ((r30_Check.f k (rd_L1 x1 x5)).bind fun t316 => (if t316 = 0 then (r30_all.l0 k x0 x1 (wrap64 (x5 + 1))) else (some t316))) else (none)) else (r30_all.l1 k x0 x1 0)
def r30_all.l1 : Nat → Int → List (List Int) → Int → Option (Int)
  | 0, _, _, _ => none
  | k + 1, x0, x1, x7 => if x7 < (x1.length : Int) then (if 0 ≤ x7 then (if ((rd_L1 x1 x7).length : Int) = x0 then (r30_all.l1 k x0 x1 (wrap64 (x7 + 1))) else (some 10)) else (none)) else (some 0)
end
def r30_all.f (k : Nat) (a0 : Int) (l1 : List (List Int)) : Option (Int) := r30_all.l0 k a0 l1 0
theorem r30_all.calls (k : Nat) (a0 : Int) (A1 : Option Addr) (c1 : Nat) (l1 : List (List Int)) (r : Int) (w : World) (hr1 : Kd.C (Kd.slice 3 (Kd.int .i64)) w A1 l1.length l1) (hc1 : l1.length ≤ c1) (h : r30_all.f k a0 l1 = some r) :
    Calls Try.prog 51 #[.int .i64 a0, .slice A1 l1.length c1] w fun e w' => e = .returned (.int .i64 r) ∧ Drawn0 w w' := by
  have HR1 := aM hr1
  have HC1 := aM hc1
  clear hr1 hc1
  have H : (r30_all.l0 k a0 l1 0) = some r := h
  clear h
  have H' := aM H
  clear H
  go_enter Try.func51, Try.ntmps51
  go_wp2
  go_loopg [5] k (fun kq v5 w' => ∃ (x5_1 : Int), v5 = .int .i64 x5_1 ∧ Aside0 (r30_all.l0 kq a0 l1 x5_1 = some r) ∧ Aside0 (kq ≤ k) ∧ Drawn0 w w')
  case atStart => exact ⟨(0), zz112, H', ⟨Nat.le_refl _⟩, by repeat (first | exact Drawn0.refl _ | apply Drawn0.step)⟩
  case round =>
    clear H'; (try clear c1); (try clear p2); obtain ⟨x5_1, rfl, HA, HK1, ⟨m1, rfl⟩⟩ := hrel
    cases gk with
    | zero => exact absurd HA.out (by simp [r30_all.l0])
    | succ k1 =>
      have H := HA.out; clear HA; simp only [r30_all.l0] at H
      by_cases c3 : x5_1 < (l1.length : Int)
      · rw [if_pos c3] at H; have c3b0 := decide_eq_true c3; clear c3
        by_cases c4 : 0 ≤ x5_1
        · rw [if_pos c4] at H; have c4b0 := decide_eq_true c4; clear c4; replace H := Option.bind_eq_some_iff.mp H; obtain ⟨t316, A50, H⟩ := H; replace H : (if t316 = 0 then (r30_all.l0 k1 a0 l1 (wrap64 (x5_1 + 1))) else (some t316)) = some r := H; have A5 := aM A50; clear A50
          by_cases c6 : t316 = 0
          · rw [if_pos c6] at H; have c6b0 := beq_iff_eq.mpr c6; have c6b1 := bne_eq_false_iff_eq.mpr c6; clear c6; have H' := aM H; clear H; have p315 : 0 ≤ (x5_1 : Int) := of_decide_eq_true zz111; have q315 : x5_1 < (l1.length : Int) := of_decide_eq_true zz111; obtain ⟨ad315, A315_0, c315_0, e315, hx315_0, hl315_0, hi315_0⟩ := at_L1 HR1.out x5_1 p315 q315
            cases e315; have HR315_0 := aM hi315_0; have HC315_0 := aM hl315_0; clear hi315_0 hl315_0; replace p315 := eq_true p315; replace q315 := eq_true q315
            go_wp2_with (first | ((with_reducible refine gate_callee (f := 17) rfl ?_); refine goesL_ (some 18) rfl rfl Try.func17 (by kernel_rfl) rfl #[.slice A315_0 (rd_L1 l1 x5_1).length c315_0] rfl zz87 ?_; (with_reducible refine (r30_Check.calls k1 _ _ (rd_L1 l1 x5_1) t316 _ ?side1 ?side2 A5.out).mono ?_); (case side1 => repeat (first | exact HR315_0.out | (with_reducible refine Kd.C_alloc ?_ _) | (with_reducible refine Kd.C_drewN ?_ _) | (with_reducible refine Kd.C_drew ?_))); (case side2 => exact HC315_0.out); rintro e w' ⟨rfl, ⟨nd, rfl⟩⟩; refine ⟨_, rfl, ?_⟩))
            go_roundg k1
            case measure => have := HK1.out; omega
            case rel => exact ⟨(wrap64 (x5_1 + 1)), zz112, H', ⟨zz120⟩, by repeat (first | exact Drawn0.refl _ | apply Drawn0.step)⟩
          rw [if_neg c6] at H; have c6b0 := beq_eq_false_iff_ne.mpr c6; have c6b1 := bne_iff_ne.mpr c6; obtain rfl := Option.some.inj H; have p315 : 0 ≤ (x5_1 : Int) := of_decide_eq_true zz111; have q315 : x5_1 < (l1.length : Int) := of_decide_eq_true zz111; obtain ⟨ad315, A315_0, c315_0, e315, hx315_0, hl315_0, hi315_0⟩ := at_L1 HR1.out x5_1 p315 q315
          cases e315; have HR315_0 := aM hi315_0; have HC315_0 := aM hl315_0; clear hi315_0 hl315_0; replace p315 := eq_true p315; replace q315 := eq_true q315
          go_wp2_with (first | ((with_reducible refine gate_callee (f := 17) rfl ?_); refine goesL_ (some 18) rfl rfl Try.func17 (by kernel_rfl) rfl #[.slice A315_0 (rd_L1 l1 x5_1).length c315_0] rfl zz87 ?_; (with_reducible refine (r30_Check.calls k1 _ _ (rd_L1 l1 x5_1) t316 _ ?side1 ?side2 A5.out).mono ?_); (case side1 => repeat (first | exact HR315_0.out | (with_reducible refine Kd.C_alloc ?_ _) | (with_reducible refine Kd.C_drewN ?_ _) | (with_reducible refine Kd.C_drew ?_))); (case side2 => exact HC315_0.out); rintro e w' ⟨rfl, ⟨nd, rfl⟩⟩; refine ⟨_, rfl, ?_⟩))
          go_ret
          exact ⟨by first | rfl | (simp; done) | (simp [*]; done), by repeat (first | exact Drawn0.refl _ | apply Drawn0.step)⟩
        rw [if_neg c4] at H
        exact absurd H (by simp)
      rw [if_neg c3] at H; have c3b0 := decide_eq_false c3; clear c3; have H' := aM H; clear H; go_wp2
      go_loopg [7] k1 (fun kq v7 w' => ∃ (x7_2 : Int), v7 = .int .i64 x7_2 ∧ Aside0 (r30_all.l1 kq a0 l1 x7_2 = some r) ∧ Aside0 (kq ≤ k1) ∧ Drawn0 w w')
      case atStart => exact ⟨(0), zz112, H', ⟨Nat.le_refl _⟩, by repeat (first | exact Drawn0.refl _ | apply Drawn0.step)⟩
      case round =>
        clear H'; (try clear c1); (try clear p2); (try clear c3); (try clear c3b0); (try clear p3); (try clear q3); (try clear hx3); (try clear c4); (try clear c4b0); (try clear c5); (try clear c6); (try clear c6b0); (try clear c6b1); (try clear p6); (try clear hx315_0); (try clear p2); (try clear p315); (try clear q315); obtain ⟨x7_2, rfl, HA, HK2, ⟨m2, rfl⟩⟩ := hrel
        cases gk with
        | zero => exact absurd HA.out (by simp [r30_all.l1])
        | succ k2 =>
          have H := HA.out; clear HA; simp only [r30_all.l1] at H
          by_cases c7 : x7_2 < (l1.length : Int)
          · rw [if_pos c7] at H; have c7b0 := decide_eq_true c7; clear c7
            by_cases c8 : 0 ≤ x7_2
            · rw [if_pos c8] at H; have c8b0 := decide_eq_true c8; clear c8
              by_cases c9 : ((rd_L1 l1 x7_2).length : Int) = a0
              · rw [if_pos c9] at H; have c9b0 := beq_iff_eq.mpr c9; have c9b1 := bne_eq_false_iff_eq.mpr c9; clear c9; have H' := aM H; clear H; have p317 : 0 ≤ (x7_2 : Int) := of_decide_eq_true zz111; have q317 : x7_2 < (l1.length : Int) := of_decide_eq_true zz111; obtain ⟨ad317, A317_0, c317_0, e317, hx317_0, hl317_0, hi317_0⟩ := at_L1 HR1.out x7_2 p317 q317
                cases e317; have HR317_0 := aM hi317_0; have HC317_0 := aM hl317_0; clear hi317_0 hl317_0; replace p317 := eq_true p317; replace q317 := eq_true q317; go_wp2
                go_roundg k2
                case measure => have := HK1.out; have := HK2.out; omega
                case rel => exact ⟨(wrap64 (x7_2 + 1)), zz112, H', ⟨zz113⟩, by repeat (first | exact Drawn0.refl _ | apply Drawn0.step)⟩
              rw [if_neg c9] at H; have c9b0 := beq_eq_false_iff_ne.mpr c9; have c9b1 := bne_iff_ne.mpr c9; obtain rfl := Option.some.inj H; have p317 : 0 ≤ (x7_2 : Int) := of_decide_eq_true zz111; have q317 : x7_2 < (l1.length : Int) := of_decide_eq_true zz111; obtain ⟨ad317, A317_0, c317_0, e317, hx317_0, hl317_0, hi317_0⟩ := at_L1 HR1.out x7_2 p317 q317
              cases e317; have HR317_0 := aM hi317_0; have HC317_0 := aM hl317_0; clear hi317_0 hl317_0; replace p317 := eq_true p317; replace q317 := eq_true q317; go_wp2; go_ret
              exact ⟨by first | rfl | (simp; done) | (simp [*]; done), by repeat (first | exact Drawn0.refl _ | apply Drawn0.step)⟩
            rw [if_neg c8] at H
            exact absurd H (by simp)
          rw [if_neg c7] at H; have c7b0 := decide_eq_false c7; clear c7; obtain rfl := Option.some.inj H; go_wp2; go_ret
          exact ⟨by first | rfl | (simp; done) | (simp [*]; done), by repeat (first | exact Drawn0.refl _ | apply Drawn0.step)⟩
end
section
attribute [local go_sem] max2_int min2_int max_two min_two max_three min_three max_four min_four
def r30_group.f (k : Nat) (a0 : Int) (l1 : List (List Int)) : Option (Int) := if a0 < 1 then (some 4) else (if a0 > 64 then (some 4) else ((r30_all.f k a0 l1).bind fun t483 => (some t483)))
theorem r30_group.calls (k : Nat) (a0 : Int) (A1 : Option Addr) (c1 : Nat) (l1 : List (List Int)) (r : Int) (w : World) (hr1 : Kd.C (Kd.slice 3 (Kd.int .i64)) w A1 l1.length l1) (hc1 : l1.length ≤ c1) (h : r30_group.f k a0 l1 = some r) :
    Calls Try.prog 59 #[.int .i64 a0, .slice A1 l1.length c1] w fun e w' => e = .returned (.int .i64 r) ∧ Drawn0 w w' := by
  have HR1 := aM hr1
  have HC1 := aM hc1
  clear hr1 hc1
  have H : (if a0 < 1 then (some 4) else (if a0 > 64 then (some 4) else ((r30_all.f k a0 l1).bind fun t483 => (some t483)))) = some r := h
  clear h
  by_cases c3 : a0 < 1
  · rw [if_pos c3] at H
    have c3b0 := decide_eq_true c3; clear c3; obtain rfl := Option.some.inj H
    go_enter Try.func59, Try.ntmps59
    go_wp2; go_ret
    exact ⟨by first | rfl | (simp; done) | (simp [*]; done), by repeat (first | exact Drawn0.refl _ | apply Drawn0.step)⟩
  rw [if_neg c3] at H
  have c3b0 := decide_eq_false c3
  clear c3
  by_cases c4 : a0 > 64
  · rw [if_pos c4] at H
    have c4b0 := decide_eq_true c4; clear c4; obtain rfl := Option.some.inj H
    go_enter Try.func59, Try.ntmps59
    go_wp2; go_ret
    exact ⟨by first | rfl | (simp; done) | (simp [*]; done), by repeat (first | exact Drawn0.refl _ | apply Drawn0.step)⟩
  rw [if_neg c4] at H
  have c4b0 := decide_eq_false c4
  clear c4
  replace H := Option.bind_eq_some_iff.mp H
  obtain ⟨t483, A50, H⟩ := H
  replace H : (some t483) = some r := H
  have A5 := aM A50
  clear A50
  obtain rfl := Option.some.inj H
  go_enter Try.func59, Try.ntmps59
  go_wp2_with (first | ((with_reducible refine gate_callee (f := 51) rfl ?_); refine goesL_ (some 13) rfl rfl Try.func51 (by kernel_rfl) rfl #[.int .i64 a0, .slice A1 l1.length c1] rfl zz87 ?_; (with_reducible refine (r30_all.calls k a0 _ _ l1 t483 _ ?side1 ?side2 A5.out).mono ?_); (case side1 => repeat (first | exact HR1.out | (with_reducible refine Kd.C_alloc ?_ _) | (with_reducible refine Kd.C_drewN ?_ _) | (with_reducible refine Kd.C_drew ?_))); (case side2 => exact HC1.out); rintro e w' ⟨rfl, ⟨nd, rfl⟩⟩; refine ⟨_, rfl, ?_⟩))
  go_ret
  exact ⟨by first | rfl | (simp; done) | (simp [*]; done), by repeat (first | exact Drawn0.refl _ | apply Drawn0.step)⟩
end
section
attribute [local go_sem] max2_int min2_int max_two min_two max_three min_three max_four min_four
def r30_fixes.l0 : Nat → List Int → Int → Int → Option (Bool)
  | 0, _, _, _ => none
  | k + 1, x0, x1, x5 => if x5 < x1 then (if 0 ≤ x5 then (if x5 < (x0.length : Int) then (if (rd x0 x5) = x5 then (r30_fixes.l0 k x0 x1 (wrap64 (x5 + 1))) else (some false)) else (none)) else (none)) else (some true)
def r30_fixes.f (k : Nat) (l0 : List Int) (a1 : Int) : Option (Bool) := r30_fixes.l0 k l0 a1 0
theorem r30_fixes.calls (k : Nat) (A0 : Option Addr) (c0 : Nat) (l0 : List Int) (a1 : Int) (r : Bool) (w : World) (hr0 : Kd.C (Kd.int .i64) w A0 l0.length l0) (hc0 : l0.length ≤ c0) (h : r30_fixes.f k l0 a1 = some r) :
    Calls Try.prog 87 #[.slice A0 l0.length c0, .int .i64 a1] w fun e w' => e = .returned (.bool r) ∧ Drawn0 w w' := by
  have HR0 := aM hr0
  have HC0 := aM hc0
  clear hr0 hc0
  have H : (r30_fixes.l0 k l0 a1 0) = some r := h
  clear h
  have H' := aM H
  clear H
  go_enter Try.func87, Try.ntmps87
  go_wp2
  go_loopg [5] k (fun kq v5 w' => ∃ (x5_1 : Int), v5 = .int .i64 x5_1 ∧ Aside0 (r30_fixes.l0 kq l0 a1 x5_1 = some r) ∧ Aside0 (kq ≤ k) ∧ Drawn0 w w')
  case atStart => exact ⟨(0), zz112, H', ⟨Nat.le_refl _⟩, by repeat (first | exact Drawn0.refl _ | apply Drawn0.step)⟩
  case round =>
    clear H'; (try clear p2); obtain ⟨x5_1, rfl, HA, HK1, ⟨m1, rfl⟩⟩ := hrel
    cases gk with
    | zero => exact absurd HA.out (by simp [r30_fixes.l0])
    | succ k1 =>
      have H := HA.out; clear HA; simp only [r30_fixes.l0] at H
      by_cases c3 : x5_1 < a1
      · rw [if_pos c3] at H; have c3b0 := decide_eq_true c3; clear c3
        by_cases c4 : 0 ≤ x5_1
        · rw [if_pos c4] at H; have c4b0 := decide_eq_true c4; clear c4
          by_cases c5 : x5_1 < (l0.length : Int)
          · rw [if_pos c5] at H; have c5b0 := decide_eq_true c5; clear c5
            by_cases c6 : (rd l0 x5_1) = x5_1
            · rw [if_pos c6] at H; have c6b0 := beq_iff_eq.mpr c6; have c6b1 := bne_eq_false_iff_eq.mpr c6; clear c6; have H' := aM H; clear H; have p515 : 0 ≤ (x5_1 : Int) := of_decide_eq_true zz111; have q515 : x5_1 < (l0.length : Int) := of_decide_eq_true zz111; obtain ⟨ad515, e515, hx515_0⟩ := Kd.at_int HR0.out x5_1 p515 q515
              cases e515; replace p515 := eq_true p515; replace q515 := eq_true q515; go_wp2
              go_roundg k1
              case measure => have := HK1.out; omega
              case rel => exact ⟨(wrap64 (x5_1 + 1)), zz112, H', ⟨zz120⟩, by repeat (first | exact Drawn0.refl _ | apply Drawn0.step)⟩
            rw [if_neg c6] at H; have c6b0 := beq_eq_false_iff_ne.mpr c6; have c6b1 := bne_iff_ne.mpr c6; obtain rfl := Option.some.inj H; have p515 : 0 ≤ (x5_1 : Int) := of_decide_eq_true zz111; have q515 : x5_1 < (l0.length : Int) := of_decide_eq_true zz111; obtain ⟨ad515, e515, hx515_0⟩ := Kd.at_int HR0.out x5_1 p515 q515
            cases e515; replace p515 := eq_true p515; replace q515 := eq_true q515; go_wp2; go_ret
            exact ⟨by first | rfl | (simp; done) | (simp [*]; done), by repeat (first | exact Drawn0.refl _ | apply Drawn0.step)⟩
          rw [if_neg c5] at H
          exact absurd H (by simp)
        rw [if_neg c4] at H
        exact absurd H (by simp)
      rw [if_neg c3] at H; have c3b0 := decide_eq_false c3; clear c3; obtain rfl := Option.some.inj H; go_wp2; go_ret
      exact ⟨by first | rfl | (simp; done) | (simp [*]; done), by repeat (first | exact Drawn0.refl _ | apply Drawn0.step)⟩
end
section
attribute [local go_sem] max2_int min2_int max_two min_two max_three min_three max_four min_four
mutual
def r30_Of.l0 : Nat → Int → List (List Int) → Int → Int → List (S74) → Option (Int × (List (S74)))
  | 0, _, _, _, _, _ => none
  | k + 1, x0, x1, x6, x518000, x518001 => if x6 < x0 then (r30_Of.l1 k x0 x1 x6 x6 x518000 x518001 x6 ([] : List Int) ([] : List (List Int))) else (some (x518000, x518001))
def r30_Of.l1 : Nat → Int → List (List Int) → Int → Int → Int → List (S74) → Int → List Int → List (List Int) → Option (Int × (List (S74)))
  | 0, _, _, _, _, _, _, _, _, _ => none
  | k + 1, x0, x1, x6, x8, x518000, x518001, x519000, x519001, x519002 => if x8 < x0 then (r30_Of.l2 k x0 x1 x6 x8 0 x518000 x518001 x519000 x519001 x519002) else (if (x519001.length : Int) > 1 then (if x518001.length < 2513169434916 then (r30_Of.l0 k x0 x1 (wrap64 (x6 + 1)) x518000 (x518001 ++ [(⟨x519000, x519001, x519002⟩ : S74)])) else (none)) else (r30_Of.l0 k x0 x1 (wrap64 (x6 + 1)) x518000 x518001))
def r30_Of.l2 : Nat → Int → List (List Int) → Int → Int → Int → Int → List (S74) → Int → List Int → List (List Int) → Option (Int × (List (S74)))
  | 0, _, _, _, _, _, _, _, _, _, _ => none
  | k + 1, x0, x1, x6, x8, x9, x518000, x518001, x519000, x519001, x519002 => if x9 < (x1.length : Int) then (if 0 ≤ x9 then ((r30_fixes.f k (rd_L1 x1 x9) x6).bind fun t523 => (if t523 = true then (if 0 ≤ x6 then (if x6 < ((rd_L1 x1 x9).length : Int) then (if (rd (rd_L1 x1 x9) x6) = x8 then (if x519001.length < 17592186044416 then (if x519002.length < 5864062014805 then (r30_Of.l1 k x0 x1 x6 (wrap64 (x8 + 1)) x518000 x518001 x519000 (x519001 ++ [x8]) (x519002 ++ [rd_L1 x1 x9])) else (none)) else (none)) else (r30_Of.l2 k x0 x1 x6 x8 (wrap64 (x9 + 1)) x518000 x518001 x519000 x519001 x519002)) else (none)) else (none)) else (r30_Of.l2 k x0 x1 x6 x8 (wrap64 (x9 + 1)) x518000 x518001 x519000 x519001 x519002))) else (none)) else (r30_Of.l1 k x0 x1 x6 (wrap64 (x8 + 1)) x518000 x518001 x519000 x519001 x519002)
end
def r30_Of.f (k : Nat) (a0 : Int) (l1 : List (List Int)) : Option (Int × (List (S74))) := r30_Of.l0 k a0 l1 0 a0 ([] : List (S74))
def r30_Of.T14 : Bool × List (List Nat × List Nat) := (true, [([], []), ([0], [0]), ([], []), ([], []), ([2, 3], [2, 3]), ([4], [4]), ([5], [5]), ([1, 6], [1, 6]), ([0, 1, 2, 3, 4, 5, 6, 7], []), ([8, 7, 7, 0, 1, 2, 3, 4, 5, 6, 7], [7, 8])])
def r30_Of.B14 : List Nat := [0, 1, 0, 0, 12, 28, 60, 127, 255, 511]
theorem r30_Of.tab14 : rtab .any (opsOf Try.f63 14) = r30_Of.T14 := by kernel_rfl
theorem r30_Of.bits14 : waitsOk r30_Of.T14.2 r30_Of.B14 = true := by kernel_rfl
theorem r30_Of.calls (k : Nat) (a0 : Int) (P1_ : Nat → Prop) (A1 : Option Addr) (c1 : Nat) (l1 : List (List Int)) (r1 : Int) (r2 : List (S74)) (w : World) (hs1 : Kd.V (Kd.slice 3 (Kd.int .i64)) 22 w w.heap.size (fun k_ => P1_ k_) (.slice A1 l1.length c1) l1) (h : r30_Of.f k a0 l1 = some (r1, r2)) :
    Calls Try.prog 63 #[.int .i64 a0, .slice A1 l1.length c1] w fun e w' => ∃ v1_ : Value, e = .returned (.agg #[.int .i64 r1, v1_]) ∧ Kd.N k74 74 w' w.heap.size (fun k_ => (P1_ k_ ∨ w.heap.size ≤ k_)) v1_ r2 ∧ Below w.heap.size w w' := by
  have hu46 := Try.underlying46
  have hu74 := Try.underlying74
  have HO1 := aM (show Kd.V (Kd.slice 3 (Kd.int .i64)) 22 w w.heap.size (fun k_ => (P1_ k_ ∨ w.heap.size ≤ k_)) (.slice A1 l1.length c1) l1 from Kd.V_mono hs1 (fun k_ hk => .inl hk))
  have HB := aM (Below.refl w.heap.size w)
  have H : (r30_Of.l0 k a0 l1 0 a0 ([] : List (S74))) = some (r1, r2) := h
  clear h
  have H' := aM H
  clear H
  go_enter Try.func63, Try.ntmps63
  go_wp2_with (first | ((with_reducible refine gate_dst (N := 4) rfl ?_); refine box_event ?hg (N := 4) ?hd (cs := #[.int .i64 0, .slice none 0 0]) (t := 46) ?hr ?_; (case hd => rfl); (case hg => rfl); (case hr => first | (go_simp; done) | (go_simp; rfl)); intro gb516 hg w3 hbox hb; replace HO1 := aM (Kd.V_below (Kd.V_elderB (zV HO1) gb516 (Nat.le_of_eq hg.symm)) hb); have BK516 := aM (hbox); have GW516 := aM ((by rw [hg]; exact (below_size zz88) : w.heap.size ≤ gb516)); have GE516 := aM ((by rw [hg]; exact (below_size zz88) : w.heap.size ≤ gb516)); replace HB := aM (below_step zz88 hb); clear hb hbox hg) | ((with_reducible refine gate_dst (N := 5) rfl ?_); refine box_event ?hg (N := 5) ?hd (cs := #[.int .i64 0, .slice none 0 0]) (t := 46) ?hr ?_; (case hd => rfl); (case hg => rfl); (case hr => first | (go_simp; done) | (go_simp; rfl)); intro gb517 hg w4 hbox hb; replace HO1 := aM (Kd.V_below (Kd.V_elderB (zV HO1) gb517 (Nat.le_of_eq hg.symm)) hb); have BK517 := aM (hbox); have GW517 := aM ((by rw [hg]; exact (below_size zz66) : w.heap.size ≤ gb517)); have GE517 := aM ((by rw [hg]; exact (below_size zz66) : w.heap.size ≤ gb517)); replace HB := aM (below_step zz66 hb); have NB516_517 := aM ((by rw [hg]; exact Nat.ne_of_lt (blk_lt (g := gb516) (o := .cells #[.int .i64 0, .slice none 0 0] 46 (0, 0)) (zB BK516)) : gb516 ≠ gb517)); have NB517_516 := aM ((by rw [hg]; exact Nat.ne_of_gt (blk_lt (g := gb516) (o := .cells #[.int .i64 0, .slice none 0 0] 46 (0, 0)) (zB BK516)) : gb517 ≠ gb516)); replace BK516 := aM (blk_below (g := gb516) (o := .cells #[.int .i64 0, .slice none 0 0] 46 (0, 0)) (zB BK516) hb); clear hb hbox hg; have hnb5 := NB517_516.out; have hnc5 := NB516_517.out; have hcz6_0 : w4.cell? ⟨gb517, 0, none⟩ = some (.int .i64 0) := (blk_cell BK517.out 0).trans rfl; have hcz6_1 : w4.cell? ⟨gb517, 1, none⟩ = some (.slice none 0 0) := (blk_cell BK517.out 1).trans rfl; have hfz6_0 := blk_frozen BK517.out 0; have hfz6_1 := blk_frozen BK517.out 1))
  go_loopg [6] k (fun kq v6 w' => ∃ (x6_1 : Int) (x518001_1 : List (S74)) (u518001 : Value), v6 = .int .i64 x6_1 ∧ Aside0 (r30_Of.l0 kq a0 l1 x6_1 a0 x518001_1 = some (r1, r2)) ∧ Aside0 (kq ≤ k) ∧ Aside0 (Kd.V (Kd.slice 3 (Kd.int .i64)) 22 w' w.heap.size (fun k_ => (P1_ k_ ∨ w.heap.size ≤ k_) ∧ some k_ ≠ (u518001 : Value).ownBlock ∧ k_ ≠ gb516 ∧ k_ ≠ gb517) (.slice A1 l1.length c1) l1) ∧ Aside0 (Kd.N k74 74 w' w.heap.size (fun k_ => (P1_ k_ ∨ w.heap.size ≤ k_) ∧ k_ ≠ gb516 ∧ k_ ≠ gb517) u518001 x518001_1) ∧ Aside0 (w'.heap[gb516]? = some (.cells #[.int .i64 0, (.slice none 0 0)] 46 (0, 0))) ∧ Aside0 (w'.heap[gb517]? = some (.cells #[.int .i64 a0, u518001] 46 (0, 0))) ∧ Aside0 (Below w.heap.size w w'))
  case atStart => exact ⟨(0), (([] : List (S74))), (.slice none 0 0), zz112, H', ⟨Nat.le_refl _⟩, ⟨by (with_reducible repeat (first | apply Kd.V_alloc | apply Kd.V_drewN | apply Kd.V_drew)); exact Kd.V_mono (Kd.V_far (p := ⟨gb517, 1, none⟩) (Kd.V_far (p := ⟨gb517, 0, none⟩) (Kd.V_mono HO1.out (fun k_ hk => (⟨hk, hk.2⟩ : _ ∧ k_ ≠ gb517))) (fun _ hk => by first | exact hk.2 | ((repeat' apply And.intro) <;> (first | exact hk | exact hk.1 | exact hk.2 | exact hk.1.1 | exact hk.1.2 | exact hk.2.1 | exact hk.2.2 | exact hk.1.1.1 | exact hk.1.1.2 | exact hk.1.2.1 | exact hk.1.2.2 | exact hk.2.1.1 | exact hk.2.1.2 | exact hk.2.2.1 | exact hk.2.2.2 | exact hk.1.1.1.1 | exact hk.1.1.1.2 | exact hk.2.2.2.1 | exact hk.2.2.2.2))) (.int .i64 a0)) (fun _ hk => by first | exact hk.2 | ((repeat' apply And.intro) <;> (first | exact hk | exact hk.1 | exact hk.2 | exact hk.1.1 | exact hk.1.2 | exact hk.2.1 | exact hk.2.2 | exact hk.1.1.1 | exact hk.1.1.2 | exact hk.1.2.1 | exact hk.1.2.2 | exact hk.2.1.1 | exact hk.2.1.2 | exact hk.2.2.1 | exact hk.2.2.2 | exact hk.1.1.1.1 | exact hk.1.1.1.2 | exact hk.2.2.2.1 | exact hk.2.2.2.2))) (.slice none 0 0)) (fun _ hk => ⟨hk.1.1.1, ⟨zz121, ⟨hk.1.1.2, hk.1.2⟩⟩⟩)⟩, ⟨zz85⟩, ⟨(by (with_reducible repeat (first | refine blk_drewN ?_ _ | refine blk_drew ?_ | refine blk_alloc ?_ _)); refine blk_far ?_ NB516_517.out _; (with_reducible repeat (first | refine blk_drewN ?_ _ | refine blk_drew ?_ | refine blk_alloc ?_ _)); refine blk_far ?_ NB516_517.out _; (with_reducible repeat (first | refine blk_drewN ?_ _ | refine blk_drew ?_ | refine blk_alloc ?_ _)); exact BK516.out)⟩, ⟨(by (with_reducible repeat (first | refine blk_drewN ?_ _ | refine blk_drew ?_ | refine blk_alloc ?_ _)); refine blk_put (cs := #[.int .i64 a0, .slice none 0 0]) ?_ 1 _ rfl; (with_reducible repeat (first | refine blk_drewN ?_ _ | refine blk_drew ?_ | refine blk_alloc ?_ _)); refine blk_put (cs := #[.int .i64 0, .slice none 0 0]) ?_ 0 _ rfl; (with_reducible repeat (first | refine blk_drewN ?_ _ | refine blk_drew ?_ | refine blk_alloc ?_ _)); exact BK517.out)⟩, ⟨zz47⟩⟩
  case round =>
    clear H'; (try clear c1); (try clear p2); (try clear c5); (try clear c6); (try clear hcz6_0); (try clear hcz6_1); (try clear hfz6_0); (try clear hfz6_1); obtain ⟨x6_1, x518001_1, u518001, rfl, HA, HK1, HO_1, HO_518001, BK516, BK517, HB⟩ := hrel
    cases gk with
    | zero => exact absurd HA.out (by simp [r30_Of.l0])
    | succ k1 =>
      have H := HA.out; clear HA; simp only [r30_Of.l0] at H
      by_cases c7 : x6_1 < a0
      · rw [if_pos c7] at H; have c7b0 := decide_eq_true c7; clear c7; have H' := aM H; clear H
        go_wp2_with (first | ((with_reducible refine gate_dst (N := 7) rfl ?_); refine box_event ?hg (N := 7) ?hd (cs := #[.int .i64 0, .slice none 0 0, .slice none 0 0]) (t := 74) ?hr ?_; (case hd => rfl); (case hg => rfl); (case hr => first | (go_simp; done) | (go_simp; rfl)); intro gb518 hg w8 hbox hb; replace HO_1 := aM (Kd.V_below (Kd.V_elderB (zV HO_1) gb518 (Nat.le_of_eq hg.symm)) hb); replace HO_518001 := aM (Kd.N_below (Kd.N_elderB (zN HO_518001) gb518 (Nat.le_of_eq hg.symm)) hb); have BK518 := aM (hbox); have GW518 := aM ((by rw [hg]; exact (below_size zz47) : w.heap.size ≤ gb518)); have GE518 := aM ((by rw [hg]; exact (below_size zz47) : w.heap.size ≤ gb518)); replace HB := aM (below_step zz47 hb); have NB516_518 := aM ((by rw [hg]; exact Nat.ne_of_lt (blk_lt (g := gb516) (o := .cells #[.int .i64 0, .slice none 0 0] 46 (0, 0)) (zB BK516)) : gb516 ≠ gb518)); have NB518_516 := aM ((by rw [hg]; exact Nat.ne_of_gt (blk_lt (g := gb516) (o := .cells #[.int .i64 0, .slice none 0 0] 46 (0, 0)) (zB BK516)) : gb518 ≠ gb516)); replace BK516 := aM (blk_below (g := gb516) (o := .cells #[.int .i64 0, .slice none 0 0] 46 (0, 0)) (zB BK516) hb); have NB517_518 := aM ((by rw [hg]; exact Nat.ne_of_lt (blk_lt (g := gb517) (o := .cells #[.int .i64 a0, u518001] 46 (0, 0)) (zB BK517)) : gb517 ≠ gb518)); have NB518_517 := aM ((by rw [hg]; exact Nat.ne_of_gt (blk_lt (g := gb517) (o := .cells #[.int .i64 a0, u518001] 46 (0, 0)) (zB BK517)) : gb518 ≠ gb517)); replace BK517 := aM (blk_below (g := gb517) (o := .cells #[.int .i64 a0, u518001] 46 (0, 0)) (zB BK517) hb); clear hb hbox hg; have hnb9 := NB518_516.out; have hnc9 := NB516_518.out; have hnb10 := NB518_517.out; have hnc10 := NB517_518.out; have hcz11_0 : w8.cell? ⟨gb518, 0, none⟩ = some (.int .i64 0) := (blk_cell BK518.out 0).trans rfl; have hcz11_1 : w8.cell? ⟨gb518, 1, none⟩ = some (.slice none 0 0) := (blk_cell BK518.out 1).trans rfl; have hcz11_2 : w8.cell? ⟨gb518, 2, none⟩ = some (.slice none 0 0) := (blk_cell BK518.out 2).trans rfl; have hfz11_0 := blk_frozen BK518.out 0; have hfz11_1 := blk_frozen BK518.out 1; have hfz11_2 := blk_frozen BK518.out 2))
        go_loopg [8] k1 (fun kq v8 w' => ∃ (x8_2 : Int) (x519001_2 : List Int) (x519002_2 : List (List Int)) (u519001 : Value) (u519002 : Value), v8 = .int .i64 x8_2 ∧ Aside0 (r30_Of.l1 kq a0 l1 x6_1 x8_2 a0 x518001_1 x6_1 x519001_2 x519002_2 = some (r1, r2)) ∧ Aside0 (kq ≤ k1) ∧ Aside0 (Kd.V (Kd.slice 3 (Kd.int .i64)) 22 w' w.heap.size (fun k_ => (P1_ k_ ∨ w.heap.size ≤ k_) ∧ some k_ ≠ (u518001 : Value).ownBlock ∧ some k_ ≠ (u519001 : Value).ownBlock ∧ some k_ ≠ (u519002 : Value).ownBlock ∧ k_ ≠ gb516 ∧ k_ ≠ gb517 ∧ k_ ≠ gb518) (.slice A1 l1.length c1) l1) ∧ Aside0 (Kd.N k74 74 w' w.heap.size (fun k_ => (P1_ k_ ∨ w.heap.size ≤ k_) ∧ some k_ ≠ (u519001 : Value).ownBlock ∧ some k_ ≠ (u519002 : Value).ownBlock ∧ k_ ≠ gb516 ∧ k_ ≠ gb517 ∧ k_ ≠ gb518) u518001 x518001_1) ∧ Aside0 (Kd.R (Kd.int .i64) 3 w' w.heap.size (fun k_ => (w.heap.size ≤ k_)) u519001 x519001_2) ∧ Aside0 (Kd.N (Kd.slice 3 (Kd.int .i64)) 22 w' w.heap.size (fun k_ => (P1_ k_ ∨ w.heap.size ≤ k_) ∧ some k_ ≠ (u518001 : Value).ownBlock ∧ some k_ ≠ (u519001 : Value).ownBlock ∧ k_ ≠ gb516 ∧ k_ ≠ gb517 ∧ k_ ≠ gb518) u519002 x519002_2) ∧ Aside0 (w'.heap[gb516]? = some (.cells #[.int .i64 0, (.slice none 0 0)] 46 (0, 0))) ∧ Aside0 (w'.heap[gb517]? = some (.cells #[.int .i64 a0, u518001] 46 (0, 0))) ∧ Aside0 (w'.heap[gb518]? = some (.cells #[.int .i64 x6_1, u519001, u519002] 74 (0, 0))) ∧ Aside0 (Below w.heap.size w w'))
        case atStart => exact ⟨(x6_1), (([] : List Int)), (([] : List (List Int))), (.slice none 0 0), (.slice none 0 0), zz112, H', ⟨Nat.le_refl _⟩, ⟨by (with_reducible repeat (first | apply Kd.V_alloc | apply Kd.V_drewN | apply Kd.V_drew)); exact Kd.V_mono (Kd.V_far (p := ⟨gb518, 2, none⟩) (Kd.V_far (p := ⟨gb518, 1, none⟩) (Kd.V_far (p := ⟨gb518, 0, none⟩) (Kd.V_mono HO_1.out (fun k_ hk => (⟨hk, hk.2⟩ : _ ∧ k_ ≠ gb518))) (fun _ hk => by first | exact hk.2 | ((repeat' apply And.intro) <;> (first | exact hk | exact hk.1 | exact hk.2 | exact hk.1.1 | exact hk.1.2 | exact hk.2.1 | exact hk.2.2 | exact hk.1.1.1 | exact hk.1.1.2 | exact hk.1.2.1 | exact hk.1.2.2 | exact hk.2.1.1 | exact hk.2.1.2 | exact hk.2.2.1 | exact hk.2.2.2 | exact hk.1.1.1.1 | exact hk.1.1.1.2 | exact hk.2.2.2.1 | exact hk.2.2.2.2))) (.int .i64 x6_1)) (fun _ hk => by first | exact hk.2 | ((repeat' apply And.intro) <;> (first | exact hk | exact hk.1 | exact hk.2 | exact hk.1.1 | exact hk.1.2 | exact hk.2.1 | exact hk.2.2 | exact hk.1.1.1 | exact hk.1.1.2 | exact hk.1.2.1 | exact hk.1.2.2 | exact hk.2.1.1 | exact hk.2.1.2 | exact hk.2.2.1 | exact hk.2.2.2 | exact hk.1.1.1.1 | exact hk.1.1.1.2 | exact hk.2.2.2.1 | exact hk.2.2.2.2))) (.slice none 0 0)) (fun _ hk => by first | exact hk.2 | ((repeat' apply And.intro) <;> (first | exact hk | exact hk.1 | exact hk.2 | exact hk.1.1 | exact hk.1.2 | exact hk.2.1 | exact hk.2.2 | exact hk.1.1.1 | exact hk.1.1.2 | exact hk.1.2.1 | exact hk.1.2.2 | exact hk.2.1.1 | exact hk.2.1.2 | exact hk.2.2.1 | exact hk.2.2.2 | exact hk.1.1.1.1 | exact hk.1.1.1.2 | exact hk.2.2.2.1 | exact hk.2.2.2.2))) (.slice none 0 0)) (fun _ hk => ⟨hk.1.1.1, ⟨hk.1.1.2.1, ⟨zz121, ⟨zz121, ⟨hk.1.1.2.2.1, ⟨hk.1.1.2.2.2, hk.1.2⟩⟩⟩⟩⟩⟩)⟩, ⟨by (with_reducible repeat (first | apply Kd.N_alloc | apply Kd.N_drewN | apply Kd.N_drew)); exact Kd.N_mono (Kd.N_far (p := ⟨gb518, 2, none⟩) (Kd.N_far (p := ⟨gb518, 1, none⟩) (Kd.N_far (p := ⟨gb518, 0, none⟩) (Kd.N_mono HO_518001.out (fun k_ hk => (⟨hk, hk.2⟩ : _ ∧ k_ ≠ gb518))) (fun _ hk => by first | exact hk.2 | ((repeat' apply And.intro) <;> (first | exact hk | exact hk.1 | exact hk.2 | exact hk.1.1 | exact hk.1.2 | exact hk.2.1 | exact hk.2.2 | exact hk.1.1.1 | exact hk.1.1.2 | exact hk.1.2.1 | exact hk.1.2.2 | exact hk.2.1.1 | exact hk.2.1.2 | exact hk.2.2.1 | exact hk.2.2.2 | exact hk.1.1.1.1 | exact hk.1.1.1.2 | exact hk.2.2.2.1 | exact hk.2.2.2.2))) (.int .i64 x6_1)) (fun _ hk => by first | exact hk.2 | ((repeat' apply And.intro) <;> (first | exact hk | exact hk.1 | exact hk.2 | exact hk.1.1 | exact hk.1.2 | exact hk.2.1 | exact hk.2.2 | exact hk.1.1.1 | exact hk.1.1.2 | exact hk.1.2.1 | exact hk.1.2.2 | exact hk.2.1.1 | exact hk.2.1.2 | exact hk.2.2.1 | exact hk.2.2.2 | exact hk.1.1.1.1 | exact hk.1.1.1.2 | exact hk.2.2.2.1 | exact hk.2.2.2.2))) (.slice none 0 0)) (fun _ hk => by first | exact hk.2 | ((repeat' apply And.intro) <;> (first | exact hk | exact hk.1 | exact hk.2 | exact hk.1.1 | exact hk.1.2 | exact hk.2.1 | exact hk.2.2 | exact hk.1.1.1 | exact hk.1.1.2 | exact hk.1.2.1 | exact hk.1.2.2 | exact hk.2.1.1 | exact hk.2.1.2 | exact hk.2.2.1 | exact hk.2.2.2 | exact hk.1.1.1.1 | exact hk.1.1.1.2 | exact hk.2.2.2.1 | exact hk.2.2.2.2))) (.slice none 0 0)) (fun _ hk => ⟨hk.1.1.1, ⟨zz121, ⟨zz121, ⟨hk.1.1.2.1, ⟨hk.1.1.2.2, hk.1.2⟩⟩⟩⟩⟩)⟩, ⟨zz85⟩, ⟨zz86⟩, ⟨(by (with_reducible repeat (first | refine blk_drewN ?_ _ | refine blk_drew ?_ | refine blk_alloc ?_ _)); refine blk_far ?_ NB516_518.out _; (with_reducible repeat (first | refine blk_drewN ?_ _ | refine blk_drew ?_ | refine blk_alloc ?_ _)); refine blk_far ?_ NB516_518.out _; (with_reducible repeat (first | refine blk_drewN ?_ _ | refine blk_drew ?_ | refine blk_alloc ?_ _)); refine blk_far ?_ NB516_518.out _; (with_reducible repeat (first | refine blk_drewN ?_ _ | refine blk_drew ?_ | refine blk_alloc ?_ _)); exact BK516.out)⟩, ⟨(by (with_reducible repeat (first | refine blk_drewN ?_ _ | refine blk_drew ?_ | refine blk_alloc ?_ _)); refine blk_far ?_ NB517_518.out _; (with_reducible repeat (first | refine blk_drewN ?_ _ | refine blk_drew ?_ | refine blk_alloc ?_ _)); refine blk_far ?_ NB517_518.out _; (with_reducible repeat (first | refine blk_drewN ?_ _ | refine blk_drew ?_ | refine blk_alloc ?_ _)); refine blk_far ?_ NB517_518.out _; (with_reducible repeat (first | refine blk_drewN ?_ _ | refine blk_drew ?_ | refine blk_alloc ?_ _)); exact BK517.out)⟩, ⟨(by (with_reducible repeat (first | refine blk_drewN ?_ _ | refine blk_drew ?_ | refine blk_alloc ?_ _)); refine blk_put (cs := #[.int .i64 x6_1, .slice none 0 0, .slice none 0 0]) ?_ 2 _ rfl; (with_reducible repeat (first | refine blk_drewN ?_ _ | refine blk_drew ?_ | refine blk_alloc ?_ _)); refine blk_put (cs := #[.int .i64 x6_1, .slice none 0 0, .slice none 0 0]) ?_ 1 _ rfl; (with_reducible repeat (first | refine blk_drewN ?_ _ | refine blk_drew ?_ | refine blk_alloc ?_ _)); refine blk_put (cs := #[.int .i64 0, .slice none 0 0, .slice none 0 0]) ?_ 0 _ rfl; (with_reducible repeat (first | refine blk_drewN ?_ _ | refine blk_drew ?_ | refine blk_alloc ?_ _)); exact BK518.out)⟩, ⟨zz42⟩⟩
        case round =>
          clear H'; (try clear c1); (try clear p2); (try clear c5); (try clear c6); (try clear c7); (try clear c7b0); (try clear c9); (try clear c10); (try clear hcz11_0); (try clear hcz11_1); (try clear hcz11_2); (try clear hcz6_0); (try clear hcz6_1); (try clear hfz11_0); (try clear hfz11_1); (try clear hfz11_2); (try clear hfz6_0); (try clear hfz6_1); (try clear p2); obtain ⟨x8_2, x519001_2, x519002_2, u519001, u519002, rfl, HA, HK2, HO_1, HO_518001, HO_519001, HO_519002, BK516, BK517, BK518, HB⟩ := hrel
          cases gk with
          | zero => exact absurd HA.out (by simp [r30_Of.l1])
          | succ k2 =>
            have H := HA.out; clear HA; simp only [r30_Of.l1] at H
            by_cases c12 : x8_2 < a0
            · rw [if_pos c12] at H; have c12b0 := decide_eq_true c12; clear c12; have H' := aM H; clear H; go_wp2
              go_loopg [9] k2 (fun kq v9 w' => ∃ (x9_3 : Int) (x519001_3 : List Int) (x519002_3 : List (List Int)) (u519001 : Value) (u519002 : Value), v9 = .int .i64 x9_3 ∧ Aside0 (r30_Of.l2 kq a0 l1 x6_1 x8_2 x9_3 a0 x518001_1 x6_1 x519001_3 x519002_3 = some (r1, r2)) ∧ Aside0 (kq ≤ k2) ∧ Aside0 (Kd.V (Kd.slice 3 (Kd.int .i64)) 22 w' w.heap.size (fun k_ => (P1_ k_ ∨ w.heap.size ≤ k_) ∧ some k_ ≠ (u518001 : Value).ownBlock ∧ some k_ ≠ (u519001 : Value).ownBlock ∧ some k_ ≠ (u519002 : Value).ownBlock ∧ k_ ≠ gb516 ∧ k_ ≠ gb517 ∧ k_ ≠ gb518) (.slice A1 l1.length c1) l1) ∧ Aside0 (Kd.N k74 74 w' w.heap.size (fun k_ => (P1_ k_ ∨ w.heap.size ≤ k_) ∧ some k_ ≠ (u519001 : Value).ownBlock ∧ some k_ ≠ (u519002 : Value).ownBlock ∧ k_ ≠ gb516 ∧ k_ ≠ gb517 ∧ k_ ≠ gb518) u518001 x518001_1) ∧ Aside0 (Kd.R (Kd.int .i64) 3 w' w.heap.size (fun k_ => (w.heap.size ≤ k_)) u519001 x519001_3) ∧ Aside0 (Kd.N (Kd.slice 3 (Kd.int .i64)) 22 w' w.heap.size (fun k_ => (P1_ k_ ∨ w.heap.size ≤ k_) ∧ some k_ ≠ (u518001 : Value).ownBlock ∧ some k_ ≠ (u519001 : Value).ownBlock ∧ k_ ≠ gb516 ∧ k_ ≠ gb517 ∧ k_ ≠ gb518) u519002 x519002_3) ∧ Aside0 (w'.heap[gb516]? = some (.cells #[.int .i64 0, (.slice none 0 0)] 46 (0, 0))) ∧ Aside0 (w'.heap[gb517]? = some (.cells #[.int .i64 a0, u518001] 46 (0, 0))) ∧ Aside0 (w'.heap[gb518]? = some (.cells #[.int .i64 x6_1, u519001, u519002] 74 (0, 0))) ∧ Aside0 (Below w.heap.size w w'))
              case atStart => exact ⟨(0), (x519001_2), (x519002_2), (u519001), (u519002), zz112, H', ⟨Nat.le_refl _⟩, ⟨(zV HO_1)⟩, ⟨(zN HO_518001)⟩, ⟨(zR HO_519001)⟩, ⟨(zN HO_519002)⟩, ⟨(zB BK516)⟩, ⟨(zB BK517)⟩, ⟨(zB BK518)⟩, ⟨zz42⟩⟩
              case round =>
                clear H'; (try clear c1); (try clear p2); (try clear c5); (try clear c6); (try clear c7); (try clear c7b0); (try clear c9); (try clear c10); (try clear c12); (try clear c12b0); (try clear hcz11_0); (try clear hcz11_1); (try clear hcz11_2); (try clear hcz6_0); (try clear hcz6_1); (try clear hfz11_0); (try clear hfz11_1); (try clear hfz11_2); (try clear hfz6_0); (try clear hfz6_1); (try clear p2); obtain ⟨x9_3, x519001_3, x519002_3, u519001, u519002, rfl, HA, HK3, HO_1, HO_518001, HO_519001, HO_519002, BK516, BK517, BK518, HB⟩ := hrel
                cases gk with
                | zero => exact absurd HA.out (by simp [r30_Of.l2])
                | succ k3 =>
                  have H := HA.out; clear HA; simp only [r30_Of.l2] at H
                  by_cases c13 : x9_3 < (l1.length : Int)
                  · rw [if_pos c13] at H; have c13b0 := decide_eq_true c13; clear c13
                    by_cases c14 : 0 ≤ x9_3
                    · rw [if_pos c14] at H; have c14b0 := decide_eq_true c14; clear c14; replace H := Option.bind_eq_some_iff.mp H; obtain ⟨t523, A150, H⟩ := H; replace H : (if t523 = true then (if 0 ≤ x6_1 then (if x6_1 < ((rd_L1 l1 x9_3).length : Int) then (if (rd (rd_L1 l1 x9_3) x6_1) = x8_2 then (if x519001_3.length < 17592186044416 then (if x519002_3.length < 5864062014805 then (r30_Of.l1 k3 a0 l1 x6_1 (wrap64 (x8_2 + 1)) a0 x518001_1 x6_1 (x519001_3 ++ [x8_2]) (x519002_3 ++ [rd_L1 l1 x9_3])) else (none)) else (none)) else (r30_Of.l2 k3 a0 l1 x6_1 x8_2 (wrap64 (x9_3 + 1)) a0 x518001_1 x6_1 x519001_3 x519002_3)) else (none)) else (none)) else (r30_Of.l2 k3 a0 l1 x6_1 x8_2 (wrap64 (x9_3 + 1)) a0 x518001_1 x6_1 x519001_3 x519002_3)) = some (r1, r2) := H; have A15 := aM A150; clear A150
                      by_cases c16 : t523 = true
                      · subst c16; have H1 : (if 0 ≤ x6_1 then (if x6_1 < ((rd_L1 l1 x9_3).length : Int) then (if (rd (rd_L1 l1 x9_3) x6_1) = x8_2 then (if x519001_3.length < 17592186044416 then (if x519002_3.length < 5864062014805 then (r30_Of.l1 k3 a0 l1 x6_1 (wrap64 (x8_2 + 1)) a0 x518001_1 x6_1 (x519001_3 ++ [x8_2]) (x519002_3 ++ [rd_L1 l1 x9_3])) else (none)) else (none)) else (r30_Of.l2 k3 a0 l1 x6_1 x8_2 (wrap64 (x9_3 + 1)) a0 x518001_1 x6_1 x519001_3 x519002_3)) else (none)) else (none)) = some (r1, r2) := by rw [if_pos rfl] at H; exact H
                        clear H; have H := H1; clear H1
                        by_cases c17 : 0 ≤ x6_1
                        · rw [if_pos c17] at H; have c17b0 := decide_eq_true c17; clear c17
                          by_cases c18 : x6_1 < ((rd_L1 l1 x9_3).length : Int)
                          · rw [if_pos c18] at H; have c18b0 := decide_eq_true c18; clear c18
                            by_cases c19 : (rd (rd_L1 l1 x9_3) x6_1) = x8_2
                            · rw [if_pos c19] at H; have c19b0 := beq_iff_eq.mpr c19; have c19b1 := bne_eq_false_iff_eq.mpr c19; clear c19
                              by_cases c20 : x519001_3.length < 17592186044416
                              · rw [if_pos c20] at H; have LMc20 := aM c20; clear c20; obtain ⟨y526, hy526⟩ : ∃ y_ : List Int, y_ = (x519001_3 ++ [x8_2]) := ⟨_, rfl⟩; replace H : (if x519002_3.length < 5864062014805 then (r30_Of.l1 k3 a0 l1 x6_1 (wrap64 (x8_2 + 1)) a0 x518001_1 x6_1 y526 (x519002_3 ++ [rd_L1 l1 x9_3])) else (none)) = some (r1, r2) := by first | (rw [hy526]; with_reducible exact H) | (have H2_ := (Option.bind_some _ _).symm.trans H; rw [hy526]; with_reducible exact H2_) | (have H2_ := (Option.bind_some _ _).symm.trans H; with_reducible exact H2_) | with_reducible exact H | (rw [hy526]; exact H) | exact H
                                have Ny526 := aM hy526; clear hy526
                                by_cases c21 : x519002_3.length < 5864062014805
                                · rw [if_pos c21] at H; have LMc21 := aM c21; clear c21; obtain ⟨y530, hy530⟩ : ∃ y_ : List (List Int), y_ = (x519002_3 ++ [rd_L1 l1 x9_3]) := ⟨_, rfl⟩; replace H : (r30_Of.l1 k3 a0 l1 x6_1 (wrap64 (x8_2 + 1)) a0 x518001_1 x6_1 y526 y530) = some (r1, r2) := by first | (rw [hy530]; with_reducible exact H) | (have H2_ := (Option.bind_some _ _).symm.trans H; rw [hy530]; with_reducible exact H2_) | (have H2_ := (Option.bind_some _ _).symm.trans H; with_reducible exact H2_) | with_reducible exact H | (rw [hy530]; exact H) | exact H
                                  have Ny530 := aM hy530; clear hy530; have H' := aM H; clear H; have p522 : 0 ≤ (x9_3 : Int) := of_decide_eq_true zz111; have q522 : x9_3 < (l1.length : Int) := of_decide_eq_true zz111; obtain ⟨ad522, A522_0, c522_0, e522, hx522_0, hl522_0, hi522_0⟩ := at_L1 (Kd.V_reads' HO_1.out).2.2 x9_3 p522 q522
                                  cases e522; obtain ⟨ce522, hce522, hMe522, hcc522⟩ := Kd.V_get HO_1.out [] x9_3 p522 zz80; obtain ⟨ua522_0, uc522_0, rfl, ul522_0, ge522_0⟩ := Kd.FK_slice_open hMe522; have hv522_0 := hcc522 0 _ rfl; rw [Nat.add_zero, show ((Kd.slice 3 (Kd.int .i64))).sz = 1 from rfl, Nat.mul_one] at hv522_0; replace hv522_0 := Option.some.inj (hv522_0.symm.trans hx522_0); injection hv522_0 with hva_ hvn_ hvc_
                                  rw [hva_] at ge522_0; rw [hvc_] at ul522_0; have HL522_0 := aM (show Kd.V (Kd.int .i64) 3 _ w.heap.size _ _ (rd_L1 l1 x9_3) from Kd.V_mk ul522_0 ge522_0); clear hva_ hvn_ hvc_ ge522_0 ul522_0; clear hcc522 hce522; have HR522_0 := aM hi522_0; have HC522_0 := aM hl522_0; clear hi522_0 hl522_0; replace p522 := eq_true p522; replace q522 := eq_true q522
                                  try go_wp2_with (first | ((with_reducible refine gate_callee (f := 87) rfl ?_); refine goesL_ (some 36) rfl rfl Try.func87 (by kernel_rfl) rfl #[.slice A522_0 (rd_L1 l1 x9_3).length c522_0, .int .i64 x6_1] rfl zz87 ?_; (with_reducible refine (r30_fixes.calls k3 _ _ (rd_L1 l1 x9_3) x6_1 true _ ?side1 ?side2 A15.out).mono ?_); (case side1 => repeat (first | exact zz54 | (with_reducible refine Kd.C_alloc ?_ _) | (with_reducible refine Kd.C_drewN ?_ _) | (with_reducible refine Kd.C_drew ?_))); (case side2 => exact HC522_0.out); rintro e w' ⟨rfl, ⟨nd, rfl⟩⟩; refine ⟨_, rfl, ?_⟩; (try (rw [drewN_self wr]; generalize hq_ : World.drewN wr _ = wr; have hx522_0 : World.cell? wr (ad522.add (x9_3).toNat) = some (.slice A522_0 (rd_L1 l1 x9_3).length c522_0) := (by rw [← hq_]; first | exact hx522_0 | (simp only [World.cell?_drewN]; exact hx522_0) | (go_simp; exact hx522_0)); have n0_ : Aside0 (Kd.V (Kd.int .i64) 3 wr w.heap.size (fun k_ => (P1_ k_ ∨ w.heap.size ≤ k_) ∧ some k_ ≠ (u518001 : Value).ownBlock ∧ some k_ ≠ (u519001 : Value).ownBlock ∧ some k_ ≠ (u519002 : Value).ownBlock ∧ k_ ≠ gb516 ∧ k_ ≠ gb517 ∧ k_ ≠ gb518) (.slice A522_0 (rd_L1 l1 x9_3).length c522_0) (rd_L1 l1 x9_3)) := ⟨(by rw [← hq_]; exact (zV HL522_0))⟩; have n1_ : Aside0 (Kd.V (Kd.slice 3 (Kd.int .i64)) 22 wr w.heap.size (fun k_ => (P1_ k_ ∨ w.heap.size ≤ k_) ∧ some k_ ≠ (u518001 : Value).ownBlock ∧ some k_ ≠ (u519001 : Value).ownBlock ∧ some k_ ≠ (u519002 : Value).ownBlock ∧ k_ ≠ gb516 ∧ k_ ≠ gb517 ∧ k_ ≠ gb518) (.slice (some ad522) l1.length c1) l1) := ⟨(by rw [← hq_]; exact (zV HO_1))⟩; have n2_ : Aside0 (Kd.N k74 74 wr w.heap.size (fun k_ => (P1_ k_ ∨ w.heap.size ≤ k_) ∧ some k_ ≠ (u519001 : Value).ownBlock ∧ some k_ ≠ (u519002 : Value).ownBlock ∧ k_ ≠ gb516 ∧ k_ ≠ gb517 ∧ k_ ≠ gb518) u518001 x518001_1) := ⟨(by rw [← hq_]; exact (zN HO_518001))⟩; have n3_ : Aside0 (Kd.R (Kd.int .i64) 3 wr w.heap.size (fun k_ => (w.heap.size ≤ k_)) u519001 x519001_3) := ⟨(by rw [← hq_]; exact (zR HO_519001))⟩; have n4_ : Aside0 (Kd.N (Kd.slice 3 (Kd.int .i64)) 22 wr w.heap.size (fun k_ => (P1_ k_ ∨ w.heap.size ≤ k_) ∧ some k_ ≠ (u518001 : Value).ownBlock ∧ some k_ ≠ (u519001 : Value).ownBlock ∧ k_ ≠ gb516 ∧ k_ ≠ gb517 ∧ k_ ≠ gb518) u519002 x519002_3) := ⟨(by rw [← hq_]; exact (zN HO_519002))⟩; have n5_ : Aside0 (wr.heap[gb516]? = some (.cells #[.int .i64 0, .slice none 0 0] 46 (0, 0))) := ⟨(by rw [← hq_]; exact (zB BK516))⟩; have n6_ : Aside0 (wr.heap[gb517]? = some (.cells #[.int .i64 a0, u518001] 46 (0, 0))) := ⟨(by rw [← hq_]; exact (zB BK517))⟩; have n7_ : Aside0 (wr.heap[gb518]? = some (.cells #[.int .i64 x6_1, u519001, u519002] 74 (0, 0))) := ⟨(by rw [← hq_]; exact (zB BK518))⟩; have n8_ : Aside0 (Below w.heap.size w wr) := ⟨(by rw [← hq_]; exact zz42)⟩; have n9_ : Aside0 (Kd.C (Kd.int .i64) wr A522_0 (rd_L1 l1 x9_3).length (rd_L1 l1 x9_3)) := ⟨(by rw [← hq_]; exact zz54)⟩; clear HL522_0 HO_1 HO_518001 HO_519001 HO_519002 BK516 BK517 BK518 HB HR522_0 hq_; have HL522_0 := n0_; have HO_1 := n1_; have HO_518001 := n2_; have HO_519001 := n3_; have HO_519002 := n4_; have BK516 := n5_; have BK517 := n6_; have BK518 := n7_; have HB := n8_; have HR522_0 := n9_; clear n0_ n1_ n2_ n3_ n4_ n5_ n6_ n7_ n8_ n9_)); have p524 : 0 ≤ (x9_3 : Int) := of_decide_eq_true zz111; have q524 : x9_3 < (l1.length : Int) := of_decide_eq_true zz111; obtain ⟨ad524, A524_0, c524_0, e524, hx524_0, hl524_0, hi524_0⟩ := at_L1 (Kd.V_reads' HO_1.out).2.2 x9_3 p524 q524; obtain rfl : ad522 = ad524 := (by injection e524); obtain ⟨ce524, hce524, hMe524, hcc524⟩ := Kd.V_get HO_1.out [] x9_3 p524 zz81; obtain ⟨ua524_0, uc524_0, rfl, ul524_0, ge524_0⟩ := Kd.FK_slice_open hMe524; have hv524_0 := hcc524 0 _ rfl; rw [Nat.add_zero, show ((Kd.slice 3 (Kd.int .i64))).sz = 1 from rfl, Nat.mul_one] at hv524_0; replace hv524_0 := Option.some.inj (hv524_0.symm.trans hx524_0); injection hv524_0 with hva_ hvn_ hvc_; rw [hva_] at ge524_0; rw [hvc_] at ul524_0; have HL524_0 := aM (show Kd.V (Kd.int .i64) 3 _ w.heap.size _ _ (rd_L1 l1 x9_3) from Kd.V_mk ul524_0 ge524_0); clear hva_ hvn_ hvc_ ge524_0 ul524_0; clear hcc524 hce524; have HR524_0 := aM hi524_0; have HC524_0 := aM hl524_0; clear hi524_0 hl524_0; replace p524 := eq_true p524; replace q524 := eq_true q524; have ea_ := Option.some.inj (hx522_0.symm.trans hx524_0); injection ea_ with ea_ en_ ec_; subst ea_; subst ec_; clear en_; have p525 : 0 ≤ (x6_1 : Int) := of_decide_eq_true zz111; have q525 : x6_1 < ((rd_L1 l1 x9_3).length : Int) := of_decide_eq_true zz111; obtain ⟨ad525, e525, hx525_0⟩ := Kd.at_int zz55 x6_1 p525 q525; cases e525; replace p525 := eq_true p525; replace q525 := eq_true q525; have hnb22 := NB518_516.out; have hnc22 := NB516_518.out; have hnb23 := NB518_517.out; have hnc23 := NB517_518.out; have hcz24_0 : wr.cell? ⟨gb518, 0, none⟩ = some (.int .i64 x6_1) := (blk_cell BK518.out 0).trans rfl; have hcz24_1 : wr.cell? ⟨gb518, 1, none⟩ = some (u519001) := (blk_cell BK518.out 1).trans rfl; have hcz24_2 : wr.cell? ⟨gb518, 2, none⟩ = some (u519002) := (blk_cell BK518.out 2).trans rfl; have hfz24_0 := blk_frozen BK518.out 0; have hfz24_1 := blk_frozen BK518.out 1; have hfz24_2 := blk_frozen BK518.out 2) | ((with_reducible refine gate_builtin (b := .append) (xs := #[.tmp 49, .tmp 51]) rfl ?_); at_builtin; refine Kd.R_append (Kd.int .i64) (w0 := w) w.heap.size rfl (.tmp 49) (.tmp 51) 22 3 (.int .i64 0) 8 rfl Try.underlying22 info3 rfl (by decide) (by omega) u519001 x519001_3 x8_2 [.int .i64 x8_2] (fun k_ => (w.heap.size ≤ k_)) (fun _ => False) rfl rfl ?aP (fun _ hk => hk.elim) ?aF ?aO ?aB ?aS ?aL ?_; (case aP => exact rfl); (case aB => exact zz42); (case aF => exact (fun k_ hk => (Nat.le_trans (below_size zz42) hk))); (case aO => exact (zR HO_519001)); (case aS => exact (below_size zz42)); (case aL => have := LMc20.out; omega); intro v527 w25 ho hb hg hat; rw [← Ny526.out] at ho; replace HO_1 := aM (Kd.V_afterv (ok := (fun k_ => (P1_ k_ ∨ w.heap.size ≤ k_) ∧ some k_ ≠ (u518001 : Value).ownBlock ∧ some k_ ≠ (u519002 : Value).ownBlock ∧ k_ ≠ gb516 ∧ k_ ≠ gb517 ∧ k_ ≠ gb518)) zz21 hg hat); replace HO_518001 := aM (Kd.N_afterv (ok := (fun k_ => (P1_ k_ ∨ w.heap.size ≤ k_) ∧ some k_ ≠ (u519002 : Value).ownBlock ∧ k_ ≠ gb516 ∧ k_ ≠ gb517 ∧ k_ ≠ gb518)) zz22 hg hat); replace HO_519002 := aM (Kd.N_afterv (ok := (fun k_ => (P1_ k_ ∨ w.heap.size ≤ k_) ∧ some k_ ≠ (u518001 : Value).ownBlock ∧ k_ ≠ gb516 ∧ k_ ≠ gb517 ∧ k_ ≠ gb518)) (by (with_reducible repeat (first | apply Kd.N_alloc | apply Kd.N_drewN | apply Kd.N_drew)); exact Kd.N_mono HO_519002.out (fun _ hk => by first | exact ⟨⟨hk.1, ⟨hk.2.1, ⟨hk.2.2.2.1, ⟨hk.2.2.2.2.1, hk.2.2.2.2.2⟩⟩⟩⟩, hk.2.2.1⟩ | ((repeat' apply And.intro) <;> (first | exact hk | exact hk.1 | exact hk.2 | exact hk.1.1 | exact hk.1.2 | exact hk.2.1 | exact hk.2.2 | exact hk.1.1.1 | exact hk.1.1.2 | exact hk.1.2.1 | exact hk.1.2.2 | exact hk.2.1.1 | exact hk.2.1.2 | exact hk.2.2.1 | exact hk.2.2.2 | exact hk.1.1.1.1 | exact hk.1.1.1.2 | exact hk.2.2.2.1 | exact hk.2.2.2.2)))) hg hat); replace BK516 := aM (blk_grown (g := gb516) (o := .cells #[.int .i64 0, .slice none 0 0] 46 (0, 0)) (zB BK516) hg (Kd.R_ne HO_519001.out BK516.out (by decide))); replace BK517 := aM (blk_grown (g := gb517) (o := .cells #[.int .i64 a0, u518001] 46 (0, 0)) (zB BK517) hg (Kd.R_ne HO_519001.out BK517.out (by decide))); replace BK518 := aM (blk_grown (g := gb518) (o := .cells #[.int .i64 x6_1, u519001, u519002] 74 (0, 0)) (zB BK518) hg (Kd.R_ne HO_519001.out BK518.out (by decide))); replace HL522_0 := aM (Kd.V_afterv (ok := (fun k_ => (P1_ k_ ∨ w.heap.size ≤ k_) ∧ some k_ ≠ (u518001 : Value).ownBlock ∧ some k_ ≠ (u519002 : Value).ownBlock ∧ k_ ≠ gb516 ∧ k_ ≠ gb517 ∧ k_ ≠ gb518)) zz19 hg hat); replace HL524_0 := aM (Kd.V_afterv (ok := (fun k_ => (P1_ k_ ∨ w.heap.size ≤ k_) ∧ some k_ ≠ (u518001 : Value).ownBlock ∧ some k_ ≠ (u519002 : Value).ownBlock ∧ k_ ≠ gb516 ∧ k_ ≠ gb517 ∧ k_ ≠ gb518)) zz20 hg hat); replace HB := aM (hb); have HO528 := aM (ho); clear HO_519001; clear ho hb hg hat; obtain ⟨Ao26, co26, eo26⟩ := Kd.R_slice HO528.out; subst eo26; have hcz27_0 : w25.cell? ⟨gb518, 0, none⟩ = some (.int .i64 x6_1) := (blk_cell BK518.out 0).trans rfl; have hcz27_1 : w25.cell? ⟨gb518, 1, none⟩ = some (u519001) := (blk_cell BK518.out 1).trans rfl; have hcz27_2 : w25.cell? ⟨gb518, 2, none⟩ = some (u519002) := (blk_cell BK518.out 2).trans rfl; have hfz27_0 := blk_frozen BK518.out 0; have hfz27_1 := blk_frozen BK518.out 1; have hfz27_2 := blk_frozen BK518.out 2))
                                  have n0_ : Aside0 (Kd.V (Kd.slice 3 (Kd.int .i64)) 22 (w25.setCell ⟨gb518, 1, none⟩ (.slice Ao26 y526.length co26)) w.heap.size (fun k_ => (P1_ k_ ∨ w.heap.size ≤ k_) ∧ some k_ ≠ (u518001 : Value).ownBlock ∧ some k_ ≠ (u519002 : Value).ownBlock ∧ some k_ ≠ (.slice Ao26 y526.length co26 : Value).ownBlock ∧ k_ ≠ gb516 ∧ k_ ≠ gb517 ∧ k_ ≠ gb518) (.slice (some ad522) l1.length c1) l1) := ⟨by (with_reducible repeat (first | apply Kd.V_alloc | apply Kd.V_drewN | apply Kd.V_drew)); exact Kd.V_mono (Kd.V_far (p := ⟨gb518, 1, none⟩) (Kd.V_mono HO_1.out (fun k_ hk => (⟨hk, hk.1.2.2.2.2.2⟩ : _ ∧ k_ ≠ gb518))) (fun _ hk => by first | exact hk.2 | ((repeat' apply And.intro) <;> (first | exact hk | exact hk.1 | exact hk.2 | exact hk.1.1 | exact hk.1.2 | exact hk.2.1 | exact hk.2.2 | exact hk.1.1.1 | exact hk.1.1.2 | exact hk.1.2.1 | exact hk.1.2.2 | exact hk.2.1.1 | exact hk.2.1.2 | exact hk.2.2.1 | exact hk.2.2.2 | exact hk.1.1.1.1 | exact hk.1.1.1.2 | exact hk.2.2.2.1 | exact hk.2.2.2.2))) (.slice Ao26 y526.length co26)) (fun _ hk => by first | exact ⟨hk.1.1.1, ⟨hk.1.1.2.1, ⟨hk.1.1.2.2.1, ⟨hk.1.2, ⟨hk.1.1.2.2.2.1, ⟨hk.1.1.2.2.2.2.1, hk.1.1.2.2.2.2.2⟩⟩⟩⟩⟩⟩ | ((repeat' apply And.intro) <;> (first | exact hk | exact hk.1 | exact hk.2 | exact hk.1.1 | exact hk.1.2 | exact hk.2.1 | exact hk.2.2 | exact hk.1.1.1 | exact hk.1.1.2 | exact hk.1.2.1 | exact hk.1.2.2 | exact hk.2.1.1 | exact hk.2.1.2 | exact hk.2.2.1 | exact hk.2.2.2 | exact hk.1.1.1.1 | exact hk.1.1.1.2 | exact hk.2.2.2.1 | exact hk.2.2.2.2)))⟩; have n1_ : Aside0 (Kd.N k74 74 (w25.setCell ⟨gb518, 1, none⟩ (.slice Ao26 y526.length co26)) w.heap.size (fun k_ => (P1_ k_ ∨ w.heap.size ≤ k_) ∧ some k_ ≠ (u519002 : Value).ownBlock ∧ some k_ ≠ (.slice Ao26 y526.length co26 : Value).ownBlock ∧ k_ ≠ gb516 ∧ k_ ≠ gb517 ∧ k_ ≠ gb518) u518001 x518001_1) := ⟨by (with_reducible repeat (first | apply Kd.N_alloc | apply Kd.N_drewN | apply Kd.N_drew)); exact Kd.N_mono (Kd.N_far (p := ⟨gb518, 1, none⟩) (Kd.N_mono HO_518001.out (fun k_ hk => (⟨hk, hk.1.2.2.2.2⟩ : _ ∧ k_ ≠ gb518))) (fun _ hk => by first | exact hk.2 | ((repeat' apply And.intro) <;> (first | exact hk | exact hk.1 | exact hk.2 | exact hk.1.1 | exact hk.1.2 | exact hk.2.1 | exact hk.2.2 | exact hk.1.1.1 | exact hk.1.1.2 | exact hk.1.2.1 | exact hk.1.2.2 | exact hk.2.1.1 | exact hk.2.1.2 | exact hk.2.2.1 | exact hk.2.2.2 | exact hk.1.1.1.1 | exact hk.1.1.1.2 | exact hk.2.2.2.1 | exact hk.2.2.2.2))) (.slice Ao26 y526.length co26)) (fun _ hk => by first | exact ⟨hk.1.1.1, ⟨hk.1.1.2.1, ⟨hk.1.2, ⟨hk.1.1.2.2.1, ⟨hk.1.1.2.2.2.1, hk.1.1.2.2.2.2⟩⟩⟩⟩⟩ | ((repeat' apply And.intro) <;> (first | exact hk | exact hk.1 | exact hk.2 | exact hk.1.1 | exact hk.1.2 | exact hk.2.1 | exact hk.2.2 | exact hk.1.1.1 | exact hk.1.1.2 | exact hk.1.2.1 | exact hk.1.2.2 | exact hk.2.1.1 | exact hk.2.1.2 | exact hk.2.2.1 | exact hk.2.2.2 | exact hk.1.1.1.1 | exact hk.1.1.1.2 | exact hk.2.2.2.1 | exact hk.2.2.2.2)))⟩; have n2_ : Aside0 (Kd.N (Kd.slice 3 (Kd.int .i64)) 22 (w25.setCell ⟨gb518, 1, none⟩ (.slice Ao26 y526.length co26)) w.heap.size (fun k_ => (P1_ k_ ∨ w.heap.size ≤ k_) ∧ some k_ ≠ (u518001 : Value).ownBlock ∧ some k_ ≠ (.slice Ao26 y526.length co26 : Value).ownBlock ∧ k_ ≠ gb516 ∧ k_ ≠ gb517 ∧ k_ ≠ gb518) u519002 x519002_3) := ⟨by (with_reducible repeat (first | apply Kd.N_alloc | apply Kd.N_drewN | apply Kd.N_drew)); exact Kd.N_mono (Kd.N_far (p := ⟨gb518, 1, none⟩) (Kd.N_mono HO_519002.out (fun k_ hk => (⟨hk, hk.1.2.2.2.2⟩ : _ ∧ k_ ≠ gb518))) (fun _ hk => by first | exact hk.2 | ((repeat' apply And.intro) <;> (first | exact hk | exact hk.1 | exact hk.2 | exact hk.1.1 | exact hk.1.2 | exact hk.2.1 | exact hk.2.2 | exact hk.1.1.1 | exact hk.1.1.2 | exact hk.1.2.1 | exact hk.1.2.2 | exact hk.2.1.1 | exact hk.2.1.2 | exact hk.2.2.1 | exact hk.2.2.2 | exact hk.1.1.1.1 | exact hk.1.1.1.2 | exact hk.2.2.2.1 | exact hk.2.2.2.2))) (.slice Ao26 y526.length co26)) (fun _ hk => by first | exact ⟨hk.1.1.1, ⟨hk.1.1.2.1, ⟨hk.1.2, ⟨hk.1.1.2.2.1, ⟨hk.1.1.2.2.2.1, hk.1.1.2.2.2.2⟩⟩⟩⟩⟩ | ((repeat' apply And.intro) <;> (first | exact hk | exact hk.1 | exact hk.2 | exact hk.1.1 | exact hk.1.2 | exact hk.2.1 | exact hk.2.2 | exact hk.1.1.1 | exact hk.1.1.2 | exact hk.1.2.1 | exact hk.1.2.2 | exact hk.2.1.1 | exact hk.2.1.2 | exact hk.2.2.1 | exact hk.2.2.2 | exact hk.1.1.1.1 | exact hk.1.1.1.2 | exact hk.2.2.2.1 | exact hk.2.2.2.2)))⟩; have n3_ : Aside0 (Kd.V (Kd.int .i64) 3 (w25.setCell ⟨gb518, 1, none⟩ (.slice Ao26 y526.length co26)) w.heap.size (fun k_ => (P1_ k_ ∨ w.heap.size ≤ k_) ∧ some k_ ≠ (u518001 : Value).ownBlock ∧ some k_ ≠ (u519002 : Value).ownBlock ∧ some k_ ≠ (.slice Ao26 y526.length co26 : Value).ownBlock ∧ k_ ≠ gb516 ∧ k_ ≠ gb517 ∧ k_ ≠ gb518) (.slice (some ad525) (rd_L1 l1 x9_3).length c522_0) (rd_L1 l1 x9_3)) := ⟨by (with_reducible repeat (first | apply Kd.V_alloc | apply Kd.V_drewN | apply Kd.V_drew)); exact Kd.V_mono (Kd.V_far (p := ⟨gb518, 1, none⟩) (Kd.V_mono HL522_0.out (fun k_ hk => (⟨hk, hk.1.2.2.2.2.2⟩ : _ ∧ k_ ≠ gb518))) (fun _ hk => by first | exact hk.2 | ((repeat' apply And.intro) <;> (first | exact hk | exact hk.1 | exact hk.2 | exact hk.1.1 | exact hk.1.2 | exact hk.2.1 | exact hk.2.2 | exact hk.1.1.1 | exact hk.1.1.2 | exact hk.1.2.1 | exact hk.1.2.2 | exact hk.2.1.1 | exact hk.2.1.2 | exact hk.2.2.1 | exact hk.2.2.2 | exact hk.1.1.1.1 | exact hk.1.1.1.2 | exact hk.2.2.2.1 | exact hk.2.2.2.2))) (.slice Ao26 y526.length co26)) (fun _ hk => by first | exact ⟨hk.1.1.1, ⟨hk.1.1.2.1, ⟨hk.1.1.2.2.1, ⟨hk.1.2, ⟨hk.1.1.2.2.2.1, ⟨hk.1.1.2.2.2.2.1, hk.1.1.2.2.2.2.2⟩⟩⟩⟩⟩⟩ | ((repeat' apply And.intro) <;> (first | exact hk | exact hk.1 | exact hk.2 | exact hk.1.1 | exact hk.1.2 | exact hk.2.1 | exact hk.2.2 | exact hk.1.1.1 | exact hk.1.1.2 | exact hk.1.2.1 | exact hk.1.2.2 | exact hk.2.1.1 | exact hk.2.1.2 | exact hk.2.2.1 | exact hk.2.2.2 | exact hk.1.1.1.1 | exact hk.1.1.1.2 | exact hk.2.2.2.1 | exact hk.2.2.2.2)))⟩; have n4_ : Aside0 (Kd.V (Kd.int .i64) 3 (w25.setCell ⟨gb518, 1, none⟩ (.slice Ao26 y526.length co26)) w.heap.size (fun k_ => (P1_ k_ ∨ w.heap.size ≤ k_) ∧ some k_ ≠ (u518001 : Value).ownBlock ∧ some k_ ≠ (u519002 : Value).ownBlock ∧ some k_ ≠ (.slice Ao26 y526.length co26 : Value).ownBlock ∧ k_ ≠ gb516 ∧ k_ ≠ gb517 ∧ k_ ≠ gb518) (.slice (some ad525) (rd_L1 l1 x9_3).length c522_0) (rd_L1 l1 x9_3)) := ⟨by (with_reducible repeat (first | apply Kd.V_alloc | apply Kd.V_drewN | apply Kd.V_drew)); exact Kd.V_mono (Kd.V_far (p := ⟨gb518, 1, none⟩) (Kd.V_mono HL524_0.out (fun k_ hk => (⟨hk, hk.1.2.2.2.2.2⟩ : _ ∧ k_ ≠ gb518))) (fun _ hk => by first | exact hk.2 | ((repeat' apply And.intro) <;> (first | exact hk | exact hk.1 | exact hk.2 | exact hk.1.1 | exact hk.1.2 | exact hk.2.1 | exact hk.2.2 | exact hk.1.1.1 | exact hk.1.1.2 | exact hk.1.2.1 | exact hk.1.2.2 | exact hk.2.1.1 | exact hk.2.1.2 | exact hk.2.2.1 | exact hk.2.2.2 | exact hk.1.1.1.1 | exact hk.1.1.1.2 | exact hk.2.2.2.1 | exact hk.2.2.2.2))) (.slice Ao26 y526.length co26)) (fun _ hk => by first | exact ⟨hk.1.1.1, ⟨hk.1.1.2.1, ⟨hk.1.1.2.2.1, ⟨hk.1.2, ⟨hk.1.1.2.2.2.1, ⟨hk.1.1.2.2.2.2.1, hk.1.1.2.2.2.2.2⟩⟩⟩⟩⟩⟩ | ((repeat' apply And.intro) <;> (first | exact hk | exact hk.1 | exact hk.2 | exact hk.1.1 | exact hk.1.2 | exact hk.2.1 | exact hk.2.2 | exact hk.1.1.1 | exact hk.1.1.2 | exact hk.1.2.1 | exact hk.1.2.2 | exact hk.2.1.1 | exact hk.2.1.2 | exact hk.2.2.1 | exact hk.2.2.2 | exact hk.1.1.1.1 | exact hk.1.1.1.2 | exact hk.2.2.2.1 | exact hk.2.2.2.2)))⟩; have n5_ : Aside0 (Kd.R (Kd.int .i64) 3 (w25.setCell ⟨gb518, 1, none⟩ (.slice Ao26 y526.length co26)) w.heap.size (fun k_ => (w.heap.size ≤ k_)) (.slice Ao26 y526.length co26) y526) := ⟨(by (with_reducible repeat (first | apply Kd.R_alloc | apply Kd.R_drewN | apply Kd.R_drew)); exact Kd.R_mono (Kd.R_far (p := ⟨gb518, 1, none⟩) (Kd.R_types HO528.out BK518.out (by decide)) (fun _ hk => by first | exact hk.2 | ((repeat' apply And.intro) <;> (first | exact hk | exact hk.1 | exact hk.2 | exact hk.1.1 | exact hk.1.2 | exact hk.2.1 | exact hk.2.2 | exact hk.1.1.1 | exact hk.1.1.2 | exact hk.1.2.1 | exact hk.1.2.2 | exact hk.2.1.1 | exact hk.2.1.2 | exact hk.2.2.1 | exact hk.2.2.2 | exact hk.1.1.1.1 | exact hk.1.1.1.2 | exact hk.2.2.2.1 | exact hk.2.2.2.2))) (.slice Ao26 y526.length co26)) (fun _ hk => by first | exact hk.1 | ((repeat' apply And.intro) <;> (first | exact hk | exact hk.1 | exact hk.2 | exact hk.1.1 | exact hk.1.2 | exact hk.2.1 | exact hk.2.2 | exact hk.1.1.1 | exact hk.1.1.2 | exact hk.1.2.1 | exact hk.1.2.2 | exact hk.2.1.1 | exact hk.2.1.2 | exact hk.2.2.1 | exact hk.2.2.2 | exact hk.1.1.1.1 | exact hk.1.1.1.2 | exact hk.2.2.2.1 | exact hk.2.2.2.2))))⟩; have n6_ : Aside0 ((w25.setCell ⟨gb518, 1, none⟩ (.slice Ao26 y526.length co26)).heap[gb516]? = some (.cells #[.int .i64 0, .slice none 0 0] 46 (0, 0))) := ⟨zz38⟩; have n7_ : Aside0 ((w25.setCell ⟨gb518, 1, none⟩ (.slice Ao26 y526.length co26)).heap[gb517]? = some (.cells #[.int .i64 a0, u518001] 46 (0, 0))) := ⟨zz39⟩; have n8_ : Aside0 ((w25.setCell ⟨gb518, 1, none⟩ (.slice Ao26 y526.length co26)).heap[gb518]? = some (.cells #[.int .i64 x6_1, .slice Ao26 y526.length co26, u519002] 74 (0, 0))) := ⟨(by (with_reducible repeat (first | refine blk_drewN ?_ _ | refine blk_drew ?_ | refine blk_alloc ?_ _)); refine blk_put (cs := #[.int .i64 x6_1, u519001, u519002]) ?_ 1 _ rfl; (with_reducible repeat (first | refine blk_drewN ?_ _ | refine blk_drew ?_ | refine blk_alloc ?_ _)); exact BK518.out)⟩; have n9_ : Aside0 (Below w.heap.size w (w25.setCell ⟨gb518, 1, none⟩ (.slice Ao26 y526.length co26))) := ⟨zz42⟩; (try clear HO_1); (try clear HO_518001); (try clear HO_519002); (try clear HL522_0); (try clear HL524_0); (try clear HO528); (try clear BK516); (try clear BK517); (try clear BK518); (try clear HB); generalize (w25.setCell ⟨gb518, 1, none⟩ (.slice Ao26 y526.length co26)) = w28 at n0_ n1_ n2_ n3_ n4_ n5_ n6_ n7_ n8_ n9_ ⊢; have HO_1 := n0_; have HO_518001 := n1_; have HO_519002 := n2_; have HL522_0 := n3_; have HL524_0 := n4_; have HO528 := n5_; have BK516 := n6_; have BK517 := n7_; have BK518 := n8_; have HB := n9_; clear n0_ n1_ n2_ n3_ n4_ n5_ n6_ n7_ n8_ n9_; have n0_ := aM (Kd.V_drew HO_1.out); have n1_ := aM (Kd.N_drew HO_518001.out); have n2_ := aM (Kd.N_drew HO_519002.out); have n3_ := aM (Kd.V_drew HL522_0.out); have n4_ := aM (Kd.V_drew HL524_0.out); have n5_ := aM (Kd.R_drew HO528.out); have n6_ := aM (blk_drew BK516.out); have n7_ := aM (blk_drew BK517.out); have n8_ := aM (blk_drew BK518.out); have n9_ := aM (below_drew1 HB.out); clear HO_1; clear HO_518001; clear HO_519002; clear HL522_0; clear HL524_0; clear HO528; clear BK516; clear BK517; clear BK518; clear HB; have HO_1 := n0_; have HO_518001 := n1_; have HO_519002 := n2_; have HL522_0 := n3_; have HL524_0 := n4_; have HO528 := n5_; have BK516 := n6_; have BK517 := n7_; have BK518 := n8_; have HB := n9_; clear n0_ n1_ n2_ n3_ n4_ n5_ n6_ n7_ n8_ n9_; have p529 : 0 ≤ (x9_3 : Int) := of_decide_eq_true zz111; have q529 : x9_3 < (l1.length : Int) := of_decide_eq_true zz111; obtain ⟨ad529, A529_0, c529_0, e529, hx529_0, hl529_0, hi529_0⟩ := at_L1 (Kd.V_reads' HO_1.out).2.2 x9_3 p529 q529; obtain rfl : ad522 = ad529 := (by injection e529); obtain ⟨ce529, hce529, hMe529, hcc529⟩ := Kd.V_get HO_1.out [] x9_3 p529 (by first | exact q529 | exact of_decide_eq_true zz111 | (have e_ := (Kd.V_reads' HO_1.out).1; omega)); obtain ⟨ua529_0, uc529_0, rfl, ul529_0, ge529_0⟩ := Kd.FK_slice_open hMe529; have hv529_0 := hcc529 0 _ rfl; rw [Nat.add_zero, show ((Kd.slice 3 (Kd.int .i64))).sz = 1 from rfl, Nat.mul_one] at hv529_0; replace hv529_0 := Option.some.inj (hv529_0.symm.trans hx529_0); injection hv529_0 with hva_ hvn_ hvc_
                                  rw [hva_] at ge529_0; rw [hvc_] at ul529_0; have HL529_0 := aM (show Kd.V (Kd.int .i64) 3 _ w.heap.size _ _ (rd_L1 l1 x9_3) from Kd.V_mk ul529_0 ge529_0); clear hva_ hvn_ hvc_ ge529_0 ul529_0; clear hcc529 hce529; have HR529_0 := aM hi529_0; have HC529_0 := aM hl529_0; clear hi529_0 hl529_0; replace p529 := eq_true p529; replace q529 := eq_true q529
                                  refine start_ (n := 10) (S := fun w' => w'.cell? ⟨gb518, 0, none⟩ = some (.int .i64 x6_1) ∧ w'.cell? ⟨gb518, 1, none⟩ = some (.slice Ao26 y526.length co26) ∧ w'.cell? ⟨gb518, 2, none⟩ = some (u519002) ∧ w'.cell? (ad522.add (x9_3).toNat) = some (.slice A529_0 (rd_L1 l1 x9_3).length c529_0)) (ds := [7, 9]) #[false, false, false, false, false, false, false, false, false, false] (by kernel_rfl) rfl rfl ⟨(blk_cell BK518.out 0).trans rfl, (blk_cell BK518.out 1).trans rfl, (blk_cell BK518.out 2).trans rfl, hx529_0⟩ (fun hHeld => ?_); refine with_tabW r30_Of.tab14 r30_Of.bits14 (fun HT_ HW_ => ?_); generalize w28.drew = w29 at HO_1 HO_518001 HO_519002 HL522_0 HL524_0 HO528 BK516 BK517 BK518 HB HL529_0 HR529_0 hx529_0 hHeld ⊢
                                  refine pure_ (i := 0) (N := some 54) (v := ?_) (a' := ?_) #[true, false, false, false, false, false, false, false, false, false] rfl rfl (any_of HT_.out (by kernel_rfl)) (fun _ _ _ h => h) (Or.inl ⟨by rfl, ?_⟩) ?_ ?_; rotate_left
                                  · intro w'; go_simp; with_reducible rfl
                                  rotate_left
                                  · simp only [Act.put, List.setIfInBounds_toArray, List.set_cons_zero, List.set_cons_succ, i64_w, i32_w]; rfl
                                  refine pure_ (i := 2) (N := some 56) (v := ?_) (a' := ?_) #[true, false, true, false, false, false, false, false, false, false] rfl rfl (any_of HT_.out (by kernel_rfl)) (fun _ _ _ h => h) (Or.inl ⟨by rfl, ?_⟩) ?_ ?_; rotate_left
                                  · intro w'; go_simp; with_reducible rfl
                                  rotate_left
                                  · simp only [Act.put, List.setIfInBounds_toArray, List.set_cons_zero, List.set_cons_succ, i64_w, i32_w]; rfl
                                  refine pure_ (i := 3) (N := some 57) (v := ?_) (a' := ?_) #[true, false, true, true, false, false, false, false, false, false] rfl rfl (any_of HT_.out (by kernel_rfl)) (fun _ _ _ h => h) (Or.inl ⟨by rfl, ?_⟩) ?_ ?_; rotate_left
                                  · intro w'; go_simp; with_reducible rfl
                                  rotate_left
                                  · simp only [Act.put, List.setIfInBounds_toArray, List.set_cons_zero, List.set_cons_succ, i64_w, i32_w]; rfl
                                  refine pure_ (i := 4) (N := some 58) (v := ?_) (a' := ?_) #[true, false, true, true, true, false, false, false, false, false] rfl rfl (any_of HT_.out (by kernel_rfl)) (fun _ _ _ h => h) (Or.inl ⟨by rfl, ?_⟩) ?_ ?_; rotate_left
                                  · intro w'; go_simp; with_reducible rfl
                                  rotate_left
                                  · simp only [Act.put, List.setIfInBounds_toArray, List.set_cons_zero, List.set_cons_succ, i64_w, i32_w]; rfl
                                  refine take_ (i := 1) (N := some 55) (v := ?_) (a' := ?_) #[true, true, true, true, true, false, false, false, false, false] rfl rfl (take_ofW HT_.out HW_.out (by kernel_rfl)) (fun _ _ _ h => h) (Or.inl ⟨by rfl, ?_⟩) hHeld ?_ ?_; rotate_left
                                  · rintro w' ⟨s0, s1, s2, s3⟩; go_simp; with_reducible rfl
                                  rotate_left
                                  · simp only [Act.put, List.setIfInBounds_toArray, List.set_cons_zero, List.set_cons_succ, i64_w, i32_w]; rfl
                                  refine take_ (i := 5) (N := some 59) (v := ?_) (a' := ?_) #[true, true, true, true, true, true, false, false, false, false] rfl rfl (take_ofW HT_.out HW_.out (by kernel_rfl)) (fun _ _ _ h => h) (Or.inl ⟨by rfl, ?_⟩) hHeld ?_ ?_; rotate_left
                                  · rintro w' ⟨s0, s1, s2, s3⟩; go_simp; with_reducible rfl
                                  rotate_left
                                  · simp only [Act.put, List.setIfInBounds_toArray, List.set_cons_zero, List.set_cons_succ, i64_w, i32_w]; rfl
                                  refine one_ (i := 6) (N := some 60) #[true, true, true, true, true, true, true, false, false, false] rfl rfl (one_of HT_.out (by kernel_rfl)) (by decide) (fun K hK => ?_)
                                  refine value_ (w1 := ?_) (v := ?_) (by rfl) rfl ?_ ?_; rotate_left 2
                                  · go_simp
                                    constructor
                                    · rfl
                                    · rfl
                                  refine hK.out _ _ ⟨(blk_cell (blk_alloc BK518.out _) 0).trans rfl, (blk_cell (blk_alloc BK518.out _) 1).trans rfl, (blk_cell (blk_alloc BK518.out _) 2).trans rfl, (World.cell?_alloc_lt _ _ _ (World.block_lt_of_cell? _ _ (hHeld.2.2.2))).trans (hHeld.2.2.2)⟩ (fun hHeld => ?_); clear hK K
                                  refine norm_ (a' := ?_) ?_ ?_; rotate_left
                                  · show Act.put _ (some 60) _ = _
                                    simp only [Act.put, List.setIfInBounds_toArray, List.set_cons_zero, List.set_cons_succ, i64_w, i32_w]; rfl
                                  refine last_ (i := 7) (N := some 61) #[true, true, true, true, true, true, true, true, false, false] rfl rfl (one_of HT_.out (by kernel_rfl)) (by decide) (fun K hK => ?_)
                                  refine Kd.N_append_step (Kd.slice 3 (Kd.int .i64)) (w0 := w) w.heap.size (by rfl) (.tmp 55) (.tmp 60) 28 22 (.slice none 0 0) 24 rfl Try.underlying28 info22 rfl (by decide) (by omega) u519002 x519002_3 (rd_L1 l1 x9_3) [.slice A529_0 (rd_L1 l1 x9_3).length c529_0] (fun k_ => (P1_ k_ ∨ w.heap.size ≤ k_) ∧ some k_ ≠ (u518001 : Value).ownBlock ∧ some k_ ≠ (.slice Ao26 y526.length co26 : Value).ownBlock ∧ k_ ≠ gb516 ∧ k_ ≠ gb517 ∧ k_ ≠ gb518) (fun k_ => ((fun k_ => (P1_ k_ ∨ w.heap.size ≤ k_) ∧ some k_ ≠ (u518001 : Value).ownBlock ∧ some k_ ≠ (.slice Ao26 y526.length co26 : Value).ownBlock ∧ k_ ≠ gb516 ∧ k_ ≠ gb517 ∧ k_ ≠ gb518)) k_ ∧ some k_ ≠ (u519002 : Value).ownBlock) rfl rfl ?aP (fun _ hk => hk) ?aF ?aO ?aB ?aS ?aL ?_
                                  (case aP => exact (Kd.FK_slice_mk (Kd.V_reads' (Kd.V_mono (ok' := (fun k_ => ((fun k_ => (P1_ k_ ∨ w.heap.size ≤ k_) ∧ some k_ ≠ (u518001 : Value).ownBlock ∧ some k_ ≠ (.slice Ao26 y526.length co26 : Value).ownBlock ∧ k_ ≠ gb516 ∧ k_ ≠ gb517 ∧ k_ ≠ gb518)) k_ ∧ some k_ ≠ (u519002 : Value).ownBlock)) (HL529_0.out) (fun k_ hk => by first | exact ⟨⟨hk.1, ⟨hk.2.1, ⟨hk.2.2.2.1, ⟨hk.2.2.2.2.1, ⟨hk.2.2.2.2.2.1, hk.2.2.2.2.2.2⟩⟩⟩⟩⟩, hk.2.2.1⟩ | ((repeat' apply And.intro) <;> (first | exact hk | exact hk.1 | exact hk.2 | exact hk.1.1 | exact hk.1.2 | exact hk.2.1 | exact hk.2.2 | exact hk.1.1.1 | exact hk.1.1.2 | exact hk.1.2.1 | exact hk.1.2.2 | exact hk.2.1.1 | exact hk.2.1.2 | exact hk.2.2.1 | exact hk.2.2.2 | exact hk.1.1.1.1 | exact hk.1.1.1.2 | exact hk.2.2.2.1 | exact hk.2.2.2.2))))).2.1 (Kd.V_F (Kd.V_mono (ok' := (fun k_ => ((fun k_ => (P1_ k_ ∨ w.heap.size ≤ k_) ∧ some k_ ≠ (u518001 : Value).ownBlock ∧ some k_ ≠ (.slice Ao26 y526.length co26 : Value).ownBlock ∧ k_ ≠ gb516 ∧ k_ ≠ gb517 ∧ k_ ≠ gb518)) k_ ∧ some k_ ≠ (u519002 : Value).ownBlock)) (HL529_0.out) (fun k_ hk => by first | exact ⟨⟨hk.1, ⟨hk.2.1, ⟨hk.2.2.2.1, ⟨hk.2.2.2.2.1, ⟨hk.2.2.2.2.2.1, hk.2.2.2.2.2.2⟩⟩⟩⟩⟩, hk.2.2.1⟩ | ((repeat' apply And.intro) <;> (first | exact hk | exact hk.1 | exact hk.2 | exact hk.1.1 | exact hk.1.2 | exact hk.2.1 | exact hk.2.2 | exact hk.1.1.1 | exact hk.1.1.2 | exact hk.1.2.1 | exact hk.1.2.2 | exact hk.2.1.1 | exact hk.2.1.2 | exact hk.2.2.1 | exact hk.2.2.2 | exact hk.1.1.1.1 | exact hk.1.1.1.2 | exact hk.2.2.2.1 | exact hk.2.2.2.2)))))))
                                  (case aB => exact zz42)
                                  (case aF => exact (fun k_ hk => ⟨(.inr (Nat.le_trans (below_size zz42) hk)), Kd.fresh' (Kd.N_lt (zN HO_518001)) k_ hk, Kd.fresh' (Kd.R_lt (zR HO528)) k_ hk, Kd.freshB (g := gb516) (o := .cells #[.int .i64 0, .slice none 0 0] 46 (0, 0)) (zB BK516) k_ hk, Kd.freshB (g := gb517) (o := .cells #[.int .i64 a0, u518001] 46 (0, 0)) (zB BK517) k_ hk, Kd.freshB (g := gb518) (o := .cells #[.int .i64 x6_1, .slice Ao26 y526.length co26, u519002] 74 (0, 0)) (zB BK518) k_ hk⟩))
                                  (case aO => exact (zN HO_519002))
                                  (case aS => exact (below_size zz42))
                                  (case aL => have := LMc21.out; omega)
                                  intro v531 w30 ho hb hg hat; rw [← Ny530.out] at ho; have n0_ := aM (Kd.V_afterv (ok := (fun k_ => (P1_ k_ ∨ w.heap.size ≤ k_) ∧ some k_ ≠ (u518001 : Value).ownBlock ∧ some k_ ≠ (.slice Ao26 y526.length co26 : Value).ownBlock ∧ k_ ≠ gb516 ∧ k_ ≠ gb517 ∧ k_ ≠ gb518)) zz21 hg hat); have n1_ := aM (Kd.N_afterv (ok := (fun k_ => (P1_ k_ ∨ w.heap.size ≤ k_) ∧ some k_ ≠ (.slice Ao26 y526.length co26 : Value).ownBlock ∧ k_ ≠ gb516 ∧ k_ ≠ gb517 ∧ k_ ≠ gb518)) zz22 hg hat); have n2_ := aM (blk_grown (g := gb516) (o := .cells #[.int .i64 0, .slice none 0 0] 46 (0, 0)) (zB BK516) hg (Kd.N_ne HO_519002.out BK516.out (by decide))); have n3_ := aM (blk_grown (g := gb517) (o := .cells #[.int .i64 a0, u518001] 46 (0, 0)) (zB BK517) hg (Kd.N_ne HO_519002.out BK517.out (by decide))); have n4_ := aM (blk_grown (g := gb518) (o := .cells #[.int .i64 x6_1, .slice Ao26 y526.length co26, u519002] 74 (0, 0)) (zB BK518) hg (Kd.N_ne HO_519002.out BK518.out (by decide))); have n5_ := aM (Kd.V_afterv (ok := (fun k_ => (P1_ k_ ∨ w.heap.size ≤ k_) ∧ some k_ ≠ (u518001 : Value).ownBlock ∧ some k_ ≠ (.slice Ao26 y526.length co26 : Value).ownBlock ∧ k_ ≠ gb516 ∧ k_ ≠ gb517 ∧ k_ ≠ gb518)) zz19 hg hat); have n6_ := aM (Kd.V_afterv (ok := (fun k_ => (P1_ k_ ∨ w.heap.size ≤ k_) ∧ some k_ ≠ (u518001 : Value).ownBlock ∧ some k_ ≠ (.slice Ao26 y526.length co26 : Value).ownBlock ∧ k_ ≠ gb516 ∧ k_ ≠ gb517 ∧ k_ ≠ gb518)) zz20 hg hat); have n7_ := aM (Kd.R_over' (zR HO528) (Kd.N_typed (zN HO_519002)) (by decide) hg); have n8_ := aM (Kd.V_afterv (ok := (fun k_ => (P1_ k_ ∨ w.heap.size ≤ k_) ∧ some k_ ≠ (u518001 : Value).ownBlock ∧ some k_ ≠ (.slice Ao26 y526.length co26 : Value).ownBlock ∧ k_ ≠ gb516 ∧ k_ ≠ gb517 ∧ k_ ≠ gb518)) (by (with_reducible repeat (first | apply Kd.V_alloc | apply Kd.V_drewN | apply Kd.V_drew)); exact Kd.V_mono HL529_0.out (fun _ hk => by first | exact ⟨⟨hk.1, ⟨hk.2.1, ⟨hk.2.2.2.1, ⟨hk.2.2.2.2.1, ⟨hk.2.2.2.2.2.1, hk.2.2.2.2.2.2⟩⟩⟩⟩⟩, hk.2.2.1⟩ | ((repeat' apply And.intro) <;> (first | exact hk | exact hk.1 | exact hk.2 | exact hk.1.1 | exact hk.1.2 | exact hk.2.1 | exact hk.2.2 | exact hk.1.1.1 | exact hk.1.1.2 | exact hk.1.2.1 | exact hk.1.2.2 | exact hk.2.1.1 | exact hk.2.1.2 | exact hk.2.2.1 | exact hk.2.2.2 | exact hk.1.1.1.1 | exact hk.1.1.1.2 | exact hk.2.2.2.1 | exact hk.2.2.2.2)))) hg hat); have n9_ := aM (hb); have n10_ := aM (ho); clear HO_1; clear HO_518001; clear BK516; clear BK517; clear BK518; clear HL522_0; clear HL524_0; clear HO528; clear HL529_0; clear HB; clear HO_519002; have HO_1 := n0_; have HO_518001 := n1_; have BK516 := n2_; have BK517 := n3_; have BK518 := n4_; have HL522_0 := n5_; have HL524_0 := n6_; have HO528 := n7_; have HL529_0 := n8_; have HB := n9_; have HO532 := n10_; clear n0_ n1_ n2_ n3_ n4_ n5_ n6_ n7_ n8_ n9_ n10_; clear ho hb hg hat; obtain ⟨Ao31, co31, eo31⟩ := Kd.N_slice HO532.out
                                  (first | subst eo31 | (injection eo31 with f1_ f2_ f3_; have f4_ := f1_.symm; have f5_ := f3_.symm; clear f1_ f2_ f3_; subst f4_; subst f5_))
                                  refine hK.out _ _ ?_; clear hK K
                                  refine norm_ (a' := ?_) ?_ ?_; rotate_left
                                  · show Act.put _ (some 61) _ = _
                                    simp only [Act.put, List.setIfInBounds_toArray, List.set_cons_zero, List.set_cons_succ, i64_w, i32_w]; rfl
                                  refine pure_ (i := 8) (N := some 62) (v := ?_) (a' := ?_) #[true, true, true, true, true, true, true, true, true, false] rfl rfl (any_of HT_.out (by kernel_rfl)) (fun _ _ _ h => h) (Or.inl ⟨by rfl, ?_⟩) ?_ ?_; rotate_left
                                  · intro w'; go_simp; with_reducible rfl
                                  rotate_left
                                  · simp only [Act.put, List.setIfInBounds_toArray, List.set_cons_zero, List.set_cons_succ, i64_w, i32_w]; rfl
                                  refine last_ (i := 9) (N := none) #[true, true, true, true, true, true, true, true, true, true] rfl rfl (one_of HT_.out (by kernel_rfl)) (by decide) (fun K hK => ?_); have hs32 : w30.cell? ⟨gb518, 2, none⟩ = some (u519002) := (blk_cell BK518.out 2).trans rfl; have hfs32 := blk_frozen BK518.out 2; have hns32_0 := NB516_518.out; have hns32_1 := NB517_518.out; have hms32_0 := NB518_516.out; have hms32_1 := NB518_517.out
                                  refine skip_ (w1 := ?_) (by rfl) rfl ?_ ?_; rotate_left
                                  · go_simp; rfl
                                  refine hK.out _ _ ?_; clear hK K
                                  refine done_ (done_of HT_.out (by kernel_rfl)) ?_
                                  try go_wp2
                                  go_roundg k3
                                  case measure => have := HK1.out; have := HK2.out; have := HK3.out; omega
                                  case rel => exact ⟨(wrap64 (x8_2 + 1)), (y526), (y530), (.slice Ao26 y526.length co26), (.slice Ao31 y530.length co31), zz112, H', ⟨zz110⟩, ⟨by (with_reducible repeat (first | apply Kd.V_alloc | apply Kd.V_drewN | apply Kd.V_drew)); exact Kd.V_mono (Kd.V_far (p := ⟨gb518, 2, none⟩) (Kd.V_mono HO_1.out (fun k_ hk => (⟨hk, hk.1.2.2.2.2.2⟩ : _ ∧ k_ ≠ gb518))) (fun _ hk => by first | exact hk.2 | ((repeat' apply And.intro) <;> (first | exact hk | exact hk.1 | exact hk.2 | exact hk.1.1 | exact hk.1.2 | exact hk.2.1 | exact hk.2.2 | exact hk.1.1.1 | exact hk.1.1.2 | exact hk.1.2.1 | exact hk.1.2.2 | exact hk.2.1.1 | exact hk.2.1.2 | exact hk.2.2.1 | exact hk.2.2.2 | exact hk.1.1.1.1 | exact hk.1.1.1.2 | exact hk.2.2.2.1 | exact hk.2.2.2.2))) (.slice Ao31 y530.length co31)) (fun _ hk => by first | exact ⟨hk.1.1.1, ⟨hk.1.1.2.1, ⟨hk.1.1.2.2.1, ⟨hk.1.2, ⟨hk.1.1.2.2.2.1, ⟨hk.1.1.2.2.2.2.1, hk.1.1.2.2.2.2.2⟩⟩⟩⟩⟩⟩ | ((repeat' apply And.intro) <;> (first | exact hk | exact hk.1 | exact hk.2 | exact hk.1.1 | exact hk.1.2 | exact hk.2.1 | exact hk.2.2 | exact hk.1.1.1 | exact hk.1.1.2 | exact hk.1.2.1 | exact hk.1.2.2 | exact hk.2.1.1 | exact hk.2.1.2 | exact hk.2.2.1 | exact hk.2.2.2 | exact hk.1.1.1.1 | exact hk.1.1.1.2 | exact hk.2.2.2.1 | exact hk.2.2.2.2)))⟩, ⟨by (with_reducible repeat (first | apply Kd.N_alloc | apply Kd.N_drewN | apply Kd.N_drew)); exact Kd.N_mono (Kd.N_far (p := ⟨gb518, 2, none⟩) (Kd.N_mono HO_518001.out (fun k_ hk => (⟨hk, hk.1.2.2.2.2⟩ : _ ∧ k_ ≠ gb518))) (fun _ hk => by first | exact hk.2 | ((repeat' apply And.intro) <;> (first | exact hk | exact hk.1 | exact hk.2 | exact hk.1.1 | exact hk.1.2 | exact hk.2.1 | exact hk.2.2 | exact hk.1.1.1 | exact hk.1.1.2 | exact hk.1.2.1 | exact hk.1.2.2 | exact hk.2.1.1 | exact hk.2.1.2 | exact hk.2.2.1 | exact hk.2.2.2 | exact hk.1.1.1.1 | exact hk.1.1.1.2 | exact hk.2.2.2.1 | exact hk.2.2.2.2))) (.slice Ao31 y530.length co31)) (fun _ hk => by first | exact ⟨hk.1.1.1, ⟨hk.1.1.2.1, ⟨hk.1.2, ⟨hk.1.1.2.2.1, ⟨hk.1.1.2.2.2.1, hk.1.1.2.2.2.2⟩⟩⟩⟩⟩ | ((repeat' apply And.intro) <;> (first | exact hk | exact hk.1 | exact hk.2 | exact hk.1.1 | exact hk.1.2 | exact hk.2.1 | exact hk.2.2 | exact hk.1.1.1 | exact hk.1.1.2 | exact hk.1.2.1 | exact hk.1.2.2 | exact hk.2.1.1 | exact hk.2.1.2 | exact hk.2.2.1 | exact hk.2.2.2 | exact hk.1.1.1.1 | exact hk.1.1.1.2 | exact hk.2.2.2.1 | exact hk.2.2.2.2)))⟩, ⟨(by (with_reducible repeat (first | apply Kd.R_alloc | apply Kd.R_drewN | apply Kd.R_drew)); exact Kd.R_mono (Kd.R_far (p := ⟨gb518, 2, none⟩) (Kd.R_types HO528.out BK518.out (by decide)) (fun _ hk => by first | exact hk.2 | ((repeat' apply And.intro) <;> (first | exact hk | exact hk.1 | exact hk.2 | exact hk.1.1 | exact hk.1.2 | exact hk.2.1 | exact hk.2.2 | exact hk.1.1.1 | exact hk.1.1.2 | exact hk.1.2.1 | exact hk.1.2.2 | exact hk.2.1.1 | exact hk.2.1.2 | exact hk.2.2.1 | exact hk.2.2.2 | exact hk.1.1.1.1 | exact hk.1.1.1.2 | exact hk.2.2.2.1 | exact hk.2.2.2.2))) (.slice Ao31 y530.length co31)) (fun _ hk => by first | exact hk.1 | ((repeat' apply And.intro) <;> (first | exact hk | exact hk.1 | exact hk.2 | exact hk.1.1 | exact hk.1.2 | exact hk.2.1 | exact hk.2.2 | exact hk.1.1.1 | exact hk.1.1.2 | exact hk.1.2.1 | exact hk.1.2.2 | exact hk.2.1.1 | exact hk.2.1.2 | exact hk.2.2.1 | exact hk.2.2.2 | exact hk.1.1.1.1 | exact hk.1.1.1.2 | exact hk.2.2.2.1 | exact hk.2.2.2.2))))⟩, ⟨by (with_reducible repeat (first | apply Kd.N_alloc | apply Kd.N_drewN | apply Kd.N_drew)); exact Kd.N_mono (Kd.N_far (p := ⟨gb518, 2, none⟩) (Kd.N_mono HO532.out (fun k_ hk => (⟨hk, hk.2.2.2.2.2⟩ : _ ∧ k_ ≠ gb518))) (fun _ hk => by first | exact hk.2 | ((repeat' apply And.intro) <;> (first | exact hk | exact hk.1 | exact hk.2 | exact hk.1.1 | exact hk.1.2 | exact hk.2.1 | exact hk.2.2 | exact hk.1.1.1 | exact hk.1.1.2 | exact hk.1.2.1 | exact hk.1.2.2 | exact hk.2.1.1 | exact hk.2.1.2 | exact hk.2.2.1 | exact hk.2.2.2 | exact hk.1.1.1.1 | exact hk.1.1.1.2 | exact hk.2.2.2.1 | exact hk.2.2.2.2))) (.slice Ao31 y530.length co31)) (fun _ hk => by first | exact ⟨hk.1.1, ⟨hk.1.2.1, ⟨hk.1.2.2.1, ⟨hk.1.2.2.2.1, ⟨hk.1.2.2.2.2.1, hk.1.2.2.2.2.2⟩⟩⟩⟩⟩ | ((repeat' apply And.intro) <;> (first | exact hk | exact hk.1 | exact hk.2 | exact hk.1.1 | exact hk.1.2 | exact hk.2.1 | exact hk.2.2 | exact hk.1.1.1 | exact hk.1.1.2 | exact hk.1.2.1 | exact hk.1.2.2 | exact hk.2.1.1 | exact hk.2.1.2 | exact hk.2.2.1 | exact hk.2.2.2 | exact hk.1.1.1.1 | exact hk.1.1.1.2 | exact hk.2.2.2.1 | exact hk.2.2.2.2)))⟩, ⟨zz38⟩, ⟨zz39⟩, ⟨(by (with_reducible repeat (first | refine blk_drewN ?_ _ | refine blk_drew ?_ | refine blk_alloc ?_ _)); refine blk_put (cs := #[.int .i64 x6_1, .slice Ao26 y526.length co26, u519002]) ?_ 2 _ rfl; (with_reducible repeat (first | refine blk_drewN ?_ _ | refine blk_drew ?_ | refine blk_alloc ?_ _)); exact BK518.out)⟩, ⟨zz42⟩⟩
                                rw [if_neg c21] at H
                                exact absurd H (by simp)
                              rw [if_neg c20] at H
                              exact absurd H (by simp)
                            rw [if_neg c19] at H; have c19b0 := beq_eq_false_iff_ne.mpr c19; have c19b1 := bne_iff_ne.mpr c19; have H' := aM H; clear H; have p522 : 0 ≤ (x9_3 : Int) := of_decide_eq_true zz111; have q522 : x9_3 < (l1.length : Int) := of_decide_eq_true zz111; obtain ⟨ad522, A522_0, c522_0, e522, hx522_0, hl522_0, hi522_0⟩ := at_L1 (Kd.V_reads' HO_1.out).2.2 x9_3 p522 q522
                            cases e522; obtain ⟨ce522, hce522, hMe522, hcc522⟩ := Kd.V_get HO_1.out [] x9_3 p522 zz80; obtain ⟨ua522_0, uc522_0, rfl, ul522_0, ge522_0⟩ := Kd.FK_slice_open hMe522; have hv522_0 := hcc522 0 _ rfl; rw [Nat.add_zero, show ((Kd.slice 3 (Kd.int .i64))).sz = 1 from rfl, Nat.mul_one] at hv522_0; replace hv522_0 := Option.some.inj (hv522_0.symm.trans hx522_0); injection hv522_0 with hva_ hvn_ hvc_
                            rw [hva_] at ge522_0; rw [hvc_] at ul522_0; have HL522_0 := aM (show Kd.V (Kd.int .i64) 3 _ w.heap.size _ _ (rd_L1 l1 x9_3) from Kd.V_mk ul522_0 ge522_0); clear hva_ hvn_ hvc_ ge522_0 ul522_0; clear hcc522 hce522; have HR522_0 := aM hi522_0; have HC522_0 := aM hl522_0; clear hi522_0 hl522_0; replace p522 := eq_true p522; replace q522 := eq_true q522
                            go_wp2_with (first | ((with_reducible refine gate_callee (f := 87) rfl ?_); refine goesL_ (some 36) rfl rfl Try.func87 (by kernel_rfl) rfl #[.slice A522_0 (rd_L1 l1 x9_3).length c522_0, .int .i64 x6_1] rfl zz87 ?_; (with_reducible refine (r30_fixes.calls k3 _ _ (rd_L1 l1 x9_3) x6_1 true _ ?side1 ?side2 A15.out).mono ?_); (case side1 => repeat (first | exact zz54 | (with_reducible refine Kd.C_alloc ?_ _) | (with_reducible refine Kd.C_drewN ?_ _) | (with_reducible refine Kd.C_drew ?_))); (case side2 => exact HC522_0.out); rintro e w' ⟨rfl, ⟨nd, rfl⟩⟩; refine ⟨_, rfl, ?_⟩; have p524 : 0 ≤ (x9_3 : Int) := of_decide_eq_true zz111; have q524 : x9_3 < (l1.length : Int) := of_decide_eq_true zz111; obtain ⟨ad524, A524_0, c524_0, e524, hx524_0, hl524_0, hi524_0⟩ := at_L1 (Kd.V_reads' HO_1.out).2.2 x9_3 p524 q524; obtain rfl : ad522 = ad524 := (by injection e524); obtain ⟨ce524, hce524, hMe524, hcc524⟩ := Kd.V_get HO_1.out [] x9_3 p524 zz81; obtain ⟨ua524_0, uc524_0, rfl, ul524_0, ge524_0⟩ := Kd.FK_slice_open hMe524; have hv524_0 := hcc524 0 _ rfl; rw [Nat.add_zero, show ((Kd.slice 3 (Kd.int .i64))).sz = 1 from rfl, Nat.mul_one] at hv524_0; replace hv524_0 := Option.some.inj (hv524_0.symm.trans hx524_0); injection hv524_0 with hva_ hvn_ hvc_; rw [hva_] at ge524_0; rw [hvc_] at ul524_0; have HL524_0 := aM (show Kd.V (Kd.int .i64) 3 _ w.heap.size _ _ (rd_L1 l1 x9_3) from Kd.V_mk ul524_0 ge524_0); clear hva_ hvn_ hvc_ ge524_0 ul524_0; clear hcc524 hce524; have HR524_0 := aM hi524_0; have HC524_0 := aM hl524_0; clear hi524_0 hl524_0; replace p524 := eq_true p524; replace q524 := eq_true q524; have ea_ := Option.some.inj (hx522_0.symm.trans hx524_0); injection ea_ with ea_ en_ ec_; subst ea_; subst ec_; clear en_; have p525 : 0 ≤ (x6_1 : Int) := of_decide_eq_true zz111; have q525 : x6_1 < ((rd_L1 l1 x9_3).length : Int) := of_decide_eq_true zz111; obtain ⟨ad525, e525, hx525_0⟩ := Kd.at_int zz55 x6_1 p525 q525; cases e525; replace p525 := eq_true p525; replace q525 := eq_true q525))
                            go_roundg k3
                            case measure => have := HK1.out; have := HK2.out; have := HK3.out; omega
                            case rel => exact ⟨(wrap64 (x9_3 + 1)), (x519001_3), (x519002_3), (u519001), (u519002), zz112, H', ⟨zz110⟩, ⟨(zV HO_1)⟩, ⟨(zN HO_518001)⟩, ⟨(zR HO_519001)⟩, ⟨(zN HO_519002)⟩, ⟨(zB BK516)⟩, ⟨(zB BK517)⟩, ⟨(zB BK518)⟩, ⟨zz42⟩⟩
                          rw [if_neg c18] at H
                          exact absurd H (by simp)
                        rw [if_neg c17] at H
                        exact absurd H (by simp)
                      replace c16 := Bool.eq_false_iff.mpr c16; subst c16; have H1 : (r30_Of.l2 k3 a0 l1 x6_1 x8_2 (wrap64 (x9_3 + 1)) a0 x518001_1 x6_1 x519001_3 x519002_3) = some (r1, r2) := by rw [if_neg (show ¬ (false = true) by decide)] at H; exact H
                      clear H; have H := H1; clear H1; have H' := aM H; clear H; have p522 : 0 ≤ (x9_3 : Int) := of_decide_eq_true zz111; have q522 : x9_3 < (l1.length : Int) := of_decide_eq_true zz111; obtain ⟨ad522, A522_0, c522_0, e522, hx522_0, hl522_0, hi522_0⟩ := at_L1 (Kd.V_reads' HO_1.out).2.2 x9_3 p522 q522
                      cases e522; obtain ⟨ce522, hce522, hMe522, hcc522⟩ := Kd.V_get HO_1.out [] x9_3 p522 zz80; obtain ⟨ua522_0, uc522_0, rfl, ul522_0, ge522_0⟩ := Kd.FK_slice_open hMe522; have hv522_0 := hcc522 0 _ rfl; rw [Nat.add_zero, show ((Kd.slice 3 (Kd.int .i64))).sz = 1 from rfl, Nat.mul_one] at hv522_0; replace hv522_0 := Option.some.inj (hv522_0.symm.trans hx522_0); injection hv522_0 with hva_ hvn_ hvc_
                      rw [hva_] at ge522_0; rw [hvc_] at ul522_0; have HL522_0 := aM (show Kd.V (Kd.int .i64) 3 _ w.heap.size _ _ (rd_L1 l1 x9_3) from Kd.V_mk ul522_0 ge522_0); clear hva_ hvn_ hvc_ ge522_0 ul522_0; clear hcc522 hce522; have HR522_0 := aM hi522_0; have HC522_0 := aM hl522_0; clear hi522_0 hl522_0; replace p522 := eq_true p522; replace q522 := eq_true q522
                      go_wp2_with (first | ((with_reducible refine gate_callee (f := 87) rfl ?_); refine goesL_ (some 36) rfl rfl Try.func87 (by kernel_rfl) rfl #[.slice A522_0 (rd_L1 l1 x9_3).length c522_0, .int .i64 x6_1] rfl zz87 ?_; (with_reducible refine (r30_fixes.calls k3 _ _ (rd_L1 l1 x9_3) x6_1 false _ ?side1 ?side2 A15.out).mono ?_); (case side1 => repeat (first | exact zz54 | (with_reducible refine Kd.C_alloc ?_ _) | (with_reducible refine Kd.C_drewN ?_ _) | (with_reducible refine Kd.C_drew ?_))); (case side2 => exact HC522_0.out); rintro e w' ⟨rfl, ⟨nd, rfl⟩⟩; refine ⟨_, rfl, ?_⟩))
                      go_roundg k3
                      case measure => have := HK1.out; have := HK2.out; have := HK3.out; omega
                      case rel => exact ⟨(wrap64 (x9_3 + 1)), (x519001_3), (x519002_3), (u519001), (u519002), zz112, H', ⟨zz110⟩, ⟨(zV HO_1)⟩, ⟨(zN HO_518001)⟩, ⟨(zR HO_519001)⟩, ⟨(zN HO_519002)⟩, ⟨(zB BK516)⟩, ⟨(zB BK517)⟩, ⟨(zB BK518)⟩, ⟨zz42⟩⟩
                    rw [if_neg c14] at H
                    exact absurd H (by simp)
                  rw [if_neg c13] at H; have c13b0 := decide_eq_false c13; clear c13; have H' := aM H; clear H; go_wp2
                  go_roundg k3
                  case measure => have := HK1.out; have := HK2.out; have := HK3.out; omega
                  case rel => exact ⟨(wrap64 (x8_2 + 1)), (x519001_3), (x519002_3), (u519001), (u519002), zz112, H', ⟨zz110⟩, ⟨(zV HO_1)⟩, ⟨(zN HO_518001)⟩, ⟨(zR HO_519001)⟩, ⟨(zN HO_519002)⟩, ⟨(zB BK516)⟩, ⟨(zB BK517)⟩, ⟨(zB BK518)⟩, ⟨zz42⟩⟩
            rw [if_neg c12] at H; have c12b0 := decide_eq_false c12; clear c12
            by_cases c33 : (x519001_2.length : Int) > 1
            · rw [if_pos c33] at H; have c33b0 := decide_eq_true c33; have c33b1 : decide (1 < x519001_2.length) = true := decide_eq_true (by omega); clear c33
              by_cases c34 : x518001_1.length < 2513169434916
              · rw [if_pos c34] at H; have LMc34 := aM c34; clear c34; obtain ⟨y519, hy519⟩ : ∃ y_ : List (S74), y_ = (x518001_1 ++ [(⟨x6_1, x519001_2, x519002_2⟩ : S74)]) := ⟨_, rfl⟩; replace H : (r30_Of.l0 k2 a0 l1 (wrap64 (x6_1 + 1)) a0 y519) = some (r1, r2) := by first | (rw [hy519]; with_reducible exact H) | (have H2_ := (Option.bind_some _ _).symm.trans H; rw [hy519]; with_reducible exact H2_) | (have H2_ := (Option.bind_some _ _).symm.trans H; with_reducible exact H2_) | with_reducible exact H | (rw [hy519]; exact H) | exact H
                have Ny519 := aM hy519; clear hy519; have H' := aM H; clear H; have hnb35 := NB518_516.out; have hnc35 := NB516_518.out; have hnb36 := NB518_517.out; have hnc36 := NB517_518.out; have hcz37_0 : wr.cell? ⟨gb518, 0, none⟩ = some (.int .i64 x6_1) := (blk_cell BK518.out 0).trans rfl; have hcz37_1 : wr.cell? ⟨gb518, 1, none⟩ = some (u519001) := (blk_cell BK518.out 1).trans rfl; have hcz37_2 : wr.cell? ⟨gb518, 2, none⟩ = some (u519002) := (blk_cell BK518.out 2).trans rfl; have hfz37_0 := blk_frozen BK518.out 0; have hfz37_1 := blk_frozen BK518.out 1; have hfz37_2 := blk_frozen BK518.out 2; obtain ⟨Ao38, co38, eo38⟩ := Kd.R_slice HO_519001.out; subst eo38; have hnb39 := NB517_516.out; have hnc39 := NB516_517.out; have hcz40_0 : wr.cell? ⟨gb517, 0, none⟩ = some (.int .i64 a0) := (blk_cell BK517.out 0).trans rfl; have hcz40_1 : wr.cell? ⟨gb517, 1, none⟩ = some (u518001) := (blk_cell BK517.out 1).trans rfl; have hfz40_0 := blk_frozen BK517.out 0; have hfz40_1 := blk_frozen BK517.out 1; obtain ⟨Ao42, co42, eo42⟩ := Kd.N_slice HO_519002.out; subst eo42
                go_wp2_with (first | ((with_reducible refine gate_builtin (b := .append) (xs := #[.tmp 68, .tmp 70]) rfl ?_); at_builtin; refine Kd.N_append k74 (w0 := w) w.heap.size rfl (.tmp 68) (.tmp 70) 44 74 (.agg #[(.int .i64 0), (.slice none 0 0), (.slice none 0 0)]) 56 rfl Try.underlying44 info74 rfl (by decide) (by omega) u518001 x518001_1 (⟨x6_1, x519001_2, x519002_2⟩ : S74) [.int .i64 x6_1, .slice Ao38 x519001_2.length co38, .slice Ao42 x519002_2.length co42] (fun k_ => (P1_ k_ ∨ w.heap.size ≤ k_) ∧ k_ ≠ gb516 ∧ k_ ≠ gb517 ∧ k_ ≠ gb518) (fun k_ => ((fun k_ => (P1_ k_ ∨ w.heap.size ≤ k_) ∧ k_ ≠ gb516 ∧ k_ ≠ gb517 ∧ k_ ≠ gb518)) k_ ∧ some k_ ≠ (u518001 : Value).ownBlock) rfl rfl ?aP (fun _ hk => hk) ?aF ?aO ?aB ?aS ?aL ?_; (case aP => exact (k74_mkF _ _ (⟨x6_1, x519001_2, x519002_2⟩ : S74) (Kd.R_reads' (Kd.R_mono (ok' := (fun k_ => ((fun k_ => (P1_ k_ ∨ w.heap.size ≤ k_) ∧ k_ ≠ gb516 ∧ k_ ≠ gb517 ∧ k_ ≠ gb518)) k_ ∧ some k_ ≠ (u518001 : Value).ownBlock)) (Kd.R_types (Kd.R_types (Kd.R_types (Kd.R_apart' (HO_519001.out) (Kd.N_typed HO_518001.out) (by decide)) BK516.out (by decide)) BK517.out (by decide)) BK518.out (by decide)) (fun k_ hk => ⟨⟨(.inr (hk.1.1.1.1)), ⟨hk.1.1.2, ⟨hk.1.2, hk.2⟩⟩⟩, hk.1.1.1.2⟩))).2.1 (Kd.R_F (Kd.R_mono (ok' := (fun k_ => ((fun k_ => (P1_ k_ ∨ w.heap.size ≤ k_) ∧ k_ ≠ gb516 ∧ k_ ≠ gb517 ∧ k_ ≠ gb518)) k_ ∧ some k_ ≠ (u518001 : Value).ownBlock)) (Kd.R_types (Kd.R_types (Kd.R_types (Kd.R_apart' (HO_519001.out) (Kd.N_typed HO_518001.out) (by decide)) BK516.out (by decide)) BK517.out (by decide)) BK518.out (by decide)) (fun k_ hk => ⟨⟨(.inr (hk.1.1.1.1)), ⟨hk.1.1.2, ⟨hk.1.2, hk.2⟩⟩⟩, hk.1.1.1.2⟩))) (Kd.N_reads' (Kd.N_mono (ok' := (fun k_ => ((fun k_ => (P1_ k_ ∨ w.heap.size ≤ k_) ∧ k_ ≠ gb516 ∧ k_ ≠ gb517 ∧ k_ ≠ gb518)) k_ ∧ some k_ ≠ (u518001 : Value).ownBlock)) (HO_519002.out) (fun k_ hk => by first | exact ⟨⟨hk.1, ⟨hk.2.2.2.1, ⟨hk.2.2.2.2.1, hk.2.2.2.2.2⟩⟩⟩, hk.2.1⟩ | ((repeat' apply And.intro) <;> (first | exact hk | exact hk.1 | exact hk.2 | exact hk.1.1 | exact hk.1.2 | exact hk.2.1 | exact hk.2.2 | exact hk.1.1.1 | exact hk.1.1.2 | exact hk.1.2.1 | exact hk.1.2.2 | exact hk.2.1.1 | exact hk.2.1.2 | exact hk.2.2.1 | exact hk.2.2.2 | exact hk.1.1.1.1 | exact hk.1.1.1.2 | exact hk.2.2.2.1 | exact hk.2.2.2.2))))).2.1 (Kd.N_F (Kd.N_mono (ok' := (fun k_ => ((fun k_ => (P1_ k_ ∨ w.heap.size ≤ k_) ∧ k_ ≠ gb516 ∧ k_ ≠ gb517 ∧ k_ ≠ gb518)) k_ ∧ some k_ ≠ (u518001 : Value).ownBlock)) (HO_519002.out) (fun k_ hk => by first | exact ⟨⟨hk.1, ⟨hk.2.2.2.1, ⟨hk.2.2.2.2.1, hk.2.2.2.2.2⟩⟩⟩, hk.2.1⟩ | ((repeat' apply And.intro) <;> (first | exact hk | exact hk.1 | exact hk.2 | exact hk.1.1 | exact hk.1.2 | exact hk.2.1 | exact hk.2.2 | exact hk.1.1.1 | exact hk.1.1.2 | exact hk.1.2.1 | exact hk.1.2.2 | exact hk.2.1.1 | exact hk.2.1.2 | exact hk.2.2.1 | exact hk.2.2.2 | exact hk.1.1.1.1 | exact hk.1.1.1.2 | exact hk.2.2.2.1 | exact hk.2.2.2.2))))))); (case aB => exact zz42); (case aF => exact (fun k_ hk => ⟨(.inr (Nat.le_trans (below_size zz42) hk)), Kd.freshB (g := gb516) (o := .cells #[.int .i64 0, .slice none 0 0] 46 (0, 0)) (zB BK516) k_ hk, Kd.freshB (g := gb517) (o := .cells #[.int .i64 a0, u518001] 46 (0, 0)) (zB BK517) k_ hk, Kd.freshB (g := gb518) (o := .cells #[.int .i64 x6_1, .slice Ao38 x519001_2.length co38, .slice Ao42 x519002_2.length co42] 74 (0, 0)) (zB BK518) k_ hk⟩)); (case aO => exact (by (with_reducible repeat (first | apply Kd.N_alloc | apply Kd.N_drewN | apply Kd.N_drew)); exact Kd.N_mono HO_518001.out (fun _ hk => by first | exact ⟨hk.1, ⟨hk.2.2.2.1, ⟨hk.2.2.2.2.1, hk.2.2.2.2.2⟩⟩⟩ | ((repeat' apply And.intro) <;> (first | exact hk | exact hk.1 | exact hk.2 | exact hk.1.1 | exact hk.1.2 | exact hk.2.1 | exact hk.2.2 | exact hk.1.1.1 | exact hk.1.1.2 | exact hk.1.2.1 | exact hk.1.2.2 | exact hk.2.1.1 | exact hk.2.1.2 | exact hk.2.2.1 | exact hk.2.2.2 | exact hk.1.1.1.1 | exact hk.1.1.1.2 | exact hk.2.2.2.1 | exact hk.2.2.2.2))))); (case aS => exact (below_size zz42)); (case aL => have := LMc34.out; omega); intro v520 w41 ho hb hg hat; rw [← Ny519.out] at ho; replace HO_1 := aM (Kd.V_afterv (ok := (fun k_ => (P1_ k_ ∨ w.heap.size ≤ k_) ∧ some k_ ≠ (.slice Ao38 x519001_2.length co38 : Value).ownBlock ∧ some k_ ≠ (.slice Ao42 x519002_2.length co42 : Value).ownBlock ∧ k_ ≠ gb516 ∧ k_ ≠ gb517 ∧ k_ ≠ gb518)) (by (with_reducible repeat (first | apply Kd.V_alloc | apply Kd.V_drewN | apply Kd.V_drew)); exact Kd.V_mono HO_1.out (fun _ hk => by first | exact ⟨⟨hk.1, ⟨hk.2.2.1, ⟨hk.2.2.2.1, ⟨hk.2.2.2.2.1, ⟨hk.2.2.2.2.2.1, hk.2.2.2.2.2.2⟩⟩⟩⟩⟩, hk.2.1⟩ | ((repeat' apply And.intro) <;> (first | exact hk | exact hk.1 | exact hk.2 | exact hk.1.1 | exact hk.1.2 | exact hk.2.1 | exact hk.2.2 | exact hk.1.1.1 | exact hk.1.1.2 | exact hk.1.2.1 | exact hk.1.2.2 | exact hk.2.1.1 | exact hk.2.1.2 | exact hk.2.2.1 | exact hk.2.2.2 | exact hk.1.1.1.1 | exact hk.1.1.1.2 | exact hk.2.2.2.1 | exact hk.2.2.2.2)))) hg hat); replace BK516 := aM (blk_grown (g := gb516) (o := .cells #[.int .i64 0, .slice none 0 0] 46 (0, 0)) (zB BK516) hg (Kd.N_ne HO_518001.out BK516.out (by decide))); replace BK517 := aM (blk_grown (g := gb517) (o := .cells #[.int .i64 a0, u518001] 46 (0, 0)) (zB BK517) hg (Kd.N_ne HO_518001.out BK517.out (by decide))); replace BK518 := aM (blk_grown (g := gb518) (o := .cells #[.int .i64 x6_1, .slice Ao38 x519001_2.length co38, .slice Ao42 x519002_2.length co42] 74 (0, 0)) (zB BK518) hg (Kd.N_away HO_518001.out (fun _ hk => by first | exact hk.2.2.2.2.2 | ((repeat' apply And.intro) <;> (first | exact hk | exact hk.1 | exact hk.2 | exact hk.1.1 | exact hk.1.2 | exact hk.2.1 | exact hk.2.2 | exact hk.1.1.1 | exact hk.1.1.2 | exact hk.1.2.1 | exact hk.1.2.2 | exact hk.2.1.1 | exact hk.2.1.2 | exact hk.2.2.1 | exact hk.2.2.2 | exact hk.1.1.1.1 | exact hk.1.1.1.2 | exact hk.2.2.2.1 | exact hk.2.2.2.2))))); replace HB := aM (hb); have HO521 := aM (ho); clear HO_518001 HO_519001 HO_519002; clear ho hb hg hat; obtain ⟨Ao43, co43, eo43⟩ := Kd.N_slice HO521.out; subst eo43; have hcz44_0 : w41.cell? ⟨gb517, 0, none⟩ = some (.int .i64 a0) := (blk_cell BK517.out 0).trans rfl; have hcz44_1 : w41.cell? ⟨gb517, 1, none⟩ = some (u518001) := (blk_cell BK517.out 1).trans rfl; have hfz44_0 := blk_frozen BK517.out 0; have hfz44_1 := blk_frozen BK517.out 1))
                go_roundg k2
                case measure => have := HK1.out; have := HK2.out; omega
                case rel => exact ⟨(wrap64 (x6_1 + 1)), (y519), (.slice Ao43 y519.length co43), zz112, H', ⟨zz113⟩, ⟨by (with_reducible repeat (first | apply Kd.V_alloc | apply Kd.V_drewN | apply Kd.V_drew)); exact Kd.V_mono (Kd.V_far (p := ⟨gb517, 1, none⟩) (Kd.V_mono HO_1.out (fun k_ hk => (⟨hk, hk.1.2.2.2.2.1⟩ : _ ∧ k_ ≠ gb517))) (fun _ hk => by first | exact hk.2 | ((repeat' apply And.intro) <;> (first | exact hk | exact hk.1 | exact hk.2 | exact hk.1.1 | exact hk.1.2 | exact hk.2.1 | exact hk.2.2 | exact hk.1.1.1 | exact hk.1.1.2 | exact hk.1.2.1 | exact hk.1.2.2 | exact hk.2.1.1 | exact hk.2.1.2 | exact hk.2.2.1 | exact hk.2.2.2 | exact hk.1.1.1.1 | exact hk.1.1.1.2 | exact hk.2.2.2.1 | exact hk.2.2.2.2))) (.slice Ao43 y519.length co43)) (fun _ hk => by first | exact ⟨hk.1.1.1, ⟨hk.1.2, ⟨hk.1.1.2.2.2.1, hk.1.1.2.2.2.2.1⟩⟩⟩ | ((repeat' apply And.intro) <;> (first | exact hk | exact hk.1 | exact hk.2 | exact hk.1.1 | exact hk.1.2 | exact hk.2.1 | exact hk.2.2 | exact hk.1.1.1 | exact hk.1.1.2 | exact hk.1.2.1 | exact hk.1.2.2 | exact hk.2.1.1 | exact hk.2.1.2 | exact hk.2.2.1 | exact hk.2.2.2 | exact hk.1.1.1.1 | exact hk.1.1.1.2 | exact hk.2.2.2.1 | exact hk.2.2.2.2)))⟩, ⟨by (with_reducible repeat (first | apply Kd.N_alloc | apply Kd.N_drewN | apply Kd.N_drew)); exact Kd.N_mono (Kd.N_far (p := ⟨gb517, 1, none⟩) (Kd.N_mono HO521.out (fun k_ hk => (⟨hk, hk.2.2.1⟩ : _ ∧ k_ ≠ gb517))) (fun _ hk => by first | exact hk.2 | ((repeat' apply And.intro) <;> (first | exact hk | exact hk.1 | exact hk.2 | exact hk.1.1 | exact hk.1.2 | exact hk.2.1 | exact hk.2.2 | exact hk.1.1.1 | exact hk.1.1.2 | exact hk.1.2.1 | exact hk.1.2.2 | exact hk.2.1.1 | exact hk.2.1.2 | exact hk.2.2.1 | exact hk.2.2.2 | exact hk.1.1.1.1 | exact hk.1.1.1.2 | exact hk.2.2.2.1 | exact hk.2.2.2.2))) (.slice Ao43 y519.length co43)) (fun _ hk => by first | exact ⟨hk.1.1, ⟨hk.1.2.1, hk.1.2.2.1⟩⟩ | ((repeat' apply And.intro) <;> (first | exact hk | exact hk.1 | exact hk.2 | exact hk.1.1 | exact hk.1.2 | exact hk.2.1 | exact hk.2.2 | exact hk.1.1.1 | exact hk.1.1.2 | exact hk.1.2.1 | exact hk.1.2.2 | exact hk.2.1.1 | exact hk.2.1.2 | exact hk.2.2.1 | exact hk.2.2.2 | exact hk.1.1.1.1 | exact hk.1.1.1.2 | exact hk.2.2.2.1 | exact hk.2.2.2.2)))⟩, ⟨(by (with_reducible repeat (first | refine blk_drewN ?_ _ | refine blk_drew ?_ | refine blk_alloc ?_ _)); refine blk_far ?_ NB516_517.out _; (with_reducible repeat (first | refine blk_drewN ?_ _ | refine blk_drew ?_ | refine blk_alloc ?_ _)); exact BK516.out)⟩, ⟨(by (with_reducible repeat (first | refine blk_drewN ?_ _ | refine blk_drew ?_ | refine blk_alloc ?_ _)); refine blk_put (cs := #[.int .i64 a0, u518001]) ?_ 1 _ rfl; (with_reducible repeat (first | refine blk_drewN ?_ _ | refine blk_drew ?_ | refine blk_alloc ?_ _)); exact BK517.out)⟩, ⟨zz42⟩⟩
              rw [if_neg c34] at H
              exact absurd H (by simp)
            rw [if_neg c33] at H; have c33b0 := decide_eq_false c33; have c33b1 : decide (1 < x519001_2.length) = false := decide_eq_false (by omega); clear c33; have H' := aM H; clear H; have hnb45 := NB518_516.out; have hnc45 := NB516_518.out; have hnb46 := NB518_517.out; have hnc46 := NB517_518.out; have hcz47_0 : wr.cell? ⟨gb518, 0, none⟩ = some (.int .i64 x6_1) := (blk_cell BK518.out 0).trans rfl; have hcz47_1 : wr.cell? ⟨gb518, 1, none⟩ = some (u519001) := (blk_cell BK518.out 1).trans rfl; have hcz47_2 : wr.cell? ⟨gb518, 2, none⟩ = some (u519002) := (blk_cell BK518.out 2).trans rfl; have hfz47_0 := blk_frozen BK518.out 0; have hfz47_1 := blk_frozen BK518.out 1; have hfz47_2 := blk_frozen BK518.out 2; obtain ⟨Ao48, co48, eo48⟩ := Kd.R_slice HO_519001.out; subst eo48; go_wp2
            go_roundg k2
            case measure => have := HK1.out; have := HK2.out; omega
            case rel => exact ⟨(wrap64 (x6_1 + 1)), (x518001_1), (u518001), zz112, H', ⟨zz113⟩, ⟨(by (with_reducible repeat (first | apply Kd.V_alloc | apply Kd.V_drewN | apply Kd.V_drew)); exact Kd.V_mono HO_1.out (fun _ hk => by first | exact ⟨hk.1, ⟨hk.2.1, ⟨hk.2.2.2.2.1, hk.2.2.2.2.2.1⟩⟩⟩ | ((repeat' apply And.intro) <;> (first | exact hk | exact hk.1 | exact hk.2 | exact hk.1.1 | exact hk.1.2 | exact hk.2.1 | exact hk.2.2 | exact hk.1.1.1 | exact hk.1.1.2 | exact hk.1.2.1 | exact hk.1.2.2 | exact hk.2.1.1 | exact hk.2.1.2 | exact hk.2.2.1 | exact hk.2.2.2 | exact hk.1.1.1.1 | exact hk.1.1.1.2 | exact hk.2.2.2.1 | exact hk.2.2.2.2))))⟩, ⟨(by (with_reducible repeat (first | apply Kd.N_alloc | apply Kd.N_drewN | apply Kd.N_drew)); exact Kd.N_mono HO_518001.out (fun _ hk => by first | exact ⟨hk.1, ⟨hk.2.2.2.1, hk.2.2.2.2.1⟩⟩ | ((repeat' apply And.intro) <;> (first | exact hk | exact hk.1 | exact hk.2 | exact hk.1.1 | exact hk.1.2 | exact hk.2.1 | exact hk.2.2 | exact hk.1.1.1 | exact hk.1.1.2 | exact hk.1.2.1 | exact hk.1.2.2 | exact hk.2.1.1 | exact hk.2.1.2 | exact hk.2.2.1 | exact hk.2.2.2 | exact hk.1.1.1.1 | exact hk.1.1.1.2 | exact hk.2.2.2.1 | exact hk.2.2.2.2))))⟩, ⟨(zB BK516)⟩, ⟨(zB BK517)⟩, ⟨zz42⟩⟩
      rw [if_neg c7] at H; have c7b0 := decide_eq_false c7; clear c7; simp only [Option.some.injEq, Prod.mk.injEq] at H; obtain ⟨rfl, rfl⟩ := H; have hnb49 := NB517_516.out; have hnc49 := NB516_517.out; have hcz50_0 : wr.cell? ⟨gb517, 0, none⟩ = some (.int .i64 a0) := (blk_cell BK517.out 0).trans rfl; have hcz50_1 : wr.cell? ⟨gb517, 1, none⟩ = some (u518001) := (blk_cell BK517.out 1).trans rfl; have hfz50_0 := blk_frozen BK517.out 0; have hfz50_1 := blk_frozen BK517.out 1; have hcz51_0 : wr.cell? ⟨gb516, 0, none⟩ = some (.int .i64 0) := (blk_cell BK516.out 0).trans rfl; have hcz51_1 : wr.cell? ⟨gb516, 1, none⟩ = some (.slice none 0 0) := (blk_cell BK516.out 1).trans rfl; have hfz51_0 := blk_frozen BK516.out 0; have hfz51_1 := blk_frozen BK516.out 1; obtain ⟨Ao52, co52, eo52⟩ := Kd.N_slice HO_518001.out; subst eo52; go_wp2
      refine bodyPost_ret (results_cell_row rfl _ _ gb516 46 #[.int .i64 a0, .slice Ao52 x518001_1.length co52] (0, 0) _ rfl (by (with_reducible repeat (first | refine blk_drewN ?_ _ | refine blk_drew ?_ | refine blk_alloc ?_ _)); refine blk_put (cs := #[.int .i64 a0, .slice none 0 0]) ?_ 1 _ rfl; (with_reducible repeat (first | refine blk_drewN ?_ _ | refine blk_drew ?_ | refine blk_alloc ?_ _)); refine blk_put (cs := #[.int .i64 0, .slice none 0 0]) ?_ 0 _ rfl; (with_reducible repeat (first | refine blk_drewN ?_ _ | refine blk_drew ?_ | refine blk_alloc ?_ _)); exact BK516.out) Try.underlying46 rfl (by kernel_rfl)) rfl ?_
      exact ⟨_, by first | rfl | (simp [errW_none, errW_some] <;> rfl) | (simp [*, errW_none, errW_some] <;> rfl), by (with_reducible repeat (first | apply Kd.N_alloc | apply Kd.N_drewN | apply Kd.N_drew)); exact Kd.N_mono (Kd.N_far (p := ⟨gb516, 1, none⟩) (Kd.N_far (p := ⟨gb516, 0, none⟩) (Kd.N_mono HO_518001.out (fun k_ hk => (⟨hk, hk.2.1⟩ : _ ∧ k_ ≠ gb516))) (fun _ hk => by first | exact hk.2 | ((repeat' apply And.intro) <;> (first | exact hk | exact hk.1 | exact hk.2 | exact hk.1.1 | exact hk.1.2 | exact hk.2.1 | exact hk.2.2 | exact hk.1.1.1 | exact hk.1.1.2 | exact hk.1.2.1 | exact hk.1.2.2 | exact hk.2.1.1 | exact hk.2.1.2 | exact hk.2.2.1 | exact hk.2.2.2 | exact hk.1.1.1.1 | exact hk.1.1.1.2 | exact hk.2.2.2.1 | exact hk.2.2.2.2))) (.int .i64 a0)) (fun _ hk => by first | exact hk.2 | ((repeat' apply And.intro) <;> (first | exact hk | exact hk.1 | exact hk.2 | exact hk.1.1 | exact hk.1.2 | exact hk.2.1 | exact hk.2.2 | exact hk.1.1.1 | exact hk.1.1.2 | exact hk.1.2.1 | exact hk.1.2.2 | exact hk.2.1.1 | exact hk.2.1.2 | exact hk.2.2.1 | exact hk.2.2.2 | exact hk.1.1.1.1 | exact hk.1.1.1.2 | exact hk.2.2.2.1 | exact hk.2.2.2.2))) (.slice Ao52 x518001_1.length co52)) (fun _ hk => by first | exact hk.1.1 | ((repeat' apply And.intro) <;> (first | exact hk | exact hk.1 | exact hk.2 | exact hk.1.1 | exact hk.1.2 | exact hk.2.1 | exact hk.2.2 | exact hk.1.1.1 | exact hk.1.1.2 | exact hk.1.2.1 | exact hk.1.2.2 | exact hk.2.1.1 | exact hk.2.1.2 | exact hk.2.2.1 | exact hk.2.2.2 | exact hk.1.1.1.1 | exact hk.1.1.1.2 | exact hk.2.2.2.1 | exact hk.2.2.2.2))), by repeat (first | (with_reducible first | exact HB.out | apply below_alloc | apply pw_below_drewN | apply below_drew1 | refine below_set ?_ GE516.out | refine below_set ?_ GE517.out) | exact HB.out)⟩
end
section
def swapL1 (xs : List (List Int)) (i j : Int) : List (List Int) := (xs.set i.toNat (rd_L1 xs j)).set j.toNat (rd_L1 xs i)
theorem N_cell1 {w : World} {base g n cap : Nat} {ok : Nat → Prop} {xs : List (List Int)} (h : Kd.N (Kd.slice 3 (Kd.int .i64)) 22 w base ok (.slice (some ⟨g, 0, none⟩) n cap) xs) (i : Int) (h0 : 0 ≤ i) (h1 : i < n) :
    ∃ A c, (rd_L1 xs i).length ≤ c ∧ Kd.F (Kd.int .i64) w (fun k => ok k ∧ k ≠ g) A (rd_L1 xs i).length (rd_L1 xs i) ∧ w.cell? ⟨g, i.toNat, none⟩ = some (.slice A (rd_L1 xs i).length c) ∧ w.frozen? ⟨g, i.toNat, none⟩ = false := by
  obtain ⟨c, hcl, hM, hcc, hfr⟩ := Kd.N_elem h ([] : List Int) i h0 h1
  obtain ⟨A, c1, rfl, hl, hF⟩ := Kd.FK_slice_open hM
  have e1 := hcc 0 _ rfl
  have e2 := hfr 0
  rw [Nat.add_zero, show (Kd.slice 3 (Kd.int .i64)).sz = 1 from rfl, Nat.mul_one] at e1 e2
  exact ⟨A, c1, hl, hF, e1, e2⟩
theorem N_put1 {w : World} {base g n cap c : Nat} {A : Option Addr} {ok : Nat → Prop} {xs : List (List Int)} {x' : List Int} (h : Kd.N (Kd.slice 3 (Kd.int .i64)) 22 w base ok (.slice (some ⟨g, 0, none⟩) n cap) xs) (i : Int) (h0 : 0 ≤ i) (h1 : i < n)
    (hl : x'.length ≤ c) (hF : Kd.F (Kd.int .i64) w (fun k => ok k ∧ k ≠ g) A x'.length x') :
    Kd.N (Kd.slice 3 (Kd.int .i64)) 22 (w.setCell ⟨g, i.toNat, none⟩ (.slice A x'.length c)) base ok (.slice (some ⟨g, 0, none⟩) n cap) (xs.set i.toNat x') := by
  obtain ⟨c0, hcl, hM, hcc, hfr⟩ := Kd.N_elem h ([] : List Int) i h0 h1
  have hcl1 : c0.length = 1 := hcl
  obtain ⟨A1, c1, rfl, hl1, hF1⟩ := Kd.FK_slice_open hM
  have := (Kd.N_seg h i h0 h1 (c := [.slice A1 ((xs.getD i.toNat []).length) c1]) (seg := [.slice A x'.length c]) (j := 0) (okp := fun k => ok k ∧ k ≠ g) hcl hcc (Nat.le_refl 1) (x' := x') (Kd.FK_slice_mk hl hF) (fun _ hk => hk)).1
  rw [Nat.add_zero, show (Kd.slice 3 (Kd.int .i64)).sz = 1 from rfl, Nat.mul_one] at this
  exact this
theorem N_swap1 {w : World} {base g n cap : Nat} {ok : Nat → Prop} {xs : List (List Int)} (h : Kd.N (Kd.slice 3 (Kd.int .i64)) 22 w base ok (.slice (some ⟨g, 0, none⟩) n cap) xs) (i j : Int) (h0 : 0 ≤ i) (h1 : i < n) (j0 : 0 ≤ j) (j1 : j < n) (hij : i ≠ j) :
    ∃ A1 c1 A2 c2, w.cell? ⟨g, i.toNat, none⟩ = some (.slice A1 (rd_L1 xs i).length c1) ∧ w.cell? ⟨g, j.toNat, none⟩ = some (.slice A2 (rd_L1 xs j).length c2) ∧ w.frozen? ⟨g, i.toNat, none⟩ = false ∧
      (w.setCell ⟨g, i.toNat, none⟩ (.slice A2 (rd_L1 xs j).length c2)).cell? ⟨g, j.toNat, none⟩ = some (.slice A2 (rd_L1 xs j).length c2) ∧ (w.setCell ⟨g, i.toNat, none⟩ (.slice A2 (rd_L1 xs j).length c2)).frozen? ⟨g, j.toNat, none⟩ = false ∧
      Kd.N (Kd.slice 3 (Kd.int .i64)) 22 ((w.setCell ⟨g, i.toNat, none⟩ (.slice A2 (rd_L1 xs j).length c2)).setCell ⟨g, j.toNat, none⟩ (.slice A1 (rd_L1 xs i).length c1)) base ok (.slice (some ⟨g, 0, none⟩) n cap) (swapL1 xs i j) := by
  obtain ⟨A1, c1, l1, F1, e1, f1⟩ := N_cell1 h i h0 h1
  obtain ⟨A2, c2, l2, F2, e2, f2⟩ := N_cell1 h j j0 j1
  have hn1 := N_put1 h i h0 h1 l2 F2
  have hne : i.toNat ≠ j.toNat := by omega
  obtain ⟨A3, c3, _, _, e3, f3⟩ := N_cell1 hn1 j j0 j1
  have e2' : (w.setCell ⟨g, i.toNat, none⟩ (.slice A2 (rd_L1 xs j).length c2)).cell? ⟨g, j.toNat, none⟩ = some (.slice A2 (rd_L1 xs j).length c2) := by
    have hne2 : (⟨g, i.toNat, none⟩ : Addr) ≠ ⟨g, j.toNat, none⟩ := fun e => hne (by injection e)
    exact (World.cell?_setCell_other (h := hne2) ..).trans e2
  have hF1 : Kd.F (Kd.int .i64) (w.setCell ⟨g, i.toNat, none⟩ (.slice A2 (rd_L1 xs j).length c2)) (fun k => ok k ∧ k ≠ g) A1 (rd_L1 xs i).length (rd_L1 xs i) := Kd.F_far F1 (fun k hk => hk.2) _
  exact ⟨A1, c1, A2, c2, e1, e2, f1, e2', f3, N_put1 hn1 j j0 j1 l1 hF1⟩
end
section
attribute [local go_sem] max2_int min2_int max_two min_two max_three min_three max_four min_four
def r30_Unit.l0 : Nat → Int → List Int → Int → Option (List Int)
  | 0, _, _, _ => none
  | k + 1, x0, x3, x4 => if x4 < x0 then (if 0 ≤ x4 then (if x4 < (x3.length : Int) then (r30_Unit.l0 k x0 (x3.set (x4 : Int).toNat x4) (wrap64 (x4 + 1))) else (none)) else (none)) else (some x3)
def r30_Unit.f (k : Nat) (a0 : Int) : Option (List Int) := if 0 ≤ a0 then (if (a0 : Int).toNat ≤ 35184372088832 then (r30_Unit.l0 k a0 (List.replicate (a0 : Int).toNat 0) 0) else (none)) else (none)
theorem r30_Unit.calls (k : Nat) (a0 : Int) (r : List Int) (w : World) (h : r30_Unit.f k a0 = some r) :
    Calls Try.prog 26 #[.int .i64 a0] w fun e w' => ∃ v0_ : Value, e = .returned (v0_) ∧ Kd.R (Kd.int .i64) 3 w' w.heap.size (fun _ => True) v0_ r ∧ Below w.heap.size w w' := by
  have HB := aM (Below.refl w.heap.size w)
  have H : (if 0 ≤ a0 then (if (a0 : Int).toNat ≤ 35184372088832 then (r30_Unit.l0 k a0 (List.replicate (a0 : Int).toNat 0) 0) else (none)) else (none)) = some r := h
  clear h
  by_cases c2 : 0 ≤ a0
  · rw [if_pos c2] at H
    have c2b0 := eq_true c2; have c2b1 := decide_eq_true c2; clear c2
    by_cases c3 : (a0 : Int).toNat ≤ 35184372088832
    · rw [if_pos c3] at H; have c3b0 := eq_true c3; have c3b1 := decide_eq_true c3; clear c3; obtain ⟨y301, hy301⟩ : ∃ y_ : List Int, y_ = (List.replicate (a0 : Int).toNat 0) := ⟨_, rfl⟩; replace H : (r30_Unit.l0 k a0 y301 0) = some r := by first | (rw [hy301]; with_reducible exact H) | (have H2_ := (Option.bind_some _ _).symm.trans H; rw [hy301]; with_reducible exact H2_) | (have H2_ := (Option.bind_some _ _).symm.trans H; with_reducible exact H2_) | with_reducible exact H | (rw [hy301]; exact H) | exact H
      have Ny301 := aM hy301; clear hy301; have H' := aM H; clear H
      go_enter Try.func26, Try.ntmps26
      go_wp2_with (first | ((with_reducible refine gate_dst (N := 6) rfl ?_); refine Kd.R_make (Kd.int .i64) _ 3 rfl (N := 6) rfl 22 _ _ rfl a0 rfl rfl Try.underlying22 (.int .i64 0) 8 info3 rfl (by decide) (by omega) 0 (ok := fun _ => True) (okp := fun _ => True) rfl (fun _ hk => hk) trivial (of_decide_eq_true zz111) (Nat.le_trans (Nat.mul_le_mul_right _ (of_decide_eq_true zz111 : a0.toNat ≤ 35184372088832)) (by omega)) (Below.refl _ _) (Nat.le_refl _) ?_; intro v302 w4 ho5 hb hg_ hnew_; clear hg_ hnew_; (first | rw [← Ny301.out] at ho5 | (simp only [Int.reduceToNat] at ho5; rw [← Ny301.out] at ho5)); have HO303 := aM (Kd.R_lower ho5 (below_size zz88)); replace HB := aM (below_step zz88 hb); clear hb ho5))
      go_loopg [4] k (fun kq v4 w' => ∃ (x3_1 : List Int) (x4_1 : Int), v4 = .int .i64 x4_1 ∧ Aside0 (r30_Unit.l0 kq a0 x3_1 x4_1 = some r) ∧ Aside0 (kq ≤ k) ∧ Aside0 (Kd.R (Kd.int .i64) 3 w' w.heap.size (fun _ => True) v302 x3_1) ∧ Aside0 (Below w.heap.size w w'))
      case atStart => exact ⟨(y301), (0), zz112, H', ⟨Nat.le_refl _⟩, ⟨(zR HO303)⟩, ⟨zz88⟩⟩
      case round =>
        clear H'; (try clear c2); (try clear c2b0); (try clear c2b1); (try clear p2); (try clear c3); (try clear c3b0); (try clear c3b1); obtain ⟨x3_1, x4_1, rfl, HA, HK1, HO_3, HB⟩ := hrel
        cases gk with
        | zero => exact absurd HA.out (by simp [r30_Unit.l0])
        | succ k1 =>
          have H := HA.out; clear HA; simp only [r30_Unit.l0] at H
          by_cases c6 : x4_1 < a0
          · rw [if_pos c6] at H; have c6b0 := decide_eq_true c6; clear c6
            by_cases c7 : 0 ≤ x4_1
            · rw [if_pos c7] at H; have c7b0 := decide_eq_true c7; clear c7
              by_cases c8 : x4_1 < (x3_1.length : Int)
              · rw [if_pos c8] at H; have c8b0 := decide_eq_true c8; clear c8; obtain ⟨y304, hy304⟩ : ∃ y_ : List Int, y_ = (x3_1.set (x4_1 : Int).toNat x4_1) := ⟨_, rfl⟩; replace H : (r30_Unit.l0 k1 a0 y304 (wrap64 (x4_1 + 1))) = some r := by first | (rw [hy304]; with_reducible exact H) | (have H2_ := (Option.bind_some _ _).symm.trans H; rw [hy304]; with_reducible exact H2_) | (have H2_ := (Option.bind_some _ _).symm.trans H; with_reducible exact H2_) | with_reducible exact H | (rw [hy304]; exact H) | exact H
                have Ny304 := aM hy304; clear hy304; have H' := aM H; clear H; have p9 : 0 ≤ (x4_1 : Int) := of_decide_eq_true zz111; have q9 : (x4_1 : Int) < ((x3_1.length : Int) : Int) := of_decide_eq_true zz111; obtain ⟨go9, co9, eo9, gb9, gl9, cl9, HG9⟩ := Kd.R_form HO_3.out (by omega)
                (first | cases eo9 | (injection eo9 with ea_ en_ ec_; (first | subst ea_ | (injection ea_ with ea_; subst ea_)); subst ec_; clear en_))
                have GB9 := aM gb9; have GG9 := aM HG9; clear gb9 gl9 HG9; obtain ⟨hx9_0, hf9_0⟩ := Kd.R_celln 0 HO_3.out (x4_1 : Int) p9 q9; replace p9 := eq_true p9; replace q9 := eq_true q9; have HP10 := Kd.R_putg HO_3.out (x4_1 : Int) x4_1
                go_wp2_with (first | ((with_reducible refine gate_store (t := 3) (p := 15) rfl ?_); refine store_event (t := 3) (p := 15) (v := ?vo_w11) (w1 := (wr.setCell ⟨go9, (x4_1 : Int).toNat, none⟩ (.int .i64 x4_1))) ?hg ?ho ?hn ?hr ?_; (case ho => rfl); (case hg => rfl); (case hn => rfl); (case hr => first | (go_simp; done) | (go_simp; rfl)); intro w11 hw; have hg : wr.grownBy w11 (some go9) := (by rw [hw]; exact HP10.2); have hp_ : Kd.R (Kd.int .i64) 3 w11 w.heap.size (fun _ => True) (.slice (some ⟨go9, 0, none⟩) x3_1.length co9) y304 := (by rw [hw, Ny304.out]; exact HP10.1); clear HP10; replace HO_3 := aM (hp_); replace HB := aM ((by rw [hw]; exact below_set (HB.out) GB9.out : Below w.heap.size w w11)); clear hg hw hp_))
                go_roundg k1
                case measure => have := HK1.out; omega
                case rel => exact ⟨(y304), (wrap64 (x4_1 + 1)), zz112, H', ⟨zz120⟩, ⟨(zR HO_3)⟩, ⟨zz88⟩⟩
              rw [if_neg c8] at H
              exact absurd H (by simp)
            rw [if_neg c7] at H
            exact absurd H (by simp)
          rw [if_neg c6] at H; have c6b0 := decide_eq_false c6; clear c6; obtain rfl := Option.some.inj H; go_wp2; go_ret
          exact ⟨_, by first | rfl | (simp [errW_none, errW_some] <;> rfl) | (simp [*, errW_none, errW_some] <;> rfl), by (with_reducible repeat (first | apply Kd.R_alloc | apply Kd.R_drewN | apply Kd.R_drew)); exact HO_3.out, by repeat (first | (with_reducible first | exact HB.out | apply below_alloc | apply pw_below_drewN | apply below_drew1) | exact HB.out)⟩
    rw [if_neg c3] at H
    exact absurd H (by simp)
  rw [if_neg c2] at H
  exact absurd H (by simp)
end
section
attribute [local go_sem] max2_int min2_int max_two min_two max_three min_three max_four min_four
def r30_Then.l0 : Nat → List Int → List Int → List Int → Int → Option (List Int)
  | 0, _, _, _, _ => none
  | k + 1, x0, x1, x5, x6 => if x6 < (x0.length : Int) then (if 0 ≤ x6 then (if 0 ≤ (rd x0 x6) then (if (rd x0 x6) < (x1.length : Int) then (if x6 < (x5.length : Int) then (r30_Then.l0 k x0 x1 (x5.set (x6 : Int).toNat (rd x1 (rd x0 x6))) (wrap64 (x6 + 1))) else (none)) else (none)) else (none)) else (none)) else (some x5)
def r30_Then.f (k : Nat) (l0 : List Int) (l1 : List Int) : Option (List Int) := if 0 ≤ (l0.length : Int) then (if ((l0.length : Int) : Int).toNat ≤ 35184372088832 then (r30_Then.l0 k l0 l1 (List.replicate ((l0.length : Int) : Int).toNat 0) 0) else (none)) else (none)
theorem r30_Then.calls (k : Nat) (A0 : Option Addr) (c0 : Nat) (l0 : List Int) (A1 : Option Addr) (c1 : Nat) (l1 : List Int) (r : List Int) (w : World) (hr0 : Kd.C (Kd.int .i64) w A0 l0.length l0) (hc0 : l0.length ≤ c0) (hr1 : Kd.C (Kd.int .i64) w A1 l1.length l1) (hc1 : l1.length ≤ c1) (h : r30_Then.f k l0 l1 = some r) :
    Calls Try.prog 43 #[.slice A0 l0.length c0, .slice A1 l1.length c1] w fun e w' => ∃ v0_ : Value, e = .returned (v0_) ∧ Kd.R (Kd.int .i64) 3 w' w.heap.size (fun _ => True) v0_ r ∧ Below w.heap.size w w' := by
  have HR0 := aM hr0
  have HC0 := aM hc0
  clear hr0 hc0
  have HR1 := aM hr1
  have HC1 := aM hc1
  clear hr1 hc1
  have HB := aM (Below.refl w.heap.size w)
  have H : (if 0 ≤ (l0.length : Int) then (if ((l0.length : Int) : Int).toNat ≤ 35184372088832 then (r30_Then.l0 k l0 l1 (List.replicate ((l0.length : Int) : Int).toNat 0) 0) else (none)) else (none)) = some r := h
  clear h
  by_cases c3 : 0 ≤ (l0.length : Int)
  · rw [if_pos c3] at H
    have c3b0 := eq_true c3; have c3b1 := decide_eq_true c3; clear c3
    by_cases c4 : ((l0.length : Int) : Int).toNat ≤ 35184372088832
    · rw [if_pos c4] at H; have c4b0 := eq_true c4; have c4b1 := decide_eq_true c4; clear c4; obtain ⟨y305, hy305⟩ : ∃ y_ : List Int, y_ = (List.replicate ((l0.length : Int) : Int).toNat 0) := ⟨_, rfl⟩; replace H : (r30_Then.l0 k l0 l1 y305 0) = some r := by first | (rw [hy305]; with_reducible exact H) | (have H2_ := (Option.bind_some _ _).symm.trans H; rw [hy305]; with_reducible exact H2_) | (have H2_ := (Option.bind_some _ _).symm.trans H; with_reducible exact H2_) | with_reducible exact H | (rw [hy305]; exact H) | exact H
      have Ny305 := aM hy305; clear hy305; have H' := aM H; clear H
      go_enter Try.func43, Try.ntmps43
      go_wp2_with (first | ((with_reducible refine gate_dst (N := 9) rfl ?_); refine Kd.R_make (Kd.int .i64) _ 3 rfl (N := 9) rfl 22 _ _ rfl (l0.length : Int) rfl rfl Try.underlying22 (.int .i64 0) 8 info3 rfl (by decide) (by omega) 0 (ok := fun _ => True) (okp := fun _ => True) rfl (fun _ hk => hk) trivial (of_decide_eq_true zz111) (Nat.le_trans (Nat.mul_le_mul_right _ (of_decide_eq_true zz111 : (l0.length : Int).toNat ≤ 35184372088832)) (by omega)) (Below.refl _ _) (Nat.le_refl _) ?_; intro v306 w5 ho6 hb hg_ hnew_; clear hg_ hnew_; (first | rw [← Ny305.out] at ho6 | (simp only [Int.reduceToNat] at ho6; rw [← Ny305.out] at ho6)); have HO307 := aM (Kd.R_lower ho6 (below_size zz88)); replace HB := aM (below_step zz88 hb); clear hb ho6))
      go_loopg [6] k (fun kq v6 w' => ∃ (x5_1 : List Int) (x6_1 : Int), v6 = .int .i64 x6_1 ∧ Aside0 (r30_Then.l0 kq l0 l1 x5_1 x6_1 = some r) ∧ Aside0 (kq ≤ k) ∧ Aside0 (Kd.R (Kd.int .i64) 3 w' w.heap.size (fun _ => True) v306 x5_1) ∧ Aside0 (Below w.heap.size w w'))
      case atStart => exact ⟨(y305), (0), zz112, H', ⟨Nat.le_refl _⟩, ⟨(zR HO307)⟩, ⟨zz88⟩⟩
      case round =>
        clear H'; (try clear c1); (try clear p2); (try clear c3); (try clear c3b0); (try clear c3b1); (try clear c4); (try clear c4b0); (try clear c4b1); obtain ⟨x5_1, x6_1, rfl, HA, HK1, HO_5, HB⟩ := hrel
        cases gk with
        | zero => exact absurd HA.out (by simp [r30_Then.l0])
        | succ k1 =>
          have H := HA.out; clear HA; simp only [r30_Then.l0] at H
          by_cases c7 : x6_1 < (l0.length : Int)
          · rw [if_pos c7] at H; have c7b0 := decide_eq_true c7; clear c7
            by_cases c8 : 0 ≤ x6_1
            · rw [if_pos c8] at H; have c8b0 := decide_eq_true c8; clear c8
              by_cases c9 : 0 ≤ (rd l0 x6_1)
              · rw [if_pos c9] at H; have c9b0 := decide_eq_true c9; clear c9
                by_cases c10 : (rd l0 x6_1) < (l1.length : Int)
                · rw [if_pos c10] at H; have c10b0 := decide_eq_true c10; clear c10
                  by_cases c11 : x6_1 < (x5_1.length : Int)
                  · rw [if_pos c11] at H; have c11b0 := decide_eq_true c11; clear c11; obtain ⟨y310, hy310⟩ : ∃ y_ : List Int, y_ = (x5_1.set (x6_1 : Int).toNat (rd l1 (rd l0 x6_1))) := ⟨_, rfl⟩; replace H : (r30_Then.l0 k1 l0 l1 y310 (wrap64 (x6_1 + 1))) = some r := by first | (rw [hy310]; with_reducible exact H) | (have H2_ := (Option.bind_some _ _).symm.trans H; rw [hy310]; with_reducible exact H2_) | (have H2_ := (Option.bind_some _ _).symm.trans H; with_reducible exact H2_) | with_reducible exact H | (rw [hy310]; exact H) | exact H
                    have Ny310 := aM hy310; clear hy310; have H' := aM H; clear H; have p308 : 0 ≤ (x6_1 : Int) := of_decide_eq_true zz111; have q308 : x6_1 < (l0.length : Int) := of_decide_eq_true zz111; obtain ⟨ad308, e308, hx308_0⟩ := Kd.at_int HR0.out x6_1 p308 q308
                    cases e308; replace hx308_0 := (HB.out.cell (World.block_lt_of_cell? w _ hx308_0)).trans hx308_0; replace p308 := eq_true p308; replace q308 := eq_true q308; have p309 : 0 ≤ ((rd l0 x6_1) : Int) := of_decide_eq_true zz111; have q309 : (rd l0 x6_1) < (l1.length : Int) := of_decide_eq_true zz111; obtain ⟨ad309, e309, hx309_0⟩ := Kd.at_int HR1.out (rd l0 x6_1) p309 q309
                    cases e309; replace hx309_0 := (HB.out.cell (World.block_lt_of_cell? w _ hx309_0)).trans hx309_0; replace p309 := eq_true p309; replace q309 := eq_true q309; have p12 : 0 ≤ (x6_1 : Int) := of_decide_eq_true zz111; have q12 : (x6_1 : Int) < ((x5_1.length : Int) : Int) := of_decide_eq_true zz111; obtain ⟨go12, co12, eo12, gb12, gl12, cl12, HG12⟩ := Kd.R_form HO_5.out (by omega)
                    (first | cases eo12 | (injection eo12 with ea_ en_ ec_; (first | subst ea_ | (injection ea_ with ea_; subst ea_)); subst ec_; clear en_))
                    have GB12 := aM gb12; have GG12 := aM HG12; clear gb12 gl12 HG12; obtain ⟨hx12_0, hf12_0⟩ := Kd.R_celln 0 HO_5.out (x6_1 : Int) p12 q12; replace p12 := eq_true p12; replace q12 := eq_true q12; have HP13 := Kd.R_putg HO_5.out (x6_1 : Int) (rd l1 (rd l0 x6_1))
                    go_wp2_with (first | ((with_reducible refine gate_store (t := 3) (p := 25) rfl ?_); refine store_event (t := 3) (p := 25) (v := ?vo_w14) (w1 := (wr.setCell ⟨go12, (x6_1 : Int).toNat, none⟩ (.int .i64 (rd l1 (rd l0 x6_1))))) ?hg ?ho ?hn ?hr ?_; (case ho => rfl); (case hg => rfl); (case hn => rfl); (case hr => first | (go_simp; done) | (go_simp; rfl)); intro w14 hw; have hg : wr.grownBy w14 (some go12) := (by rw [hw]; exact HP13.2); have hp_ : Kd.R (Kd.int .i64) 3 w14 w.heap.size (fun _ => True) (.slice (some ⟨go12, 0, none⟩) x5_1.length co12) y310 := (by rw [hw, Ny310.out]; exact HP13.1); clear HP13; replace HO_5 := aM (hp_); replace HB := aM ((by rw [hw]; exact below_set (HB.out) GB12.out : Below w.heap.size w w14)); clear hg hw hp_))
                    go_roundg k1
                    case measure => have := HK1.out; omega
                    case rel => exact ⟨(y310), (wrap64 (x6_1 + 1)), zz112, H', ⟨zz120⟩, ⟨(zR HO_5)⟩, ⟨zz88⟩⟩
                  rw [if_neg c11] at H
                  exact absurd H (by simp)
                rw [if_neg c10] at H
                exact absurd H (by simp)
              rw [if_neg c9] at H
              exact absurd H (by simp)
            rw [if_neg c8] at H
            exact absurd H (by simp)
          rw [if_neg c7] at H; have c7b0 := decide_eq_false c7; clear c7; obtain rfl := Option.some.inj H; go_wp2; go_ret
          exact ⟨_, by first | rfl | (simp [errW_none, errW_some] <;> rfl) | (simp [*, errW_none, errW_some] <;> rfl), by (with_reducible repeat (first | apply Kd.R_alloc | apply Kd.R_drewN | apply Kd.R_drew)); exact HO_5.out, by repeat (first | (with_reducible first | exact HB.out | apply below_alloc | apply pw_below_drewN | apply below_drew1) | exact HB.out)⟩
    rw [if_neg c4] at H
    exact absurd H (by simp)
  rw [if_neg c3] at H
  exact absurd H (by simp)
end
section
attribute [local go_sem] max2_int min2_int max_two min_two max_three min_three max_four min_four
def r30_code.l0 : Nat → List Int → Int → Int → Option (Int)
  | 0, _, _, _ => none
  | k + 1, x0, x3, x4 => if x4 < (x0.length : Int) then (if 0 ≤ x4 then (r30_code.l0 k x0 (wrap64 ((wrap64 (6 * x3)) + (rd x0 x4))) (wrap64 (x4 + 1))) else (none)) else (some x3)
def r30_code.f (k : Nat) (l0 : List Int) : Option (Int) := r30_code.l0 k l0 0 0
theorem r30_code.calls (k : Nat) (A0 : Option Addr) (c0 : Nat) (l0 : List Int) (r : Int) (w : World) (hr0 : Kd.C (Kd.int .i64) w A0 l0.length l0) (hc0 : l0.length ≤ c0) (h : r30_code.f k l0 = some r) :
    Calls Try.prog 88 #[.slice A0 l0.length c0] w fun e w' => e = .returned (.int .i64 r) ∧ Drawn0 w w' := by
  have HR0 := aM hr0
  have HC0 := aM hc0
  clear hr0 hc0
  have H : (r30_code.l0 k l0 0 0) = some r := h
  clear h
  have H' := aM H
  clear H
  go_enter Try.func88, Try.ntmps88
  go_wp2
  go_loopg [3, 4] k (fun kq v3 v4 w' => ∃ (x3_1 : Int) (x4_1 : Int), v3 = .int .i64 x3_1 ∧ v4 = .int .i64 x4_1 ∧ Aside0 (r30_code.l0 kq l0 x3_1 x4_1 = some r) ∧ Aside0 (kq ≤ k) ∧ Drawn0 w w')
  case atStart => exact ⟨(0), (0), zz112, zz112, H', ⟨Nat.le_refl _⟩, by repeat (first | exact Drawn0.refl _ | apply Drawn0.step)⟩
  case round =>
    clear H'; obtain ⟨x3_1, x4_1, rfl, rfl, HA, HK1, ⟨m1, rfl⟩⟩ := hrel
    cases gk with
    | zero => exact absurd HA.out (by simp [r30_code.l0])
    | succ k1 =>
      have H := HA.out; clear HA; simp only [r30_code.l0] at H
      by_cases c2 : x4_1 < (l0.length : Int)
      · rw [if_pos c2] at H; have c2b0 := decide_eq_true c2; clear c2
        by_cases c3 : 0 ≤ x4_1
        · rw [if_pos c3] at H; have c3b0 := decide_eq_true c3; clear c3; have H' := aM H; clear H; have p533 : 0 ≤ (x4_1 : Int) := of_decide_eq_true zz111; have q533 : x4_1 < (l0.length : Int) := of_decide_eq_true zz111; obtain ⟨ad533, e533, hx533_0⟩ := Kd.at_int HR0.out x4_1 p533 q533
          cases e533; replace p533 := eq_true p533; replace q533 := eq_true q533; go_wp2
          go_roundg k1
          case measure => have := HK1.out; omega
          case rel => exact ⟨(wrap64 ((wrap64 (6 * x3_1)) + (rd l0 x4_1))), (wrap64 (x4_1 + 1)), zz112, zz112, H', ⟨zz120⟩, by repeat (first | exact Drawn0.refl _ | apply Drawn0.step)⟩
        rw [if_neg c3] at H
        exact absurd H (by simp)
      rw [if_neg c2] at H; have c2b0 := decide_eq_false c2; clear c2; obtain rfl := Option.some.inj H; go_wp2; go_ret
      exact ⟨by first | rfl | (simp; done) | (simp [*]; done), by repeat (first | exact Drawn0.refl _ | apply Drawn0.step)⟩
end
section
attribute [local go_sem] max2_int min2_int max_two min_two max_three min_three max_four min_four
def r30_Less.l0 : Nat → List Int → List Int → Int → Option (Bool)
  | 0, _, _, _ => none
  | k + 1, x0, x1, x5 => if x5 < (x0.length : Int) then (if 0 ≤ x5 then (if x5 < (x1.length : Int) then (if (rd x0 x5) = (rd x1 x5) then (r30_Less.l0 k x0 x1 (wrap64 (x5 + 1))) else (some (decide ((rd x0 x5) < (rd x1 x5))))) else (none)) else (none)) else (some false)
def r30_Less.f (k : Nat) (l0 : List Int) (l1 : List Int) : Option (Bool) := r30_Less.l0 k l0 l1 0
theorem r30_Less.calls (k : Nat) (A0 : Option Addr) (c0 : Nat) (l0 : List Int) (A1 : Option Addr) (c1 : Nat) (l1 : List Int) (r : Bool) (w : World) (hr0 : Kd.C (Kd.int .i64) w A0 l0.length l0) (hc0 : l0.length ≤ c0) (hr1 : Kd.C (Kd.int .i64) w A1 l1.length l1) (hc1 : l1.length ≤ c1) (h : r30_Less.f k l0 l1 = some r) :
    Calls Try.prog 89 #[.slice A0 l0.length c0, .slice A1 l1.length c1] w fun e w' => e = .returned (.bool r) ∧ Drawn0 w w' := by
  have HR0 := aM hr0
  have HC0 := aM hc0
  clear hr0 hc0
  have HR1 := aM hr1
  have HC1 := aM hc1
  clear hr1 hc1
  have H : (r30_Less.l0 k l0 l1 0) = some r := h
  clear h
  have H' := aM H
  clear H
  go_enter Try.func89, Try.ntmps89
  go_wp2
  repeat (go_quiet (fail); try go_wp2)
  go_loopg [5] k (fun kq v5 w' => ∃ (x5_1 : Int), v5 = .int .i64 x5_1 ∧ Aside0 (r30_Less.l0 kq l0 l1 x5_1 = some r) ∧ Aside0 (kq ≤ k) ∧ Drawn0 w w')
  case atStart => exact ⟨(0), zz112, H', ⟨Nat.le_refl _⟩, by repeat (first | exact Drawn0.refl _ | apply Drawn0.step)⟩
  case round =>
    clear H'; (try clear c1); (try clear p2); obtain ⟨x5_1, rfl, HA, HK1, ⟨m1, rfl⟩⟩ := hrel
    cases gk with
    | zero => exact absurd HA.out (by simp [r30_Less.l0])
    | succ k1 =>
      have H := HA.out; clear HA; simp only [r30_Less.l0] at H
      by_cases c3 : x5_1 < (l0.length : Int)
      · rw [if_pos c3] at H; have c3b0 := decide_eq_true c3; clear c3
        by_cases c4 : 0 ≤ x5_1
        · rw [if_pos c4] at H; have c4b0 := decide_eq_true c4; clear c4
          by_cases c5 : x5_1 < (l1.length : Int)
          · rw [if_pos c5] at H; have c5b0 := decide_eq_true c5; clear c5
            by_cases c6 : (rd l0 x5_1) = (rd l1 x5_1)
            · rw [if_pos c6] at H; have c6b0 := beq_iff_eq.mpr c6; have c6b1 := bne_eq_false_iff_eq.mpr c6; clear c6; have H' := aM H; clear H; have p534 : 0 ≤ (x5_1 : Int) := of_decide_eq_true zz111; have q534 : x5_1 < (l0.length : Int) := of_decide_eq_true zz111; obtain ⟨ad534, e534, hx534_0⟩ := Kd.at_int HR0.out x5_1 p534 q534
              cases e534; replace p534 := eq_true p534; replace q534 := eq_true q534; have p535 : 0 ≤ (x5_1 : Int) := of_decide_eq_true zz111; have q535 : x5_1 < (l1.length : Int) := of_decide_eq_true zz111; obtain ⟨ad535, e535, hx535_0⟩ := Kd.at_int HR1.out x5_1 p535 q535
              cases e535; replace p535 := eq_true p535; replace q535 := eq_true q535; go_wp2
              repeat (go_quiet (fail); try go_wp2)
              go_roundg k1
              case measure => have := HK1.out; omega
              case rel => exact ⟨(wrap64 (x5_1 + 1)), zz112, H', ⟨zz120⟩, by repeat (first | exact Drawn0.refl _ | apply Drawn0.step)⟩
            rw [if_neg c6] at H; have c6b0 := beq_eq_false_iff_ne.mpr c6; have c6b1 := bne_iff_ne.mpr c6; obtain rfl := Option.some.inj H; have p534 : 0 ≤ (x5_1 : Int) := of_decide_eq_true zz111; have q534 : x5_1 < (l0.length : Int) := of_decide_eq_true zz111; obtain ⟨ad534, e534, hx534_0⟩ := Kd.at_int HR0.out x5_1 p534 q534
            cases e534; replace p534 := eq_true p534; replace q534 := eq_true q534; have p535 : 0 ≤ (x5_1 : Int) := of_decide_eq_true zz111; have q535 : x5_1 < (l1.length : Int) := of_decide_eq_true zz111; obtain ⟨ad535, e535, hx535_0⟩ := Kd.at_int HR1.out x5_1 p535 q535
            cases e535; replace p535 := eq_true p535; replace q535 := eq_true q535; have p536 : 0 ≤ (x5_1 : Int) := of_decide_eq_true zz111; have q536 : x5_1 < (l0.length : Int) := of_decide_eq_true zz111; obtain ⟨ad536, e536, hx536_0⟩ := Kd.at_int HR0.out x5_1 p536 q536; obtain rfl : ad534 = ad536 := (by injection e536); replace p536 := eq_true p536; replace q536 := eq_true q536; have p537 : 0 ≤ (x5_1 : Int) := of_decide_eq_true zz111; have q537 : x5_1 < (l1.length : Int) := of_decide_eq_true zz111; obtain ⟨ad537, e537, hx537_0⟩ := Kd.at_int HR1.out x5_1 p537 q537; obtain rfl : ad535 = ad537 := (by injection e537); replace p537 := eq_true p537; replace q537 := eq_true q537; go_wp2
            repeat (go_quiet (fail); try go_wp2)
            go_ret
            exact ⟨by first | rfl | (simp; done) | (simp [*]; done), by repeat (first | exact Drawn0.refl _ | apply Drawn0.step)⟩
          rw [if_neg c5] at H
          exact absurd H (by simp)
        rw [if_neg c4] at H
        exact absurd H (by simp)
      rw [if_neg c3] at H; have c3b0 := decide_eq_false c3; clear c3; obtain rfl := Option.some.inj H; go_wp2
      repeat (go_quiet (fail); try go_wp2)
      go_ret
      exact ⟨by first | rfl | (simp; done) | (simp [*]; done), by repeat (first | exact Drawn0.refl _ | apply Drawn0.step)⟩
end
end Go.Proofs.Ytjjlhbgpdncpcaa.P
