/- What the claim's theorem is built on, part 1: words, walks of the code, and what they tell. -/
import Derived.Test.YtjjlhbgpdncpcaaProg
import Derived.Below
import Derived.Deep.Draws
import Derived.Deep.AppendLies
import Derived.Maps.AppendAt
import Derived.OwnWalk
import Derived.Laws.BytesArg
import Derived.Laws.MakeOwn
import Derived.Laws.OwnMore
import Derived.Deep.OwnRows
import Derived.Tactics
import Derived.Lib.ConvBytes
import Derived.Laws.Slices
import Derived.WalkKit
import Derived.KernelRfl
import Derived.RowKit3
import Derived.Deep.LoopGhost
import Derived.Deep.QuietTactic
import Derived.BigQuiet
import Derived.WideLaws
import Derived.Deep.DeepCutAuto
import Derived.Deep.CutBlock
import Derived.Deep.RegionHeld3
import Derived.Laws.Rows
import Derived.Lib.AppendStr
import Derived.ArgAppend
import Derived.Laws.IdiomCopy
import Derived.OrdersHeld
import Derived.Laws.BitsLemmas
import Derived.RowKit
import Derived.Shelf.Sort.Plain
import Derived.Sort.OwnSortedInts
import Derived.Shelf.Small.Bits
import Derived.Test.YtjjlhbgpdncpcaaMo0
namespace Go.Proofs.Ytjjlhbgpdncpcaa.P
open Go.RowKit Go.Proofs.YtjjlhbgpdncpcaaW.PrintWords Go.Proofs.YtjjlhbgpdncpcaaW.PrintLast Go.Proofs.YtjjlhbgpdncpcaaW.PrintMore
set_option linter.unusedVariables false
set_option linter.unusedSimpArgs false
set_option maxHeartbeats 8000000
set_option maxRecDepth 100000
section
attribute [local go_sem] max2_int min2_int max_two min_two max_three min_three max_four min_four
def errW : Option Int → Value
  | none => .nilIface
  | some c => .iface 0 (.int .i64 c)
theorem errW_none : errW none = .nilIface := rfl
theorem errW_some (c : Int) : errW (some c) = .iface 0 (.int .i64 c) := rfl
theorem info3 : (Try.prog.info? 3).map (fun i => (i.zero, i.size, i.bytes)) = some (some (.int .i64 0), 1, 8) := by kernel_rfl
theorem info4 : (Try.prog.info? 4).map (fun i => (i.zero, i.size, i.bytes)) = some (some (.bool false), 1, 1) := by kernel_rfl
theorem info22 : (Try.prog.info? 22).map (fun i => (i.zero, i.size, i.bytes)) = some (some (.slice none 0 0), 1, 24) := by kernel_rfl
theorem info72 : (Try.prog.info? 72).map (fun i => (i.zero, i.size, i.bytes)) = some (some (.int .u32 0), 1, 4) := by kernel_rfl
theorem info74 : (Try.prog.info? 74).map (fun i => (i.zero, i.size, i.bytes)) = some (some (.agg #[(.int .i64 0), (.slice none 0 0), (.slice none 0 0)]), 3, 56) := by kernel_rfl
def rd_L1 (xs : List (List Int)) (i : Int) : (List Int) := xs.getD i.toNat ([] : List Int)
theorem at_L1 {w : World} {A : Option Addr} {n : Nat} {xs : List (List Int)} (h : Kd.C (Kd.slice 3 (Kd.int .i64)) w A n xs) (i : Int) (h0 : 0 ≤ i) (h1 : i < n) : ∃ ad A0 c0, A = some ad ∧ w.cell? (ad.add i.toNat) = some (.slice A0 (rd_L1 xs i).length c0) ∧ (rd_L1 xs i).length ≤ c0 ∧ (Kd.int .i64).C w A0 (rd_L1 xs i).length (rd_L1 xs i) := by
  obtain ⟨ad, c, e, _, hK, hc0⟩ := Kd.C_get h ([] : List Int) i h0 h1
  have hc : ∀ j u, c[j]? = some u → w.cell? (ad.add (i.toNat * 1 + j)) = some u := hc0
  obtain ⟨A0, c0, rfl, l0, g0⟩ := hK
  exact ⟨ad, A0, c0, e, by have hq := hc 0 _ rfl; rwa [Nat.mul_one, Nat.add_zero] at hq, l0, g0⟩
structure S74 where
  f0 : Int
  f1 : (List Int)
  f2 : (List (List Int))
def z74 : S74 := ⟨(0 : Int), ([] : List Int), ([] : List (List Int))⟩
def k74 : Kd S74 := Kd.iso (Kd.pair (Kd.int .i64) (Kd.pair (Kd.slice 3 (Kd.int .i64)) (Kd.slice 22 (Kd.slice 3 (Kd.int .i64))))) (fun x : S74 => (x.f0, x.f1, x.f2))
theorem k74_heap : Kd.Heap k74 := Kd.heap_iso _ (Kd.heap_pair (Kd.heap_int .i64) (Kd.heap_pair (Kd.heap_slice 3 (Kd.heap_int .i64)) (Kd.heap_slice 22 (Kd.heap_slice 3 (Kd.heap_int .i64)))))
theorem k74_open {w : World} {x : S74} {cs : List Value} (h : k74.K w x cs) : ∃ A1 c1 A2 c2, cs = [.int .i64 x.f0, .slice A1 x.f1.length c1, .slice A2 x.f2.length c2] ∧ x.f1.length ≤ c1 ∧ (Kd.int .i64).C w A1 x.f1.length x.f1 ∧ x.f2.length ≤ c2 ∧ (Kd.slice 3 (Kd.int .i64)).C w A2 x.f2.length x.f2 := by
  obtain ⟨_, _, rfl, rfl, ⟨_, _, rfl, ⟨A1, c1, rfl, l1, g1⟩, ⟨A2, c2, rfl, l2, g2⟩⟩⟩ := h
  exact ⟨A1, c1, A2, c2, rfl, l1, g1, l2, g2⟩
theorem k74_mk (w : World) (x : S74) {A1 : Option Addr} {c1 : Nat} (l1 : x.f1.length ≤ c1) (g1 : (Kd.int .i64).C w A1 x.f1.length x.f1) {A2 : Option Addr} {c2 : Nat} (l2 : x.f2.length ≤ c2) (g2 : (Kd.slice 3 (Kd.int .i64)).C w A2 x.f2.length x.f2) : k74.K w x [.int .i64 x.f0, .slice A1 x.f1.length c1, .slice A2 x.f2.length c2] := ⟨[.int .i64 x.f0], [.slice A1 x.f1.length c1, .slice A2 x.f2.length c2], rfl, rfl, ⟨[.slice A1 x.f1.length c1], [.slice A2 x.f2.length c2], rfl, ⟨A1, c1, rfl, l1, g1⟩, ⟨A2, c2, rfl, l2, g2⟩⟩⟩
theorem k74_openF {W : World} {ok : Nat → Prop} {x : S74} {cs : List Value} (h : Kd.FK k74 W ok x cs) : ∃ A1 c1 A2 c2, cs = [.int .i64 x.f0, .slice A1 x.f1.length c1, .slice A2 x.f2.length c2] ∧ x.f1.length ≤ c1 ∧ Kd.F (Kd.int .i64) W ok A1 x.f1.length x.f1 ∧ x.f2.length ≤ c2 ∧ Kd.F (Kd.slice 3 (Kd.int .i64)) W ok A2 x.f2.length x.f2 := by
  obtain ⟨A1, c1, A2, c2, rfl, l1, _, l2, _⟩ := k74_open (Kd.FK_now h)
  exact ⟨A1, c1, A2, c2, rfl, l1, (fun W' hW => by obtain ⟨A1_, c1_, A2_, c2_, he, l1_, g1_, l2_, g2_⟩ := k74_open (h W' hW); injection (Option.some.inj (show some (Value.slice A1 x.f1.length c1) = some (Value.slice A1_ x.f1.length c1_) from congrArg (fun l => l[1]?) he)) with ha_ _ _; rw [ha_]; exact g1_), l2, (fun W' hW => by obtain ⟨A1_, c1_, A2_, c2_, he, l1_, g1_, l2_, g2_⟩ := k74_open (h W' hW); injection (Option.some.inj (show some (Value.slice A2 x.f2.length c2) = some (Value.slice A2_ x.f2.length c2_) from congrArg (fun l => l[2]?) he)) with ha_ _ _; rw [ha_]; exact g2_)⟩
theorem k74_mkF (W : World) (ok : Nat → Prop) (x : S74) {A1 : Option Addr} {c1 : Nat} (l1 : x.f1.length ≤ c1) (g1 : Kd.F (Kd.int .i64) W ok A1 x.f1.length x.f1) {A2 : Option Addr} {c2 : Nat} (l2 : x.f2.length ≤ c2) (g2 : Kd.F (Kd.slice 3 (Kd.int .i64)) W ok A2 x.f2.length x.f2) : Kd.FK k74 W ok x [.int .i64 x.f0, .slice A1 x.f1.length c1, .slice A2 x.f2.length c2] := fun W2 hW => k74_mk W2 x l1 (g1 W2 hW) l2 (g2 W2 hW)
def rd_T74 (xs : List S74) (i : Int) : S74 := xs.getD i.toNat z74
theorem at_T74 {w : World} {A : Option Addr} {n : Nat} {xs : List S74} (h : Kd.C k74 w A n xs) (i : Int) (h0 : 0 ≤ i) (h1 : i < n) : ∃ ad A1 c1 A2 c2, A = some ad ∧ w.cell? (ad.add (i.toNat * 3)) = some (.int .i64 (rd_T74 xs i).f0) ∧ w.cell? ⟨(ad.add (i.toNat * 3)).block, (ad.add (i.toNat * 3)).off + 1, none⟩ = some (.slice A1 (rd_T74 xs i).f1.length c1) ∧ w.cell? ⟨(ad.add (i.toNat * 3)).block, (ad.add (i.toNat * 3)).off + 2, none⟩ = some (.slice A2 (rd_T74 xs i).f2.length c2) ∧ (rd_T74 xs i).f1.length ≤ c1 ∧ (Kd.int .i64).C w A1 (rd_T74 xs i).f1.length (rd_T74 xs i).f1 ∧ (rd_T74 xs i).f2.length ≤ c2 ∧ (Kd.slice 3 (Kd.int .i64)).C w A2 (rd_T74 xs i).f2.length (rd_T74 xs i).f2 := by
  obtain ⟨ad, c, e, _, hK, hc0⟩ := Kd.C_get h z74 i h0 h1
  have hc : ∀ j u, c[j]? = some u → w.cell? (ad.add (i.toNat * 3 + j)) = some u := hc0
  obtain ⟨A1, c1, A2, c2, rfl, l1, g1, l2, g2⟩ := k74_open hK
  exact ⟨ad, A1, c1, A2, c2, e, hc 0 _ rfl, by rw [← add_field _ _ 1 (by omega)]; exact hc 1 _ rfl, by rw [← add_field _ _ 2 (by omega)]; exact hc 2 _ rfl, l1, g1, l2, g2⟩
structure S46 where
  f0 : Int
  f1 : (List S74)
def z46 : S46 := ⟨(0 : Int), ([] : List S74)⟩
def rd_L8 (xs : List (List Int)) (i : Int) : (List Int) := xs.getD i.toNat ([] : List Int)
theorem at_L8 {w : World} {A : Option Addr} {n : Nat} {xs : List (List Int)} (h : Kd.C (Kd.slice 72 (Kd.int .u32)) w A n xs) (i : Int) (h0 : 0 ≤ i) (h1 : i < n) : ∃ ad A0 c0, A = some ad ∧ w.cell? (ad.add i.toNat) = some (.slice A0 (rd_L8 xs i).length c0) ∧ (rd_L8 xs i).length ≤ c0 ∧ (Kd.int .u32).C w A0 (rd_L8 xs i).length (rd_L8 xs i) := by
  obtain ⟨ad, c, e, _, hK, hc0⟩ := Kd.C_get h ([] : List Int) i h0 h1
  have hc : ∀ j u, c[j]? = some u → w.cell? (ad.add (i.toNat * 1 + j)) = some u := hc0
  obtain ⟨A0, c0, rfl, l0, g0⟩ := hK
  exact ⟨ad, A0, c0, e, by have hq := hc 0 _ rfl; rwa [Nat.mul_one, Nat.add_zero] at hq, l0, g0⟩
theorem aM {p : Prop} (h : p) : Aside0 p := ⟨h⟩
theorem zR {p q : Prop} (a : Aside0 q) (h : q → p := by intro a_; (with_reducible repeat (first | apply Kd.R_alloc | apply Kd.R_drewN | apply Kd.R_drew)); exact a_) : p := h a.out
theorem zV {p q : Prop} (a : Aside0 q) (h : q → p := by intro a_; (with_reducible repeat (first | apply Kd.V_alloc | apply Kd.V_drewN | apply Kd.V_drew)); exact a_) : p := h a.out
theorem zN {p q : Prop} (a : Aside0 q) (h : q → p := by intro a_; (with_reducible repeat (first | apply Kd.N_alloc | apply Kd.N_drewN | apply Kd.N_drew)); exact a_) : p := h a.out
theorem zS {p q : Prop} (a : Aside0 q) (h : q → p := by intro a_; (with_reducible repeat (first | apply Kd.S_alloc | apply Kd.S_drewN | apply Kd.S_drew)); exact a_) : p := h a.out
theorem zB {p q : Prop} (a : Aside0 q) (h : q → p := by intro a_; (with_reducible repeat (first | refine blk_drewN ?_ _ | refine blk_drew ?_ | refine blk_alloc ?_ _)); exact a_) : p := h a.out
theorem zz84 {p : Prop} (h : p := by simp [Value.ownBlock]) : p := h
theorem zz83 {p : Prop} (h : p := by have := HK1.out; omega) : p := h
theorem zz82 {p : Prop} (h : p := by simp [Kd.int, Kd.scalar]) : p := h
theorem zz81 {p : Prop} (h : p := by cases k <;> simp [l30_awakeW.j0]) : p := h
theorem zz80 {p : Prop} (h : p := by cases kj6 <;> simp [l30_awakeW.j1]) : p := h
theorem zz79 {p : Prop} (h : p := by first | omega | exact Nat.le_refl _) : p := h
theorem zz78 {p : Prop} (h : p := by have := HK1.out; have := HK2.out; omega) : p := h
theorem zz77 {p : Prop} (h : p := by first | rfl | (simp; done) | (simp [*]; done)) : p := h
theorem zz76 {p : Prop} (h : p := by first | (with_reducible assumption) | assumption) : p := h
theorem zz75 {p : Prop} (h : p := by have := HK1.out; have := HK2.out; have := HK3.out; omega) : p := h
theorem zz74 {p : Prop} (h : p := by first | rfl | assumption | exact beq_iff_eq.mp (by assumption)) : p := h
theorem zz73 {p : Prop} (h : p := by have := HJ2.out; have := HK2.out; first | omega | exact Nat.le_refl _) : p := h
theorem zz72 {p : Prop} (h : p := by have := HJ1.out; have := HK2.out; have := HK3.out; have := HK4.out; omega) : p := h
theorem zz65 {p : Prop} (h : p := by have := World.block_lt_of_cell? _ _ hx279_0; first | rwa [add_block] at this | exact this) : p := h
theorem zz63 {p : Prop} (h : p := by first | rfl | assumption | exact beq_iff_eq.mp (by assumption) | (have h_ := HR_.out; simp_all)) : p := h
theorem zz64 {p : Prop} (h : p := by simp only [putAll, Act.put, List.setIfInBounds_toArray, List.set_cons_zero, List.set_cons_succ]) : p := h
theorem zz61 {p : Prop} (h : p := by have h1_ := HGR.out; have h2_ := lt_of_some HT.out.ht; have h3_ := HB3.out.size; show bt ≠ gout; omega) : p := h
theorem zz62 {p : Prop} (h : p := by first | exact Kd.N_base ho0 | exact Kd.N_base (Kd.S_N ho0) | exact Kd.N_base (Kd.S_N (Kd.S_bound ho0))) : p := h
theorem zz55 {p : Prop} (h : p := by first | (rw [add_block]; exact hn277_0) | (show (Addr.add _ _).block ≠ _; rw [add_block]; exact hn277_0) | exact hn277_0) : p := h
theorem zz56 {p : Prop} (h : p := by first | (rw [add_block]; exact hn277_1) | (show (Addr.add _ _).block ≠ _; rw [add_block]; exact hn277_1) | exact hn277_1) : p := h
theorem zz57 {p : Prop} (h : p := by first | (rw [add_block]; exact hn277_2) | (show (Addr.add _ _).block ≠ _; rw [add_block]; exact hn277_2) | exact hn277_2) : p := h
theorem zz58 {p : Prop} (h : p := by first | (rw [add_block]; exact hn279_0) | (show (Addr.add _ _).block ≠ _; rw [add_block]; exact hn279_0) | exact hn279_0) : p := h
theorem zz59 {p : Prop} (h : p := by first | (rw [add_block]; exact hn279_1) | (show (Addr.add _ _).block ≠ _; rw [add_block]; exact hn279_1) | exact hn279_1) : p := h
theorem zz60 {p : Prop} (h : p := by first | (rw [add_block]; exact hn279_2) | (show (Addr.add _ _).block ≠ _; rw [add_block]; exact hn279_2) | exact hn279_2) : p := h
theorem zz54 {p : Prop} (h : p := by (try simp only [hl7_2]); (with_reducible repeat (first | apply Kd.R_alloc | apply Kd.R_drewN | apply Kd.R_drew)); exact HO_7.out) : p := h
theorem zz53 {p : Prop} (h : p := by repeat (first | (with_reducible first | exact HB.out | apply below_alloc | apply pw_below_drewN | apply below_drew1) | exact HB.out)) : p := h
theorem zz52 {p : Prop} (h : p := by (with_reducible repeat (first | apply Kd.R_alloc | apply Kd.R_drewN | apply Kd.R_drew)); exact Kd.R_mono HO_7.out (fun _ hk => trivial)) : p := h
theorem zz51 {p : Prop} (h : p := by (try simp only [List.map_toArray, List.map_cons, List.map_nil]); first | done | rfl | (simp only [List.length_drop, List.length_take]; rfl)) : p := h
theorem zz49 {p : Prop} (h : p := by first | exact Kd.S_nil _ _ _ _ _ | exact Kd.N_nil _ _ _ _ _ | exact Kd.V_nil _ _ _ _ _ | exact Kd.Q_nil _ _ _ _ _ | exact Kd.R_nil _ _ _ _ _) : p := h
theorem zz50 {p : Prop} (h : p := by first | exact Kd.R_nil _ _ _ _ _ | exact Kd.N_nil _ _ _ _ _ | exact Kd.V_nil _ _ _ _ _ | exact Kd.Q_nil _ _ _ _ _ | exact Kd.S_nil _ _ _ _ _) : p := h
theorem zz47 {p : Prop} (h : p := by (try simp only [hl7_2]); (try simp only [hl7_3]); (with_reducible repeat (first | apply Kd.R_alloc | apply Kd.R_drewN | apply Kd.R_drew)); exact HO_7.out) : p := h
theorem zz48 {p : Prop} (h : p := by (try simp only [hl7_2]); (try simp only [hl7_3]); (with_reducible repeat (first | apply Kd.S_alloc | apply Kd.S_drewN | apply Kd.S_drew)); exact HO_8.out) : p := h
theorem zz46 {p : Prop} (h : p := by (try simp only [hl7_2]); (try simp only [hl7_3]); (with_reducible repeat (first | apply Kd.R_alloc | apply Kd.R_drewN | apply Kd.R_drew)); exact HO_10.out) : p := h
theorem zz39 {p : Prop} (h : p := by repeat (first | (with_reducible first | exact HB.out | apply below_alloc | apply pw_below_drewN | apply below_drew1 | refine below_set ?_ GE480.out) | exact HB.out)) : p := h
theorem zz40 {p : Prop} (h : p := by repeat (first | (with_reducible first | exact HB.out | apply below_alloc | apply pw_below_drewN | apply below_drew1 | refine below_set ?_ GE222.out) | exact HB.out)) : p := h
theorem zz41 {p : Prop} (h : p := by repeat (first | (with_reducible first | exact HB.out | apply below_alloc | apply pw_below_drewN | apply below_drew1 | refine below_set ?_ GE252.out) | exact HB.out)) : p := h
theorem zz42 {p : Prop} (h : p := by repeat (first | (with_reducible first | exact HB.out | apply below_alloc | apply pw_below_drewN | apply below_drew1 | refine below_set ?_ GE269.out) | exact HB.out)) : p := h
theorem zz43 {p : Prop} (h : p := by repeat (first | (with_reducible first | exact HB.out | apply below_alloc | apply pw_below_drewN | apply below_drew1 | refine below_set ?_ GE286.out) | exact HB.out)) : p := h
theorem zz44 {p : Prop} (h : p := by repeat (first | (with_reducible first | exact HB.out | apply below_alloc | apply pw_below_drewN | apply below_drew1 | refine below_set ?_ GE212.out) | exact HB.out)) : p := h
theorem zz45 {p : Prop} (h : p := by repeat (first | (with_reducible first | exact HB.out | apply below_alloc | apply pw_below_drewN | apply below_drew1 | refine below_set ?_ GE339.out) | exact HB.out)) : p := h
theorem zz38 {p : Prop} (h : p := by (with_reducible repeat (first | apply Kd.V_alloc | apply Kd.V_drewN | apply Kd.V_drew)); exact Kd.V_mono HO0_1.out (fun _ hk => ⟨hk.1, ⟨zz84, hk.2⟩⟩)) : p := h
theorem zz37 {p : Prop} (h : p := by repeat (first | (with_reducible exact HR149_0.out) | (with_reducible refine Kd.C_alloc ?_ _) | (with_reducible refine Kd.C_drewN ?_ _) | (with_reducible refine Kd.C_drew ?_) | exact HR149_0.out)) : p := h
theorem zz31 {p : Prop} (h : p := by repeat (first | (with_reducible first | exact HB.out | apply below_alloc | apply pw_below_drewN | apply below_drew1 | refine below_set ?_ GE222.out | refine below_set ?_ GE225.out) | exact HB.out)) : p := h
theorem zz32 {p : Prop} (h : p := by repeat (first | (with_reducible first | exact HB.out | apply below_alloc | apply pw_below_drewN | apply below_drew1 | refine below_set ?_ GE222.out | refine below_set ?_ GE234.out) | exact HB.out)) : p := h
theorem zz33 {p : Prop} (h : p := by repeat (first | (with_reducible first | exact HB.out | apply below_alloc | apply pw_below_drewN | apply below_drew1 | refine below_set ?_ GE252.out | refine below_set ?_ GE258.out) | exact HB.out)) : p := h
theorem zz34 {p : Prop} (h : p := by repeat (first | (with_reducible first | exact HB.out | apply below_alloc | apply pw_below_drewN | apply below_drew1 | refine below_set ?_ GE269.out | refine below_set ?_ GE276.out) | exact HB.out)) : p := h
theorem zz35 {p : Prop} (h : p := by repeat (first | (with_reducible first | exact HB.out | apply below_alloc | apply pw_below_drewN | apply below_drew1 | refine below_set ?_ GE212.out | refine below_set ?_ GE213.out) | exact HB.out)) : p := h
theorem zz36 {p : Prop} (h : p := by repeat (first | (with_reducible first | exact HB.out | apply below_alloc | apply pw_below_drewN | apply below_drew1 | refine below_set ?_ GE339.out | refine below_set ?_ GE395.out) | exact HB.out)) : p := h
theorem zz28 {p : Prop} (h : p := by repeat (first | (with_reducible first | exact HB.out | apply below_alloc | apply pw_below_drewN | apply below_drew1 | refine below_set ?_ GE222.out | refine below_set ?_ GE234.out | refine below_set ?_ GE236.out) | exact HB.out)) : p := h
theorem zz29 {p : Prop} (h : p := by repeat (first | (with_reducible first | exact HB.out | apply below_alloc | apply pw_below_drewN | apply below_drew1 | refine below_set ?_ GE212.out | refine below_set ?_ GE213.out | refine below_set ?_ GE216.out) | exact HB.out)) : p := h
theorem zz30 {p : Prop} (h : p := by repeat (first | (with_reducible first | exact HB.out | apply below_alloc | apply pw_below_drewN | apply below_drew1 | refine below_set ?_ GE212.out | refine below_set ?_ GE213.out | refine below_set ?_ GE217.out) | exact HB.out)) : p := h
theorem zz26 {p : Prop} (h : p := by first | exact (Kd.V_reads' HL235_1.out).2.2 | (repeat (first | (with_reducible exact HR235_1.out) | (with_reducible refine Kd.C_alloc ?_ _) | (with_reducible refine Kd.C_drewN ?_ _) | (with_reducible refine Kd.C_drew ?_) | exact HR235_1.out))) : p := h
theorem zz27 {p : Prop} (h : p := by first | exact (Kd.V_reads' HL235_2.out).2.2 | (repeat (first | (with_reducible exact HR235_2.out) | (with_reducible refine Kd.C_alloc ?_ _) | (with_reducible refine Kd.C_drewN ?_ _) | (with_reducible refine Kd.C_drew ?_) | exact HR235_2.out))) : p := h
theorem zz25 {p : Prop} (h : p := by repeat (first | (with_reducible first | exact HB.out | apply below_alloc | apply pw_below_drewN | apply below_drew1 | refine below_set ?_ GE212.out | refine below_set ?_ GE213.out | refine below_set ?_ GE216.out | refine below_set ?_ GE217.out) | exact HB.out)) : p := h
theorem zz24 {p : Prop} (h : p := by (with_reducible repeat (first | apply Kd.R_alloc | apply Kd.R_drewN | apply Kd.R_drew)); exact (Kd.R_mono (Kd.R_far (p := ⟨gb258, 2, none⟩) (Kd.R_far (p := ⟨gb258, 1, none⟩) (Kd.R_far (p := ⟨gb258, 0, none⟩) (Kd.R_types HO_5.out BK258.out (by decide)) (fun _ hk => hk.2) (.int .i64 ((rd_T74 l0_1 x17_1).f0))) (fun _ hk => hk.2) (.slice A257_1 ((rd_T74 l0_1 x17_1).f1).length c257_1)) (fun _ hk => hk.2) (.slice A257_2 ((rd_T74 l0_1 x17_1).f2).length c257_2)) (fun _ h_ => h_.1))) : p := h
theorem zz23 {p : Prop} (h : p := by (with_reducible repeat (first | apply Kd.R_alloc | apply Kd.R_drewN | apply Kd.R_drew)); exact (Kd.R_mono (Kd.R_far (p := ⟨gb276, 2, none⟩) (Kd.R_far (p := ⟨gb276, 1, none⟩) (Kd.R_far (p := ⟨gb276, 0, none⟩) (Kd.R_types HO_8.out BK276.out (by decide)) (fun _ hk => hk.2) (.int .i64 ((rd_T74 l0_1 x35_4).f0))) (fun _ hk => hk.2) (.slice A275_1 ((rd_T74 l0_1 x35_4).f1).length c275_1)) (fun _ hk => hk.2) (.slice (some ad279) ((rd_T74 l0_1 x35_4).f2).length c275_2)) (fun _ h_ => h_.1))) : p := h
theorem zz22 {p : Prop} (h : p := by (with_reducible repeat (first | apply Kd.R_alloc | apply Kd.R_drewN | apply Kd.R_drew)); exact Kd.R_mono HO_7.out (fun _ hk => by first | exact ⟨trivial, hk⟩ | ((repeat' apply And.intro) <;> (first | exact hk | exact hk.1 | exact hk.2 | exact hk.1.1 | exact hk.1.2 | exact hk.2.1 | exact hk.2.2 | exact hk.1.1.1 | exact hk.1.1.2 | exact hk.1.2.1 | exact hk.1.2.2 | exact hk.2.1.1 | exact hk.2.1.2 | exact hk.2.2.1 | exact hk.2.2.2 | exact hk.1.1.1.1 | exact hk.1.1.1.2 | exact hk.2.2.2.1 | exact hk.2.2.2.2)))) : p := h
theorem zz21 {p : Prop} (h : p := by (with_reducible repeat (first | apply Kd.S_alloc | apply Kd.S_drewN | apply Kd.S_drew)); exact Kd.S_mono HO_13.out (fun k_ hk => by first | exact ⟨hk.1, fun e_ => hk.2 e_⟩ | ((repeat' apply And.intro) <;> (first | exact hk | exact hk.1 | exact hk.2 | exact hk.1.1 | exact hk.1.2 | exact hk.2.1 | exact hk.2.2 | exact hk.1.1.1 | exact hk.1.1.2 | exact hk.1.2.1 | exact hk.1.2.2 | exact hk.2.1.1 | exact hk.2.1.2 | exact hk.2.2.1 | exact hk.2.2.2 | exact hk.1.1.1.1 | exact hk.1.1.1.2 | exact hk.2.2.2.1 | exact hk.2.2.2.2)))) : p := h
theorem zz19 {p : Prop} (h : p := by (with_reducible repeat (first | refine blk_drewN ?_ _ | refine blk_drew ?_ | refine blk_alloc ?_ _)); refine blk_far ?_ NB222_225.out _; (with_reducible repeat (first | refine blk_drewN ?_ _ | refine blk_drew ?_ | refine blk_alloc ?_ _)); refine blk_far ?_ NB222_225.out _; (with_reducible repeat (first | refine blk_drewN ?_ _ | refine blk_drew ?_ | refine blk_alloc ?_ _)); refine blk_far ?_ NB222_225.out _; (with_reducible repeat (first | refine blk_drewN ?_ _ | refine blk_drew ?_ | refine blk_alloc ?_ _)); exact BK222.out) : p := h
theorem zz20 {p : Prop} (h : p := by (with_reducible repeat (first | refine blk_drewN ?_ _ | refine blk_drew ?_ | refine blk_alloc ?_ _)); refine blk_far ?_ NB269_276.out _; (with_reducible repeat (first | refine blk_drewN ?_ _ | refine blk_drew ?_ | refine blk_alloc ?_ _)); refine blk_far ?_ NB269_276.out _; (with_reducible repeat (first | refine blk_drewN ?_ _ | refine blk_drew ?_ | refine blk_alloc ?_ _)); refine blk_far ?_ NB269_276.out _; (with_reducible repeat (first | refine blk_drewN ?_ _ | refine blk_drew ?_ | refine blk_alloc ?_ _)); exact BK269.out) : p := h
theorem zz7 {p : Prop} (h : p := by first | exact Nat.ne_of_lt (Nat.lt_of_lt_of_le (by have := World.block_lt_of_cell? _ _ hw214_0; first | rwa [add_block] at this | exact this) GW216.out) | (rw [add_block]; exact Nat.ne_of_lt (Nat.lt_of_lt_of_le (by have := World.block_lt_of_cell? _ _ hw214_0; first | rwa [add_block] at this | exact this) GW216.out)) | (show (Addr.add _ _).block ≠ _; rw [add_block]; exact Nat.ne_of_lt (Nat.lt_of_lt_of_le (by have := World.block_lt_of_cell? _ _ hw214_0; first | rwa [add_block] at this | exact this) GW216.out)) | (dsimp only; exact Nat.ne_of_lt (Nat.lt_of_lt_of_le (by have := World.block_lt_of_cell? _ _ hw214_0; first | rwa [add_block] at this | exact this) GW216.out))) : p := h
theorem zz8 {p : Prop} (h : p := by first | exact Nat.ne_of_lt (Nat.lt_of_lt_of_le (by have := World.block_lt_of_cell? _ _ hw214_1; first | rwa [add_block] at this | exact this) GW216.out) | (rw [add_block]; exact Nat.ne_of_lt (Nat.lt_of_lt_of_le (by have := World.block_lt_of_cell? _ _ hw214_1; first | rwa [add_block] at this | exact this) GW216.out)) | (show (Addr.add _ _).block ≠ _; rw [add_block]; exact Nat.ne_of_lt (Nat.lt_of_lt_of_le (by have := World.block_lt_of_cell? _ _ hw214_1; first | rwa [add_block] at this | exact this) GW216.out)) | (dsimp only; exact Nat.ne_of_lt (Nat.lt_of_lt_of_le (by have := World.block_lt_of_cell? _ _ hw214_1; first | rwa [add_block] at this | exact this) GW216.out))) : p := h
theorem zz9 {p : Prop} (h : p := by first | exact Nat.ne_of_lt (Nat.lt_of_lt_of_le (by have := World.block_lt_of_cell? _ _ hw214_2; first | rwa [add_block] at this | exact this) GW216.out) | (rw [add_block]; exact Nat.ne_of_lt (Nat.lt_of_lt_of_le (by have := World.block_lt_of_cell? _ _ hw214_2; first | rwa [add_block] at this | exact this) GW216.out)) | (show (Addr.add _ _).block ≠ _; rw [add_block]; exact Nat.ne_of_lt (Nat.lt_of_lt_of_le (by have := World.block_lt_of_cell? _ _ hw214_2; first | rwa [add_block] at this | exact this) GW216.out)) | (dsimp only; exact Nat.ne_of_lt (Nat.lt_of_lt_of_le (by have := World.block_lt_of_cell? _ _ hw214_2; first | rwa [add_block] at this | exact this) GW216.out))) : p := h
theorem zz10 {p : Prop} (h : p := by first | exact Nat.ne_of_lt (Nat.lt_of_lt_of_le (by have := World.block_lt_of_cell? _ _ hw215_0; first | rwa [add_block] at this | exact this) GW216.out) | (rw [add_block]; exact Nat.ne_of_lt (Nat.lt_of_lt_of_le (by have := World.block_lt_of_cell? _ _ hw215_0; first | rwa [add_block] at this | exact this) GW216.out)) | (show (Addr.add _ _).block ≠ _; rw [add_block]; exact Nat.ne_of_lt (Nat.lt_of_lt_of_le (by have := World.block_lt_of_cell? _ _ hw215_0; first | rwa [add_block] at this | exact this) GW216.out)) | (dsimp only; exact Nat.ne_of_lt (Nat.lt_of_lt_of_le (by have := World.block_lt_of_cell? _ _ hw215_0; first | rwa [add_block] at this | exact this) GW216.out))) : p := h
theorem zz11 {p : Prop} (h : p := by first | exact Nat.ne_of_lt (Nat.lt_of_lt_of_le (by have := World.block_lt_of_cell? _ _ hw215_1; first | rwa [add_block] at this | exact this) GW216.out) | (rw [add_block]; exact Nat.ne_of_lt (Nat.lt_of_lt_of_le (by have := World.block_lt_of_cell? _ _ hw215_1; first | rwa [add_block] at this | exact this) GW216.out)) | (show (Addr.add _ _).block ≠ _; rw [add_block]; exact Nat.ne_of_lt (Nat.lt_of_lt_of_le (by have := World.block_lt_of_cell? _ _ hw215_1; first | rwa [add_block] at this | exact this) GW216.out)) | (dsimp only; exact Nat.ne_of_lt (Nat.lt_of_lt_of_le (by have := World.block_lt_of_cell? _ _ hw215_1; first | rwa [add_block] at this | exact this) GW216.out))) : p := h
theorem zz12 {p : Prop} (h : p := by first | exact Nat.ne_of_lt (Nat.lt_of_lt_of_le (by have := World.block_lt_of_cell? _ _ hw215_2; first | rwa [add_block] at this | exact this) GW216.out) | (rw [add_block]; exact Nat.ne_of_lt (Nat.lt_of_lt_of_le (by have := World.block_lt_of_cell? _ _ hw215_2; first | rwa [add_block] at this | exact this) GW216.out)) | (show (Addr.add _ _).block ≠ _; rw [add_block]; exact Nat.ne_of_lt (Nat.lt_of_lt_of_le (by have := World.block_lt_of_cell? _ _ hw215_2; first | rwa [add_block] at this | exact this) GW216.out)) | (dsimp only; exact Nat.ne_of_lt (Nat.lt_of_lt_of_le (by have := World.block_lt_of_cell? _ _ hw215_2; first | rwa [add_block] at this | exact this) GW216.out))) : p := h
theorem zz13 {p : Prop} (h : p := by first | exact Nat.ne_of_lt (Nat.lt_of_lt_of_le (by have := World.block_lt_of_cell? _ _ hw214_0; first | rwa [add_block] at this | exact this) GW217.out) | (rw [add_block]; exact Nat.ne_of_lt (Nat.lt_of_lt_of_le (by have := World.block_lt_of_cell? _ _ hw214_0; first | rwa [add_block] at this | exact this) GW217.out)) | (show (Addr.add _ _).block ≠ _; rw [add_block]; exact Nat.ne_of_lt (Nat.lt_of_lt_of_le (by have := World.block_lt_of_cell? _ _ hw214_0; first | rwa [add_block] at this | exact this) GW217.out)) | (dsimp only; exact Nat.ne_of_lt (Nat.lt_of_lt_of_le (by have := World.block_lt_of_cell? _ _ hw214_0; first | rwa [add_block] at this | exact this) GW217.out))) : p := h
theorem zz14 {p : Prop} (h : p := by first | exact Nat.ne_of_lt (Nat.lt_of_lt_of_le (by have := World.block_lt_of_cell? _ _ hw214_1; first | rwa [add_block] at this | exact this) GW217.out) | (rw [add_block]; exact Nat.ne_of_lt (Nat.lt_of_lt_of_le (by have := World.block_lt_of_cell? _ _ hw214_1; first | rwa [add_block] at this | exact this) GW217.out)) | (show (Addr.add _ _).block ≠ _; rw [add_block]; exact Nat.ne_of_lt (Nat.lt_of_lt_of_le (by have := World.block_lt_of_cell? _ _ hw214_1; first | rwa [add_block] at this | exact this) GW217.out)) | (dsimp only; exact Nat.ne_of_lt (Nat.lt_of_lt_of_le (by have := World.block_lt_of_cell? _ _ hw214_1; first | rwa [add_block] at this | exact this) GW217.out))) : p := h
theorem zz15 {p : Prop} (h : p := by first | exact Nat.ne_of_lt (Nat.lt_of_lt_of_le (by have := World.block_lt_of_cell? _ _ hw214_2; first | rwa [add_block] at this | exact this) GW217.out) | (rw [add_block]; exact Nat.ne_of_lt (Nat.lt_of_lt_of_le (by have := World.block_lt_of_cell? _ _ hw214_2; first | rwa [add_block] at this | exact this) GW217.out)) | (show (Addr.add _ _).block ≠ _; rw [add_block]; exact Nat.ne_of_lt (Nat.lt_of_lt_of_le (by have := World.block_lt_of_cell? _ _ hw214_2; first | rwa [add_block] at this | exact this) GW217.out)) | (dsimp only; exact Nat.ne_of_lt (Nat.lt_of_lt_of_le (by have := World.block_lt_of_cell? _ _ hw214_2; first | rwa [add_block] at this | exact this) GW217.out))) : p := h
theorem zz16 {p : Prop} (h : p := by first | exact Nat.ne_of_lt (Nat.lt_of_lt_of_le (by have := World.block_lt_of_cell? _ _ hw215_0; first | rwa [add_block] at this | exact this) GW217.out) | (rw [add_block]; exact Nat.ne_of_lt (Nat.lt_of_lt_of_le (by have := World.block_lt_of_cell? _ _ hw215_0; first | rwa [add_block] at this | exact this) GW217.out)) | (show (Addr.add _ _).block ≠ _; rw [add_block]; exact Nat.ne_of_lt (Nat.lt_of_lt_of_le (by have := World.block_lt_of_cell? _ _ hw215_0; first | rwa [add_block] at this | exact this) GW217.out)) | (dsimp only; exact Nat.ne_of_lt (Nat.lt_of_lt_of_le (by have := World.block_lt_of_cell? _ _ hw215_0; first | rwa [add_block] at this | exact this) GW217.out))) : p := h
theorem zz17 {p : Prop} (h : p := by first | exact Nat.ne_of_lt (Nat.lt_of_lt_of_le (by have := World.block_lt_of_cell? _ _ hw215_1; first | rwa [add_block] at this | exact this) GW217.out) | (rw [add_block]; exact Nat.ne_of_lt (Nat.lt_of_lt_of_le (by have := World.block_lt_of_cell? _ _ hw215_1; first | rwa [add_block] at this | exact this) GW217.out)) | (show (Addr.add _ _).block ≠ _; rw [add_block]; exact Nat.ne_of_lt (Nat.lt_of_lt_of_le (by have := World.block_lt_of_cell? _ _ hw215_1; first | rwa [add_block] at this | exact this) GW217.out)) | (dsimp only; exact Nat.ne_of_lt (Nat.lt_of_lt_of_le (by have := World.block_lt_of_cell? _ _ hw215_1; first | rwa [add_block] at this | exact this) GW217.out))) : p := h
theorem zz18 {p : Prop} (h : p := by first | exact Nat.ne_of_lt (Nat.lt_of_lt_of_le (by have := World.block_lt_of_cell? _ _ hw215_2; first | rwa [add_block] at this | exact this) GW217.out) | (rw [add_block]; exact Nat.ne_of_lt (Nat.lt_of_lt_of_le (by have := World.block_lt_of_cell? _ _ hw215_2; first | rwa [add_block] at this | exact this) GW217.out)) | (show (Addr.add _ _).block ≠ _; rw [add_block]; exact Nat.ne_of_lt (Nat.lt_of_lt_of_le (by have := World.block_lt_of_cell? _ _ hw215_2; first | rwa [add_block] at this | exact this) GW217.out)) | (dsimp only; exact Nat.ne_of_lt (Nat.lt_of_lt_of_le (by have := World.block_lt_of_cell? _ _ hw215_2; first | rwa [add_block] at this | exact this) GW217.out))) : p := h
theorem zz5 {p : Prop} (h : p := by (with_reducible repeat (first | refine blk_drewN ?_ _ | refine blk_drew ?_ | refine blk_alloc ?_ _)); refine blk_put (cs := #[.int .i64 ((rd_T74 l0_1 x27_1).f0), .slice A224_1 ((rd_T74 l0_1 x27_1).f1).length c224_1, .slice none 0 0]) ?_ 2 _ rfl; (with_reducible repeat (first | refine blk_drewN ?_ _ | refine blk_drew ?_ | refine blk_alloc ?_ _)); refine blk_put (cs := #[.int .i64 ((rd_T74 l0_1 x27_1).f0), .slice none 0 0, .slice none 0 0]) ?_ 1 _ rfl; (with_reducible repeat (first | refine blk_drewN ?_ _ | refine blk_drew ?_ | refine blk_alloc ?_ _)); refine blk_put (cs := #[.int .i64 0, .slice none 0 0, .slice none 0 0]) ?_ 0 _ rfl; (with_reducible repeat (first | refine blk_drewN ?_ _ | refine blk_drew ?_ | refine blk_alloc ?_ _)); exact BK225.out) : p := h
theorem zz6 {p : Prop} (h : p := by (with_reducible repeat (first | refine blk_drewN ?_ _ | refine blk_drew ?_ | refine blk_alloc ?_ _)); refine blk_put (cs := #[.int .i64 ((rd_T74 l0_1 x35_4).f0), .slice A275_1 ((rd_T74 l0_1 x35_4).f1).length c275_1, .slice none 0 0]) ?_ 2 _ rfl; (with_reducible repeat (first | refine blk_drewN ?_ _ | refine blk_drew ?_ | refine blk_alloc ?_ _)); refine blk_put (cs := #[.int .i64 ((rd_T74 l0_1 x35_4).f0), .slice none 0 0, .slice none 0 0]) ?_ 1 _ rfl; (with_reducible repeat (first | refine blk_drewN ?_ _ | refine blk_drew ?_ | refine blk_alloc ?_ _)); refine blk_put (cs := #[.int .i64 0, .slice none 0 0, .slice none 0 0]) ?_ 0 _ rfl; (with_reducible repeat (first | refine blk_drewN ?_ _ | refine blk_drew ?_ | refine blk_alloc ?_ _)); exact BK276.out) : p := h
theorem zz3 {p : Prop} (h : p := by (with_reducible repeat (first | refine blk_drewN ?_ _ | refine blk_drew ?_ | refine blk_alloc ?_ _)); refine blk_far ?_ NB212_217.out _; (with_reducible repeat (first | refine blk_drewN ?_ _ | refine blk_drew ?_ | refine blk_alloc ?_ _)); refine blk_far ?_ NB212_217.out _; (with_reducible repeat (first | refine blk_drewN ?_ _ | refine blk_drew ?_ | refine blk_alloc ?_ _)); refine blk_far ?_ NB212_217.out _; (with_reducible repeat (first | refine blk_drewN ?_ _ | refine blk_drew ?_ | refine blk_alloc ?_ _)); refine blk_far ?_ NB212_216.out _; (with_reducible repeat (first | refine blk_drewN ?_ _ | refine blk_drew ?_ | refine blk_alloc ?_ _)); refine blk_far ?_ NB212_216.out _; (with_reducible repeat (first | refine blk_drewN ?_ _ | refine blk_drew ?_ | refine blk_alloc ?_ _)); refine blk_far ?_ NB212_216.out _; (with_reducible repeat (first | refine blk_drewN ?_ _ | refine blk_drew ?_ | refine blk_alloc ?_ _)); exact BK212.out) : p := h
theorem zz4 {p : Prop} (h : p := by (with_reducible repeat (first | refine blk_drewN ?_ _ | refine blk_drew ?_ | refine blk_alloc ?_ _)); refine blk_far ?_ NB213_217.out _; (with_reducible repeat (first | refine blk_drewN ?_ _ | refine blk_drew ?_ | refine blk_alloc ?_ _)); refine blk_far ?_ NB213_217.out _; (with_reducible repeat (first | refine blk_drewN ?_ _ | refine blk_drew ?_ | refine blk_alloc ?_ _)); refine blk_far ?_ NB213_217.out _; (with_reducible repeat (first | refine blk_drewN ?_ _ | refine blk_drew ?_ | refine blk_alloc ?_ _)); refine blk_far ?_ NB213_216.out _; (with_reducible repeat (first | refine blk_drewN ?_ _ | refine blk_drew ?_ | refine blk_alloc ?_ _)); refine blk_far ?_ NB213_216.out _; (with_reducible repeat (first | refine blk_drewN ?_ _ | refine blk_drew ?_ | refine blk_alloc ?_ _)); refine blk_far ?_ NB213_216.out _; (with_reducible repeat (first | refine blk_drewN ?_ _ | refine blk_drew ?_ | refine blk_alloc ?_ _)); exact BK213.out) : p := h
theorem zz2 {p : Prop} (h : p := by (with_reducible repeat (first | apply Kd.N_alloc | apply Kd.N_drewN | apply Kd.N_drew)); exact (Kd.N_mono (Kd.N_far (p := ⟨gb395, 1, none⟩) (Kd.N_far (p := ⟨gb395, 0, none⟩) (Kd.N_mono HO_340001.out (fun k_ hk => (⟨hk, hk.2⟩ : _ ∧ k_ ≠ gb395))) (fun _ hk => by first | exact hk.2 | ((repeat' apply And.intro) <;> (first | exact hk | exact hk.1 | exact hk.2 | exact hk.1.1 | exact hk.1.2 | exact hk.2.1 | exact hk.2.2 | exact hk.1.1.1 | exact hk.1.1.2 | exact hk.1.2.1 | exact hk.1.2.2 | exact hk.2.1.1 | exact hk.2.1.2 | exact hk.2.2.1 | exact hk.2.2.2 | exact hk.1.1.1.1 | exact hk.1.1.1.2 | exact hk.2.2.2.1 | exact hk.2.2.2.2))) (.int .i64 4)) (fun _ hk => by first | exact hk.2 | ((repeat' apply And.intro) <;> (first | exact hk | exact hk.1 | exact hk.2 | exact hk.1.1 | exact hk.1.2 | exact hk.2.1 | exact hk.2.2 | exact hk.1.1.1 | exact hk.1.1.2 | exact hk.1.2.1 | exact hk.1.2.2 | exact hk.2.1.1 | exact hk.2.1.2 | exact hk.2.2.1 | exact hk.2.2.2 | exact hk.1.1.1.1 | exact hk.1.1.1.2 | exact hk.2.2.2.1 | exact hk.2.2.2.2))) (.slice Ao146 y392.length co146)) (fun _ h_ => h_.1))) : p := h
theorem zz0 {p : Prop} (h : p := by (with_reducible repeat (first | refine blk_drewN ?_ _ | refine blk_drew ?_ | refine blk_alloc ?_ _)); refine blk_far ?_ NB216_217.out _; (with_reducible repeat (first | refine blk_drewN ?_ _ | refine blk_drew ?_ | refine blk_alloc ?_ _)); refine blk_far ?_ NB216_217.out _; (with_reducible repeat (first | refine blk_drewN ?_ _ | refine blk_drew ?_ | refine blk_alloc ?_ _)); refine blk_far ?_ NB216_217.out _; (with_reducible repeat (first | refine blk_drewN ?_ _ | refine blk_drew ?_ | refine blk_alloc ?_ _)); refine blk_put (cs := #[.int .i64 ((rd_T74 l0_1 x5_2).f0), .slice A214_1 ((rd_T74 l0_1 x5_2).f1).length c214_1, .slice none 0 0]) ?_ 2 _ rfl; (with_reducible repeat (first | refine blk_drewN ?_ _ | refine blk_drew ?_ | refine blk_alloc ?_ _)); refine blk_put (cs := #[.int .i64 ((rd_T74 l0_1 x5_2).f0), .slice none 0 0, .slice none 0 0]) ?_ 1 _ rfl; (with_reducible repeat (first | refine blk_drewN ?_ _ | refine blk_drew ?_ | refine blk_alloc ?_ _)); refine blk_put (cs := #[.int .i64 0, .slice none 0 0, .slice none 0 0]) ?_ 0 _ rfl; (with_reducible repeat (first | refine blk_drewN ?_ _ | refine blk_drew ?_ | refine blk_alloc ?_ _)); exact BK216.out) : p := h
theorem zz1 {p : Prop} (h : p := by (with_reducible repeat (first | refine blk_drewN ?_ _ | refine blk_drew ?_ | refine blk_alloc ?_ _)); refine blk_put (cs := #[.int .i64 ((rd_T74 l1_1 x5_2).f0), .slice A215_1 ((rd_T74 l1_1 x5_2).f1).length c215_1, .slice none 0 0]) ?_ 2 _ rfl; (with_reducible repeat (first | refine blk_drewN ?_ _ | refine blk_drew ?_ | refine blk_alloc ?_ _)); refine blk_put (cs := #[.int .i64 ((rd_T74 l1_1 x5_2).f0), .slice none 0 0, .slice none 0 0]) ?_ 1 _ rfl; (with_reducible repeat (first | refine blk_drewN ?_ _ | refine blk_drew ?_ | refine blk_alloc ?_ _)); refine blk_put (cs := #[.int .i64 0, .slice none 0 0, .slice none 0 0]) ?_ 0 _ rfl; (with_reducible repeat (first | refine blk_drewN ?_ _ | refine blk_drew ?_ | refine blk_alloc ?_ _)); refine blk_far ?_ NB217_216.out _; (with_reducible repeat (first | refine blk_drewN ?_ _ | refine blk_drew ?_ | refine blk_alloc ?_ _)); refine blk_far ?_ NB217_216.out _; (with_reducible repeat (first | refine blk_drewN ?_ _ | refine blk_drew ?_ | refine blk_alloc ?_ _)); refine blk_far ?_ NB217_216.out _; (with_reducible repeat (first | refine blk_drewN ?_ _ | refine blk_drew ?_ | refine blk_alloc ?_ _)); exact BK217.out) : p := h
end
section
attribute [local go_sem] max2_int min2_int max_two min_two max_three min_three max_four min_four
def r09_SameInts.l0 : Nat → List Int → List Int → Int → Option (Bool)
  | 0, _, _, _ => none
  | k + 1, x0, x1, x5 => if x5 < (x0.length : Int) then (if 0 ≤ x5 then (if x5 < (x1.length : Int) then (if (rd x0 x5) = (rd x1 x5) then (r09_SameInts.l0 k x0 x1 (wrap64 (x5 + 1))) else (some false)) else (none)) else (none)) else (some true)
def r09_SameInts.f (k : Nat) (l0 : List Int) (l1 : List Int) : Option (Bool) := if (l0.length : Int) = (l1.length : Int) then (r09_SameInts.l0 k l0 l1 0) else (some false)
theorem r09_SameInts.calls (k : Nat) (A0 : Option Addr) (c0 : Nat) (l0 : List Int) (A1 : Option Addr) (c1 : Nat) (l1 : List Int) (r : Bool) (w : World) (hr0 : Kd.C (Kd.int .i64) w A0 l0.length l0) (hc0 : l0.length ≤ c0) (hr1 : Kd.C (Kd.int .i64) w A1 l1.length l1) (hc1 : l1.length ≤ c1) (h : r09_SameInts.f k l0 l1 = some r) :
    Calls Try.prog 15 #[.slice A0 l0.length c0, .slice A1 l1.length c1] w fun e w' => e = .returned (.bool r) ∧ Drawn0 w w' := by
  have HR0 := aM hr0
  have HC0 := aM hc0
  clear hr0 hc0
  have HR1 := aM hr1
  have HC1 := aM hc1
  clear hr1 hc1
  have H : (if (l0.length : Int) = (l1.length : Int) then (r09_SameInts.l0 k l0 l1 0) else (some false)) = some r := h
  clear h
  by_cases c3 : (l0.length : Int) = (l1.length : Int)
  · rw [if_pos c3] at H
    have c3b0 := beq_iff_eq.mpr c3; have c3b1 := bne_eq_false_iff_eq.mpr c3; have c3b2 : (l0.length == l1.length) = true := by first | simpa using c3 | (simp at c3 ⊢; omega)
    clear c3; have H' := aM H; clear H
    go_enter Try.func15, Try.ntmps15
    go_wp2
    repeat (go_quiet (fail); try go_wp2)
    go_loopg [5] k (fun kq v5 w' => ∃ (x5_1 : Int), v5 = .int .i64 x5_1 ∧ Aside0 (r09_SameInts.l0 kq l0 l1 x5_1 = some r) ∧ Aside0 (kq ≤ k) ∧ Drawn0 w w')
    case atStart => exact ⟨(0), zz77, H', ⟨Nat.le_refl _⟩, by repeat (first | exact Drawn0.refl _ | apply Drawn0.step)⟩
    case round =>
      clear H'; (try clear c1); (try clear p2); (try clear c3); (try clear c3b0); (try clear c3b1); (try clear c3b2); obtain ⟨x5_1, rfl, HA, HK1, ⟨m1, rfl⟩⟩ := hrel
      cases gk with
      | zero => exact absurd HA.out (by simp [r09_SameInts.l0])
      | succ k1 =>
        have H := HA.out; clear HA; simp only [r09_SameInts.l0] at H
        by_cases c4 : x5_1 < (l0.length : Int)
        · rw [if_pos c4] at H; have c4b0 := decide_eq_true c4; clear c4
          by_cases c5 : 0 ≤ x5_1
          · rw [if_pos c5] at H; have c5b0 := decide_eq_true c5; clear c5
            by_cases c6 : x5_1 < (l1.length : Int)
            · rw [if_pos c6] at H; have c6b0 := decide_eq_true c6; clear c6
              by_cases c7 : (rd l0 x5_1) = (rd l1 x5_1)
              · rw [if_pos c7] at H; have c7b0 := beq_iff_eq.mpr c7; have c7b1 := bne_eq_false_iff_eq.mpr c7; clear c7; have H' := aM H; clear H; have p121 : 0 ≤ (x5_1 : Int) := of_decide_eq_true zz76; have q121 : x5_1 < (l0.length : Int) := of_decide_eq_true zz76; obtain ⟨ad121, e121, hx121_0⟩ := Kd.at_int HR0.out x5_1 p121 q121
                cases e121; replace p121 := eq_true p121; replace q121 := eq_true q121; have p122 : 0 ≤ (x5_1 : Int) := of_decide_eq_true zz76; have q122 : x5_1 < (l1.length : Int) := of_decide_eq_true zz76; obtain ⟨ad122, e122, hx122_0⟩ := Kd.at_int HR1.out x5_1 p122 q122
                cases e122; replace p122 := eq_true p122; replace q122 := eq_true q122; go_wp2
                repeat (go_quiet (fail); try go_wp2)
                go_roundg k1
                case measure => have := HK1.out; omega
                case rel => exact ⟨(wrap64 (x5_1 + 1)), zz77, H', ⟨zz83⟩, by repeat (first | exact Drawn0.refl _ | apply Drawn0.step)⟩
              rw [if_neg c7] at H; have c7b0 := beq_eq_false_iff_ne.mpr c7; have c7b1 := bne_iff_ne.mpr c7; obtain rfl := Option.some.inj H; have p121 : 0 ≤ (x5_1 : Int) := of_decide_eq_true zz76; have q121 : x5_1 < (l0.length : Int) := of_decide_eq_true zz76; obtain ⟨ad121, e121, hx121_0⟩ := Kd.at_int HR0.out x5_1 p121 q121
              cases e121; replace p121 := eq_true p121; replace q121 := eq_true q121; have p122 : 0 ≤ (x5_1 : Int) := of_decide_eq_true zz76; have q122 : x5_1 < (l1.length : Int) := of_decide_eq_true zz76; obtain ⟨ad122, e122, hx122_0⟩ := Kd.at_int HR1.out x5_1 p122 q122
              cases e122; replace p122 := eq_true p122; replace q122 := eq_true q122; go_wp2
              repeat (go_quiet (fail); try go_wp2)
              go_ret
              exact ⟨by first | rfl | (simp; done) | (simp [*]; done), by repeat (first | exact Drawn0.refl _ | apply Drawn0.step)⟩
            rw [if_neg c6] at H
            exact absurd H (by simp)
          rw [if_neg c5] at H
          exact absurd H (by simp)
        rw [if_neg c4] at H; have c4b0 := decide_eq_false c4; clear c4; obtain rfl := Option.some.inj H; go_wp2
        repeat (go_quiet (fail); try go_wp2)
        go_ret
        exact ⟨by first | rfl | (simp; done) | (simp [*]; done), by repeat (first | exact Drawn0.refl _ | apply Drawn0.step)⟩
  rw [if_neg c3] at H
  have c3b0 := beq_eq_false_iff_ne.mpr c3
  have c3b1 := bne_iff_ne.mpr c3
  have c3b2 : (l0.length == l1.length) = false := by first | simpa using c3 | (simp at c3 ⊢; omega)
  obtain rfl := Option.some.inj H
  go_enter Try.func15, Try.ntmps15
  go_wp2
  repeat (go_quiet (fail); try go_wp2)
  go_ret
  exact ⟨by first | rfl | (simp; done) | (simp [*]; done), by repeat (first | exact Drawn0.refl _ | apply Drawn0.step)⟩
end
section
attribute [local go_sem] max2_int min2_int max_two min_two max_three min_three max_four min_four
def r09_SameRows.l0 : Nat → List (List Int) → List (List Int) → Int → Option (Bool)
  | 0, _, _, _ => none
  | k + 1, x0, x1, x5 => if x5 < (x0.length : Int) then (if 0 ≤ x5 then (if x5 < (x1.length : Int) then ((r09_SameInts.f k (rd_L1 x0 x5) (rd_L1 x1 x5)).bind fun t152 => (if t152 = true then (r09_SameRows.l0 k x0 x1 (wrap64 (x5 + 1))) else (some false))) else (none)) else (none)) else (some true)
def r09_SameRows.f (k : Nat) (l0 : List (List Int)) (l1 : List (List Int)) : Option (Bool) := if (l0.length : Int) = (l1.length : Int) then (r09_SameRows.l0 k l0 l1 0) else (some false)
theorem r09_SameRows.calls (k : Nat) (A0 : Option Addr) (c0 : Nat) (l0 : List (List Int)) (A1 : Option Addr) (c1 : Nat) (l1 : List (List Int)) (r : Bool) (w : World) (hr0 : Kd.C (Kd.slice 3 (Kd.int .i64)) w A0 l0.length l0) (hc0 : l0.length ≤ c0) (hr1 : Kd.C (Kd.slice 3 (Kd.int .i64)) w A1 l1.length l1) (hc1 : l1.length ≤ c1) (h : r09_SameRows.f k l0 l1 = some r) :
    Calls Try.prog 24 #[.slice A0 l0.length c0, .slice A1 l1.length c1] w fun e w' => e = .returned (.bool r) ∧ Drawn0 w w' := by
  have HR0 := aM hr0
  have HC0 := aM hc0
  clear hr0 hc0
  have HR1 := aM hr1
  have HC1 := aM hc1
  clear hr1 hc1
  have H : (if (l0.length : Int) = (l1.length : Int) then (r09_SameRows.l0 k l0 l1 0) else (some false)) = some r := h
  clear h
  by_cases c3 : (l0.length : Int) = (l1.length : Int)
  · rw [if_pos c3] at H
    have c3b0 := beq_iff_eq.mpr c3; have c3b1 := bne_eq_false_iff_eq.mpr c3; have c3b2 : (l0.length == l1.length) = true := by first | simpa using c3 | (simp at c3 ⊢; omega)
    clear c3; have H' := aM H; clear H
    go_enter Try.func24, Try.ntmps24
    go_wp2
    repeat (go_quiet (fail); try go_wp2)
    go_loopg [5] k (fun kq v5 w' => ∃ (x5_1 : Int), v5 = .int .i64 x5_1 ∧ Aside0 (r09_SameRows.l0 kq l0 l1 x5_1 = some r) ∧ Aside0 (kq ≤ k) ∧ Drawn0 w w')
    case atStart => exact ⟨(0), zz77, H', ⟨Nat.le_refl _⟩, by repeat (first | exact Drawn0.refl _ | apply Drawn0.step)⟩
    case round =>
      clear H'; (try clear c1); (try clear c2); (try clear p2); (try clear c3); (try clear c3b0); (try clear c3b1); (try clear c3b2); obtain ⟨x5_1, rfl, HA, HK1, ⟨m1, rfl⟩⟩ := hrel
      cases gk with
      | zero => exact absurd HA.out (by simp [r09_SameRows.l0])
      | succ k1 =>
        have H := HA.out; clear HA; simp only [r09_SameRows.l0] at H
        by_cases c4 : x5_1 < (l0.length : Int)
        · rw [if_pos c4] at H; have c4b0 := decide_eq_true c4; clear c4
          by_cases c5 : 0 ≤ x5_1
          · rw [if_pos c5] at H; have c5b0 := decide_eq_true c5; clear c5
            by_cases c6 : x5_1 < (l1.length : Int)
            · rw [if_pos c6] at H; have c6b0 := decide_eq_true c6; clear c6; replace H := Option.bind_eq_some_iff.mp H; obtain ⟨t152, A70, H⟩ := H; replace H : (if t152 = true then (r09_SameRows.l0 k1 l0 l1 (wrap64 (x5_1 + 1))) else (some false)) = some r := H; have A7 := aM A70; clear A70
              by_cases c8 : t152 = true
              · subst c8; have H1 : (r09_SameRows.l0 k1 l0 l1 (wrap64 (x5_1 + 1))) = some r := by rw [if_pos rfl] at H; exact H
                clear H; have H := H1; clear H1; have H' := aM H; clear H; have p150 : 0 ≤ (x5_1 : Int) := of_decide_eq_true zz76; have q150 : x5_1 < (l0.length : Int) := of_decide_eq_true zz76; obtain ⟨ad150, A150_0, c150_0, e150, hx150_0, hl150_0, hi150_0⟩ := at_L1 HR0.out x5_1 p150 q150
                cases e150; have HR150_0 := aM hi150_0; have HC150_0 := aM hl150_0; clear hi150_0 hl150_0; replace p150 := eq_true p150; replace q150 := eq_true q150; have p151 : 0 ≤ (x5_1 : Int) := of_decide_eq_true zz76; have q151 : x5_1 < (l1.length : Int) := of_decide_eq_true zz76; obtain ⟨ad151, A151_0, c151_0, e151, hx151_0, hl151_0, hi151_0⟩ := at_L1 HR1.out x5_1 p151 q151
                cases e151; have HR151_0 := aM hi151_0; have HC151_0 := aM hl151_0; clear hi151_0 hl151_0; replace p151 := eq_true p151; replace q151 := eq_true q151
                go_wp2_with (first | (go_at_call 15; (with_reducible refine (r09_SameInts.calls k1 _ _ (rd_L1 l0 x5_1) _ _ (rd_L1 l1 x5_1) true _ ?side1 ?side2 ?side3 ?side4 A7.out).mono ?_); (case side1 => repeat (first | exact HR150_0.out | (with_reducible refine Kd.C_alloc ?_ _) | (with_reducible refine Kd.C_drewN ?_ _) | (with_reducible refine Kd.C_drew ?_))); (case side2 => exact HC150_0.out); (case side3 => repeat (first | exact HR151_0.out | (with_reducible refine Kd.C_alloc ?_ _) | (with_reducible refine Kd.C_drewN ?_ _) | (with_reducible refine Kd.C_drew ?_))); (case side4 => exact HC151_0.out); rintro e w' ⟨rfl, ⟨nd, rfl⟩⟩; (try first | exact ⟨rfl, _, World.drewN_drewN _ _ _⟩ | exact ⟨rfl, _, Eq.trans (World.drewN_drewN _ _ _) (congrArg (World.drewN _) (Nat.add_assoc _ _ _))⟩)))
                repeat (go_quiet (first | (go_at_call 15; (with_reducible refine (r09_SameInts.calls k1 _ _ (rd_L1 l0 x5_1) _ _ (rd_L1 l1 x5_1) true _ ?side1 ?side2 ?side3 ?side4 A7.out).mono ?_); (case side1 => repeat (first | exact HR150_0.out | (with_reducible refine Kd.C_alloc ?_ _) | (with_reducible refine Kd.C_drewN ?_ _) | (with_reducible refine Kd.C_drew ?_))); (case side2 => exact HC150_0.out); (case side3 => repeat (first | exact HR151_0.out | (with_reducible refine Kd.C_alloc ?_ _) | (with_reducible refine Kd.C_drewN ?_ _) | (with_reducible refine Kd.C_drew ?_))); (case side4 => exact HC151_0.out); rintro e w' ⟨rfl, ⟨nd, rfl⟩⟩; (try first | exact ⟨rfl, _, World.drewN_drewN _ _ _⟩ | exact ⟨rfl, _, Eq.trans (World.drewN_drewN _ _ _) (congrArg (World.drewN _) (Nat.add_assoc _ _ _))⟩))); try go_wp2_with (first | (go_at_call 15; (with_reducible refine (r09_SameInts.calls k1 _ _ (rd_L1 l0 x5_1) _ _ (rd_L1 l1 x5_1) true _ ?side1 ?side2 ?side3 ?side4 A7.out).mono ?_); (case side1 => repeat (first | exact HR150_0.out | (with_reducible refine Kd.C_alloc ?_ _) | (with_reducible refine Kd.C_drewN ?_ _) | (with_reducible refine Kd.C_drew ?_))); (case side2 => exact HC150_0.out); (case side3 => repeat (first | exact HR151_0.out | (with_reducible refine Kd.C_alloc ?_ _) | (with_reducible refine Kd.C_drewN ?_ _) | (with_reducible refine Kd.C_drew ?_))); (case side4 => exact HC151_0.out); rintro e w' ⟨rfl, ⟨nd, rfl⟩⟩; (try first | exact ⟨rfl, _, World.drewN_drewN _ _ _⟩ | exact ⟨rfl, _, Eq.trans (World.drewN_drewN _ _ _) (congrArg (World.drewN _) (Nat.add_assoc _ _ _))⟩))))
                go_roundg k1
                case measure => have := HK1.out; omega
                case rel => exact ⟨(wrap64 (x5_1 + 1)), zz77, H', ⟨zz83⟩, by repeat (first | exact Drawn0.refl _ | apply Drawn0.step)⟩
              replace c8 := Bool.eq_false_iff.mpr c8; subst c8; have H1 : (some false) = some r := by rw [if_neg (show ¬ (false = true) by decide)] at H; exact H
              clear H; have H := H1; clear H1; obtain rfl := Option.some.inj H; have p150 : 0 ≤ (x5_1 : Int) := of_decide_eq_true zz76; have q150 : x5_1 < (l0.length : Int) := of_decide_eq_true zz76; obtain ⟨ad150, A150_0, c150_0, e150, hx150_0, hl150_0, hi150_0⟩ := at_L1 HR0.out x5_1 p150 q150
              cases e150; have HR150_0 := aM hi150_0; have HC150_0 := aM hl150_0; clear hi150_0 hl150_0; replace p150 := eq_true p150; replace q150 := eq_true q150; have p151 : 0 ≤ (x5_1 : Int) := of_decide_eq_true zz76; have q151 : x5_1 < (l1.length : Int) := of_decide_eq_true zz76; obtain ⟨ad151, A151_0, c151_0, e151, hx151_0, hl151_0, hi151_0⟩ := at_L1 HR1.out x5_1 p151 q151
              cases e151; have HR151_0 := aM hi151_0; have HC151_0 := aM hl151_0; clear hi151_0 hl151_0; replace p151 := eq_true p151; replace q151 := eq_true q151
              go_wp2_with (first | (go_at_call 15; (with_reducible refine (r09_SameInts.calls k1 _ _ (rd_L1 l0 x5_1) _ _ (rd_L1 l1 x5_1) false _ ?side1 ?side2 ?side3 ?side4 A7.out).mono ?_); (case side1 => repeat (first | exact HR150_0.out | (with_reducible refine Kd.C_alloc ?_ _) | (with_reducible refine Kd.C_drewN ?_ _) | (with_reducible refine Kd.C_drew ?_))); (case side2 => exact HC150_0.out); (case side3 => repeat (first | exact HR151_0.out | (with_reducible refine Kd.C_alloc ?_ _) | (with_reducible refine Kd.C_drewN ?_ _) | (with_reducible refine Kd.C_drew ?_))); (case side4 => exact HC151_0.out); rintro e w' ⟨rfl, ⟨nd, rfl⟩⟩; (try first | exact ⟨rfl, _, World.drewN_drewN _ _ _⟩ | exact ⟨rfl, _, Eq.trans (World.drewN_drewN _ _ _) (congrArg (World.drewN _) (Nat.add_assoc _ _ _))⟩)))
              repeat (go_quiet (first | (go_at_call 15; (with_reducible refine (r09_SameInts.calls k1 _ _ (rd_L1 l0 x5_1) _ _ (rd_L1 l1 x5_1) false _ ?side1 ?side2 ?side3 ?side4 A7.out).mono ?_); (case side1 => repeat (first | exact HR150_0.out | (with_reducible refine Kd.C_alloc ?_ _) | (with_reducible refine Kd.C_drewN ?_ _) | (with_reducible refine Kd.C_drew ?_))); (case side2 => exact HC150_0.out); (case side3 => repeat (first | exact HR151_0.out | (with_reducible refine Kd.C_alloc ?_ _) | (with_reducible refine Kd.C_drewN ?_ _) | (with_reducible refine Kd.C_drew ?_))); (case side4 => exact HC151_0.out); rintro e w' ⟨rfl, ⟨nd, rfl⟩⟩; (try first | exact ⟨rfl, _, World.drewN_drewN _ _ _⟩ | exact ⟨rfl, _, Eq.trans (World.drewN_drewN _ _ _) (congrArg (World.drewN _) (Nat.add_assoc _ _ _))⟩))); try go_wp2_with (first | (go_at_call 15; (with_reducible refine (r09_SameInts.calls k1 _ _ (rd_L1 l0 x5_1) _ _ (rd_L1 l1 x5_1) false _ ?side1 ?side2 ?side3 ?side4 A7.out).mono ?_); (case side1 => repeat (first | exact HR150_0.out | (with_reducible refine Kd.C_alloc ?_ _) | (with_reducible refine Kd.C_drewN ?_ _) | (with_reducible refine Kd.C_drew ?_))); (case side2 => exact HC150_0.out); (case side3 => repeat (first | exact HR151_0.out | (with_reducible refine Kd.C_alloc ?_ _) | (with_reducible refine Kd.C_drewN ?_ _) | (with_reducible refine Kd.C_drew ?_))); (case side4 => exact HC151_0.out); rintro e w' ⟨rfl, ⟨nd, rfl⟩⟩; (try first | exact ⟨rfl, _, World.drewN_drewN _ _ _⟩ | exact ⟨rfl, _, Eq.trans (World.drewN_drewN _ _ _) (congrArg (World.drewN _) (Nat.add_assoc _ _ _))⟩))))
              go_ret
              exact ⟨by first | rfl | (simp; done) | (simp [*]; done), by repeat (first | exact Drawn0.refl _ | apply Drawn0.step)⟩
            rw [if_neg c6] at H
            exact absurd H (by simp)
          rw [if_neg c5] at H
          exact absurd H (by simp)
        rw [if_neg c4] at H; have c4b0 := decide_eq_false c4; clear c4; obtain rfl := Option.some.inj H; go_wp2
        repeat (go_quiet (fail); try go_wp2)
        go_ret
        exact ⟨by first | rfl | (simp; done) | (simp [*]; done), by repeat (first | exact Drawn0.refl _ | apply Drawn0.step)⟩
  rw [if_neg c3] at H
  have c3b0 := beq_eq_false_iff_ne.mpr c3
  have c3b1 := bne_iff_ne.mpr c3
  have c3b2 : (l0.length == l1.length) = false := by first | simpa using c3 | (simp at c3 ⊢; omega)
  obtain rfl := Option.some.inj H
  go_enter Try.func24, Try.ntmps24
  go_wp2
  repeat (go_quiet (fail); try go_wp2)
  go_ret
  exact ⟨by first | rfl | (simp; done) | (simp [*]; done), by repeat (first | exact Drawn0.refl _ | apply Drawn0.step)⟩
end
section
attribute [local go_sem] max2_int min2_int max_two min_two max_three min_three max_four min_four
def perm_degree.f (a0 : Int) : Option (Int) := if a0 < 1 then (some 4) else (if a0 > 64 then (some 4) else (some 0))
theorem perm_degree.calls (a0 : Int) (r : Int) (w : World) (h : perm_degree.f a0 = some r) :
    Calls Try.prog 52 #[.int .i64 a0] w fun e w' => e = .returned (.int .i64 r) ∧ Drawn0 w w' := by
  have H : (if a0 < 1 then (some 4) else (if a0 > 64 then (some 4) else (some 0))) = some r := h
  clear h
  by_cases c2 : a0 < 1
  · rw [if_pos c2] at H
    have c2b0 := decide_eq_true c2; clear c2; obtain rfl := Option.some.inj H
    go_enter Try.func52, Try.ntmps52
    go_wp2; go_ret
    exact ⟨by first | rfl | (simp; done) | (simp [*]; done), by repeat (first | exact Drawn0.refl _ | apply Drawn0.step)⟩
  rw [if_neg c2] at H
  have c2b0 := decide_eq_false c2
  clear c2
  by_cases c3 : a0 > 64
  · rw [if_pos c3] at H
    have c3b0 := decide_eq_true c3; clear c3; obtain rfl := Option.some.inj H
    go_enter Try.func52, Try.ntmps52
    go_wp2; go_ret
    exact ⟨by first | rfl | (simp; done) | (simp [*]; done), by repeat (first | exact Drawn0.refl _ | apply Drawn0.step)⟩
  rw [if_neg c3] at H
  have c3b0 := decide_eq_false c3
  clear c3
  obtain rfl := Option.some.inj H
  go_enter Try.func52, Try.ntmps52
  go_wp2
  go_ret
  exact ⟨by first | rfl | (simp; done) | (simp [*]; done), by repeat (first | exact Drawn0.refl _ | apply Drawn0.step)⟩
end
section
def permOk (n : Nat) (l : List Int) : Prop := l.length = n ∧ (∀ x ∈ l, 0 ≤ x ∧ x < n) ∧ l.Nodup
instance (n : Nat) (l : List Int) : Decidable (permOk n l) := by unfold permOk; infer_instance
def checkL (l : List Int) : Int := if l.length < 1 ∨ 64 < l.length then 4 else if ∃ x ∈ l, x < 0 ∨ (l.length : Int) ≤ x then 6 else if l.Nodup then 0 else 18
def perm_Check.f (l0 : List Int) : Option Int := some (checkL l0)
def outB (n : Nat) (x : Int) : Bool := decide (x < 0) || decide ((n : Int) ≤ x)
theorem check1_lo (x : Int) (g n c : Nat) (A : Option Addr) (w : World) (hcell : w.cell? ⟨g, 0, none⟩ = some (.slice A n c)) (hx : x < 0) :
    Calls Try.prog 54 #[.int .i64 x, .pointer (some ⟨g, 0, none⟩)] w fun e w' => e = .returned (.bool true) ∧ w = w' := by
  have h1 : decide (x < 0) = true := decide_eq_true hx
  go_enter Try.func54, Try.ntmps54
  go_wp2
  go_ret
  exact ⟨rfl, rfl⟩
theorem check1_hi (x : Int) (g n c : Nat) (A : Option Addr) (w : World) (hcell : w.cell? ⟨g, 0, none⟩ = some (.slice A n c)) (hx : 0 ≤ x) (b : Bool) (hb : decide ((n : Int) ≤ x) = b) :
    Calls Try.prog 54 #[.int .i64 x, .pointer (some ⟨g, 0, none⟩)] w fun e w' => e = .returned (.bool b) ∧ w = w' := by
  have h1 : decide (x < 0) = false := decide_eq_false (by omega)
  have Hb := aM hb
  clear hb
  go_enter Try.func54, Try.ntmps54
  go_wp2
  go_ret
  exact ⟨by rw [← Hb.out]; rfl, rfl⟩
theorem check1 (x : Int) (g n c : Nat) (A : Option Addr) (w : World) (hcell : w.cell? ⟨g, 0, none⟩ = some (.slice A n c)) :
    Calls Try.prog 54 #[.int .i64 x, .pointer (some ⟨g, 0, none⟩)] w fun e w' => e = .returned (.bool (outB n x)) ∧ w = w' := by
  unfold outB
  by_cases hx : x < 0
  · rw [decide_eq_true hx]; exact check1_lo x g n c A w hcell hx
  rw [decide_eq_false hx, Bool.false_or]; exact check1_hi x g n c A w hcell (by omega) _ rfl
theorem rd_mem {l : List Int} {i : Int} (h0 : 0 ≤ i) (h1 : i < (l.length : Int)) : rd l i ∈ l := by
  unfold rd
  rw [List.getD_eq_getElem?_getD, List.getElem?_eq_getElem (by omega)]
  exact List.getElem_mem _
theorem take_rd {l : List Int} {i : Int} (h0 : 0 ≤ i) (h1 : i < (l.length : Int)) : l.take (i + 1).toNat = l.take i.toNat ++ [rd l i] := by
  have e : (i + 1).toNat = i.toNat + 1 := by omega
  rw [e, List.take_succ_eq_append_getElem (by omega)]
  congr 2
  unfold rd
  rw [List.getD_eq_getElem?_getD, List.getElem?_eq_getElem (by omega)]
  rfl
def IdxPost (p : Int → Bool) (l : List Int) (w : World) (e : Ending) (w' : World) : Prop := ∃ r : Int, e = .returned (.int .i64 r) ∧ decide (0 ≤ r) = l.any p ∧ Drawn0 w w'
theorem idx75_calls (A0 : Option Addr) (c0 : Nat) (l0 : List Int) (g n c : Nat) (A : Option Addr) (w : World) (hr0 : Kd.C (Kd.int .i64) w A0 l0.length l0) (hcell : w.cell? ⟨g, 0, none⟩ = some (.slice A n c)) :
    Calls Try.prog 75 #[.slice A0 l0.length c0, .func (Fn.func 54) #[] #[.pointer (some ⟨g, 0, none⟩)]] w (IdxPost (outB n) l0 w) := by
  have HR := aM hr0
  have HC := aM hcell
  clear hr0 hcell
  go_enter Try.func75, Try.ntmps75
  go_wp2
  go_loopg [8] l0.length (fun kq v8 w' => ∃ i : Int, v8 = .int .i64 i ∧ Aside0 (0 ≤ i) ∧ Aside0 (i.toNat + kq = l0.length) ∧ Aside0 ((l0.take i.toNat).any (outB n) = false) ∧ Aside0 (Drawn0 w w'))
  case atStart => exact ⟨0, rfl, ⟨by omega⟩, ⟨by simp⟩, ⟨by simp⟩, ⟨Drawn0.refl _⟩⟩
  case round =>
    obtain ⟨i, rfl, HI0, HI1, HA, HD⟩ := hrel; have i0 := HI0.out
    by_cases d1 : i < (l0.length : Int)
    · have d1b : decide (i < (l0.length : Int)) = true := decide_eq_true d1; have q0 := eq_true i0; have q1 := eq_true d1; have hmax : l0.length ≤ 9223372036854775807 := HR.out.2.1; obtain ⟨ad, ea, hx1⟩ := Kd.at_int HR.out i i0 d1
      cases ea; replace hx1 := (HD.out.below.cell (World.block_lt_of_cell? w _ hx1)).trans hx1; have hc1 := (HD.out.below.cell (World.block_lt_of_cell? w _ HC.out)).trans HC.out; have HC1 := aM hc1; clear hc1
      cases hb : outB n (rd l0 i) with
      | true =>
        have HBo := aM hb; clear hb
        go_wp2_with (first
          | (go_at_call 54; (with_reducible refine (check1 (rd l0 i) g n c A _ HC1.out).mono ?_); rintro e w5 ⟨rfl, rfl⟩; rw [HBo.out]))
        go_ret
        exact ⟨i, rfl, by rw [decide_eq_true HI0.out]; exact (List.any_eq_true.2 ⟨_, rd_mem HI0.out d1, HBo.out⟩).symm, HD.out⟩
      | false =>
        have HBo := aM hb; clear hb
        go_wp2_with (first
          | (go_at_call 54; (with_reducible refine (check1 (rd l0 i) g n c A _ HC1.out).mono ?_); rintro e w5 ⟨rfl, rfl⟩; rw [HBo.out]))
        obtain ⟨k1, rfl⟩ : ∃ m, gk = m + 1 := ⟨gk - 1, by have := HI1.out; omega⟩
        go_roundg k1
        case measure => omega
        case rel => exact ⟨i + 1, rfl, ⟨by have := HI0.out; omega⟩, ⟨by have := HI1.out; have := HI0.out; omega⟩, ⟨by rw [take_rd HI0.out d1, List.any_append, HA.out]; simp [HBo.out]⟩, HD⟩
    have d1b : decide (i < (l0.length : Int)) = false := decide_eq_false d1; have ha := HA.out; rw [List.take_of_length_le (by omega)] at ha; have HA2 := aM ha; clear ha; go_wp2; go_ret
    exact ⟨-1, rfl, by rw [HA2.out]; rfl, HD.out⟩
def ContPost (p : Int → Bool) (l : List Int) (w : World) (e : Ending) (w' : World) : Prop := e = .returned (.bool (l.any p)) ∧ Drawn0 w w'
theorem cont53_calls (A0 : Option Addr) (c0 : Nat) (l0 : List Int) (g n c : Nat) (A : Option Addr) (w : World) (hr0 : Kd.C (Kd.int .i64) w A0 l0.length l0) (hcell : w.cell? ⟨g, 0, none⟩ = some (.slice A n c)) :
    Calls Try.prog 53 #[.slice A0 l0.length c0, .func (Fn.func 54) #[] #[.pointer (some ⟨g, 0, none⟩)]] w (ContPost (outB n) l0 w) := by
  have HR := aM hr0
  have HC := aM hcell
  clear hr0 hcell
  go_enter Try.func53, Try.ntmps53
  go_wp2_with (first
    | (go_at_call 75; (with_reducible refine (idx75_calls _ _ l0 g n c A _ HR.out HC.out).mono ?_); rintro e w5 ⟨r, rfl, hr, hd⟩; have HDr := aM (And.intro hr hd); clear hr hd))
  go_ret
  exact ⟨by rw [← HDr.out.1]; rfl, HDr.out.2⟩
theorem any_out (l : List Int) : l.any (outB l.length) = true ↔ ∃ x ∈ l, x < 0 ∨ (l.length : Int) ≤ x := by
  simp [List.any_eq_true, outB]
def SeenOk (l : List Int) (i : Int) (sx : List Bool) : Prop := sx.length = l.length ∧ (l.take i.toNat).Nodup ∧ ∀ y : Int, 0 ≤ y → y < l.length → (rdOf false sx y = true ↔ y ∈ l.take i.toNat)
theorem seen_start (l : List Int) : SeenOk l 0 (List.replicate l.length false) := by
  refine ⟨by simp, by simp, fun y h0 h1 => ?_⟩
  simp [rdOf, List.getD_eq_getElem?_getD, show y.toNat < l.length by omega]
theorem seen_next {l : List Int} {i : Int} {sx : List Bool} (h : SeenOk l i sx) (h0 : 0 ≤ i) (h1 : i < l.length) (hx0 : 0 ≤ rd l i) (hx1 : rd l i < l.length) (hs : rdOf false sx (rd l i) = false) : SeenOk l (i + 1) (sx.set (rd l i).toNat true) := by
  obtain ⟨hl, hn, hy⟩ := h
  have hnot : rd l i ∉ l.take i.toNat := fun hm => by
    have := (hy (rd l i) hx0 hx1).2 hm; rw [hs] at this
    cases this
  refine ⟨by simpa using hl, ?_, fun y y0 y1 => ?_⟩
  · rw [take_rd h0 h1, List.nodup_append]
    exact ⟨hn, by simp, fun a ha b hb => by rw [List.mem_singleton.1 hb]; exact fun e => hnot (e ▸ ha)⟩
  · rw [take_rd h0 h1, List.mem_append, List.mem_singleton]
    by_cases e : y = rd l i
    · subst e; simp [rdOf, List.getD_eq_getElem?_getD, show (rd l i).toNat < sx.length by omega]
    have e' : (rd l i).toNat ≠ y.toNat := by omega
    have := hy y y0 y1; simp only [rdOf, List.getD_eq_getElem?_getD] at this ⊢; rw [List.getElem?_set_ne e']; rw [this]; simp [e]
theorem seen_dup {l : List Int} {i : Int} {sx : List Bool} (h : SeenOk l i sx) (h0 : 0 ≤ i) (h1 : i < l.length) (hx0 : 0 ≤ rd l i) (hx1 : rd l i < l.length) (hs : rdOf false sx (rd l i) = true) : ¬ l.Nodup := by
  obtain ⟨hl, hn, hy⟩ := h
  have hm := (hy (rd l i) hx0 hx1).1 hs
  intro hd
  have h2 : (l.take (i + 1).toNat).Nodup := hd.sublist (List.take_sublist _ _)
  rw [take_rd h0 h1, List.nodup_append] at h2
  exact h2.2.2 _ hm _ (List.mem_singleton.2 rfl) rfl
theorem degree_ok (n : Int) (h1 : 1 ≤ n) (h2 : n ≤ 64) : perm_degree.f n = some 0 := by
  unfold perm_degree.f
  rw [if_neg (by omega), if_neg (by omega)]
theorem degree_bad (n : Int) (h : n < 1 ∨ 64 < n) : perm_degree.f n = some 4 := by
  unfold perm_degree.f
  by_cases h1 : n < 1
  · rw [if_pos h1]
  rw [if_neg h1, if_pos (by omega)]
theorem check_bad (A0 : Option Addr) (c0 : Nat) (l0 : List Int) (w : World) (hr0 : Kd.C (Kd.int .i64) w A0 l0.length l0) (hb : l0.length < 1 ∨ 64 < l0.length) :
    Calls Try.prog 16 #[.slice A0 l0.length c0] w fun e w' => e = .returned (.int .i64 4) ∧ Below w.heap.size w w' := by
  have hd := degree_bad l0.length (by omega)
  have HD := aM hd
  clear hd hb hr0
  go_enter Try.func16, Try.ntmps16
  go_wp2_with (first
   | ((with_reducible refine gate_dst (N := 1) rfl ?_); refine box_event ?hg (N := 1) ?hd (cs := #[.slice A0 l0.length c0]) (t := 22) ?hr ?_; (case hd => rfl); (case hg => rfl); (case hr => first | (go_simp; done) | (go_simp; rfl)); intro g hgr w3 hbox3 hb3; have hz : w3.cell? ⟨g, 0, none⟩ = some (.slice A0 l0.length c0) := (blk_cell hbox3 0).trans rfl; have HB3 := aM hb3; clear hgr hb3 hbox3)
   | (go_at_call 52; (with_reducible refine (perm_degree.calls l0.length 4 _ HD.out).mono ?_); rintro e w5 ⟨rfl, ⟨nd, rfl⟩⟩))
  go_ret
  exact ⟨rfl, pw_below_drewN HB3.out _⟩
theorem check_range (A0 : Option Addr) (c0 : Nat) (l0 : List Int) (w : World) (hr0 : Kd.C (Kd.int .i64) w A0 l0.length l0) (h1 : 1 ≤ l0.length) (h2 : l0.length ≤ 64) (ho : l0.any (outB l0.length) = true) :
    Calls Try.prog 16 #[.slice A0 l0.length c0] w fun e w' => e = .returned (.int .i64 6) ∧ Below w.heap.size w w' := by
  have HD := aM (degree_ok l0.length (by omega) (by omega))
  have HO := aM ho
  have HR := aM hr0
  clear ho hr0
  go_enter Try.func16, Try.ntmps16
  go_wp2_with (first
   | ((with_reducible refine gate_dst (N := 1) rfl ?_); refine box_event ?hg (N := 1) ?hd (cs := #[.slice A0 l0.length c0]) (t := 22) ?hr ?_; (case hd => rfl); (case hg => rfl); (case hr => first | (go_simp; done) | (go_simp; rfl)); intro g hgr w3 hbox3 hb3; have hz : w3.cell? ⟨g, 0, none⟩ = some (.slice A0 l0.length c0) := (blk_cell hbox3 0).trans rfl; have HZ := aM hz; have HB3 := aM hb3; clear hgr hb3 hbox3)
   | (go_at_call 52; (with_reducible refine (perm_degree.calls l0.length 0 _ HD.out).mono ?_); rintro e w5 ⟨rfl, ⟨nd, rfl⟩⟩)
   | (go_at_call 53; (with_reducible refine (cont53_calls _ _ l0 g l0.length c0 A0 _ ?s1 ?s2).mono ?_); (case s1 => exact Kd.C_drewN (Kd.C_below HR.out HB3.out) _); (case s2 => exact HZ.out); rintro e w6 ⟨rfl, hd6⟩; rw [HO.out]; have HB6 := aM (below_step (pw_below_drewN HB3.out nd) hd6.below); clear hd6))
  go_ret
  exact ⟨rfl, HB6.out⟩
theorem perm_Check.calls (A0 : Option Addr) (c0 : Nat) (l0 : List Int) (r : Int) (w : World) (hr0 : Kd.C (Kd.int .i64) w A0 l0.length l0) (hc0 : l0.length ≤ c0) (h : perm_Check.f l0 = some r) :
    Calls Try.prog 16 #[.slice A0 l0.length c0] w fun e w' => e = .returned (.int .i64 r) ∧ Below w.heap.size w w' := by
  unfold perm_Check.f at h
  obtain rfl := Option.some.inj h
  clear h
  unfold checkL
  by_cases hb : l0.length < 1 ∨ 64 < l0.length
  · rw [if_pos hb]
    exact check_bad A0 c0 l0 w hr0 hb
  rw [if_neg hb]
  have h1 : 1 ≤ l0.length := by omega
  have h2 : l0.length ≤ 64 := by omega
  clear hb
  cases ho : l0.any (outB l0.length) with
  | true =>
    rw [if_pos ((any_out l0).1 ho)]
    exact check_range A0 c0 l0 w hr0 h1 h2 ho
  | false =>
  have hno : ¬ ∃ x ∈ l0, x < 0 ∨ (l0.length : Int) ≤ x := fun h => by rw [(any_out l0).2 h] at ho; cases ho
  rw [if_neg hno]
  have HIN := aM (show ∀ i : Int, 0 ≤ i → i < l0.length → 0 ≤ rd l0 i ∧ rd l0 i < l0.length from fun i a b => by
    have hm := rd_mem a b
    refine ⟨?_, ?_⟩
    · apply Classical.byContradiction; intro hc; exact hno ⟨_, hm, .inl (by omega)⟩
    · apply Classical.byContradiction; intro hc; exact hno ⟨_, hm, .inr (by omega)⟩)
  have HD := aM (degree_ok l0.length (by omega) (by omega))
  have HO := aM ho
  have HR := aM hr0
  have HC := aM hc0
  have HST := aM (seen_start l0)
  clear ho hr0 hno hc0
  generalize hres : (if l0.Nodup then (0 : Int) else 18) = res
  have HRES := aM hres
  clear hres
  go_enter Try.func16, Try.ntmps16
  go_wp2_with (first
   | ((with_reducible refine gate_dst (N := 1) rfl ?_); refine box_event ?hg (N := 1) ?hd (cs := #[.slice A0 l0.length c0]) (t := 22) ?hr ?_; (case hd => rfl); (case hg => rfl); (case hr => first | (go_simp; done) | (go_simp; rfl)); intro g hgr w3 hbox3 hb3; have hz : w3.cell? ⟨g, 0, none⟩ = some (.slice A0 l0.length c0) := (blk_cell hbox3 0).trans rfl; have HZ := aM hz; have HB3 := aM hb3; clear hgr hb3 hbox3)
   | (go_at_call 52; (with_reducible refine (perm_degree.calls l0.length 0 _ HD.out).mono ?_); rintro e w5 ⟨rfl, ⟨nd, rfl⟩⟩)
   | (go_at_call 53; (with_reducible refine (cont53_calls _ _ l0 g l0.length c0 A0 _ ?s1 ?s2).mono ?_); (case s1 => exact Kd.C_drewN (Kd.C_below HR.out HB3.out) _); (case s2 => exact HZ.out); rintro e w6 ⟨rfl, ⟨nd6, rfl⟩⟩; rw [HO.out])
   | ((with_reducible refine gate_dst (N := 18) rfl ?_); refine Kd.R_make Kd.bool _ 4 rfl (N := 18) rfl 83 _ _ rfl (l0.length : Int) rfl rfl Try.underlying83 (.bool false) 1 info4 rfl (by decide) (by omega) false (ok := fun _ => True) (okp := fun _ => True) rfl (fun _ hk => hk) trivial (by omega) (by omega) (Below.refl _ _) (Nat.le_refl _) ?_; intro v7 w7 ho7 hb7 hg_ hnew_; clear hg_ hnew_; rw [Int.toNat_natCast] at ho7; have HO7 := aM (Kd.R_lower ho7 (show w.heap.size ≤ w3.heap.size from HB3.out.size)); have HB7 := aM (below_step (pw_below_drewN HB3.out _) hb7); have hz7 := (hb7.cell (World.block_lt_of_cell? _ _ HZ.out)).trans HZ.out; clear ho7 hb7))
  go_loopg [21] l0.length (fun kq v21 w' => ∃ (i : Int) (sx : List Bool), v21 = .int .i64 i ∧ Aside0 (0 ≤ i) ∧ Aside0 (i.toNat + kq = l0.length) ∧ Aside0 (SeenOk l0 i sx) ∧ Aside0 (Kd.R Kd.bool 4 w' w.heap.size (fun _ => True) v7 sx) ∧ Aside0 (Below w.heap.size w w'))
  case atStart => exact ⟨0, _, rfl, ⟨by omega⟩, ⟨by simp⟩, HST, HO7, HB7⟩
  case round =>
    clear HO7 HB7 hz7 hz; obtain ⟨i, sx, rfl, HI0, HI1, HS, HO7, HB7⟩ := hrel; have i0 := HI0.out
    by_cases d1 : i < (l0.length : Int)
    · have d1b : decide (i < (l0.length : Int)) = true := decide_eq_true d1; have q0 := eq_true i0; have q1 := eq_true d1; obtain ⟨ad, ea, hx1⟩ := Kd.at_int HR.out i i0 d1
      cases ea; replace hx1 := (HB7.out.cell (World.block_lt_of_cell? w _ hx1)).trans hx1; obtain ⟨x0, x1⟩ := HIN.out i i0 d1; have hsl := HS.out.1; have x2 : rd l0 i < (sx.length : Int) := by omega
      obtain ⟨go, co, eo, gb, gl, cl, HG⟩ := Kd.R_form HO7.out (by omega); subst eo; obtain ⟨hx2, hf2⟩ := Kd.R_celln false HO7.out (rd l0 i) x0 x2; have GB := aM gb; have HSL := aM hsl; have p0 := eq_true x0; have p2 := eq_true x2; clear gb gl HG hsl
      cases hb : rdOf false sx (rd l0 i) with
      | true =>
        rw [hb] at hx2; have HBo := aM hb; clear hb; go_wp2; go_ret
        exact ⟨by rw [← HRES.out, if_neg (seen_dup HS.out i0 d1 x0 x1 HBo.out)]; rfl, HB7.out⟩
      | false =>
        rw [hb] at hx2; have HBo := aM hb; clear hb; have HP14 := aM (Kd.R_putg HO7.out (rd l0 i) true); have HSn := aM (seen_next HS.out i0 d1 x0 x1 HBo.out); go_wp2; obtain ⟨k1, rfl⟩ : ∃ m, gk = m + 1 := ⟨gk - 1, by have := HI1.out; omega⟩
        go_roundg k1
        case measure => omega
        case rel => exact ⟨i + 1, _, rfl, ⟨by have := HI0.out; omega⟩, ⟨by have := HI1.out; have := HI0.out; omega⟩, HSn, ⟨HP14.out.1⟩, ⟨below_set HB7.out GB.out⟩⟩
    have d1b : decide (i < (l0.length : Int)) = false := decide_eq_false d1; have hn := HS.out.2.1; rw [List.take_of_length_le (by omega)] at hn; have HN := aM hn; clear hn; go_wp2; go_ret
    exact ⟨by rw [← HRES.out, if_pos HN.out]; rfl, HB7.out⟩
end
section
def lenB (n : Int) (p : List Int) : Bool := (p.length : Int) != n
def gensL (n : Int) (l : List (List Int)) : Int := if n < 1 ∨ 64 < n then 4 else match (l.map checkL).find? (fun e => e != 0) with
  | some e => e
  | none => if l.any (lenB n) then 10 else 0
def perm_generators.f (a0 : Int) (l1 : List (List Int)) : Option Int := some (gensL a0 l1)
theorem rdL1_mem {l : List (List Int)} {i : Int} (h0 : 0 ≤ i) (h1 : i < (l.length : Int)) : rd_L1 l i ∈ l := by
  unfold rd_L1
  rw [List.getD_eq_getElem?_getD, List.getElem?_eq_getElem (by omega)]
  exact List.getElem_mem _
theorem take_rdL1 {l : List (List Int)} {i : Int} (h0 : 0 ≤ i) (h1 : i < (l.length : Int)) : l.take (i + 1).toNat = l.take i.toNat ++ [rd_L1 l i] := by
  have e : (i + 1).toNat = i.toNat + 1 := by omega
  rw [e, List.take_succ_eq_append_getElem (by omega)]
  congr 2
  unfold rd_L1
  rw [List.getD_eq_getElem?_getD, List.getElem?_eq_getElem (by omega)]
  rfl
theorem gens1 (n : Int) (g c : Nat) (A : Option Addr) (p : List Int) (w : World) (hcell : w.cell? ⟨g, 0, none⟩ = some (.int .i64 n)) :
    Calls Try.prog 80 #[.slice A p.length c, .pointer (some ⟨g, 0, none⟩)] w fun e w' => e = .returned (.bool (lenB n p)) ∧ w = w' := by
  unfold lenB
  go_enter Try.func80, Try.ntmps80
  go_wp2
  go_ret
  exact ⟨rfl, rfl⟩
def IdxPost2 (p : List Int → Bool) (l : List (List Int)) (w : World) (e : Ending) (w' : World) : Prop := ∃ r : Int, e = .returned (.int .i64 r) ∧ decide (0 ≤ r) = l.any p ∧ Drawn0 w w'
theorem idx91_calls (A0 : Option Addr) (c0 : Nat) (l0 : List (List Int)) (g : Nat) (n : Int) (w : World) (hr0 : Kd.C (Kd.slice 3 (Kd.int .i64)) w A0 l0.length l0) (hcell : w.cell? ⟨g, 0, none⟩ = some (.int .i64 n)) :
    Calls Try.prog 91 #[.slice A0 l0.length c0, .func (Fn.func 80) #[] #[.pointer (some ⟨g, 0, none⟩)]] w (IdxPost2 (lenB n) l0 w) := by
  have HR := aM hr0
  have HC := aM hcell
  clear hr0 hcell
  go_enter Try.func91, Try.ntmps91
  go_wp2
  go_loopg [8] l0.length (fun kq v8 w' => ∃ i : Int, v8 = .int .i64 i ∧ Aside0 (0 ≤ i) ∧ Aside0 (i.toNat + kq = l0.length) ∧ Aside0 ((l0.take i.toNat).any (lenB n) = false) ∧ Aside0 (Drawn0 w w'))
  case atStart => exact ⟨0, rfl, ⟨by omega⟩, ⟨by simp⟩, ⟨by simp⟩, ⟨Drawn0.refl _⟩⟩
  case round =>
    obtain ⟨i, rfl, HI0, HI1, HA, HD⟩ := hrel; have i0 := HI0.out
    by_cases d1 : i < (l0.length : Int)
    · have d1b : decide (i < (l0.length : Int)) = true := decide_eq_true d1; have q0 := eq_true i0; have q1 := eq_true d1; have hmax : l0.length ≤ 9223372036854775807 := HR.out.2.1; obtain ⟨ad, A2, c2, ea, hx1, hl2, hC2⟩ := at_L1 HR.out i i0 d1
      cases ea; replace hx1 := (HD.out.below.cell (World.block_lt_of_cell? w _ hx1)).trans hx1; have hc1 := (HD.out.below.cell (World.block_lt_of_cell? w _ HC.out)).trans HC.out; have HC1 := aM hc1; clear hc1 hl2 hC2
      cases hb : lenB n (rd_L1 l0 i) with
      | true =>
        have HBo := aM hb; clear hb
        go_wp2_with (first
          | (go_at_call 80; (with_reducible refine (gens1 n g c2 A2 (rd_L1 l0 i) _ HC1.out).mono ?_); rintro e w5 ⟨rfl, rfl⟩; rw [HBo.out]))
        go_ret
        exact ⟨i, rfl, by rw [decide_eq_true HI0.out]; exact (List.any_eq_true.2 ⟨_, rdL1_mem HI0.out d1, HBo.out⟩).symm, HD.out⟩
      | false =>
        have HBo := aM hb; clear hb
        go_wp2_with (first
          | (go_at_call 80; (with_reducible refine (gens1 n g c2 A2 (rd_L1 l0 i) _ HC1.out).mono ?_); rintro e w5 ⟨rfl, rfl⟩; rw [HBo.out]))
        obtain ⟨k1, rfl⟩ : ∃ m, gk = m + 1 := ⟨gk - 1, by have := HI1.out; omega⟩
        go_roundg k1
        case measure => omega
        case rel => exact ⟨i + 1, rfl, ⟨by have := HI0.out; omega⟩, ⟨by have := HI1.out; have := HI0.out; omega⟩, ⟨by rw [take_rdL1 HI0.out d1, List.any_append, HA.out]; simp [HBo.out]⟩, HD⟩
    have d1b : decide (i < (l0.length : Int)) = false := decide_eq_false d1; have ha := HA.out; rw [List.take_of_length_le (by omega)] at ha; have HA2 := aM ha; clear ha; go_wp2; go_ret
    exact ⟨-1, rfl, by rw [HA2.out]; rfl, HD.out⟩
def ContPost2 (p : List Int → Bool) (l : List (List Int)) (w : World) (e : Ending) (w' : World) : Prop := e = .returned (.bool (l.any p)) ∧ Drawn0 w w'
theorem cont79_calls (A0 : Option Addr) (c0 : Nat) (l0 : List (List Int)) (g : Nat) (n : Int) (w : World) (hr0 : Kd.C (Kd.slice 3 (Kd.int .i64)) w A0 l0.length l0) (hcell : w.cell? ⟨g, 0, none⟩ = some (.int .i64 n)) :
    Calls Try.prog 79 #[.slice A0 l0.length c0, .func (Fn.func 80) #[] #[.pointer (some ⟨g, 0, none⟩)]] w (ContPost2 (lenB n) l0 w) := by
  have HR := aM hr0
  have HC := aM hcell
  clear hr0 hcell
  go_enter Try.func79, Try.ntmps79
  go_wp2_with (first
    | (go_at_call 91; (with_reducible refine (idx91_calls _ _ l0 g n _ HR.out HC.out).mono ?_); rintro e w5 ⟨r, rfl, hr, hd⟩; have HDr := aM (And.intro hr hd); clear hr hd))
  go_ret
  exact ⟨by rw [← HDr.out.1]; rfl, HDr.out.2⟩
theorem find_first {l : List (List Int)} {i : Int} (h0 : 0 ≤ i) (h1 : i < (l.length : Int)) (ha : (l.take i.toNat).all (fun p => checkL p == 0) = true) (hb : checkL (rd_L1 l i) ≠ 0) : (l.map checkL).find? (fun e => e != 0) = some (checkL (rd_L1 l i)) := by
  have e : l = l.take i.toNat ++ (rd_L1 l i :: l.drop (i.toNat + 1)) := by
    have h2 := take_rdL1 h0 h1; have h3 : (i + 1).toNat = i.toNat + 1 := by omega
    rw [h3] at h2
    calc l = l.take (i.toNat + 1) ++ l.drop (i.toNat + 1) := (List.take_append_drop _ _).symm
      _ = _ := by rw [h2, List.append_assoc]; rfl
  rw [e, List.map_append, List.find?_append]
  have hn : ((l.take i.toNat).map checkL).find? (fun e => e != 0) = none := by
    rw [List.find?_eq_none]; intro x hx; obtain ⟨p, hp, rfl⟩ := List.mem_map.1 hx; have := List.all_eq_true.1 ha p hp
    simpa using this
  rw [hn]
  have e2 : rd_L1 (l.take i.toNat ++ rd_L1 l i :: l.drop (i.toNat + 1)) i = rd_L1 l i := by rw [← e]
  rw [e2]
  simp [hb]
theorem find_none {l : List (List Int)} (ha : l.all (fun p => checkL p == 0) = true) : (l.map checkL).find? (fun e => e != 0) = none := by
  rw [List.find?_eq_none]
  intro x hx
  obtain ⟨p, hp, rfl⟩ := List.mem_map.1 hx
  have := List.all_eq_true.1 ha p hp
  simpa using this
def GensPost (r : Int) (w : World) (e : Ending) (w' : World) : Prop := e = .returned (.int .i64 r) ∧ Below w.heap.size w w'
theorem gens_post (a0 : Int) (A1 : Option Addr) (c1 : Nat) (l1 : List (List Int)) (w : World) (hr1 : Kd.C (Kd.slice 3 (Kd.int .i64)) w A1 l1.length l1) (hc1 : l1.length ≤ c1) :
    Calls Try.prog 57 #[.int .i64 a0, .slice A1 l1.length c1] w (GensPost (gensL a0 l1) w) := by
  have HR := aM hr1
  have HC := aM hc1
  clear hr1 hc1
  by_cases hb : a0 < 1 ∨ 64 < a0
  · have HRS := aM (show gensL a0 l1 = 4 by unfold gensL; rw [if_pos hb])
    have HD := aM (degree_bad a0 hb); clear hb
    go_enter Try.func57, Try.ntmps57
    go_wp2_with (first
     | ((with_reducible refine gate_dst (N := 2) rfl ?_); refine box_event ?hg (N := 2) ?hd (cs := #[.int .i64 a0]) (t := 3) ?hr ?_; (case hd => rfl); (case hg => rfl); (case hr => first | (go_simp; done) | (go_simp; rfl)); intro g hgr w3 hbox3 hb3; have hz : w3.cell? ⟨g, 0, none⟩ = some (.int .i64 a0) := (blk_cell hbox3 0).trans rfl; have HB3 := aM hb3; clear hgr hb3 hbox3)
     | (go_at_call 52; (with_reducible refine (perm_degree.calls a0 4 _ HD.out).mono ?_); rintro e w5 ⟨rfl, ⟨nd, rfl⟩⟩))
    go_ret
    exact ⟨by rw [HRS.out]; rfl, pw_below_drewN HB3.out _⟩
  have HD := aM (degree_ok a0 (by omega) (by omega))
  have hmax : l1.length ≤ 9223372036854775807 := HR.out.2.1
  have HNB := aM hb
  clear hb
  go_enter Try.func57, Try.ntmps57
  go_wp2_with (first
   | ((with_reducible refine gate_dst (N := 2) rfl ?_); refine box_event ?hg2 (N := 2) ?hd2 (cs := #[.int .i64 a0]) (t := 3) ?hr2 ?_; (case hd2 => rfl); (case hg2 => rfl); (case hr2 => first | (go_simp; done) | (go_simp; rfl)); intro g hgr w3 hbox3 hb3; have hz : w3.cell? ⟨g, 0, none⟩ = some (.int .i64 a0) := (blk_cell hbox3 0).trans rfl; have HZ := aM hz; have HB3 := aM hb3; clear hgr hb3 hbox3)
   | (go_at_call 52; (with_reducible refine (perm_degree.calls a0 0 _ HD.out).mono ?_); rintro e w5 ⟨rfl, ⟨nd, rfl⟩⟩))
  go_loopg [16] l1.length (fun kq v16 w' => ∃ i : Int, v16 = .int .i64 i ∧ Aside0 (0 ≤ i) ∧ Aside0 (i.toNat + kq = l1.length) ∧ Aside0 ((l1.take i.toNat).all (fun p => checkL p == 0) = true) ∧ Aside0 (Below w3.heap.size w3 w'))
  case atStart => exact ⟨0, rfl, ⟨by omega⟩, ⟨by simp⟩, ⟨by simp⟩, ⟨pw_below_drewN (Below.refl _ _) _⟩⟩
  case round =>
    clear hz; obtain ⟨i, rfl, HI0, HI1, HA, HBw⟩ := hrel; have i0 := HI0.out
    by_cases d1 : i < (l1.length : Int)
    · have d1b : decide (i < (l1.length : Int)) = true := decide_eq_true d1; have q0 := eq_true i0; have q1 := eq_true d1; have hb0 := below_then HB3.out HB3.out.size HBw.out; obtain ⟨ad, A2, c2, ea, hx1, hl2, hC2⟩ := at_L1 HR.out i i0 d1
      cases ea; replace hx1 := (hb0.cell (World.block_lt_of_cell? w _ hx1)).trans hx1; have HC2 := aM (Kd.C_below hC2 hb0); have HL2 := aM hl2; clear hb0 hC2 hl2
      by_cases hb : checkL (rd_L1 l1 i) = 0
      · have HBo := aM hb; clear hb
        go_wp2_with (first
          | (go_at_call 16; (with_reducible refine (perm_Check.calls A2 c2 (rd_L1 l1 i) 0 _ HC2.out HL2.out (by unfold perm_Check.f; rw [HBo.out])).mono ?_); rintro e w6 ⟨rfl, hb6⟩; have HB6 := aM (below_then HBw.out HBw.out.size hb6); clear hb6))
        obtain ⟨k1, rfl⟩ : ∃ m, gk = m + 1 := ⟨gk - 1, by have := HI1.out; omega⟩
        go_roundg k1
        case measure => omega
        case rel => exact ⟨i + 1, rfl, ⟨by have := HI0.out; omega⟩, ⟨by have := HI1.out; have := HI0.out; omega⟩, ⟨by rw [take_rdL1 HI0.out d1, List.all_append, HA.out]; simp [HBo.out]⟩, HB6⟩
      have HBo := aM hb; have hb1 : (checkL (rd_L1 l1 i) != 0) = true := bne_iff_ne.mpr hb; have HRS := aM (show gensL a0 l1 = checkL (rd_L1 l1 i) by unfold gensL; rw [if_neg HNB.out, find_first i0 d1 HA.out hb]); clear hb
      go_wp2_with (first
        | (go_at_call 16; (with_reducible refine (perm_Check.calls A2 c2 (rd_L1 l1 i) (checkL (rd_L1 l1 i)) _ HC2.out HL2.out rfl).mono ?_); rintro e w6 ⟨rfl, hb6⟩; have HB6 := aM (below_then HBw.out HBw.out.size hb6); clear hb6))
      go_ret
      exact ⟨by rw [HRS.out]; rfl, below_then HB3.out HB3.out.size HB6.out⟩
    have d1b : decide (i < (l1.length : Int)) = false := decide_eq_false d1; have ha := HA.out; rw [List.take_of_length_le (by omega)] at ha; have HA2 := aM ha; have hz1 := (HBw.out.cell (World.block_lt_of_cell? _ _ HZ.out)).trans HZ.out; have HZ1 := aM hz1; have HRw := aM (Kd.C_below HR.out (below_then HB3.out HB3.out.size HBw.out)); clear ha hz1
    cases hb : l1.any (lenB a0) with
    | true =>
      have HBo := aM hb; have HRS := aM (show gensL a0 l1 = 10 by unfold gensL; rw [if_neg HNB.out, find_none HA2.out]; simp [hb]); clear hb
      go_wp2_with (first
        | (go_at_call 79; (with_reducible refine (cont79_calls _ _ l1 g a0 _ HRw.out HZ1.out).mono ?_); rintro e w6 ⟨rfl, hd6⟩; rw [HBo.out]; have HB6 := aM hd6.below; clear hd6))
      go_ret
      exact ⟨by rw [HRS.out]; rfl, below_then HB3.out HB3.out.size (below_then HBw.out HBw.out.size HB6.out)⟩
    | false =>
      have HBo := aM hb; have HRS := aM (show gensL a0 l1 = 0 by unfold gensL; rw [if_neg HNB.out, find_none HA2.out]; simp [hb]); clear hb
      go_wp2_with (first
        | (go_at_call 79; (with_reducible refine (cont79_calls _ _ l1 g a0 _ HRw.out HZ1.out).mono ?_); rintro e w6 ⟨rfl, hd6⟩; rw [HBo.out]; have HB6 := aM hd6.below; clear hd6))
      go_ret
      exact ⟨by rw [HRS.out]; rfl, below_then HB3.out HB3.out.size (below_then HBw.out HBw.out.size HB6.out)⟩
theorem perm_generators.calls (a0 : Int) (A1 : Option Addr) (c1 : Nat) (l1 : List (List Int)) (r : Int) (w : World) (hr1 : Kd.C (Kd.slice 3 (Kd.int .i64)) w A1 l1.length l1) (hc1 : l1.length ≤ c1) (h : perm_generators.f a0 l1 = some r) :
    Calls Try.prog 57 #[.int .i64 a0, .slice A1 l1.length c1] w fun e w' => e = .returned (.int .i64 r) ∧ Below w.heap.size w w' := by
  obtain rfl := Option.some.inj h
  exact gens_post a0 A1 c1 l1 w hr1 hc1
end
section
def sortL (l : List Int) : List Int := l.mergeSort (fun a b => decide (a ≤ b))
theorem sortL_perm (l : List Int) : (sortL l).Perm l := List.mergeSort_perm _ _
theorem sortL_sorted (l : List Int) : (sortL l).Pairwise (· ≤ ·) := by
  have := List.pairwise_mergeSort (le := fun a b : Int => decide (a ≤ b)) (by intro a b c; simp; omega) (by intro a b; simp; omega) l
  exact this.imp (by intro a b h; simpa using h)
theorem sortL_unique {l r : List Int} (hp : r.Perm l) (hs : r.Pairwise (· ≤ ·)) : r = sortL l :=
  (hp.trans (sortL_perm l).symm).eq_of_pairwise (fun a b _ _ h1 h2 => by omega) hs (sortL_sorted l)
theorem sortL_eq_self {l : List Int} (hs : l.Pairwise (· ≤ ·)) : sortL l = l := (sortL_unique (List.Perm.refl l) hs).symm
def insOne (a : Int) : List Int → List Int
  | [] => [a]
  | b :: l => if a ≤ b then a :: b :: l else b :: insOne a l
def insL : List Int → List Int
  | [] => []
  | a :: l => insOne a (insL l)
theorem insOne_perm (a : Int) : ∀ l, (insOne a l).Perm (a :: l)
  | [] => List.Perm.refl _
  | b :: l => by
    unfold insOne
    split
    · exact List.Perm.refl _
    · exact ((insOne_perm a l).cons b).trans (List.Perm.swap a b l)
theorem insOne_sorted (a : Int) : ∀ {l : List Int}, l.Pairwise (· ≤ ·) → (insOne a l).Pairwise (· ≤ ·)
  | [], _ => by simp [insOne]
  | b :: l, h => by
    have h' := List.pairwise_cons.1 h; unfold insOne
    split
    · rename_i hab
      refine List.pairwise_cons.2 ⟨fun x hx => ?_, h⟩
      rcases List.mem_cons.1 hx with rfl | hx
      · exact hab
      · have := h'.1 x hx; omega
    · refine List.pairwise_cons.2 ⟨fun x hx => ?_, insOne_sorted a h'.2⟩
      rcases List.mem_cons.1 ((insOne_perm a l).mem_iff.1 hx) with rfl | hx
      · omega
      · exact h'.1 x hx
theorem insL_perm : ∀ l, (insL l).Perm l
  | [] => List.Perm.refl _
  | a :: l => (insOne_perm a _).trans ((insL_perm l).cons a)
theorem insL_sorted : ∀ l, (insL l).Pairwise (· ≤ ·)
  | [] => by simp [insL]
  | a :: l => insOne_sorted a (insL_sorted l)
theorem insL_eq (l : List Int) : insL l = sortL l := sortL_unique (insL_perm l) (insL_sorted l)
end
end Go.Proofs.Ytjjlhbgpdncpcaa.P
section
namespace Go.Proofs.Ytjjlhbgpdncpcaa.P
open Go.Shelf in
def sortRen : Ren where
  f := fun | 189 => 58 | 125 => 82 | 257 => 81 | 128 => 101 | 129 => 102 | 294 => 92 | 295 => 93 | 296 => 94 | 297 => 95 | 298 => 96 | 299 => 97 | 216 => 98 | 300 => 99 | 301 => 100 | 328 => 103 | 329 => 104 | 330 => 105 | 331 => 106 | 332 => 107 | 215 => 108 | 343 => 109 | n => n
  t := fun | 28 => 22 | 3 => 3 | 46 => 98 | 0 => 0 | 51 => 72 | 53 => 77 | 4 => 4 | 183 => 117 | 182 => 116 | 131 => 122 | 5 => 5 | 9 => 9 | 218 => 126 | 222 => 130 | 228 => 132 | 229 => 133 | n => n
  g := fun n => n
theorem sortLays : Lays.n189 Try.prog sortRen where
  mixed := by kernel_rfl
  f125 := Try.func82.trans (congrArg some (by kernel_rfl))
  f128 := Try.func101.trans (congrArg some (by kernel_rfl))
  f129 := Try.func102.trans (congrArg some (by kernel_rfl))
  f189 := Try.func58.trans (congrArg some (by kernel_rfl))
  f215 := Try.func108.trans (congrArg some (by kernel_rfl))
  f216 := Try.func98.trans (congrArg some (by kernel_rfl))
  f257 := Try.func81.trans (congrArg some (by kernel_rfl))
  f294 := Try.func92.trans (congrArg some (by kernel_rfl))
  f295 := Try.func93.trans (congrArg some (by kernel_rfl))
  f296 := Try.func94.trans (congrArg some (by kernel_rfl))
  f297 := Try.func95.trans (congrArg some (by kernel_rfl))
  f298 := Try.func96.trans (congrArg some (by kernel_rfl))
  f299 := Try.func97.trans (congrArg some (by kernel_rfl))
  f300 := Try.func99.trans (congrArg some (by kernel_rfl))
  f301 := Try.func100.trans (congrArg some (by kernel_rfl))
  f328 := Try.func103.trans (congrArg some (by kernel_rfl))
  f329 := Try.func104.trans (congrArg some (by kernel_rfl))
  f330 := Try.func105.trans (congrArg some (by kernel_rfl))
  f331 := Try.func106.trans (congrArg some (by kernel_rfl))
  f332 := Try.func107.trans (congrArg some (by kernel_rfl))
  f343 := Try.func109.trans (congrArg some (by kernel_rfl))
  t0 := Try.underlying0
  a0 := Try.isAgg0
  z0 := Try.sizeOf0
  v0 := Try.zeroValue0
  t3 := Try.underlying3
  a3 := Try.isAgg3
  z3 := Try.sizeOf3
  v3 := Try.zeroValue3
  t4 := Try.underlying4
  a4 := Try.isAgg4
  z4 := Try.sizeOf4
  v4 := Try.zeroValue4
  t5 := Try.underlying5
  a5 := Try.isAgg5
  z5 := Try.sizeOf5
  v5 := Try.zeroValue5
  t9 := Try.underlying9
  a9 := Try.isAgg9
  z9 := Try.sizeOf9
  v9 := Try.zeroValue9
  t28 := Try.underlying22
  a28 := Try.isAgg22
  z28 := Try.sizeOf22
  v28 := Try.zeroValue22
  t46 := Try.underlying98
  a46 := Try.isAgg98
  z46 := Try.sizeOf98
  v46 := Try.zeroValue98
  t51 := Try.underlying72
  a51 := Try.isAgg72
  z51 := Try.sizeOf72
  v51 := Try.zeroValue72
  t53 := Try.underlying77
  a53 := Try.isAgg77
  z53 := Try.sizeOf77
  v53 := Try.zeroValue77
  t131 := Try.underlying122
  a131 := Try.isAgg122
  z131 := Try.sizeOf122
  v131 := Try.zeroValue122
  t182 := Try.underlying116
  a182 := Try.isAgg116
  z182 := Try.sizeOf116
  v182 := Try.zeroValue116
  t183 := Try.underlying117
  a183 := Try.isAgg117
  z183 := Try.sizeOf117
  v183 := Try.zeroValue117
  t218 := Try.underlying126
  a218 := Try.isAgg126
  z218 := Try.sizeOf126
  v218 := Try.zeroValue126
  t222 := Try.underlying130
  a222 := Try.isAgg130
  z222 := Try.sizeOf130
  v222 := Try.zeroValue130
  t228 := Try.underlying132
  a228 := Try.isAgg132
  z228 := Try.sizeOf132
  v228 := Try.zeroValue132
  t229 := Try.underlying133
  a229 := Try.isAgg133
  z229 := Try.sizeOf133
  v229 := Try.zeroValue133
end Go.Proofs.Ytjjlhbgpdncpcaa.P
end
section
namespace Go.Proofs.Ytjjlhbgpdncpcaa.P
open Go.RowKit Go.Sort Go.Proofs.YtjjlhbgpdncpcaaW.PrintWords Go.Proofs.YtjjlhbgpdncpcaaW.PrintLast Go.Proofs.YtjjlhbgpdncpcaaW.PrintMore
set_option linter.unusedVariables false
set_option linter.unusedSimpArgs false
theorem sort_big (P0_ : Nat → Prop) (u : Value) (l0 : List Int) (w0 w : World) (hl : 0 < l0.length) (hsz : l0.length < 4611686018427387904) (hB : Below w0.heap.size w0 w) (ho0 : Kd.R (Kd.int .i64) 3 w w0.heap.size P0_ u l0) :
    Calls Try.prog 58 #[u] w fun e w' => e = .returned (.tuple #[]) ∧ Kd.R (Kd.int .i64) 3 w' w0.heap.size (fun k_ => (P0_ k_ ∨ w.heap.size ≤ k_)) u (sortL l0) ∧ Below w0.heap.size w0 w' ∧ Kept w w' (fun k_ => P0_ k_) := by
  have hP := ho0.1
  have ho := Kd.own_of_R ho0
  obtain ⟨hlen, h0 | ⟨g, cap, cur, rfl, hbg, hheap, hn, hcap, hsz', htake⟩⟩ := ho
  · omega
  have hH := Go.holds_of_blockI hheap (ss := l0) (by rw [Nat.mul_one] at htake; exact htake)
  have hlt : g < w.heap.size := (Array.getElem?_eq_some_iff.1 hheap).1
  refine (Any.slices_Sort_int sortLays g 0 cap l0 w hH hlt hsz).mono ?_
  rintro e w' ⟨rfl, n, os, rfl⟩
  have hln : (sortL l0).length = l0.length := (sortL_perm l0).length_eq
  have hown := Go.ownsRow_sortedI (n := n) (os := os) (ts := sortL l0) (ss := l0) hln hbg hheap hn hcap hsz'
  have hg := Go.grownBy_sortedI (w := w) (g := g) (n := n) (os := os) (sortL l0).toArray
  have hPg : P0_ g := hP g rfl
  refine ⟨rfl, Kd.R_of_own (by rw [hln]; exact hown) (fun k hk => .inl (hP k hk)), hB.grown hg hB.size (fun k hk => by injection hk with hk; omega), ⟨hg.size, fun i hi hs => hg.block i hi (fun e_ => hs (by injection e_ with e_; rw [e_]; exact hPg))⟩⟩
end Go.Proofs.Ytjjlhbgpdncpcaa.P
end
namespace Go.Proofs.Ytjjlhbgpdncpcaa.P
open Go.RowKit Go.Proofs.YtjjlhbgpdncpcaaW.PrintWords Go.Proofs.YtjjlhbgpdncpcaaW.PrintLast Go.Proofs.YtjjlhbgpdncpcaaW.PrintMore
set_option linter.unusedVariables false
set_option linter.unusedSimpArgs false
set_option maxHeartbeats 8000000
set_option maxRecDepth 100000
section
open Go.Shelf in
def lenRen : Ren where
  f := fun | 125 => 82 | 128 => 101 | 129 => 102 | n => n
  t := fun | 46 => 98 | 51 => 72 | 53 => 77 | n => n
  g := fun n => n
theorem lenLays : Lays.n125 Try.prog lenRen where
  mixed := by kernel_rfl
  f125 := Try.func82.trans (congrArg some (by kernel_rfl))
  f128 := Try.func101.trans (congrArg some (by kernel_rfl))
  f129 := Try.func102.trans (congrArg some (by kernel_rfl))
  t3 := Try.underlying3
  a3 := Try.isAgg3
  z3 := Try.sizeOf3
  v3 := Try.zeroValue3
  t4 := Try.underlying4
  a4 := Try.isAgg4
  z4 := Try.sizeOf4
  v4 := Try.zeroValue4
  t5 := Try.underlying5
  a5 := Try.isAgg5
  z5 := Try.sizeOf5
  v5 := Try.zeroValue5
  t9 := Try.underlying9
  a9 := Try.isAgg9
  z9 := Try.sizeOf9
  v9 := Try.zeroValue9
  t46 := Try.underlying98
  a46 := Try.isAgg98
  z46 := Try.sizeOf98
  v46 := Try.zeroValue98
  t51 := Try.underlying72
  a51 := Try.isAgg72
  z51 := Try.sizeOf72
  v51 := Try.zeroValue72
  t53 := Try.underlying77
  a53 := Try.isAgg77
  z53 := Try.sizeOf77
  v53 := Try.zeroValue77
theorem bits_Len.calls (x : Int) (w : World) (h0 : 0 ≤ x) (h1 : x ≤ 18446744073709551615) :
    Calls Try.prog 82 #[.int .u64 x] w fun e w' => e = .returned (.int .i64 (Lib.bitLen x.toNat)) ∧ w' = w := Any.bits_Len lenLays x w h0 h1
theorem ins0.calls (u : Value) (w : World) : Calls Try.prog 92 #[u, .int .i64 0, .int .i64 0] w fun e w' => e = .returned (.tuple #[]) ∧ w' = w := by
  go_enter Try.func92, Try.ntmps92
  go_wp2
  go_loopg [6] 1 (fun kq v6 w' => v6 = .int .i64 1 ∧ w' = w)
  case atStart => exact ⟨rfl, rfl⟩
  case round =>
    obtain ⟨rfl, rfl⟩ := hrel; go_wp2
    first | go_end0 | ((try simp only [Exit.inBlock, Exit.then]); refine bodyPost_ret (results_none rfl _ _ _) rfl ?_)
    exact ⟨rfl, rfl⟩
theorem pdq0.calls (u : Value) (lim : Int) (w : World) : Calls Try.prog 81 #[u, .int .i64 0, .int .i64 0, .int .i64 lim] w fun e w' => e = .returned (.tuple #[]) ∧ w' = w := by
  go_enter Try.func81, Try.ntmps81
  go_wp2
  go_loopg [1, 2, 3, 8, 9] 1 (fun kq v1 v2 v3 v8 v9 w' => v1 = .int .i64 0 ∧ v2 = .int .i64 0 ∧ v3 = .int .i64 lim ∧ v8 = .bool true ∧ v9 = .bool true ∧ w' = w)
  case atStart => exact ⟨rfl, rfl, rfl, rfl, rfl, rfl⟩
  case round =>
    obtain ⟨rfl, rfl, rfl, rfl, rfl, rfl⟩ := hrel
    go_wp2_with (first
      | (go_at_call 92; (with_reducible refine (ins0.calls u _).mono ?_); rintro e w1 ⟨rfl, rfl⟩))
    first | go_end0 | ((try simp only [Exit.inBlock, Exit.then]); refine bodyPost_ret (results_none rfl _ _ _) rfl ?_)
    exact ⟨rfl, rfl⟩
def slSort.f (l0 : List Int) : Option (List Int) := if l0.length < 4611686018427387904 then some (insL l0) else none
theorem slSort.calls (P0_ : Nat → Prop) (u9000_ : Value) (l0 : List Int) (r : List Int) (w0 w : World) (hB : Below w0.heap.size w0 w) (ho0 : Kd.R (Kd.int .i64) 3 w w0.heap.size P0_ u9000_ l0) (h : slSort.f l0 = some r) :
    Calls Try.prog 58 #[u9000_] w fun e w' => e = .returned (.tuple #[]) ∧ Kd.R (Kd.int .i64) 3 w' w0.heap.size (fun k_ => (P0_ k_ ∨ w.heap.size ≤ k_)) u9000_ r ∧ Below w0.heap.size w0 w' ∧ Kept w w' (fun k_ => P0_ k_) := by
  have hq : l0.length < 4611686018427387904 ∧ sortL l0 = r := by
    unfold slSort.f at h; rw [insL_eq] at h
    split at h
    · exact ⟨by assumption, Option.some.inj h⟩
    · cases h
  obtain ⟨hl', rfl⟩ := hq
  by_cases hz : 0 < l0.length
  · exact sort_big P0_ u9000_ l0 w0 w hz hl' hB ho0
  have h0 : l0 = [] := by cases l0 with
    | nil => rfl
    | cons a l => simp at hz
  subst h0
  have hK : Kd.R (Kd.int .i64) 3 w w0.heap.size (fun k_ => (P0_ k_ ∨ w.heap.size ≤ k_)) u9000_ (sortL []) := by
    rw [sortL_eq_self List.Pairwise.nil]
    exact Kd.R_mono ho0 (fun k hk => .inl hk)
  have HK := aM hK
  have HB := aM hB
  obtain ⟨A, c, rfl⟩ := Kd.R_slice ho0
  clear ho0 hB h hK hz hl'
  go_enter Try.func58, Try.ntmps58
  go_wp2_with (first
    | (go_at_call 82; (with_reducible refine (bits_Len.calls _ _ ?s1 ?s2).mono ?_); (case s1 => decide); (case s2 => decide); rintro e w1 ⟨rfl, rfl⟩)
    | (go_at_call 81; (with_reducible refine (pdq0.calls _ _ _).mono ?_); rintro e w1 ⟨rfl, rfl⟩))
  go_end0
  exact ⟨rfl, HK.out, HB.out, Kept.refl _ _⟩
end
section
attribute [local go_sem] max2_int min2_int max_two min_two max_three min_three max_four min_four
mutual
def perm_Orbits.l0 : Nat → List (List Int) → List Bool → List (List Int) → Int → Int → Option ((List (List Int)) × Int)
  | 0, _, _, _, _, _ => none
  | k + 1, x1, x7, x8, x23, x24 => if x24 < x23 then (if 0 ≤ x24 then (if x24 < (x7.length : Int) then (if rdOf false x7 x24 = true then (perm_Orbits.l0 k x1 x7 x8 x23 (wrap64 (x24 + 1))) else (perm_Orbits.l1 k x1 (x7.set (x24 : Int).toNat true) x8 (([x24] : List Int)) 0 x23 x24)) else (none)) else (none)) else (some (x8, 0))
def perm_Orbits.l1 : Nat → List (List Int) → List Bool → List (List Int) → List Int → Int → Int → Int → Option ((List (List Int)) × Int)
  | 0, _, _, _, _, _, _, _ => none
  | k + 1, x1, x7, x8, x10, x11, x23, x24 => if x11 < (x10.length : Int) then (perm_Orbits.l2 k x1 x7 x8 x10 x11 x23 x24 x1 (x1.length : Int) 0) else ((slSort.f x10).bind fun t172 => (if x8.length < 5864062014805 then (perm_Orbits.l0 k x1 x7 (x8 ++ [t172]) x23 (wrap64 (x24 + 1))) else (none)))
def perm_Orbits.l2 : Nat → List (List Int) → List Bool → List (List Int) → List Int → Int → Int → Int → List (List Int) → Int → Int → Option ((List (List Int)) × Int)
  | 0, _, _, _, _, _, _, _, _, _, _ => none
  | k + 1, x1, x7, x8, x10, x11, x23, x24, x42, x43, x44 => if x44 < x43 then (if 0 ≤ x44 then (if x44 < (x42.length : Int) then (if 0 ≤ x11 then (if x11 < (x10.length : Int) then (if 0 ≤ (rd x10 x11) then (if (rd x10 x11) < ((rd_L1 x42 x44).length : Int) then (if 0 ≤ (rd (rd_L1 x42 x44) (rd x10 x11)) then (if (rd (rd_L1 x42 x44) (rd x10 x11)) < (x7.length : Int) then (if (rdOf false x7 (rd (rd_L1 x42 x44) (rd x10 x11)) = true) then (perm_Orbits.l2 k x1 x7 x8 x10 x11 x23 x24 x42 x43 (wrap64 (x44 + 1))) else (if x10.length < 17592186044416 then (perm_Orbits.l2 k x1 (x7.set ((rd (rd_L1 x42 x44) (rd x10 x11)) : Int).toNat true) x8 (x10 ++ [rd (rd_L1 x42 x44) (rd x10 x11)]) x11 x23 x24 x42 x43 (wrap64 (x44 + 1))) else (none))) else (none)) else (none)) else (none)) else (none)) else (none)) else (none)) else (none)) else (none)) else (perm_Orbits.l1 k x1 x7 x8 x10 (wrap64 (x11 + 1)) x23 x24)
end
def perm_Orbits.f (k : Nat) (a0 : Int) (l1 : List (List Int)) : Option ((List (List Int)) × Int) := (perm_generators.f a0 l1).bind fun t163 => (if t163 = 0 then (if 0 ≤ a0 then (if (a0 : Int).toNat ≤ 281474976710656 then (perm_Orbits.l0 k l1 (List.replicate (a0 : Int).toNat false) ([] : List (List Int)) a0 0) else (none)) else (none)) else (some (([] : List (List Int)), t163)))
theorem perm_Orbits.calls (k : Nat) (a0 : Int) (A1 : Option Addr) (c1 : Nat) (l1 : List (List Int)) (r1 : List (List Int)) (r2 : Int) (w : World) (hr1 : Kd.C (Kd.slice 3 (Kd.int .i64)) w A1 l1.length l1) (hc1 : l1.length ≤ c1) (h : perm_Orbits.f k a0 l1 = some (r1, r2)) :
    Calls Try.prog 28 #[.int .i64 a0, .slice A1 l1.length c1] w fun e w' => ∃ v0_ : Value, e = .returned (.tuple #[v0_, .int .i64 r2]) ∧ Kd.S (Kd.slice 3 (Kd.int .i64)) 22 w' w.heap.size (fun _ => True) v0_ r1 ∧ Below w.heap.size w w' := by
  have HR1 := aM hr1
  have HC1 := aM hc1
  clear hr1 hc1
  have HB := aM (Below.refl w.heap.size w)
  have H : ((perm_generators.f a0 l1).bind fun t163 => (if t163 = 0 then (if 0 ≤ a0 then (if (a0 : Int).toNat ≤ 281474976710656 then (perm_Orbits.l0 k l1 (List.replicate (a0 : Int).toNat false) ([] : List (List Int)) a0 0) else (none)) else (none)) else (some (([] : List (List Int)), t163)))) = some (r1, r2) := h
  clear h
  replace H := Option.bind_eq_some_iff.mp H
  obtain ⟨t163, A30, H⟩ := H
  replace H : (if t163 = 0 then (if 0 ≤ a0 then (if (a0 : Int).toNat ≤ 281474976710656 then (perm_Orbits.l0 k l1 (List.replicate (a0 : Int).toNat false) ([] : List (List Int)) a0 0) else (none)) else (none)) else (some (([] : List (List Int)), t163))) = some (r1, r2) := H
  have A3 := aM A30
  clear A30
  by_cases c4 : t163 = 0
  · rw [if_pos c4] at H
    have c4b0 := beq_iff_eq.mpr c4; have c4b1 := bne_eq_false_iff_eq.mpr c4; clear c4
    by_cases c5 : 0 ≤ a0
    · rw [if_pos c5] at H; have c5b0 := eq_true c5; have c5b1 := decide_eq_true c5; clear c5
      by_cases c6 : (a0 : Int).toNat ≤ 281474976710656
      · rw [if_pos c6] at H; have c6b0 := eq_true c6; have c6b1 := decide_eq_true c6; clear c6; obtain ⟨y164, hy164⟩ : ∃ y_ : List Bool, y_ = (List.replicate (a0 : Int).toNat false) := ⟨_, rfl⟩; replace H : (perm_Orbits.l0 k l1 y164 ([] : List (List Int)) a0 0) = some (r1, r2) := by first | (rw [hy164]; with_reducible exact H) | (have H2_ := (Option.bind_some _ _).symm.trans H; rw [hy164]; with_reducible exact H2_) | (have H2_ := (Option.bind_some _ _).symm.trans H; with_reducible exact H2_) | with_reducible exact H | (rw [hy164]; exact H) | exact H
        have Ny164 := aM hy164; clear hy164; have H' := aM H; clear H
        go_enter Try.func28, Try.ntmps28
        go_wp2_with (first | ((with_reducible refine gate_callee (f := 57) rfl ?_); refine goesL_ (some 17) rfl rfl Try.func57 (by kernel_rfl) rfl #[.int .i64 a0, .slice A1 l1.length c1] rfl zz51 ?_; (with_reducible refine (perm_generators.calls a0 _ _ l1 t163 _ ?side1 ?side2 A3.out).mono ?_); (case side1 => repeat (first | exact HR1.out | (with_reducible refine Kd.C_alloc ?_ _) | (with_reducible refine Kd.C_drewN ?_ _) | (with_reducible refine Kd.C_drew ?_))); (case side2 => exact HC1.out); rintro e w7 ⟨rfl, hb⟩; refine ⟨_, rfl, ?_⟩; replace HB := aM (below_step zz53 hb); (try clear hb); (try clear hb2); (try clear hk); (try clear hi)) | ((with_reducible refine gate_dst (N := 22) rfl ?_); refine Kd.R_make Kd.bool _ 4 rfl (N := 22) rfl 83 _ _ rfl a0 rfl rfl Try.underlying83 (.bool false) 1 info4 rfl (by decide) (by omega) false (ok := fun _ => True) (okp := fun _ => True) rfl (fun _ hk => hk) trivial (of_decide_eq_true zz76) (Nat.le_trans (Nat.mul_le_mul_right _ (of_decide_eq_true zz76 : a0.toNat ≤ 281474976710656)) (by omega)) (Below.refl _ _) (Nat.le_refl _) ?_; intro v165 w8 ho9 hb hg_ hnew_; clear hg_ hnew_; (first | rw [← Ny164.out] at ho9 | (simp only [Int.reduceToNat] at ho9; rw [← Ny164.out] at ho9)); have HO166 := aM (Kd.R_lower ho9 (below_size zz53)); replace HB := aM (below_step zz53 hb); clear hb ho9))
        go_loopg [8, 24] k (fun kq v8 v24 w' => ∃ (x7_1 : List Bool) (x8_1 : List (List Int)) (x24_1 : Int), v24 = .int .i64 x24_1 ∧ Aside0 (perm_Orbits.l0 kq l1 x7_1 x8_1 a0 x24_1 = some (r1, r2)) ∧ Aside0 (kq ≤ k) ∧ Aside0 (Kd.R Kd.bool 4 w' w.heap.size (fun _ => True) v165 x7_1) ∧ Aside0 (Kd.S (Kd.slice 3 (Kd.int .i64)) 22 w' w.heap.size (fun _ => True) v8 x8_1) ∧ Aside0 (Below w.heap.size w w'))
        case atStart => exact ⟨(y164), (([] : List (List Int))), (0), zz77, H', ⟨Nat.le_refl _⟩, ⟨(zR HO166)⟩, ⟨zz49⟩, ⟨zz53⟩⟩
        case round =>
          clear H'; (try clear c1); (try clear c2); (try clear p2); (try clear c4); (try clear c4b0); (try clear c4b1); (try clear c5); (try clear c5b0); (try clear c5b1); (try clear c6); (try clear c6b0); (try clear c6b1); obtain ⟨x7_1, x8_1, x24_1, rfl, HA, HK1, HO_7, HO_8, HB⟩ := hrel
          cases gk with
          | zero => exact absurd HA.out (by simp [perm_Orbits.l0])
          | succ k1 =>
            have H := HA.out; clear HA; simp only [perm_Orbits.l0] at H
            by_cases c10 : x24_1 < a0
            · rw [if_pos c10] at H; have c10b0 := decide_eq_true c10; clear c10
              by_cases c11 : 0 ≤ x24_1
              · rw [if_pos c11] at H; have c11b0 := decide_eq_true c11; clear c11
                by_cases c12 : x24_1 < (x7_1.length : Int)
                · rw [if_pos c12] at H; have c12b0 := decide_eq_true c12; clear c12; obtain ⟨bq13, hbq13⟩ : ∃ b_ : Bool, b_ = (rdOf false x7_1 x24_1) := ⟨_, rfl⟩; replace H : (if bq13 = true then (perm_Orbits.l0 k1 l1 x7_1 x8_1 a0 (wrap64 (x24_1 + 1))) else (perm_Orbits.l1 k1 l1 (x7_1.set (x24_1 : Int).toNat true) x8_1 (([x24_1] : List Int)) 0 a0 x24_1)) = some (r1, r2) := by rw [← hbq13] at H; exact H
                  have Nbq13 := aM hbq13; clear hbq13
                  by_cases c14 : bq13 = true
                  · subst c14; have H1 : (perm_Orbits.l0 k1 l1 x7_1 x8_1 a0 (wrap64 (x24_1 + 1))) = some (r1, r2) := by rw [if_pos rfl] at H; exact H
                    clear H; have H := H1; clear H1; have H' := aM H; clear H; obtain ⟨Ao15, co15, eo15⟩ := Kd.R_slice HO_7.out; subst eo15; have p167 : 0 ≤ (x24_1 : Int) := of_decide_eq_true zz76; have q167 : x24_1 < (x7_1.length : Int) := of_decide_eq_true zz76; obtain ⟨ad167, e167, hx167_0⟩ := Kd.at_bool (Kd.R_reads' HO_7.out).2.2 x24_1 p167 q167
                    (try rw [← Nbq13.out] at hx167_0)
                    cases e167; replace p167 := eq_true p167; replace q167 := eq_true q167; go_wp2
                    go_roundg k1
                    case measure => have := HK1.out; omega
                    case rel => exact ⟨(x7_1), (x8_1), (wrap64 (x24_1 + 1)), zz77, H', ⟨zz83⟩, ⟨(zR HO_7)⟩, ⟨(zS HO_8)⟩, ⟨zz53⟩⟩
                  replace c14 := Bool.eq_false_iff.mpr c14; subst c14; have H1 : (perm_Orbits.l1 k1 l1 (x7_1.set (x24_1 : Int).toNat true) x8_1 (([x24_1] : List Int)) 0 a0 x24_1) = some (r1, r2) := by rw [if_neg (show ¬ (false = true) by decide)] at H; exact H
                  clear H; have H := H1; clear H1; obtain ⟨y168, hy168⟩ : ∃ y_ : List Bool, y_ = (x7_1.set (x24_1 : Int).toNat true) := ⟨_, rfl⟩; replace H : (perm_Orbits.l1 k1 l1 y168 x8_1 (([x24_1] : List Int)) 0 a0 x24_1) = some (r1, r2) := by first | (rw [hy168]; with_reducible exact H) | (have H2_ := (Option.bind_some _ _).symm.trans H; rw [hy168]; with_reducible exact H2_) | (have H2_ := (Option.bind_some _ _).symm.trans H; with_reducible exact H2_) | with_reducible exact H | (rw [hy168]; exact H) | exact H
                  have Ny168 := aM hy168; clear hy168; obtain ⟨y169, hy169⟩ : ∃ y_ : List Int, y_ = (([x24_1] : List Int)) := ⟨_, rfl⟩; replace H : (perm_Orbits.l1 k1 l1 y168 x8_1 y169 0 a0 x24_1) = some (r1, r2) := by first | (rw [hy169]; with_reducible exact H) | (have H2_ := (Option.bind_some _ _).symm.trans H; rw [hy169]; with_reducible exact H2_) | (have H2_ := (Option.bind_some _ _).symm.trans H; with_reducible exact H2_) | with_reducible exact H | (rw [hy169]; exact H) | exact H
                  have Ny169 := aM hy169; clear hy169; have H' := aM H; clear H; obtain ⟨Ao17, co17, eo17⟩ := Kd.R_slice HO_7.out; subst eo17; have p167 : 0 ≤ (x24_1 : Int) := of_decide_eq_true zz76; have q167 : x24_1 < (x7_1.length : Int) := of_decide_eq_true zz76; obtain ⟨ad167, e167, hx167_0⟩ := Kd.at_bool (Kd.R_reads' HO_7.out).2.2 x24_1 p167 q167
                  (try rw [← Nbq13.out] at hx167_0)
                  cases e167; replace p167 := eq_true p167; replace q167 := eq_true q167; have p16 : 0 ≤ (x24_1 : Int) := of_decide_eq_true zz76; have q16 : (x24_1 : Int) < ((x7_1.length : Int) : Int) := of_decide_eq_true zz76; obtain ⟨go16, co16, eo16, gb16, gl16, cl16, HG16⟩ := Kd.R_form HO_7.out (by omega)
                  (first | cases eo16 | (injection eo16 with ea_ en_ ec_; (first | subst ea_ | (injection ea_ with ea_; subst ea_)); subst ec_; clear en_))
                  have GB16 := aM gb16; have GG16 := aM HG16; clear gb16 gl16 HG16
                  (first | simp only [add_plain] at hx167_0 | skip)
                  obtain ⟨hx16_0, hf16_0⟩ := Kd.R_celln false HO_7.out (x24_1 : Int) p16 q16; replace p16 := eq_true p16; replace q16 := eq_true q16; have HP18 := Kd.R_putg HO_7.out (x24_1 : Int) true
                  go_wp2_with (first | ((with_reducible refine gate_store (t := 4) (p := 33) rfl ?_); refine store_event (t := 4) (p := 33) (v := ?vo_w19) (w1 := (wr.setCell ⟨go16, (x24_1 : Int).toNat, none⟩ (.bool true))) ?hg ?ho ?hn ?hr ?_; (case ho => rfl); (case hg => rfl); (case hn => rfl); (case hr => first | (go_simp; done) | (go_simp; rfl)); intro w19 hw; have hg : wr.grownBy w19 (some go16) := (by rw [hw]; exact HP18.2); have hp_ : Kd.R Kd.bool 4 w19 w.heap.size (fun _ => True) (.slice (some ⟨go16, 0, none⟩) x7_1.length co17) y168 := (by rw [hw, Ny168.out]; exact HP18.1); clear HP18; replace HO_8 := aM (Kd.S_over' (v := (.slice (some ⟨go16, 0, none⟩) x7_1.length co17)) (zS HO_8) (Kd.R_typed HO_7.out) (by decide) hg); replace HO_7 := aM (hp_); replace HB := aM ((by rw [hw]; exact below_set (HB.out) GB16.out : Below w.heap.size w w19)); clear hg hw hp_) | ((with_reducible refine gate_dst (N := 35) rfl ?_); refine Kd.R_lit (Kd.int .i64) _ 3 ?hg (N := 35) ?hd (xs := ([x24_1] : List Int)) (inner := [.int .i64 x24_1]) (ok := fun _ => True) (okp := fun _ => True) ?hr ?hp (fun _ hk => hk) trivial (Below.refl _ _) (Nat.le_refl _) (by simp) ?_; (case hd => rfl); (case hg => rfl); (case hr => first | (go_simp; done) | (go_simp; rfl)); (case hp => exact (Reps.one (show Kd.M (Kd.int .i64) _ _ _ x24_1 [.int .i64 x24_1] from rfl) (Reps.none _ _))); intro v170 w20 ho21 hb hg_ hnew_; clear hg_ hnew_; (first | rw [← Ny169.out] at ho21 | (simp only [Int.reduceToNat] at ho21; rw [← Ny169.out] at ho21)); replace HO_7 := aM (Kd.R_below (zR HO_7) hb); replace HO_8 := aM (Kd.S_elder' (zS HO_8) (Kd.R_base ho21) hb); have HO171 := aM (Kd.R_lower ho21 (below_size zz53)); replace HB := aM (below_step zz53 hb); clear hb ho21))
                  go_loopg [10, 11] k1 (fun kq v10 v11 w' => ∃ (x7_2 : List Bool) (x10_2 : List Int) (x11_2 : Int), v11 = .int .i64 x11_2 ∧ Aside0 (perm_Orbits.l1 kq l1 x7_2 x8_1 x10_2 x11_2 a0 x24_1 = some (r1, r2)) ∧ Aside0 (kq ≤ k1) ∧ Aside0 (Kd.R Kd.bool 4 w' w.heap.size (fun _ => True) (.slice (some ⟨go16, 0, none⟩) x7_1.length co17) x7_2) ∧ Aside0 (Kd.S (Kd.slice 3 (Kd.int .i64)) 22 w' w.heap.size (fun k_ => some k_ ≠ (v10 : Value).ownBlock) u8 x8_1) ∧ Aside0 (Kd.R (Kd.int .i64) 3 w' w.heap.size (fun _ => True) v10 x10_2) ∧ Aside0 (Below w.heap.size w w'))
                  case atStart => exact ⟨(y168), (y169), (0), zz77, H', ⟨Nat.le_refl _⟩, ⟨(zR HO_7)⟩, ⟨(by (with_reducible repeat (first | apply Kd.S_alloc | apply Kd.S_drewN | apply Kd.S_drew)); exact Kd.S_mono HO_8.out (fun _ hk => hk.2))⟩, ⟨(zR HO171)⟩, ⟨zz53⟩⟩
                  case round =>
                    clear H'; (try clear c1); (try clear p1); (try clear q1); (try clear hx1); (try clear c2); (try clear p2); (try clear c4); (try clear c4b0); (try clear c4b1); (try clear c5); (try clear c5b0); (try clear c5b1); (try clear c6); (try clear c6b0); (try clear c6b1); (try clear p6); (try clear c10); (try clear c10b0); (try clear c11); (try clear c11b0); (try clear c12); (try clear c12b0); (try clear q13); (try clear c14); (try clear p16); (try clear q16); (try clear hx16); (try clear hf16); (try clear hx167_0); (try clear hx16_0); (try clear p16); (try clear p167); (try clear p2); (try clear q16); (try clear q167); obtain ⟨x7_2, x10_2, x11_2, rfl, HA, HK2, HO_7, HO_8, HO_10, HB⟩ := hrel; have hl7_2 := (Kd.R_reads' HO_7.out).1; rw [hl7_2] at HO_7
                    (try simp only [hl7_2])
                    (try simp only [hl7_2] at HO_8)
                    (try simp only [hl7_2] at HO_10)
                    cases gk with
                    | zero => exact absurd HA.out (by simp [perm_Orbits.l1])
                    | succ k2 =>
                      have H := HA.out; clear HA; simp only [perm_Orbits.l1] at H
                      by_cases c22 : x11_2 < (x10_2.length : Int)
                      · rw [if_pos c22] at H; have c22b0 := decide_eq_true c22; clear c22; have H' := aM H; clear H; obtain ⟨Ao23, co23, eo23⟩ := Kd.R_slice HO_10.out; subst eo23; go_wp2
                        go_loopg [10, 44] k2 (fun kq v10 v44 w' => ∃ (x7_3 : List Bool) (x10_3 : List Int) (x44_3 : Int), v44 = .int .i64 x44_3 ∧ Aside0 (perm_Orbits.l2 kq l1 x7_3 x8_1 x10_3 x11_2 a0 x24_1 l1 (l1.length : Int) x44_3 = some (r1, r2)) ∧ Aside0 (kq ≤ k2) ∧ Aside0 (Kd.R Kd.bool 4 w' w.heap.size (fun _ => True) (.slice (some ⟨go16, 0, none⟩) x7_2.length co17) x7_3) ∧ Aside0 (Kd.S (Kd.slice 3 (Kd.int .i64)) 22 w' w.heap.size (fun k_ => some k_ ≠ (v10 : Value).ownBlock) u8 x8_1) ∧ Aside0 (Kd.R (Kd.int .i64) 3 w' w.heap.size (fun _ => True) v10 x10_3) ∧ Aside0 (Below w.heap.size w w'))
                        case atStart => exact ⟨(x7_2), (x10_2), (0), zz77, H', ⟨Nat.le_refl _⟩, ⟨zz54⟩, ⟨(by (try simp only [hl7_2]); (with_reducible repeat (first | apply Kd.S_alloc | apply Kd.S_drewN | apply Kd.S_drew)); exact HO_8.out)⟩, ⟨(by (try simp only [hl7_2]); (with_reducible repeat (first | apply Kd.R_alloc | apply Kd.R_drewN | apply Kd.R_drew)); exact HO_10.out)⟩, ⟨zz53⟩⟩
                        case round =>
                          clear H'; (try clear c1); (try clear p1); (try clear q1); (try clear hx1); (try clear c2); (try clear p2); (try clear c4); (try clear c4b0); (try clear c4b1); (try clear c5); (try clear c5b0); (try clear c5b1); (try clear c6); (try clear c6b0); (try clear c6b1); (try clear p6); (try clear c10); (try clear c10b0); (try clear c11); (try clear c11b0); (try clear c12); (try clear c12b0); (try clear q13); (try clear c14); (try clear p16); (try clear q16); (try clear hx16); (try clear hf16); (try clear c22); (try clear c22b0); (try clear hx167_0); (try clear hx16_0); (try clear p1); (try clear p16); (try clear p167); (try clear p2); (try clear p6); (try clear q1); (try clear q13); (try clear q16); (try clear q167); obtain ⟨x7_3, x10_3, x44_3, rfl, HA, HK3, HO_7, HO_8, HO_10, HB⟩ := hrel; have hl7_3 := (Kd.R_reads' HO_7.out).1; rw [hl7_3] at HO_7
                          (try simp only [hl7_3])
                          (try simp only [hl7_3] at HO_8)
                          (try simp only [hl7_3] at HO_10)
                          cases gk with
                          | zero => exact absurd HA.out (by simp [perm_Orbits.l2])
                          | succ k3 =>
                            have H := HA.out; clear HA; simp only [perm_Orbits.l2] at H
                            by_cases c24 : x44_3 < (l1.length : Int)
                            · rw [if_pos c24] at H; have c24b0 := decide_eq_true c24; clear c24
                              by_cases c25 : 0 ≤ x44_3
                              · rw [if_pos c25] at H; have c25b0 := decide_eq_true c25; clear c25
                                by_cases c26 : x44_3 < (l1.length : Int)
                                · rw [if_pos c26] at H; have c26b0 := decide_eq_true c26; clear c26
                                  by_cases c27 : 0 ≤ x11_2
                                  · rw [if_pos c27] at H; have c27b0 := decide_eq_true c27; clear c27
                                    by_cases c28 : x11_2 < (x10_3.length : Int)
                                    · rw [if_pos c28] at H; have c28b0 := decide_eq_true c28; clear c28
                                      by_cases c29 : 0 ≤ (rd x10_3 x11_2)
                                      · rw [if_pos c29] at H; have c29b0 := decide_eq_true c29; clear c29
                                        by_cases c30 : (rd x10_3 x11_2) < ((rd_L1 l1 x44_3).length : Int)
                                        · rw [if_pos c30] at H; have c30b0 := decide_eq_true c30; clear c30
                                          by_cases c31 : 0 ≤ (rd (rd_L1 l1 x44_3) (rd x10_3 x11_2))
                                          · rw [if_pos c31] at H; have c31b0 := decide_eq_true c31; clear c31
                                            by_cases c32 : (rd (rd_L1 l1 x44_3) (rd x10_3 x11_2)) < (x7_3.length : Int)
                                            · rw [if_pos c32] at H; have c32b0 := decide_eq_true c32; clear c32; obtain ⟨bq33, hbq33⟩ : ∃ b_ : Bool, b_ = (rdOf false x7_3 (rd (rd_L1 l1 x44_3) (rd x10_3 x11_2))) := ⟨_, rfl⟩; replace H : (if (bq33 = true) then (perm_Orbits.l2 k3 l1 x7_3 x8_1 x10_3 x11_2 a0 x24_1 l1 (l1.length : Int) (wrap64 (x44_3 + 1))) else (if x10_3.length < 17592186044416 then (perm_Orbits.l2 k3 l1 (x7_3.set ((rd (rd_L1 l1 x44_3) (rd x10_3 x11_2)) : Int).toNat true) x8_1 (x10_3 ++ [rd (rd_L1 l1 x44_3) (rd x10_3 x11_2)]) x11_2 a0 x24_1 l1 (l1.length : Int) (wrap64 (x44_3 + 1))) else (none))) = some (r1, r2) := by rw [← hbq33] at H; exact H
                                              have Nbq33 := aM hbq33; clear hbq33
                                              by_cases c34 : (bq33 = true)
                                              · subst c34; have H1 : (perm_Orbits.l2 k3 l1 x7_3 x8_1 x10_3 x11_2 a0 x24_1 l1 (l1.length : Int) (wrap64 (x44_3 + 1))) = some (r1, r2) := by rw [if_pos rfl] at H; exact H
                                                clear H; have H := H1; clear H1; have H' := aM H; clear H; have p176 : 0 ≤ (x44_3 : Int) := of_decide_eq_true zz76; have q176 : x44_3 < (l1.length : Int) := of_decide_eq_true zz76; obtain ⟨ad176, A176_0, c176_0, e176, hx176_0, hl176_0, hi176_0⟩ := at_L1 HR1.out x44_3 p176 q176
                                                cases e176; replace hx176_0 := (HB.out.cell (World.block_lt_of_cell? w _ hx176_0)).trans hx176_0; have HR176_0 := aM hi176_0; have HC176_0 := aM hl176_0; clear hi176_0 hl176_0; replace p176 := eq_true p176; replace q176 := eq_true q176; obtain ⟨Ao35, co35, eo35⟩ := Kd.R_slice HO_10.out; subst eo35; have p177 : 0 ≤ (x11_2 : Int) := of_decide_eq_true zz76; have q177 : x11_2 < (x10_3.length : Int) := of_decide_eq_true zz76; obtain ⟨ad177, e177, hx177_0⟩ := Kd.at_int (Kd.R_reads' HO_10.out).2.2 x11_2 p177 q177
                                                cases e177; replace p177 := eq_true p177; replace q177 := eq_true q177; have p178 : 0 ≤ ((rd x10_3 x11_2) : Int) := of_decide_eq_true zz76; have q178 : (rd x10_3 x11_2) < ((rd_L1 l1 x44_3).length : Int) := of_decide_eq_true zz76; obtain ⟨ad178, e178, hx178_0⟩ := Kd.at_int HR176_0.out (rd x10_3 x11_2) p178 q178
                                                cases e178; replace hx178_0 := (HB.out.cell (World.block_lt_of_cell? w _ hx178_0)).trans hx178_0; replace p178 := eq_true p178; replace q178 := eq_true q178; have p179 : 0 ≤ ((rd (rd_L1 l1 x44_3) (rd x10_3 x11_2)) : Int) := of_decide_eq_true zz76; have q179 : (rd (rd_L1 l1 x44_3) (rd x10_3 x11_2)) < (x7_3.length : Int) := of_decide_eq_true zz76; obtain ⟨ad179, e179, hx179_0⟩ := Kd.at_bool (Kd.R_reads' HO_7.out).2.2 (rd (rd_L1 l1 x44_3) (rd x10_3 x11_2)) p179 q179
                                                (try rw [← Nbq13.out] at hx179_0)
                                                (try rw [← Nbq33.out] at hx179_0)
                                                obtain rfl : (⟨go16, 0, none⟩ : Addr) = ad179 := (by injection e179)
                                                (first | simp only [add_plain] at hx179_0 | simp only [add_at] at hx179_0 | simp only [Addr.add, Nat.zero_add] at hx179_0 | skip)
                                                replace p179 := eq_true p179; replace q179 := eq_true q179; go_wp2
                                                (try simp only [← hl7_3])
                                                go_roundg k3
                                                case measure => have := HK1.out; have := HK2.out; have := HK3.out; omega
                                                case rel => exact ⟨(x7_3), (x10_3), (wrap64 (x44_3 + 1)), zz77, H', ⟨zz75⟩, ⟨zz47⟩, ⟨zz48⟩, ⟨zz46⟩, ⟨zz53⟩⟩
                                              replace c34 := Bool.eq_false_iff.mpr c34; subst c34; have H1 : (if x10_3.length < 17592186044416 then (perm_Orbits.l2 k3 l1 (x7_3.set ((rd (rd_L1 l1 x44_3) (rd x10_3 x11_2)) : Int).toNat true) x8_1 (x10_3 ++ [rd (rd_L1 l1 x44_3) (rd x10_3 x11_2)]) x11_2 a0 x24_1 l1 (l1.length : Int) (wrap64 (x44_3 + 1))) else (none)) = some (r1, r2) := by rw [if_neg (show ¬ (false = true) by decide)] at H; exact H
                                              clear H; have H := H1; clear H1; obtain ⟨y180, hy180⟩ : ∃ y_ : List Bool, y_ = (x7_3.set ((rd (rd_L1 l1 x44_3) (rd x10_3 x11_2)) : Int).toNat true) := ⟨_, rfl⟩; replace H : (if x10_3.length < 17592186044416 then (perm_Orbits.l2 k3 l1 y180 x8_1 (x10_3 ++ [rd (rd_L1 l1 x44_3) (rd x10_3 x11_2)]) x11_2 a0 x24_1 l1 (l1.length : Int) (wrap64 (x44_3 + 1))) else (none)) = some (r1, r2) := by first | (rw [hy180]; with_reducible exact H) | (have H2_ := (Option.bind_some _ _).symm.trans H; rw [hy180]; with_reducible exact H2_) | (have H2_ := (Option.bind_some _ _).symm.trans H; with_reducible exact H2_) | with_reducible exact H | (rw [hy180]; exact H) | exact H
                                              have Ny180 := aM hy180; clear hy180
                                              by_cases c37 : x10_3.length < 17592186044416
                                              · rw [if_pos c37] at H; have LMc37 := aM c37; clear c37; obtain ⟨y181, hy181⟩ : ∃ y_ : List Int, y_ = (x10_3 ++ [rd (rd_L1 l1 x44_3) (rd x10_3 x11_2)]) := ⟨_, rfl⟩; replace H : (perm_Orbits.l2 k3 l1 y180 x8_1 y181 x11_2 a0 x24_1 l1 (l1.length : Int) (wrap64 (x44_3 + 1))) = some (r1, r2) := by first | (rw [hy181]; with_reducible exact H) | (have H2_ := (Option.bind_some _ _).symm.trans H; rw [hy181]; with_reducible exact H2_) | (have H2_ := (Option.bind_some _ _).symm.trans H; with_reducible exact H2_) | with_reducible exact H | (rw [hy181]; exact H) | exact H
                                                have Ny181 := aM hy181; clear hy181; have H' := aM H; clear H; have p176 : 0 ≤ (x44_3 : Int) := of_decide_eq_true zz76; have q176 : x44_3 < (l1.length : Int) := of_decide_eq_true zz76; obtain ⟨ad176, A176_0, c176_0, e176, hx176_0, hl176_0, hi176_0⟩ := at_L1 HR1.out x44_3 p176 q176
                                                cases e176; replace hx176_0 := (HB.out.cell (World.block_lt_of_cell? w _ hx176_0)).trans hx176_0; have HR176_0 := aM hi176_0; have HC176_0 := aM hl176_0; clear hi176_0 hl176_0; replace p176 := eq_true p176; replace q176 := eq_true q176; obtain ⟨Ao38, co38, eo38⟩ := Kd.R_slice HO_10.out; subst eo38; have p177 : 0 ≤ (x11_2 : Int) := of_decide_eq_true zz76; have q177 : x11_2 < (x10_3.length : Int) := of_decide_eq_true zz76; obtain ⟨ad177, e177, hx177_0⟩ := Kd.at_int (Kd.R_reads' HO_10.out).2.2 x11_2 p177 q177
                                                cases e177; replace p177 := eq_true p177; replace q177 := eq_true q177; have p178 : 0 ≤ ((rd x10_3 x11_2) : Int) := of_decide_eq_true zz76; have q178 : (rd x10_3 x11_2) < ((rd_L1 l1 x44_3).length : Int) := of_decide_eq_true zz76; obtain ⟨ad178, e178, hx178_0⟩ := Kd.at_int HR176_0.out (rd x10_3 x11_2) p178 q178
                                                cases e178; replace hx178_0 := (HB.out.cell (World.block_lt_of_cell? w _ hx178_0)).trans hx178_0; replace p178 := eq_true p178; replace q178 := eq_true q178; have p179 : 0 ≤ ((rd (rd_L1 l1 x44_3) (rd x10_3 x11_2)) : Int) := of_decide_eq_true zz76; have q179 : (rd (rd_L1 l1 x44_3) (rd x10_3 x11_2)) < (x7_3.length : Int) := of_decide_eq_true zz76; obtain ⟨ad179, e179, hx179_0⟩ := Kd.at_bool (Kd.R_reads' HO_7.out).2.2 (rd (rd_L1 l1 x44_3) (rd x10_3 x11_2)) p179 q179
                                                (try rw [← Nbq13.out] at hx179_0)
                                                (try rw [← Nbq33.out] at hx179_0)
                                                obtain rfl : (⟨go16, 0, none⟩ : Addr) = ad179 := (by injection e179)
                                                (first | simp only [add_plain] at hx179_0 | simp only [add_at] at hx179_0 | simp only [Addr.add, Nat.zero_add] at hx179_0 | skip)
                                                replace p179 := eq_true p179; replace q179 := eq_true q179; have p36 : 0 ≤ ((rd (rd_L1 l1 x44_3) (rd x10_3 x11_2)) : Int) := of_decide_eq_true zz76; have q36 : ((rd (rd_L1 l1 x44_3) (rd x10_3 x11_2)) : Int) < ((x7_3.length : Int) : Int) := of_decide_eq_true zz76; obtain ⟨hx36_0, hf36_0⟩ := Kd.R_celln false HO_7.out ((rd (rd_L1 l1 x44_3) (rd x10_3 x11_2)) : Int) p36 q36; replace p36 := eq_true p36; replace q36 := eq_true q36; have HP39 := Kd.R_putg HO_7.out ((rd (rd_L1 l1 x44_3) (rd x10_3 x11_2)) : Int) true
                                                go_wp2_with (first | ((with_reducible refine gate_store (t := 4) (p := 62) rfl ?_); refine store_event (t := 4) (p := 62) (v := ?vo_w40) (w1 := (wr.setCell ⟨go16, ((rd (rd_L1 l1 x44_3) (rd x10_3 x11_2)) : Int).toNat, none⟩ (.bool true))) ?hg ?ho ?hn ?hr ?_; (case ho => rfl); (case hg => rfl); (case hn => rfl); (case hr => first | (go_simp; done) | (go_simp; rfl)); intro w40 hw; have hg : wr.grownBy w40 (some go16) := (by rw [hw]; exact HP39.2); have hp_ : Kd.R Kd.bool 4 w40 w.heap.size (fun _ => True) (.slice (some ⟨go16, 0, none⟩) x7_3.length co17) y180 := (by rw [hw, Ny180.out]; exact HP39.1); clear HP39; replace HO_8 := aM (Kd.S_over' (v := (.slice (some ⟨go16, 0, none⟩) x7_3.length co17)) (zS HO_8) (Kd.R_typed HO_7.out) (by decide) hg); replace HO_10 := aM (Kd.R_over' (v := (.slice (some ⟨go16, 0, none⟩) x7_3.length co17)) (zR HO_10) (Kd.R_typed HO_7.out) (by decide) hg); replace HO_7 := aM (hp_); replace HB := aM ((by rw [hw]; exact below_set (HB.out) GB16.out : Below w.heap.size w w40)); clear hg hw hp_) | ((with_reducible refine gate_builtin (b := .append) (xs := #[.tmp 63, .tmp 65]) rfl ?_); at_builtin; refine Kd.R_append (Kd.int .i64) (w0 := w) w.heap.size rfl (.tmp 63) (.tmp 65) 22 3 (.int .i64 0) 8 rfl Try.underlying22 info3 rfl (by decide) (by omega) (.slice (some ad177) x10_3.length co38) x10_3 (rd (rd_L1 l1 x44_3) (rd x10_3 x11_2)) [.int .i64 (rd (rd_L1 l1 x44_3) (rd x10_3 x11_2))] (fun _ => True) (fun _ => False) rfl rfl ?aP (fun _ hk => hk.elim) ?aF ?aO ?aB ?aS ?aL ?_; (case aP => exact rfl); (case aB => exact zz53); (case aF => exact (fun _ _ => trivial)); (case aO => exact (zR HO_10)); (case aS => exact (below_size zz53)); (case aL => have := LMc37.out; omega); intro v182 w41 ho hb hg hat; rw [← Ny181.out] at ho; replace HO_7 := aM (Kd.R_over' (zR HO_7) (Kd.R_typed (zR HO_10)) (by decide) hg); replace HO_8 := aM (Kd.S_after (ok := (fun _ => True)) (by (with_reducible repeat (first | apply Kd.S_alloc | apply Kd.S_drewN | apply Kd.S_drew)); exact Kd.S_mono HO_8.out (fun _ hk => ⟨trivial, hk⟩)) hg hat); replace HB := aM (hb); have HO183 := aM (ho); clear HO_10; clear ho hb hg hat))
                                                (try simp only [← hl7_3])
                                                go_roundg k3
                                                case measure => have := HK1.out; have := HK2.out; have := HK3.out; omega
                                                case rel => exact ⟨(y180), (y181), (wrap64 (x44_3 + 1)), zz77, H', ⟨zz75⟩, ⟨zz47⟩, ⟨(by (try simp only [hl7_2]); (try simp only [hl7_3]); (with_reducible repeat (first | apply Kd.S_alloc | apply Kd.S_drewN | apply Kd.S_drew)); exact Kd.S_mono HO_8.out (fun _ hk => hk.2))⟩, ⟨(by (try simp only [hl7_2]); (try simp only [hl7_3]); (with_reducible repeat (first | apply Kd.R_alloc | apply Kd.R_drewN | apply Kd.R_drew)); exact HO183.out)⟩, ⟨zz53⟩⟩
                                              rw [if_neg c37] at H
                                              exact absurd H (by simp)
                                            rw [if_neg c32] at H
                                            exact absurd H (by simp)
                                          rw [if_neg c31] at H
                                          exact absurd H (by simp)
                                        rw [if_neg c30] at H
                                        exact absurd H (by simp)
                                      rw [if_neg c29] at H
                                      exact absurd H (by simp)
                                    rw [if_neg c28] at H
                                    exact absurd H (by simp)
                                  rw [if_neg c27] at H
                                  exact absurd H (by simp)
                                rw [if_neg c26] at H
                                exact absurd H (by simp)
                              rw [if_neg c25] at H
                              exact absurd H (by simp)
                            rw [if_neg c24] at H; have c24b0 := decide_eq_false c24; clear c24; have H' := aM H; clear H; go_wp2
                            (try simp only [← hl7_2, ← hl7_3])
                            go_roundg k3
                            case measure => have := HK1.out; have := HK2.out; have := HK3.out; omega
                            case rel => exact ⟨(x7_3), (x10_3), (wrap64 (x11_2 + 1)), zz77, H', ⟨zz75⟩, ⟨zz47⟩, ⟨zz48⟩, ⟨zz46⟩, ⟨zz53⟩⟩
                      rw [if_neg c22] at H; have c22b0 := decide_eq_false c22; clear c22; replace H := Option.bind_eq_some_iff.mp H; obtain ⟨t172, A420, H⟩ := H; replace H : (if x8_1.length < 5864062014805 then (perm_Orbits.l0 k2 l1 x7_2 (x8_1 ++ [t172]) a0 (wrap64 (x24_1 + 1))) else (none)) = some (r1, r2) := H; have A42 := aM A420; clear A420
                      by_cases c43 : x8_1.length < 5864062014805
                      · rw [if_pos c43] at H; have LMc43 := aM c43; clear c43; obtain ⟨y173, hy173⟩ : ∃ y_ : List (List Int), y_ = (x8_1 ++ [t172]) := ⟨_, rfl⟩; replace H : (perm_Orbits.l0 k2 l1 x7_2 y173 a0 (wrap64 (x24_1 + 1))) = some (r1, r2) := by first | (rw [hy173]; with_reducible exact H) | (have H2_ := (Option.bind_some _ _).symm.trans H; rw [hy173]; with_reducible exact H2_) | (have H2_ := (Option.bind_some _ _).symm.trans H; with_reducible exact H2_) | with_reducible exact H | (rw [hy173]; exact H) | exact H
                        have Ny173 := aM hy173; clear hy173; have H' := aM H; clear H; obtain ⟨Ao44, co44, eo44⟩ := Kd.R_slice HO_10.out; subst eo44
                        go_wp2_with (first | ((with_reducible refine gate_callee (f := 58) rfl ?_); refine goesL_ (some 69) rfl rfl Try.func58 (by kernel_rfl) rfl #[.slice Ao44 x10_2.length co44] rfl zz51 ?_; (with_reducible refine (slSort.calls (fun k_ => some k_ = (.slice Ao44 x10_2.length co44 : Value).ownBlock) (.slice Ao44 x10_2.length co44) x10_2 t172 w _ ?side1 ?side2 A42.out).mono ?_); (case side1 => repeat (first | (with_reducible first | exact HB.out | apply below_alloc | apply pw_below_drewN | apply below_drew1) | exact HB.out)); (case side2 => exact Kd.R_tight rfl HO_10.out); rintro e w45 ⟨rfl, hy0, hb, hkp⟩; refine ⟨_, rfl, ?_⟩; replace HO_7 := aM (Kd.R_mono (ok' := fun k_ => True) (Kd.R_keptB ((Kd.R_apart' HO_7.out (Kd.R_typed HO_10.out) (by decide))) hkp (fun k_ hk_ hs_ => (hk_.2) hs_)) (fun k_ hk_ => trivial)); replace HO_8 := aM (Kd.S_mono (ok' := fun k_ => some k_ ≠ (.slice Ao44 x10_2.length co44 : Value).ownBlock) (Kd.S_keptB (HO_8.out) hkp (fun k_ hk_ hs_ => (hk_) hs_)) (fun k_ hk_ => hk_.1)); replace HO_10 := aM (Kd.R_reok rfl hy0 (fun k_ e_ => HO_10.out.1 k_ e_)); replace HB := aM (hb); (try clear hb); (try clear hkp); (try clear hy0)) | ((with_reducible refine gate_builtin (b := .append) (xs := #[.tmp 70, .tmp 72]) rfl ?_); at_builtin; refine Kd.S_append (Kd.slice 3 (Kd.int .i64)) (w0 := w) w.heap.size rfl (.tmp 70) (.tmp 72) 28 22 (.slice none 0 0) 24 rfl Try.underlying28 info22 rfl (by decide) (by omega) u8 x8_1 t172 [.slice Ao44 x10_2.length co44] (fun _ => True) (fun k_ => some k_ = (.slice Ao44 x10_2.length co44 : Value).ownBlock) rfl rfl ?aP (fun k_ hk_ => ((Kd.R_mono (ok' := fun k_ => ((fun _ => True)) k_ ∧ some k_ ≠ (u8 : Value).ownBlock) (Kd.R_apart' (HO_10.out) (Kd.S_typed HO_8.out) (by decide)) (fun k_ hk => ⟨trivial, hk.2⟩))).1 k_ hk_.symm) ?aF ?aO ?aB ?aS ?aL ?_; (case aP => exact Kd.M_row (Kd.R_mono (Kd.R_tight rfl (Kd.R_mono (ok' := fun k_ => ((fun _ => True)) k_ ∧ some k_ ≠ (u8 : Value).ownBlock) (Kd.R_apart' (HO_10.out) (Kd.S_typed HO_8.out) (by decide)) (fun k_ hk => ⟨trivial, hk.2⟩))) (fun _ h_ => h_))); (case aB => exact zz53); (case aF => exact (fun _ _ => trivial)); (case aO => exact (by (with_reducible repeat (first | apply Kd.S_alloc | apply Kd.S_drewN | apply Kd.S_drew)); exact Kd.S_mono HO_8.out (fun k_ hk => ⟨trivial, fun e_ => hk e_⟩))); (case aS => exact (below_size zz53)); (case aL => have := LMc43.out; omega); intro v174 w46 ho hb hg hat; rw [← Ny173.out] at ho; replace HO_7 := aM (Kd.R_over' (zR HO_7) (Kd.S_typed (zS HO_8)) (by decide) hg); replace HB := aM (hb); have HO175 := aM (ho); clear HO_8 HO_10; clear ho hb hg hat))
                        (try simp only [← hl7_2])
                        go_roundg k2
                        case measure => have := HK1.out; have := HK2.out; omega
                        case rel => exact ⟨(x7_2), (y173), (wrap64 (x24_1 + 1)), zz77, H', ⟨zz78⟩, ⟨zz54⟩, ⟨(by (try simp only [hl7_2]); (with_reducible repeat (first | apply Kd.S_alloc | apply Kd.S_drewN | apply Kd.S_drew)); exact HO175.out)⟩, ⟨zz53⟩⟩
                      rw [if_neg c43] at H
                      exact absurd H (by simp)
                rw [if_neg c12] at H
                exact absurd H (by simp)
              rw [if_neg c11] at H
              exact absurd H (by simp)
            rw [if_neg c10] at H; have c10b0 := decide_eq_false c10; clear c10; simp only [Option.some.injEq, Prod.mk.injEq] at H; obtain ⟨rfl, rfl⟩ := H; go_wp2
            go_ret2
            exact ⟨_, by first | rfl | (simp [errW_none, errW_some] <;> rfl) | (simp [*, errW_none, errW_some] <;> rfl), by (with_reducible repeat (first | apply Kd.S_alloc | apply Kd.S_drewN | apply Kd.S_drew)); exact HO_8.out, by repeat (first | (with_reducible first | exact HB.out | apply below_alloc | apply pw_below_drewN | apply below_drew1) | exact HB.out)⟩
      rw [if_neg c6] at H
      exact absurd H (by simp)
    rw [if_neg c5] at H
    exact absurd H (by simp)
  rw [if_neg c4] at H
  have c4b0 := beq_eq_false_iff_ne.mpr c4
  have c4b1 := bne_iff_ne.mpr c4
  simp only [Option.some.injEq, Prod.mk.injEq] at H
  obtain ⟨rfl, rfl⟩ := H
  go_enter Try.func28, Try.ntmps28
  go_wp2_with (first | ((with_reducible refine gate_callee (f := 57) rfl ?_); refine goesL_ (some 17) rfl rfl Try.func57 (by kernel_rfl) rfl #[.int .i64 a0, .slice A1 l1.length c1] rfl zz51 ?_; (with_reducible refine (perm_generators.calls a0 _ _ l1 t163 _ ?side1 ?side2 A3.out).mono ?_); (case side1 => repeat (first | exact HR1.out | (with_reducible refine Kd.C_alloc ?_ _) | (with_reducible refine Kd.C_drewN ?_ _) | (with_reducible refine Kd.C_drew ?_))); (case side2 => exact HC1.out); rintro e w47 ⟨rfl, hb⟩; refine ⟨_, rfl, ?_⟩; replace HB := aM (below_step zz53 hb); (try clear hb); (try clear hb2); (try clear hk); (try clear hi)))
  go_ret2
  exact ⟨_, by first | rfl | (simp [errW_none, errW_some] <;> rfl) | (simp [*, errW_none, errW_some] <;> rfl), by first | exact Kd.S_nil _ _ _ _ _ | exact Kd.N_nil _ _ _ _ _ | exact Kd.V_nil _ _ _ _ _ | exact Kd.Q_nil _ _ _ _ _ | exact Kd.R_nil _ _ _ _ _, by repeat (first | (with_reducible first | exact HB.out | apply below_alloc | apply pw_below_drewN | apply below_drew1) | exact HB.out)⟩
end
section
attribute [local go_sem] max2_int min2_int max_two min_two max_three min_three max_four min_four
mutual
def r09_Few.j0 : Nat → Int → Bool → Int → List (List Int) → Option (Bool)
  | 0, _, _, _, _ => none
  | k + 1, x1, x16, x481000, x481001 => if x16 = true then (some false) else (r09_Few.l0 k (wrap64 (x1 - (x481001.length : Int))) 0 x481000 x481001)
def r09_Few.l0 : Nat → Int → Int → Int → List (List Int) → Option (Bool)
  | 0, _, _, _, _ => none
  | k + 1, x5, x6, x481000, x481001 => if x6 < (x481001.length : Int) then (if 0 ≤ x6 then (if ((rd_L1 x481001 x6).length : Int) > x5 then (some false) else (r09_Few.l0 k (wrap64 (x5 - ((rd_L1 x481001 x6).length : Int))) (wrap64 (x6 + 1)) x481000 x481001)) else (none)) else (some true)
end
def r09_Few.f (k : Nat) (a0_0 : Int) (l0_1 : List (List Int)) (a1 : Int) : Option (Bool) := if a0_0 > 260 then (r09_Few.j0 k a1 true a0_0 l0_1) else (r09_Few.j0 k a1 (decide ((l0_1.length : Int) > a1)) a0_0 l0_1)
theorem r09_Few.calls (k : Nat) (a0_0 : Int) (A0_1 : Option Addr) (c0_1 : Nat) (l0_1 : List (List Int)) (a1 : Int) (r : Bool) (w : World) (hr0_1 : Kd.C (Kd.slice 3 (Kd.int .i64)) w A0_1 l0_1.length l0_1) (hc0_1 : l0_1.length ≤ c0_1) (h : r09_Few.f k a0_0 l0_1 a1 = some r) :
    Calls Try.prog 27 #[.agg #[.int .i64 a0_0, .slice A0_1 l0_1.length c0_1], .int .i64 a1] w fun e w' => e = .returned (.bool r) ∧ Below w.heap.size w w' := by
  have hu42 := Try.underlying42
  have HR0_1 := aM hr0_1
  have HC0_1 := aM hc0_1
  clear hr0_1 hc0_1
  have HB := aM (Below.refl w.heap.size w)
  have H : (if a0_0 > 260 then (r09_Few.j0 k a1 true a0_0 l0_1) else (r09_Few.j0 k a1 (decide ((l0_1.length : Int) > a1)) a0_0 l0_1)) = some r := h
  clear h
  have HC3 := aM H
  clear H
  go_enter Try.func27, Try.ntmps27
  go_upto_region 1 with (first | ((with_reducible refine gate_dst (N := 2) rfl ?_); (try (refine gate_guard (by rfl) ?_; dsimp only)); refine box_event ?hg (N := 2) ?hd (cs := #[.int .i64 a0_0, .slice A0_1 l0_1.length c0_1]) (t := 42) ?hr ?_; (case hd => rfl); (case hg => rfl); (case hr => first | (go_simp; done) | (go_simp; rfl)); intro gb480 hg w4 hbox hb; have BK480 := aM (hbox); have GW480 := aM ((by rw [hg]; exact (below_size zz53) : w.heap.size ≤ gb480)); have GE480 := aM ((by rw [hg]; exact (below_size zz53) : w.heap.size ≤ gb480)); replace HB := aM (below_step zz53 hb); clear hb hbox hg))
  (try simp only [Act.put, List.setIfInBounds_toArray, List.set_cons_zero, List.set_cons_succ])
  go_cut [16] (fun v16 wc => ∃ (kq : Nat) (x16_2 : Bool), v16 = .bool x16_2 ∧ Aside0 (r09_Few.j0 kq a1 x16_2 a0_0 l0_1 = some r) ∧ Aside0 (kq ≤ k) ∧ Aside0 (wc.heap[gb480]? = some (.cells #[.int .i64 a0_0, (.slice A0_1 l0_1.length c0_1)] 42 (0, 0))) ∧ Aside0 (Below w.heap.size w wc))
  case first =>
    have H := HC3.out; clear HC3
    by_cases c5 : a0_0 > 260
    · rw [if_pos c5] at H; have c5b0 := decide_eq_true c5; clear c5
      (first | rw [c5b0] | (simp only [i64_w, i32_w]; rw [c5b0]) | skip)
      have H' := aM H; clear H; have hcz6_0 : w4.cell? ⟨gb480, 0, none⟩ = some (.int .i64 a0_0) := (blk_cell BK480.out 0).trans rfl; have hcz6_1 : w4.cell? ⟨gb480, 1, none⟩ = some (.slice A0_1 l0_1.length c0_1) := (blk_cell BK480.out 1).trans rfl; have hfz6_0 := blk_frozen BK480.out 0; have hfz6_1 := blk_frozen BK480.out 1; go_wp2; go_meet
      case rel => exact ⟨_, (true), zz77, H', ⟨zz79⟩, ⟨(zB BK480)⟩, ⟨zz39⟩⟩
    rw [if_neg c5] at H; have c5b0 := decide_eq_false c5; clear c5
    (first | rw [c5b0] | (simp only [i64_w, i32_w]; rw [c5b0]) | skip)
    have H' := aM H; clear H; have hcz7_0 : w4.cell? ⟨gb480, 0, none⟩ = some (.int .i64 a0_0) := (blk_cell BK480.out 0).trans rfl; have hcz7_1 : w4.cell? ⟨gb480, 1, none⟩ = some (.slice A0_1 l0_1.length c0_1) := (blk_cell BK480.out 1).trans rfl; have hfz7_0 := blk_frozen BK480.out 0; have hfz7_1 := blk_frozen BK480.out 1; go_wp2; go_meet
    case rel => exact ⟨_, (decide ((l0_1.length : Int) > a1)), zz77, H', ⟨zz79⟩, ⟨(zB BK480)⟩, ⟨zz39⟩⟩
  case rest =>
    clear HC3; (try clear c2); (try clear p2); (try clear c5); (try clear c5b0); (try clear hcz6_0); (try clear hcz6_1); (try clear hcz7_0); (try clear hcz7_1); (try clear hfz6_0); (try clear hfz6_1); (try clear hfz7_0); (try clear hfz7_1); obtain ⟨kq, x16_2, rfl, HA, HJ2, BK480, HB⟩ := hcut
    cases kq with
    | zero => exact absurd HA.out (by simp [r09_Few.j0])
    | succ kj2 =>
      have H := HA.out; clear HA; simp only [r09_Few.j0] at H
      by_cases c8 : x16_2 = true
      · subst c8; have H1 : (some false) = some r := by rw [if_pos rfl] at H; exact H
        clear H; have H := H1; clear H1; obtain rfl := Option.some.inj H; go_wp2; go_ret
        exact ⟨by first | rfl | (simp [errW_none, errW_some] <;> rfl) | (simp [*, errW_none, errW_some] <;> rfl), by repeat (first | (with_reducible first | exact HB.out | apply below_alloc | apply pw_below_drewN | apply below_drew1 | refine below_set ?_ GE480.out) | exact HB.out)⟩
      replace c8 := Bool.eq_false_iff.mpr c8; subst c8; have H1 : (r09_Few.l0 kj2 (wrap64 (a1 - (l0_1.length : Int))) 0 a0_0 l0_1) = some r := by rw [if_neg (show ¬ (false = true) by decide)] at H; exact H
      clear H; have H := H1; clear H1; have H' := aM H; clear H; have hcz9_0 : wc.cell? ⟨gb480, 0, none⟩ = some (.int .i64 a0_0) := (blk_cell BK480.out 0).trans rfl; have hcz9_1 : wc.cell? ⟨gb480, 1, none⟩ = some (.slice A0_1 l0_1.length c0_1) := (blk_cell BK480.out 1).trans rfl; have hfz9_0 := blk_frozen BK480.out 0; have hfz9_1 := blk_frozen BK480.out 1; go_wp2
      go_loopg [5, 6] kj2 (fun kq v5 v6 w' => ∃ (x5_2 : Int) (x6_2 : Int), v5 = .int .i64 x5_2 ∧ v6 = .int .i64 x6_2 ∧ Aside0 (r09_Few.l0 kq x5_2 x6_2 a0_0 l0_1 = some r) ∧ Aside0 (kq ≤ kj2) ∧ Aside0 (w'.heap[gb480]? = some (.cells #[.int .i64 a0_0, (.slice A0_1 l0_1.length c0_1)] 42 (0, 0))) ∧ Aside0 (Below w.heap.size w w'))
      case atStart => exact ⟨(wrap64 (a1 - (l0_1.length : Int))), (0), zz77, zz77, H', ⟨Nat.le_refl _⟩, ⟨(zB BK480)⟩, ⟨zz39⟩⟩
      case round =>
        clear H'; (try clear c2); (try clear p2); (try clear c5); (try clear c5b0); (try clear p6); (try clear c8); (try clear hcz6_0); (try clear hcz6_1); (try clear hcz7_0); (try clear hcz7_1); (try clear hcz9_0); (try clear hcz9_1); (try clear hfz6_0); (try clear hfz6_1); (try clear hfz7_0); (try clear hfz7_1); (try clear hfz9_0); (try clear hfz9_1); (try clear p2); obtain ⟨x5_2, x6_2, rfl, rfl, HA, HK2, BK480, HB⟩ := hrel
        cases gk with
        | zero => exact absurd HA.out (by simp [r09_Few.l0])
        | succ k2 =>
          have H := HA.out; clear HA; simp only [r09_Few.l0] at H
          by_cases c10 : x6_2 < (l0_1.length : Int)
          · rw [if_pos c10] at H; have c10b0 := decide_eq_true c10; clear c10
            by_cases c11 : 0 ≤ x6_2
            · rw [if_pos c11] at H; have c11b0 := decide_eq_true c11; clear c11
              by_cases c12 : ((rd_L1 l0_1 x6_2).length : Int) > x5_2
              · rw [if_pos c12] at H; have c12b0 := decide_eq_true c12; clear c12; obtain rfl := Option.some.inj H; have hcz13_0 : wr.cell? ⟨gb480, 0, none⟩ = some (.int .i64 a0_0) := (blk_cell BK480.out 0).trans rfl; have hcz13_1 : wr.cell? ⟨gb480, 1, none⟩ = some (.slice A0_1 l0_1.length c0_1) := (blk_cell BK480.out 1).trans rfl; have hfz13_0 := blk_frozen BK480.out 0; have hfz13_1 := blk_frozen BK480.out 1; have p481 : 0 ≤ (x6_2 : Int) := of_decide_eq_true zz76; have q481 : x6_2 < (l0_1.length : Int) := of_decide_eq_true zz76; obtain ⟨ad481, A481_0, c481_0, e481, hx481_0, hl481_0, hi481_0⟩ := at_L1 HR0_1.out x6_2 p481 q481
                cases e481; replace hx481_0 := (HB.out.cell (World.block_lt_of_cell? w _ hx481_0)).trans hx481_0; have HR481_0 := aM hi481_0; have HC481_0 := aM hl481_0; clear hi481_0 hl481_0; replace p481 := eq_true p481; replace q481 := eq_true q481; go_wp2; go_ret
                exact ⟨by first | rfl | (simp [errW_none, errW_some] <;> rfl) | (simp [*, errW_none, errW_some] <;> rfl), by repeat (first | (with_reducible first | exact HB.out | apply below_alloc | apply pw_below_drewN | apply below_drew1 | refine below_set ?_ GE480.out) | exact HB.out)⟩
              rw [if_neg c12] at H; have c12b0 := decide_eq_false c12; clear c12; have H' := aM H; clear H; have hcz14_0 : wr.cell? ⟨gb480, 0, none⟩ = some (.int .i64 a0_0) := (blk_cell BK480.out 0).trans rfl; have hcz14_1 : wr.cell? ⟨gb480, 1, none⟩ = some (.slice A0_1 l0_1.length c0_1) := (blk_cell BK480.out 1).trans rfl; have hfz14_0 := blk_frozen BK480.out 0; have hfz14_1 := blk_frozen BK480.out 1; have p481 : 0 ≤ (x6_2 : Int) := of_decide_eq_true zz76; have q481 : x6_2 < (l0_1.length : Int) := of_decide_eq_true zz76; obtain ⟨ad481, A481_0, c481_0, e481, hx481_0, hl481_0, hi481_0⟩ := at_L1 HR0_1.out x6_2 p481 q481
              cases e481; replace hx481_0 := (HB.out.cell (World.block_lt_of_cell? w _ hx481_0)).trans hx481_0; have HR481_0 := aM hi481_0; have HC481_0 := aM hl481_0; clear hi481_0 hl481_0; replace p481 := eq_true p481; replace q481 := eq_true q481; have p482 : 0 ≤ (x6_2 : Int) := of_decide_eq_true zz76; have q482 : x6_2 < (l0_1.length : Int) := of_decide_eq_true zz76; obtain ⟨ad482, A482_0, c482_0, e482, hx482_0, hl482_0, hi482_0⟩ := at_L1 HR0_1.out x6_2 p482 q482; obtain rfl : ad481 = ad482 := (by injection e482); replace hx482_0 := (HB.out.cell (World.block_lt_of_cell? w _ hx482_0)).trans hx482_0; have HR482_0 := aM hi482_0; have HC482_0 := aM hl482_0; clear hi482_0 hl482_0; replace p482 := eq_true p482; replace q482 := eq_true q482; have ea_ := Option.some.inj (hx481_0.symm.trans hx482_0); injection ea_ with ea_ en_ ec_
              subst ea_; subst ec_; clear en_; go_wp2
              go_roundg k2
              case measure => have := HJ2.out; have := HK2.out; omega
              case rel => exact ⟨(wrap64 (x5_2 - ((rd_L1 l0_1 x6_2).length : Int))), (wrap64 (x6_2 + 1)), zz77, zz77, H', ⟨(by have := HJ2.out; have := HK2.out; omega)⟩, ⟨(zB BK480)⟩, ⟨zz39⟩⟩
            rw [if_neg c11] at H
            exact absurd H (by simp)
          rw [if_neg c10] at H; have c10b0 := decide_eq_false c10; clear c10; obtain rfl := Option.some.inj H; have hcz15_0 : wr.cell? ⟨gb480, 0, none⟩ = some (.int .i64 a0_0) := (blk_cell BK480.out 0).trans rfl; have hcz15_1 : wr.cell? ⟨gb480, 1, none⟩ = some (.slice A0_1 l0_1.length c0_1) := (blk_cell BK480.out 1).trans rfl; have hfz15_0 := blk_frozen BK480.out 0; have hfz15_1 := blk_frozen BK480.out 1; go_wp2; go_ret
          exact ⟨by first | rfl | (simp [errW_none, errW_some] <;> rfl) | (simp [*, errW_none, errW_some] <;> rfl), by repeat (first | (with_reducible first | exact HB.out | apply below_alloc | apply pw_below_drewN | apply below_drew1 | refine below_set ?_ GE480.out) | exact HB.out)⟩
end
section
attribute [local go_sem] max2_int min2_int max_two min_two max_three min_three max_four min_four
def r30_Unit.l0 : Nat → Int → List Int → Int → Option (List Int)
  | 0, _, _, _ => none
  | k + 1, x0, x3, x4 => if x4 < x0 then (if 0 ≤ x4 then (if x4 < (x3.length : Int) then (r30_Unit.l0 k x0 (x3.set (x4 : Int).toNat x4) (wrap64 (x4 + 1))) else (none)) else (none)) else (some x3)
def r30_Unit.f (k : Nat) (a0 : Int) : Option (List Int) := if 0 ≤ a0 then (if (a0 : Int).toNat ≤ 35184372088832 then (r30_Unit.l0 k a0 (List.replicate (a0 : Int).toNat 0) 0) else (none)) else (none)
theorem r30_Unit.calls (k : Nat) (a0 : Int) (r : List Int) (w : World) (h : r30_Unit.f k a0 = some r) :
    Calls Try.prog 26 #[.int .i64 a0] w fun e w' => ∃ v0_ : Value, e = .returned (v0_) ∧ Kd.R (Kd.int .i64) 3 w' w.heap.size (fun _ => True) v0_ r ∧ Below w.heap.size w w' := by
  have HB := aM (Below.refl w.heap.size w)
  have H : (if 0 ≤ a0 then (if (a0 : Int).toNat ≤ 35184372088832 then (r30_Unit.l0 k a0 (List.replicate (a0 : Int).toNat 0) 0) else (none)) else (none)) = some r := h
  clear h
  by_cases c2 : 0 ≤ a0
  · rw [if_pos c2] at H
    have c2b0 := eq_true c2; have c2b1 := decide_eq_true c2; clear c2
    by_cases c3 : (a0 : Int).toNat ≤ 35184372088832
    · rw [if_pos c3] at H; have c3b0 := eq_true c3; have c3b1 := decide_eq_true c3; clear c3; obtain ⟨y301, hy301⟩ : ∃ y_ : List Int, y_ = (List.replicate (a0 : Int).toNat 0) := ⟨_, rfl⟩; replace H : (r30_Unit.l0 k a0 y301 0) = some r := by first | (rw [hy301]; with_reducible exact H) | (have H2_ := (Option.bind_some _ _).symm.trans H; rw [hy301]; with_reducible exact H2_) | (have H2_ := (Option.bind_some _ _).symm.trans H; with_reducible exact H2_) | with_reducible exact H | (rw [hy301]; exact H) | exact H
      have Ny301 := aM hy301; clear hy301; have H' := aM H; clear H
      go_enter Try.func26, Try.ntmps26
      go_wp2_with (first | ((with_reducible refine gate_dst (N := 6) rfl ?_); refine Kd.R_make (Kd.int .i64) _ 3 rfl (N := 6) rfl 22 _ _ rfl a0 rfl rfl Try.underlying22 (.int .i64 0) 8 info3 rfl (by decide) (by omega) 0 (ok := fun _ => True) (okp := fun _ => True) rfl (fun _ hk => hk) trivial (of_decide_eq_true zz76) (Nat.le_trans (Nat.mul_le_mul_right _ (of_decide_eq_true zz76 : a0.toNat ≤ 35184372088832)) (by omega)) (Below.refl _ _) (Nat.le_refl _) ?_; intro v302 w4 ho5 hb hg_ hnew_; clear hg_ hnew_; (first | rw [← Ny301.out] at ho5 | (simp only [Int.reduceToNat] at ho5; rw [← Ny301.out] at ho5)); have HO303 := aM (Kd.R_lower ho5 (below_size zz53)); replace HB := aM (below_step zz53 hb); clear hb ho5))
      go_loopg [4] k (fun kq v4 w' => ∃ (x3_1 : List Int) (x4_1 : Int), v4 = .int .i64 x4_1 ∧ Aside0 (r30_Unit.l0 kq a0 x3_1 x4_1 = some r) ∧ Aside0 (kq ≤ k) ∧ Aside0 (Kd.R (Kd.int .i64) 3 w' w.heap.size (fun _ => True) v302 x3_1) ∧ Aside0 (Below w.heap.size w w'))
      case atStart => exact ⟨(y301), (0), zz77, H', ⟨Nat.le_refl _⟩, ⟨(zR HO303)⟩, ⟨zz53⟩⟩
      case round =>
        clear H'; (try clear c2); (try clear c2b0); (try clear c2b1); (try clear p2); (try clear c3); (try clear c3b0); (try clear c3b1); obtain ⟨x3_1, x4_1, rfl, HA, HK1, HO_3, HB⟩ := hrel
        cases gk with
        | zero => exact absurd HA.out (by simp [r30_Unit.l0])
        | succ k1 =>
          have H := HA.out; clear HA; simp only [r30_Unit.l0] at H
          by_cases c6 : x4_1 < a0
          · rw [if_pos c6] at H; have c6b0 := decide_eq_true c6; clear c6
            by_cases c7 : 0 ≤ x4_1
            · rw [if_pos c7] at H; have c7b0 := decide_eq_true c7; clear c7
              by_cases c8 : x4_1 < (x3_1.length : Int)
              · rw [if_pos c8] at H; have c8b0 := decide_eq_true c8; clear c8; obtain ⟨y304, hy304⟩ : ∃ y_ : List Int, y_ = (x3_1.set (x4_1 : Int).toNat x4_1) := ⟨_, rfl⟩; replace H : (r30_Unit.l0 k1 a0 y304 (wrap64 (x4_1 + 1))) = some r := by first | (rw [hy304]; with_reducible exact H) | (have H2_ := (Option.bind_some _ _).symm.trans H; rw [hy304]; with_reducible exact H2_) | (have H2_ := (Option.bind_some _ _).symm.trans H; with_reducible exact H2_) | with_reducible exact H | (rw [hy304]; exact H) | exact H
                have Ny304 := aM hy304; clear hy304; have H' := aM H; clear H; have p9 : 0 ≤ (x4_1 : Int) := of_decide_eq_true zz76; have q9 : (x4_1 : Int) < ((x3_1.length : Int) : Int) := of_decide_eq_true zz76; obtain ⟨go9, co9, eo9, gb9, gl9, cl9, HG9⟩ := Kd.R_form HO_3.out (by omega)
                (first | cases eo9 | (injection eo9 with ea_ en_ ec_; (first | subst ea_ | (injection ea_ with ea_; subst ea_)); subst ec_; clear en_))
                have GB9 := aM gb9; have GG9 := aM HG9; clear gb9 gl9 HG9; obtain ⟨hx9_0, hf9_0⟩ := Kd.R_celln 0 HO_3.out (x4_1 : Int) p9 q9; replace p9 := eq_true p9; replace q9 := eq_true q9; have HP10 := Kd.R_putg HO_3.out (x4_1 : Int) x4_1
                go_wp2_with (first | ((with_reducible refine gate_store (t := 3) (p := 15) rfl ?_); refine store_event (t := 3) (p := 15) (v := ?vo_w11) (w1 := (wr.setCell ⟨go9, (x4_1 : Int).toNat, none⟩ (.int .i64 x4_1))) ?hg ?ho ?hn ?hr ?_; (case ho => rfl); (case hg => rfl); (case hn => rfl); (case hr => first | (go_simp; done) | (go_simp; rfl)); intro w11 hw; have hg : wr.grownBy w11 (some go9) := (by rw [hw]; exact HP10.2); have hp_ : Kd.R (Kd.int .i64) 3 w11 w.heap.size (fun _ => True) (.slice (some ⟨go9, 0, none⟩) x3_1.length co9) y304 := (by rw [hw, Ny304.out]; exact HP10.1); clear HP10; replace HO_3 := aM (hp_); replace HB := aM ((by rw [hw]; exact below_set (HB.out) GB9.out : Below w.heap.size w w11)); clear hg hw hp_))
                go_roundg k1
                case measure => have := HK1.out; omega
                case rel => exact ⟨(y304), (wrap64 (x4_1 + 1)), zz77, H', ⟨zz83⟩, ⟨(zR HO_3)⟩, ⟨zz53⟩⟩
              rw [if_neg c8] at H
              exact absurd H (by simp)
            rw [if_neg c7] at H
            exact absurd H (by simp)
          rw [if_neg c6] at H; have c6b0 := decide_eq_false c6; clear c6; obtain rfl := Option.some.inj H; go_wp2; go_ret
          exact ⟨_, by first | rfl | (simp [errW_none, errW_some] <;> rfl) | (simp [*, errW_none, errW_some] <;> rfl), by (with_reducible repeat (first | apply Kd.R_alloc | apply Kd.R_drewN | apply Kd.R_drew)); exact HO_3.out, by repeat (first | (with_reducible first | exact HB.out | apply below_alloc | apply pw_below_drewN | apply below_drew1) | exact HB.out)⟩
    rw [if_neg c3] at H
    exact absurd H (by simp)
  rw [if_neg c2] at H
  exact absurd H (by simp)
end
section
attribute [local go_sem] max2_int min2_int max_two min_two max_three min_three max_four min_four
mutual
def r30_Check.j0 : Nat → List Int → Int → Bool → Option (Int)
  | 0, _, _, _ => none
  | k + 1, x0, x3, x14 => if x14 = true then (some 4) else (r30_Check.l0 k x0 x3 0)
def r30_Check.l0 : Nat → List Int → Int → Int → Option (Int)
  | 0, _, _, _ => none
  | k + 1, x0, x3, x4 => if x4 < x3 then (if 0 ≤ x4 then (if x4 < (x0.length : Int) then (if (rd x0 x4) < 0 then (some 6) else (if (rd x0 x4) ≥ x3 then (some 6) else (r30_Check.l0 k x0 x3 (wrap64 (x4 + 1))))) else (none)) else (none)) else (r30_Check.l1 k x0 x3 0)
def r30_Check.l1 : Nat → List Int → Int → Int → Option (Int)
  | 0, _, _, _ => none
  | k + 1, x0, x3, x5 => if x5 < x3 then (r30_Check.l2 k x0 x3 x5 0) else (some 0)
def r30_Check.l2 : Nat → List Int → Int → Int → Int → Option (Int)
  | 0, _, _, _, _ => none
  | k + 1, x0, x3, x5, x6 => if x6 < x5 then (if 0 ≤ x5 then (if x5 < (x0.length : Int) then (if 0 ≤ x6 then (if x6 < (x0.length : Int) then (if (rd x0 x5) = (rd x0 x6) then (some 18) else (r30_Check.l2 k x0 x3 x5 (wrap64 (x6 + 1)))) else (none)) else (none)) else (none)) else (none)) else (r30_Check.l1 k x0 x3 (wrap64 (x5 + 1)))
end
def r30_Check.f (k : Nat) (l0 : List Int) : Option (Int) := if (l0.length : Int) < 1 then (r30_Check.j0 k l0 (l0.length : Int) true) else (r30_Check.j0 k l0 (l0.length : Int) (decide ((l0.length : Int) > 64)))
theorem r30_Check.calls (k : Nat) (A0 : Option Addr) (c0 : Nat) (l0 : List Int) (r : Int) (w : World) (hr0 : Kd.C (Kd.int .i64) w A0 l0.length l0) (hc0 : l0.length ≤ c0) (h : r30_Check.f k l0 = some r) :
    Calls Try.prog 17 #[.slice A0 l0.length c0] w fun e w' => e = .returned (.int .i64 r) ∧ Drawn0 w w' := by
  have HR0 := aM hr0
  have HC0 := aM hc0
  clear hr0 hc0
  have H : (if (l0.length : Int) < 1 then (r30_Check.j0 k l0 (l0.length : Int) true) else (r30_Check.j0 k l0 (l0.length : Int) (decide ((l0.length : Int) > 64)))) = some r := h
  clear h
  have HC2 := aM H
  clear H
  go_enter Try.func17, Try.ntmps17
  go_upto_region 2 with (fail)
  repeat (go_quiet (fail); go_upto_region 2 with (fail))
  go_cut [14] (fun v14 wc => ∃ (kq : Nat) (x14_1 : Bool), v14 = .bool x14_1 ∧ Aside0 (r30_Check.j0 kq l0 (l0.length : Int) x14_1 = some r) ∧ Aside0 (kq ≤ k) ∧ Drawn0 w wc)
  case first =>
    have H := HC2.out; clear HC2
    by_cases c3 : (l0.length : Int) < 1
    · rw [if_pos c3] at H; have c3b0 := decide_eq_true c3; have c3b1 : decide (l0.length < 1) = true := decide_eq_true (by omega); clear c3
      (first | rw [c3b0] | (simp only [i64_w, i32_w]; rw [c3b0]) | skip)
      have H' := aM H; clear H; go_wp2
      repeat (go_quiet (fail); try go_wp2)
      go_meet
      case rel => exact ⟨_, (true), zz77, H', ⟨zz79⟩, by repeat (first | exact Drawn0.refl _ | apply Drawn0.step)⟩
    rw [if_neg c3] at H; have c3b0 := decide_eq_false c3; have c3b1 : decide (l0.length < 1) = false := decide_eq_false (by omega); clear c3
    (first | rw [c3b0] | (simp only [i64_w, i32_w]; rw [c3b0]) | skip)
    have H' := aM H; clear H; go_wp2
    repeat (go_quiet (fail); try go_wp2)
    go_meet
    case rel => exact ⟨_, (decide ((l0.length : Int) > 64)), zz77, H', ⟨zz79⟩, by repeat (first | exact Drawn0.refl _ | apply Drawn0.step)⟩
  case rest =>
    clear HC2; (try clear c1); (try clear p2); (try clear c3); (try clear c3b0); (try clear c3b1); obtain ⟨kq, x14_1, rfl, HA, HJ1, ⟨mc1, rfl⟩⟩ := hcut
    cases kq with
    | zero => exact absurd HA.out (by simp [r30_Check.j0])
    | succ kj1 =>
      have H := HA.out; clear HA; simp only [r30_Check.j0] at H
      by_cases c4 : x14_1 = true
      · subst c4; have H1 : (some 4) = some r := by rw [if_pos rfl] at H; exact H
        clear H; have H := H1; clear H1; obtain rfl := Option.some.inj H; go_wp2
        repeat (go_quiet (fail); try go_wp2)
        go_ret
        exact ⟨by first | rfl | (simp; done) | (simp [*]; done), by repeat (first | exact Drawn0.refl _ | apply Drawn0.step)⟩
      replace c4 := Bool.eq_false_iff.mpr c4; subst c4; have H1 : (r30_Check.l0 kj1 l0 (l0.length : Int) 0) = some r := by rw [if_neg (show ¬ (false = true) by decide)] at H; exact H
      clear H; have H := H1; clear H1; have H' := aM H; clear H; go_wp2
      repeat (go_quiet (fail); try go_wp2)
      go_loopg [4] kj1 (fun kq v4 w' => ∃ (x4_2 : Int), v4 = .int .i64 x4_2 ∧ Aside0 (r30_Check.l0 kq l0 (l0.length : Int) x4_2 = some r) ∧ Aside0 (kq ≤ kj1) ∧ Drawn0 w w')
      case atStart => exact ⟨(0), zz77, H', ⟨Nat.le_refl _⟩, by repeat (first | exact Drawn0.refl _ | apply Drawn0.step)⟩
      case round =>
        clear H'; (try clear c1); (try clear p2); (try clear c3); (try clear c3b0); (try clear c3b1); (try clear c4); (try clear p2); obtain ⟨x4_2, rfl, HA, HK2, ⟨m2, rfl⟩⟩ := hrel
        cases gk with
        | zero => exact absurd HA.out (by simp [r30_Check.l0])
        | succ k2 =>
          have H := HA.out; clear HA; simp only [r30_Check.l0] at H
          by_cases c5 : x4_2 < (l0.length : Int)
          · rw [if_pos c5] at H; have c5b0 := decide_eq_true c5; clear c5
            by_cases c6 : 0 ≤ x4_2
            · rw [if_pos c6] at H; have c6b0 := decide_eq_true c6; clear c6
              by_cases c7 : x4_2 < (l0.length : Int)
              · rw [if_pos c7] at H; have c7b0 := decide_eq_true c7; clear c7
                by_cases c8 : (rd l0 x4_2) < 0
                · rw [if_pos c8] at H; have c8b0 := decide_eq_true c8; clear c8; obtain rfl := Option.some.inj H; have p311 : 0 ≤ (x4_2 : Int) := of_decide_eq_true zz76; have q311 : x4_2 < (l0.length : Int) := of_decide_eq_true zz76; obtain ⟨ad311, e311, hx311_0⟩ := Kd.at_int HR0.out x4_2 p311 q311
                  cases e311; replace p311 := eq_true p311; replace q311 := eq_true q311; go_wp2
                  repeat (go_quiet (fail); try go_wp2)
                  go_ret
                  exact ⟨by first | rfl | (simp; done) | (simp [*]; done), by repeat (first | exact Drawn0.refl _ | apply Drawn0.step)⟩
                rw [if_neg c8] at H; have c8b0 := decide_eq_false c8; clear c8
                by_cases c9 : (rd l0 x4_2) ≥ (l0.length : Int)
                · rw [if_pos c9] at H; have c9b0 := decide_eq_true c9; clear c9; obtain rfl := Option.some.inj H; have p311 : 0 ≤ (x4_2 : Int) := of_decide_eq_true zz76; have q311 : x4_2 < (l0.length : Int) := of_decide_eq_true zz76; obtain ⟨ad311, e311, hx311_0⟩ := Kd.at_int HR0.out x4_2 p311 q311
                  cases e311; replace p311 := eq_true p311; replace q311 := eq_true q311; have p312 : 0 ≤ (x4_2 : Int) := of_decide_eq_true zz76; have q312 : x4_2 < (l0.length : Int) := of_decide_eq_true zz76; obtain ⟨ad312, e312, hx312_0⟩ := Kd.at_int HR0.out x4_2 p312 q312; obtain rfl : ad311 = ad312 := (by injection e312); replace p312 := eq_true p312; replace q312 := eq_true q312; go_wp2
                  repeat (go_quiet (fail); try go_wp2)
                  go_ret
                  exact ⟨by first | rfl | (simp; done) | (simp [*]; done), by repeat (first | exact Drawn0.refl _ | apply Drawn0.step)⟩
                rw [if_neg c9] at H; have c9b0 := decide_eq_false c9; clear c9; have H' := aM H; clear H; have p311 : 0 ≤ (x4_2 : Int) := of_decide_eq_true zz76; have q311 : x4_2 < (l0.length : Int) := of_decide_eq_true zz76; obtain ⟨ad311, e311, hx311_0⟩ := Kd.at_int HR0.out x4_2 p311 q311
                cases e311; replace p311 := eq_true p311; replace q311 := eq_true q311; have p312 : 0 ≤ (x4_2 : Int) := of_decide_eq_true zz76; have q312 : x4_2 < (l0.length : Int) := of_decide_eq_true zz76; obtain ⟨ad312, e312, hx312_0⟩ := Kd.at_int HR0.out x4_2 p312 q312; obtain rfl : ad311 = ad312 := (by injection e312); replace p312 := eq_true p312; replace q312 := eq_true q312; go_wp2
                repeat (go_quiet (fail); try go_wp2)
                go_roundg k2
                case measure => have := HJ1.out; have := HK2.out; omega
                case rel => exact ⟨(wrap64 (x4_2 + 1)), zz77, H', ⟨(by have := HJ1.out; have := HK2.out; omega)⟩, by repeat (first | exact Drawn0.refl _ | apply Drawn0.step)⟩
              rw [if_neg c7] at H
              exact absurd H (by simp)
            rw [if_neg c6] at H
            exact absurd H (by simp)
          rw [if_neg c5] at H; have c5b0 := decide_eq_false c5; clear c5; have H' := aM H; clear H; go_wp2
          repeat (go_quiet (fail); try go_wp2)
          go_loopg [5] k2 (fun kq v5 w' => ∃ (x5_3 : Int), v5 = .int .i64 x5_3 ∧ Aside0 (r30_Check.l1 kq l0 (l0.length : Int) x5_3 = some r) ∧ Aside0 (kq ≤ k2) ∧ Drawn0 w w')
          case atStart => exact ⟨(0), zz77, H', ⟨Nat.le_refl _⟩, by repeat (first | exact Drawn0.refl _ | apply Drawn0.step)⟩
          case round =>
            clear H'; (try clear c1); (try clear p2); (try clear c3); (try clear c3b0); (try clear c3b1); (try clear p3); (try clear q3); (try clear hx3); (try clear c4); (try clear c5); (try clear c5b0); (try clear c6); (try clear c6b0); (try clear p6); (try clear c7); (try clear c7b0); (try clear c8); (try clear c8b0); (try clear c9); (try clear c9b0); (try clear hx311_0); (try clear hx312_0); (try clear p2); (try clear p311); (try clear p312); (try clear q311); (try clear q312); obtain ⟨x5_3, rfl, HA, HK3, ⟨m3, rfl⟩⟩ := hrel
            cases gk with
            | zero => exact absurd HA.out (by simp [r30_Check.l1])
            | succ k3 =>
              have H := HA.out; clear HA; simp only [r30_Check.l1] at H
              by_cases c10 : x5_3 < (l0.length : Int)
              · rw [if_pos c10] at H; have c10b0 := decide_eq_true c10; clear c10; have H' := aM H; clear H; go_wp2
                repeat (go_quiet (fail); try go_wp2)
                go_loopg [6] k3 (fun kq v6 w' => ∃ (x6_4 : Int), v6 = .int .i64 x6_4 ∧ Aside0 (r30_Check.l2 kq l0 (l0.length : Int) x5_3 x6_4 = some r) ∧ Aside0 (kq ≤ k3) ∧ Drawn0 w w')
                case atStart => exact ⟨(0), zz77, H', ⟨Nat.le_refl _⟩, by repeat (first | exact Drawn0.refl _ | apply Drawn0.step)⟩
                case round =>
                  clear H'; (try clear c1); (try clear p2); (try clear c3); (try clear c3b0); (try clear c3b1); (try clear p3); (try clear q3); (try clear hx3); (try clear c4); (try clear c5); (try clear c5b0); (try clear c6); (try clear c6b0); (try clear p6); (try clear c7); (try clear c7b0); (try clear c8); (try clear c8b0); (try clear c9); (try clear c9b0); (try clear c10); (try clear c10b0); (try clear hx311_0); (try clear hx312_0); (try clear p2); (try clear p3); (try clear p311); (try clear p312); (try clear p6); (try clear q3); (try clear q311); (try clear q312); obtain ⟨x6_4, rfl, HA, HK4, ⟨m4, rfl⟩⟩ := hrel
                  cases gk with
                  | zero => exact absurd HA.out (by simp [r30_Check.l2])
                  | succ k4 =>
                    have H := HA.out; clear HA; simp only [r30_Check.l2] at H
                    by_cases c11 : x6_4 < x5_3
                    · rw [if_pos c11] at H; have c11b0 := decide_eq_true c11; clear c11
                      by_cases c12 : 0 ≤ x5_3
                      · rw [if_pos c12] at H; have c12b0 := decide_eq_true c12; clear c12
                        by_cases c13 : x5_3 < (l0.length : Int)
                        · rw [if_pos c13] at H; have c13b0 := decide_eq_true c13; clear c13
                          by_cases c14 : 0 ≤ x6_4
                          · rw [if_pos c14] at H; have c14b0 := decide_eq_true c14; clear c14
                            by_cases c15 : x6_4 < (l0.length : Int)
                            · rw [if_pos c15] at H; have c15b0 := decide_eq_true c15; clear c15
                              by_cases c16 : (rd l0 x5_3) = (rd l0 x6_4)
                              · rw [if_pos c16] at H; have c16b0 := beq_iff_eq.mpr c16; have c16b1 := bne_eq_false_iff_eq.mpr c16; clear c16; obtain rfl := Option.some.inj H; have p313 : 0 ≤ (x5_3 : Int) := of_decide_eq_true zz76; have q313 : x5_3 < (l0.length : Int) := of_decide_eq_true zz76; obtain ⟨ad313, e313, hx313_0⟩ := Kd.at_int HR0.out x5_3 p313 q313
                                cases e313; replace p313 := eq_true p313; replace q313 := eq_true q313; have p314 : 0 ≤ (x6_4 : Int) := of_decide_eq_true zz76; have q314 : x6_4 < (l0.length : Int) := of_decide_eq_true zz76; obtain ⟨ad314, e314, hx314_0⟩ := Kd.at_int HR0.out x6_4 p314 q314; obtain rfl : ad313 = ad314 := (by injection e314); replace p314 := eq_true p314; replace q314 := eq_true q314; go_wp2
                                repeat (go_quiet (fail); try go_wp2)
                                go_ret
                                exact ⟨by first | rfl | (simp; done) | (simp [*]; done), by repeat (first | exact Drawn0.refl _ | apply Drawn0.step)⟩
                              rw [if_neg c16] at H; have c16b0 := beq_eq_false_iff_ne.mpr c16; have c16b1 := bne_iff_ne.mpr c16; have H' := aM H; clear H; have p313 : 0 ≤ (x5_3 : Int) := of_decide_eq_true zz76; have q313 : x5_3 < (l0.length : Int) := of_decide_eq_true zz76; obtain ⟨ad313, e313, hx313_0⟩ := Kd.at_int HR0.out x5_3 p313 q313
                              cases e313; replace p313 := eq_true p313; replace q313 := eq_true q313; have p314 : 0 ≤ (x6_4 : Int) := of_decide_eq_true zz76; have q314 : x6_4 < (l0.length : Int) := of_decide_eq_true zz76; obtain ⟨ad314, e314, hx314_0⟩ := Kd.at_int HR0.out x6_4 p314 q314; obtain rfl : ad313 = ad314 := (by injection e314); replace p314 := eq_true p314; replace q314 := eq_true q314; go_wp2
                              repeat (go_quiet (fail); try go_wp2)
                              go_roundg k4
                              case measure => have := HJ1.out; have := HK2.out; have := HK3.out; have := HK4.out; omega
                              case rel => exact ⟨(wrap64 (x6_4 + 1)), zz77, H', ⟨zz72⟩, by repeat (first | exact Drawn0.refl _ | apply Drawn0.step)⟩
                            rw [if_neg c15] at H
                            exact absurd H (by simp)
                          rw [if_neg c14] at H
                          exact absurd H (by simp)
                        rw [if_neg c13] at H
                        exact absurd H (by simp)
                      rw [if_neg c12] at H
                      exact absurd H (by simp)
                    rw [if_neg c11] at H; have c11b0 := decide_eq_false c11; clear c11; have H' := aM H; clear H; go_wp2
                    repeat (go_quiet (fail); try go_wp2)
                    go_roundg k4
                    case measure => have := HJ1.out; have := HK2.out; have := HK3.out; have := HK4.out; omega
                    case rel => exact ⟨(wrap64 (x5_3 + 1)), zz77, H', ⟨zz72⟩, by repeat (first | exact Drawn0.refl _ | apply Drawn0.step)⟩
              rw [if_neg c10] at H; have c10b0 := decide_eq_false c10; clear c10; obtain rfl := Option.some.inj H; go_wp2
              repeat (go_quiet (fail); try go_wp2)
              go_ret
              exact ⟨by first | rfl | (simp; done) | (simp [*]; done), by repeat (first | exact Drawn0.refl _ | apply Drawn0.step)⟩
end
section
attribute [local go_sem] max2_int min2_int max_two min_two max_three min_three max_four min_four
mutual
def r30_all.l0 : Nat → Int → List (List Int) → Int → Option (Int)
  | 0, _, _, _ => none
  | k + 1, x0, x1, x5 => if x5 < (x1.length : Int) then (if 0 ≤ x5 then ((r30_Check.f k (rd_L1 x1 x5)).bind fun t316 => (if t316 = 0 then (r30_all.l0 k x0 x1 (wrap64 (x5 + 1))) else (some t316))) else (none)) else (r30_all.l1 k x0 x1 0)
def r30_all.l1 : Nat → Int → List (List Int) → Int → Option (Int)
  | 0, _, _, _ => none
  | k + 1, x0, x1, x7 => if x7 < (x1.length : Int) then (if 0 ≤ x7 then (if ((rd_L1 x1 x7).length : Int) = x0 then (r30_all.l1 k x0 x1 (wrap64 (x7 + 1))) else (some 10)) else (none)) else (some 0)
end
def r30_all.f (k : Nat) (a0 : Int) (l1 : List (List Int)) : Option (Int) := r30_all.l0 k a0 l1 0
theorem r30_all.calls (k : Nat) (a0 : Int) (A1 : Option Addr) (c1 : Nat) (l1 : List (List Int)) (r : Int) (w : World) (hr1 : Kd.C (Kd.slice 3 (Kd.int .i64)) w A1 l1.length l1) (hc1 : l1.length ≤ c1) (h : r30_all.f k a0 l1 = some r) :
    Calls Try.prog 51 #[.int .i64 a0, .slice A1 l1.length c1] w fun e w' => e = .returned (.int .i64 r) ∧ Drawn0 w w' := by
  have HR1 := aM hr1
  have HC1 := aM hc1
  clear hr1 hc1
  have H : (r30_all.l0 k a0 l1 0) = some r := h
  clear h
  have H' := aM H
  clear H
  go_enter Try.func51, Try.ntmps51
  go_wp2
  go_loopg [5] k (fun kq v5 w' => ∃ (x5_1 : Int), v5 = .int .i64 x5_1 ∧ Aside0 (r30_all.l0 kq a0 l1 x5_1 = some r) ∧ Aside0 (kq ≤ k) ∧ Drawn0 w w')
  case atStart => exact ⟨(0), zz77, H', ⟨Nat.le_refl _⟩, by repeat (first | exact Drawn0.refl _ | apply Drawn0.step)⟩
  case round =>
    clear H'; (try clear c1); (try clear p2); obtain ⟨x5_1, rfl, HA, HK1, ⟨m1, rfl⟩⟩ := hrel
    cases gk with
    | zero => exact absurd HA.out (by simp [r30_all.l0])
    | succ k1 =>
      have H := HA.out; clear HA; simp only [r30_all.l0] at H
      by_cases c3 : x5_1 < (l1.length : Int)
      · rw [if_pos c3] at H; have c3b0 := decide_eq_true c3; clear c3
        by_cases c4 : 0 ≤ x5_1
        · rw [if_pos c4] at H; have c4b0 := decide_eq_true c4; clear c4; replace H := Option.bind_eq_some_iff.mp H; obtain ⟨t316, A50, H⟩ := H; replace H : (if t316 = 0 then (r30_all.l0 k1 a0 l1 (wrap64 (x5_1 + 1))) else (some t316)) = some r := H; have A5 := aM A50; clear A50
          by_cases c6 : t316 = 0
          · rw [if_pos c6] at H; have c6b0 := beq_iff_eq.mpr c6; have c6b1 := bne_eq_false_iff_eq.mpr c6; clear c6; have H' := aM H; clear H; have p315 : 0 ≤ (x5_1 : Int) := of_decide_eq_true zz76; have q315 : x5_1 < (l1.length : Int) := of_decide_eq_true zz76; obtain ⟨ad315, A315_0, c315_0, e315, hx315_0, hl315_0, hi315_0⟩ := at_L1 HR1.out x5_1 p315 q315
            cases e315; have HR315_0 := aM hi315_0; have HC315_0 := aM hl315_0; clear hi315_0 hl315_0; replace p315 := eq_true p315; replace q315 := eq_true q315
            go_wp2_with (first | ((with_reducible refine gate_callee (f := 17) rfl ?_); refine goesL_ (some 18) rfl rfl Try.func17 (by kernel_rfl) rfl #[.slice A315_0 (rd_L1 l1 x5_1).length c315_0] rfl zz51 ?_; (with_reducible refine (r30_Check.calls k1 _ _ (rd_L1 l1 x5_1) t316 _ ?side1 ?side2 A5.out).mono ?_); (case side1 => repeat (first | exact HR315_0.out | (with_reducible refine Kd.C_alloc ?_ _) | (with_reducible refine Kd.C_drewN ?_ _) | (with_reducible refine Kd.C_drew ?_))); (case side2 => exact HC315_0.out); rintro e w' ⟨rfl, ⟨nd, rfl⟩⟩; refine ⟨_, rfl, ?_⟩))
            go_roundg k1
            case measure => have := HK1.out; omega
            case rel => exact ⟨(wrap64 (x5_1 + 1)), zz77, H', ⟨zz83⟩, by repeat (first | exact Drawn0.refl _ | apply Drawn0.step)⟩
          rw [if_neg c6] at H; have c6b0 := beq_eq_false_iff_ne.mpr c6; have c6b1 := bne_iff_ne.mpr c6; obtain rfl := Option.some.inj H; have p315 : 0 ≤ (x5_1 : Int) := of_decide_eq_true zz76; have q315 : x5_1 < (l1.length : Int) := of_decide_eq_true zz76; obtain ⟨ad315, A315_0, c315_0, e315, hx315_0, hl315_0, hi315_0⟩ := at_L1 HR1.out x5_1 p315 q315
          cases e315; have HR315_0 := aM hi315_0; have HC315_0 := aM hl315_0; clear hi315_0 hl315_0; replace p315 := eq_true p315; replace q315 := eq_true q315
          go_wp2_with (first | ((with_reducible refine gate_callee (f := 17) rfl ?_); refine goesL_ (some 18) rfl rfl Try.func17 (by kernel_rfl) rfl #[.slice A315_0 (rd_L1 l1 x5_1).length c315_0] rfl zz51 ?_; (with_reducible refine (r30_Check.calls k1 _ _ (rd_L1 l1 x5_1) t316 _ ?side1 ?side2 A5.out).mono ?_); (case side1 => repeat (first | exact HR315_0.out | (with_reducible refine Kd.C_alloc ?_ _) | (with_reducible refine Kd.C_drewN ?_ _) | (with_reducible refine Kd.C_drew ?_))); (case side2 => exact HC315_0.out); rintro e w' ⟨rfl, ⟨nd, rfl⟩⟩; refine ⟨_, rfl, ?_⟩))
          go_ret
          exact ⟨by first | rfl | (simp; done) | (simp [*]; done), by repeat (first | exact Drawn0.refl _ | apply Drawn0.step)⟩
        rw [if_neg c4] at H
        exact absurd H (by simp)
      rw [if_neg c3] at H; have c3b0 := decide_eq_false c3; clear c3; have H' := aM H; clear H; go_wp2
      go_loopg [7] k1 (fun kq v7 w' => ∃ (x7_2 : Int), v7 = .int .i64 x7_2 ∧ Aside0 (r30_all.l1 kq a0 l1 x7_2 = some r) ∧ Aside0 (kq ≤ k1) ∧ Drawn0 w w')
      case atStart => exact ⟨(0), zz77, H', ⟨Nat.le_refl _⟩, by repeat (first | exact Drawn0.refl _ | apply Drawn0.step)⟩
      case round =>
        clear H'; (try clear c1); (try clear p2); (try clear c3); (try clear c3b0); (try clear p3); (try clear q3); (try clear hx3); (try clear c4); (try clear c4b0); (try clear c5); (try clear c6); (try clear c6b0); (try clear c6b1); (try clear p6); (try clear hx315_0); (try clear p2); (try clear p315); (try clear q315); obtain ⟨x7_2, rfl, HA, HK2, ⟨m2, rfl⟩⟩ := hrel
        cases gk with
        | zero => exact absurd HA.out (by simp [r30_all.l1])
        | succ k2 =>
          have H := HA.out; clear HA; simp only [r30_all.l1] at H
          by_cases c7 : x7_2 < (l1.length : Int)
          · rw [if_pos c7] at H; have c7b0 := decide_eq_true c7; clear c7
            by_cases c8 : 0 ≤ x7_2
            · rw [if_pos c8] at H; have c8b0 := decide_eq_true c8; clear c8
              by_cases c9 : ((rd_L1 l1 x7_2).length : Int) = a0
              · rw [if_pos c9] at H; have c9b0 := beq_iff_eq.mpr c9; have c9b1 := bne_eq_false_iff_eq.mpr c9; clear c9; have H' := aM H; clear H; have p317 : 0 ≤ (x7_2 : Int) := of_decide_eq_true zz76; have q317 : x7_2 < (l1.length : Int) := of_decide_eq_true zz76; obtain ⟨ad317, A317_0, c317_0, e317, hx317_0, hl317_0, hi317_0⟩ := at_L1 HR1.out x7_2 p317 q317
                cases e317; have HR317_0 := aM hi317_0; have HC317_0 := aM hl317_0; clear hi317_0 hl317_0; replace p317 := eq_true p317; replace q317 := eq_true q317; go_wp2
                go_roundg k2
                case measure => have := HK1.out; have := HK2.out; omega
                case rel => exact ⟨(wrap64 (x7_2 + 1)), zz77, H', ⟨zz78⟩, by repeat (first | exact Drawn0.refl _ | apply Drawn0.step)⟩
              rw [if_neg c9] at H; have c9b0 := beq_eq_false_iff_ne.mpr c9; have c9b1 := bne_iff_ne.mpr c9; obtain rfl := Option.some.inj H; have p317 : 0 ≤ (x7_2 : Int) := of_decide_eq_true zz76; have q317 : x7_2 < (l1.length : Int) := of_decide_eq_true zz76; obtain ⟨ad317, A317_0, c317_0, e317, hx317_0, hl317_0, hi317_0⟩ := at_L1 HR1.out x7_2 p317 q317
              cases e317; have HR317_0 := aM hi317_0; have HC317_0 := aM hl317_0; clear hi317_0 hl317_0; replace p317 := eq_true p317; replace q317 := eq_true q317; go_wp2; go_ret
              exact ⟨by first | rfl | (simp; done) | (simp [*]; done), by repeat (first | exact Drawn0.refl _ | apply Drawn0.step)⟩
            rw [if_neg c8] at H
            exact absurd H (by simp)
          rw [if_neg c7] at H; have c7b0 := decide_eq_false c7; clear c7; obtain rfl := Option.some.inj H; go_wp2; go_ret
          exact ⟨by first | rfl | (simp; done) | (simp [*]; done), by repeat (first | exact Drawn0.refl _ | apply Drawn0.step)⟩
end
section
attribute [local go_sem] max2_int min2_int max_two min_two max_three min_three max_four min_four
def r30_group.f (k : Nat) (a0 : Int) (l1 : List (List Int)) : Option (Int) := if a0 < 1 then (some 4) else (if a0 > 64 then (some 4) else ((r30_all.f k a0 l1).bind fun t483 => (some t483)))
theorem r30_group.calls (k : Nat) (a0 : Int) (A1 : Option Addr) (c1 : Nat) (l1 : List (List Int)) (r : Int) (w : World) (hr1 : Kd.C (Kd.slice 3 (Kd.int .i64)) w A1 l1.length l1) (hc1 : l1.length ≤ c1) (h : r30_group.f k a0 l1 = some r) :
    Calls Try.prog 59 #[.int .i64 a0, .slice A1 l1.length c1] w fun e w' => e = .returned (.int .i64 r) ∧ Drawn0 w w' := by
  have HR1 := aM hr1
  have HC1 := aM hc1
  clear hr1 hc1
  have H : (if a0 < 1 then (some 4) else (if a0 > 64 then (some 4) else ((r30_all.f k a0 l1).bind fun t483 => (some t483)))) = some r := h
  clear h
  by_cases c3 : a0 < 1
  · rw [if_pos c3] at H
    have c3b0 := decide_eq_true c3; clear c3; obtain rfl := Option.some.inj H
    go_enter Try.func59, Try.ntmps59
    go_wp2; go_ret
    exact ⟨by first | rfl | (simp; done) | (simp [*]; done), by repeat (first | exact Drawn0.refl _ | apply Drawn0.step)⟩
  rw [if_neg c3] at H
  have c3b0 := decide_eq_false c3
  clear c3
  by_cases c4 : a0 > 64
  · rw [if_pos c4] at H
    have c4b0 := decide_eq_true c4; clear c4; obtain rfl := Option.some.inj H
    go_enter Try.func59, Try.ntmps59
    go_wp2; go_ret
    exact ⟨by first | rfl | (simp; done) | (simp [*]; done), by repeat (first | exact Drawn0.refl _ | apply Drawn0.step)⟩
  rw [if_neg c4] at H
  have c4b0 := decide_eq_false c4
  clear c4
  replace H := Option.bind_eq_some_iff.mp H
  obtain ⟨t483, A50, H⟩ := H
  replace H : (some t483) = some r := H
  have A5 := aM A50
  clear A50
  obtain rfl := Option.some.inj H
  go_enter Try.func59, Try.ntmps59
  go_wp2_with (first | ((with_reducible refine gate_callee (f := 51) rfl ?_); refine goesL_ (some 13) rfl rfl Try.func51 (by kernel_rfl) rfl #[.int .i64 a0, .slice A1 l1.length c1] rfl zz51 ?_; (with_reducible refine (r30_all.calls k a0 _ _ l1 t483 _ ?side1 ?side2 A5.out).mono ?_); (case side1 => repeat (first | exact HR1.out | (with_reducible refine Kd.C_alloc ?_ _) | (with_reducible refine Kd.C_drewN ?_ _) | (with_reducible refine Kd.C_drew ?_))); (case side2 => exact HC1.out); rintro e w' ⟨rfl, ⟨nd, rfl⟩⟩; refine ⟨_, rfl, ?_⟩))
  go_ret
  exact ⟨by first | rfl | (simp; done) | (simp [*]; done), by repeat (first | exact Drawn0.refl _ | apply Drawn0.step)⟩
end
section
attribute [local go_sem] max2_int min2_int max_two min_two max_three min_three max_four min_four
mutual
def r30_Orbits.l0 : Nat → Int → List (List Int) → List Int → Bool → Option ((List (List Int)) × Int)
  | 0, _, _, _, _ => none
  | k + 1, x0, x1, x7, x8 => if x8 = true then (r30_Orbits.l1 k x0 x1 x7 false 0) else (r30_Orbits.l3 k x0 x7 ([] : List (List Int)) 0)
def r30_Orbits.l1 : Nat → Int → List (List Int) → List Int → Bool → Int → Option ((List (List Int)) × Int)
  | 0, _, _, _, _, _ => none
  | k + 1, x0, x1, x7, x8, x9 => if x9 < (x1.length : Int) then (r30_Orbits.l2 k x0 x1 x7 x8 x9 0) else (r30_Orbits.l0 k x0 x1 x7 x8)
def r30_Orbits.l2 : Nat → Int → List (List Int) → List Int → Bool → Int → Int → Option ((List (List Int)) × Int)
  | 0, _, _, _, _, _, _ => none
  | k + 1, x0, x1, x7, x8, x9, x10 => if x10 < x0 then (if 0 ≤ x10 then (if x10 < (x7.length : Int) then (if 0 ≤ x9 then (if x9 < (x1.length : Int) then (if x10 < ((rd_L1 x1 x9).length : Int) then (if 0 ≤ (rd (rd_L1 x1 x9) x10) then (if (rd (rd_L1 x1 x9) x10) < (x7.length : Int) then (if (rd x7 x10) = (rd x7 (rd (rd_L1 x1 x9) x10)) then (r30_Orbits.l2 k x0 x1 x7 x8 x9 (wrap64 (x10 + 1))) else (r30_Orbits.l2 k x0 x1 ((x7.set (x10 : Int).toNat (mn (rd x7 x10) (rd x7 (rd (rd_L1 x1 x9) x10)))).set ((rd (rd_L1 x1 x9) x10) : Int).toNat (mn (rd x7 x10) (rd x7 (rd (rd_L1 x1 x9) x10)))) true x9 (wrap64 (x10 + 1)))) else (none)) else (none)) else (none)) else (none)) else (none)) else (none)) else (none)) else (r30_Orbits.l1 k x0 x1 x7 x8 (wrap64 (x9 + 1)))
def r30_Orbits.l3 : Nat → Int → List Int → List (List Int) → Int → Option ((List (List Int)) × Int)
  | 0, _, _, _, _ => none
  | k + 1, x0, x7, x13, x14 => if x14 < x0 then (r30_Orbits.l4 k x0 x7 x13 x14 ([] : List Int) 0) else (some (x13, 0))
def r30_Orbits.l4 : Nat → Int → List Int → List (List Int) → Int → List Int → Int → Option ((List (List Int)) × Int)
  | 0, _, _, _, _, _, _ => none
  | k + 1, x0, x7, x13, x14, x15, x16 => if x16 < x0 then (if 0 ≤ x16 then (if x16 < (x7.length : Int) then (if (rd x7 x16) = x14 then (if x15.length < 17592186044416 then (r30_Orbits.l4 k x0 x7 x13 x14 (x15 ++ [x16]) (wrap64 (x16 + 1))) else (none)) else (r30_Orbits.l4 k x0 x7 x13 x14 x15 (wrap64 (x16 + 1)))) else (none)) else (none)) else (if (x15.length : Int) > 0 then (if x13.length < 5864062014805 then (r30_Orbits.l3 k x0 x7 (x13 ++ [x15]) (wrap64 (x14 + 1))) else (none)) else (r30_Orbits.l3 k x0 x7 x13 (wrap64 (x14 + 1))))
end
def r30_Orbits.f (k : Nat) (a0 : Int) (l1 : List (List Int)) : Option ((List (List Int)) × Int) := (r30_group.f k a0 l1).bind fun t484 => (if t484 = 0 then ((r30_Unit.f k a0).bind fun t485 => (r30_Orbits.l0 k a0 l1 t485 true)) else (some (([] : List (List Int)), t484)))
theorem r30_Orbits.calls (k : Nat) (a0 : Int) (A1 : Option Addr) (c1 : Nat) (l1 : List (List Int)) (r1 : List (List Int)) (r2 : Int) (w : World) (hr1 : Kd.C (Kd.slice 3 (Kd.int .i64)) w A1 l1.length l1) (hc1 : l1.length ≤ c1) (h : r30_Orbits.f k a0 l1 = some (r1, r2)) :
    Calls Try.prog 29 #[.int .i64 a0, .slice A1 l1.length c1] w fun e w' => ∃ v0_ : Value, e = .returned (.tuple #[v0_, .int .i64 r2]) ∧ Kd.S (Kd.slice 3 (Kd.int .i64)) 22 w' w.heap.size (fun _ => True) v0_ r1 ∧ Below w.heap.size w w' := by
  have HR1 := aM hr1
  have HC1 := aM hc1
  clear hr1 hc1
  have HB := aM (Below.refl w.heap.size w)
  have H : ((r30_group.f k a0 l1).bind fun t484 => (if t484 = 0 then ((r30_Unit.f k a0).bind fun t485 => (r30_Orbits.l0 k a0 l1 t485 true)) else (some (([] : List (List Int)), t484)))) = some (r1, r2) := h
  clear h
  replace H := Option.bind_eq_some_iff.mp H
  obtain ⟨t484, A30, H⟩ := H
  replace H : (if t484 = 0 then ((r30_Unit.f k a0).bind fun t485 => (r30_Orbits.l0 k a0 l1 t485 true)) else (some (([] : List (List Int)), t484))) = some (r1, r2) := H
  have A3 := aM A30
  clear A30
  by_cases c4 : t484 = 0
  · rw [if_pos c4] at H
    have c4b0 := beq_iff_eq.mpr c4; have c4b1 := bne_eq_false_iff_eq.mpr c4; clear c4; replace H := Option.bind_eq_some_iff.mp H; obtain ⟨t485, A50, H⟩ := H; replace H : (r30_Orbits.l0 k a0 l1 t485 true) = some (r1, r2) := H; have A5 := aM A50; clear A50; have H' := aM H; clear H
    go_enter Try.func29, Try.ntmps29
    go_wp2_with (first | (go_at_call 59; (with_reducible refine (r30_group.calls k a0 _ _ l1 t484 _ ?side1 ?side2 A3.out).mono ?_); (case side1 => repeat (first | exact HR1.out | (with_reducible refine Kd.C_alloc ?_ _) | (with_reducible refine Kd.C_drewN ?_ _) | (with_reducible refine Kd.C_drew ?_))); (case side2 => exact HC1.out); rintro e w' ⟨rfl, ⟨nd, rfl⟩⟩; (try first | exact ⟨rfl, _, World.drewN_drewN _ _ _⟩ | exact ⟨rfl, _, Eq.trans (World.drewN_drewN _ _ _) (congrArg (World.drewN _) (Nat.add_assoc _ _ _))⟩)) | (go_at_call 26; (with_reducible refine (r30_Unit.calls k a0 t485 _ A5.out).mono ?_); rintro e w6 ⟨v486, rfl, ho0, hb⟩; have HO487 := aM (Kd.R_lower ho0 (below_size zz53)); replace HB := aM (below_step zz53 hb); (try clear hb); (try clear hb2); (try clear hk); (try clear hi); (try clear ho0)))
    repeat (go_quiet (first | (go_at_call 59; (with_reducible refine (r30_group.calls k a0 _ _ l1 t484 _ ?side1 ?side2 A3.out).mono ?_); (case side1 => repeat (first | exact HR1.out | (with_reducible refine Kd.C_alloc ?_ _) | (with_reducible refine Kd.C_drewN ?_ _) | (with_reducible refine Kd.C_drew ?_))); (case side2 => exact HC1.out); rintro e w' ⟨rfl, ⟨nd, rfl⟩⟩; (try first | exact ⟨rfl, _, World.drewN_drewN _ _ _⟩ | exact ⟨rfl, _, Eq.trans (World.drewN_drewN _ _ _) (congrArg (World.drewN _) (Nat.add_assoc _ _ _))⟩)) | (go_at_call 26; (with_reducible refine (r30_Unit.calls k a0 t485 _ A5.out).mono ?_); rintro e w6 ⟨v486, rfl, ho0, hb⟩; have HO487 := aM (Kd.R_lower ho0 (below_size zz53)); replace HB := aM (below_step zz53 hb); (try clear hb); (try clear hb2); (try clear hk); (try clear hi); (try clear ho0))); try go_wp2_with (first | (go_at_call 59; (with_reducible refine (r30_group.calls k a0 _ _ l1 t484 _ ?side1 ?side2 A3.out).mono ?_); (case side1 => repeat (first | exact HR1.out | (with_reducible refine Kd.C_alloc ?_ _) | (with_reducible refine Kd.C_drewN ?_ _) | (with_reducible refine Kd.C_drew ?_))); (case side2 => exact HC1.out); rintro e w' ⟨rfl, ⟨nd, rfl⟩⟩; (try first | exact ⟨rfl, _, World.drewN_drewN _ _ _⟩ | exact ⟨rfl, _, Eq.trans (World.drewN_drewN _ _ _) (congrArg (World.drewN _) (Nat.add_assoc _ _ _))⟩)) | (go_at_call 26; (with_reducible refine (r30_Unit.calls k a0 t485 _ A5.out).mono ?_); rintro e w6 ⟨v486, rfl, ho0, hb⟩; have HO487 := aM (Kd.R_lower ho0 (below_size zz53)); replace HB := aM (below_step zz53 hb); (try clear hb); (try clear hb2); (try clear hk); (try clear hi); (try clear ho0))))
    go_loopg [8] k (fun kq v8 w' => ∃ (x7_1 : List Int) (x8_1 : Bool), v8 = .bool x8_1 ∧ Aside0 (r30_Orbits.l0 kq a0 l1 x7_1 x8_1 = some (r1, r2)) ∧ Aside0 (kq ≤ k) ∧ Aside0 (Kd.R (Kd.int .i64) 3 w' w.heap.size (fun _ => True) v486 x7_1) ∧ Aside0 (Below w.heap.size w w'))
    case atStart => exact ⟨(t485), (true), zz77, H', ⟨Nat.le_refl _⟩, ⟨(zR HO487)⟩, ⟨zz53⟩⟩
    case round =>
      clear H'; (try clear c1); (try clear c2); (try clear p2); (try clear c4); (try clear c4b0); (try clear c4b1); obtain ⟨x7_1, x8_1, rfl, HA, HK1, HO_7, HB⟩ := hrel
      cases gk with
      | zero => exact absurd HA.out (by simp [r30_Orbits.l0])
      | succ k1 =>
        have H := HA.out; clear HA; simp only [r30_Orbits.l0] at H
        by_cases c7 : x8_1 = true
        · subst c7; have H1 : (r30_Orbits.l1 k1 a0 l1 x7_1 false 0) = some (r1, r2) := by rw [if_pos rfl] at H; exact H
          clear H; have H := H1; clear H1; have H' := aM H; clear H; go_wp2
          repeat (go_quiet (fail); try go_wp2)
          go_loopg [8, 9] k1 (fun kq v8 v9 w' => ∃ (x7_2 : List Int) (x8_2 : Bool) (x9_2 : Int), v8 = .bool x8_2 ∧ v9 = .int .i64 x9_2 ∧ Aside0 (r30_Orbits.l1 kq a0 l1 x7_2 x8_2 x9_2 = some (r1, r2)) ∧ Aside0 (kq ≤ k1) ∧ Aside0 (Kd.R (Kd.int .i64) 3 w' w.heap.size (fun _ => True) v486 x7_2) ∧ Aside0 (Below w.heap.size w w'))
          case atStart => exact ⟨(x7_1), (false), (0), zz77, zz77, H', ⟨Nat.le_refl _⟩, ⟨(zR HO_7)⟩, ⟨zz53⟩⟩
          case round =>
            clear H'; (try clear c1); (try clear c2); (try clear p2); (try clear c4); (try clear c4b0); (try clear c4b1); (try clear c7); (try clear p2); obtain ⟨x7_2, x8_2, x9_2, rfl, rfl, HA, HK2, HO_7, HB⟩ := hrel
            cases gk with
            | zero => exact absurd HA.out (by simp [r30_Orbits.l1])
            | succ k2 =>
              have H := HA.out; clear HA; simp only [r30_Orbits.l1] at H
              by_cases c8 : x9_2 < (l1.length : Int)
              · rw [if_pos c8] at H; have c8b0 := decide_eq_true c8; clear c8; have H' := aM H; clear H; go_wp2
                repeat (go_quiet (fail); try go_wp2)
                go_loopg [8, 10] k2 (fun kq v8 v10 w' => ∃ (x7_3 : List Int) (x8_3 : Bool) (x10_3 : Int), v8 = .bool x8_3 ∧ v10 = .int .i64 x10_3 ∧ Aside0 (r30_Orbits.l2 kq a0 l1 x7_3 x8_3 x9_2 x10_3 = some (r1, r2)) ∧ Aside0 (kq ≤ k2) ∧ Aside0 (Kd.R (Kd.int .i64) 3 w' w.heap.size (fun _ => True) v486 x7_3) ∧ Aside0 (Below w.heap.size w w'))
                case atStart => exact ⟨(x7_2), (x8_2), (0), zz77, zz77, H', ⟨Nat.le_refl _⟩, ⟨(zR HO_7)⟩, ⟨zz53⟩⟩
                case round =>
                  clear H'; (try clear c1); (try clear c2); (try clear p2); (try clear c4); (try clear c4b0); (try clear c4b1); (try clear c7); (try clear c8); (try clear c8b0); (try clear p2); obtain ⟨x7_3, x8_3, x10_3, rfl, rfl, HA, HK3, HO_7, HB⟩ := hrel
                  cases gk with
                  | zero => exact absurd HA.out (by simp [r30_Orbits.l2])
                  | succ k3 =>
                    have H := HA.out; clear HA; simp only [r30_Orbits.l2] at H
                    by_cases c9 : x10_3 < a0
                    · rw [if_pos c9] at H; have c9b0 := decide_eq_true c9; clear c9
                      by_cases c10 : 0 ≤ x10_3
                      · rw [if_pos c10] at H; have c10b0 := decide_eq_true c10; clear c10
                        by_cases c11 : x10_3 < (x7_3.length : Int)
                        · rw [if_pos c11] at H; have c11b0 := decide_eq_true c11; clear c11
                          by_cases c12 : 0 ≤ x9_2
                          · rw [if_pos c12] at H; have c12b0 := decide_eq_true c12; clear c12
                            by_cases c13 : x9_2 < (l1.length : Int)
                            · rw [if_pos c13] at H; have c13b0 := decide_eq_true c13; clear c13
                              by_cases c14 : x10_3 < ((rd_L1 l1 x9_2).length : Int)
                              · rw [if_pos c14] at H; have c14b0 := decide_eq_true c14; clear c14
                                by_cases c15 : 0 ≤ (rd (rd_L1 l1 x9_2) x10_3)
                                · rw [if_pos c15] at H; have c15b0 := decide_eq_true c15; clear c15
                                  by_cases c16 : (rd (rd_L1 l1 x9_2) x10_3) < (x7_3.length : Int)
                                  · rw [if_pos c16] at H; have c16b0 := decide_eq_true c16; clear c16
                                    by_cases c17 : (rd x7_3 x10_3) = (rd x7_3 (rd (rd_L1 l1 x9_2) x10_3))
                                    · rw [if_pos c17] at H; have c17b0 := beq_iff_eq.mpr c17; have c17b1 := bne_eq_false_iff_eq.mpr c17; clear c17; have H' := aM H; clear H; obtain ⟨Ao18, co18, eo18⟩ := Kd.R_slice HO_7.out; subst eo18; have p488 : 0 ≤ (x10_3 : Int) := of_decide_eq_true zz76; have q488 : x10_3 < (x7_3.length : Int) := of_decide_eq_true zz76; obtain ⟨ad488, e488, hx488_0⟩ := Kd.at_int (Kd.R_reads' HO_7.out).2.2 x10_3 p488 q488
                                      cases e488; replace p488 := eq_true p488; replace q488 := eq_true q488; have p489 : 0 ≤ (x9_2 : Int) := of_decide_eq_true zz76; have q489 : x9_2 < (l1.length : Int) := of_decide_eq_true zz76; obtain ⟨ad489, A489_0, c489_0, e489, hx489_0, hl489_0, hi489_0⟩ := at_L1 HR1.out x9_2 p489 q489
                                      cases e489; replace hx489_0 := (HB.out.cell (World.block_lt_of_cell? w _ hx489_0)).trans hx489_0; have HR489_0 := aM hi489_0; have HC489_0 := aM hl489_0; clear hi489_0 hl489_0; replace p489 := eq_true p489; replace q489 := eq_true q489; have p490 : 0 ≤ (x10_3 : Int) := of_decide_eq_true zz76; have q490 : x10_3 < ((rd_L1 l1 x9_2).length : Int) := of_decide_eq_true zz76; obtain ⟨ad490, e490, hx490_0⟩ := Kd.at_int HR489_0.out x10_3 p490 q490
                                      cases e490; replace hx490_0 := (HB.out.cell (World.block_lt_of_cell? w _ hx490_0)).trans hx490_0; replace p490 := eq_true p490; replace q490 := eq_true q490; have p491 : 0 ≤ ((rd (rd_L1 l1 x9_2) x10_3) : Int) := of_decide_eq_true zz76; have q491 : (rd (rd_L1 l1 x9_2) x10_3) < (x7_3.length : Int) := of_decide_eq_true zz76; obtain ⟨ad491, e491, hx491_0⟩ := Kd.at_int (Kd.R_reads' HO_7.out).2.2 (rd (rd_L1 l1 x9_2) x10_3) p491 q491; obtain rfl : ad488 = ad491 := (by injection e491); replace p491 := eq_true p491; replace q491 := eq_true q491; go_wp2
                                      repeat (go_quiet (fail); try go_wp2)
                                      go_roundg k3
                                      case measure => have := HK1.out; have := HK2.out; have := HK3.out; omega
                                      case rel => exact ⟨(x7_3), (x8_3), (wrap64 (x10_3 + 1)), zz77, zz77, H', ⟨zz75⟩, ⟨(zR HO_7)⟩, ⟨zz53⟩⟩
                                    rw [if_neg c17] at H; have c17b0 := beq_eq_false_iff_ne.mpr c17; have c17b1 := bne_iff_ne.mpr c17; obtain ⟨ji19, hji19⟩ : ∃ j_ : Int, (mn (rd x7_3 x10_3) (rd x7_3 (rd (rd_L1 l1 x9_2) x10_3))) = j_ := ⟨_, rfl⟩; replace H : (r30_Orbits.l2 k3 a0 l1 ((x7_3.set (x10_3 : Int).toNat (ji19)).set ((rd (rd_L1 l1 x9_2) x10_3) : Int).toNat (ji19)) true x9_2 (wrap64 (x10_3 + 1))) = some (r1, r2) := by first | (rw [hji19] at H; exact H) | (simp only [hji19] at H ⊢; exact H)
                                    have hji19_ : (if (rd x7_3 (rd (rd_L1 l1 x9_2) x10_3)) < (rd x7_3 x10_3) then (rd x7_3 (rd (rd_L1 l1 x9_2) x10_3)) else (rd x7_3 x10_3)) = ji19 := hji19; obtain ⟨y494, hy494⟩ : ∃ y_ : List Int, y_ = (x7_3.set (x10_3 : Int).toNat (ji19)) := ⟨_, rfl⟩; replace H : (r30_Orbits.l2 k3 a0 l1 (y494.set ((rd (rd_L1 l1 x9_2) x10_3) : Int).toNat (ji19)) true x9_2 (wrap64 (x10_3 + 1))) = some (r1, r2) := by first | (rw [hy494]; with_reducible exact H) | (have H2_ := (Option.bind_some _ _).symm.trans H; rw [hy494]; with_reducible exact H2_) | (have H2_ := (Option.bind_some _ _).symm.trans H; with_reducible exact H2_) | with_reducible exact H | (rw [hy494]; exact H) | exact H
                                    have Ny494 := aM hy494; clear hy494; obtain ⟨y495, hy495⟩ : ∃ y_ : List Int, y_ = (y494.set ((rd (rd_L1 l1 x9_2) x10_3) : Int).toNat (ji19)) := ⟨_, rfl⟩; replace H : (r30_Orbits.l2 k3 a0 l1 y495 true x9_2 (wrap64 (x10_3 + 1))) = some (r1, r2) := by first | (rw [hy495]; with_reducible exact H) | (have H2_ := (Option.bind_some _ _).symm.trans H; rw [hy495]; with_reducible exact H2_) | (have H2_ := (Option.bind_some _ _).symm.trans H; with_reducible exact H2_) | with_reducible exact H | (rw [hy495]; exact H) | exact H
                                    have Ny495 := aM hy495; clear hy495; have H' := aM H; clear H; obtain ⟨Ao22, co22, eo22⟩ := Kd.R_slice HO_7.out; subst eo22; have p488 : 0 ≤ (x10_3 : Int) := of_decide_eq_true zz76; have q488 : x10_3 < (x7_3.length : Int) := of_decide_eq_true zz76; obtain ⟨ad488, e488, hx488_0⟩ := Kd.at_int (Kd.R_reads' HO_7.out).2.2 x10_3 p488 q488
                                    cases e488; replace p488 := eq_true p488; replace q488 := eq_true q488; have p489 : 0 ≤ (x9_2 : Int) := of_decide_eq_true zz76; have q489 : x9_2 < (l1.length : Int) := of_decide_eq_true zz76; obtain ⟨ad489, A489_0, c489_0, e489, hx489_0, hl489_0, hi489_0⟩ := at_L1 HR1.out x9_2 p489 q489
                                    cases e489; replace hx489_0 := (HB.out.cell (World.block_lt_of_cell? w _ hx489_0)).trans hx489_0; have HR489_0 := aM hi489_0; have HC489_0 := aM hl489_0; clear hi489_0 hl489_0; replace p489 := eq_true p489; replace q489 := eq_true q489; have p490 : 0 ≤ (x10_3 : Int) := of_decide_eq_true zz76; have q490 : x10_3 < ((rd_L1 l1 x9_2).length : Int) := of_decide_eq_true zz76; obtain ⟨ad490, e490, hx490_0⟩ := Kd.at_int HR489_0.out x10_3 p490 q490
                                    cases e490; replace hx490_0 := (HB.out.cell (World.block_lt_of_cell? w _ hx490_0)).trans hx490_0; replace p490 := eq_true p490; replace q490 := eq_true q490; have p491 : 0 ≤ ((rd (rd_L1 l1 x9_2) x10_3) : Int) := of_decide_eq_true zz76; have q491 : (rd (rd_L1 l1 x9_2) x10_3) < (x7_3.length : Int) := of_decide_eq_true zz76; obtain ⟨ad491, e491, hx491_0⟩ := Kd.at_int (Kd.R_reads' HO_7.out).2.2 (rd (rd_L1 l1 x9_2) x10_3) p491 q491; obtain rfl : ad488 = ad491 := (by injection e491); replace p491 := eq_true p491; replace q491 := eq_true q491; have p492 : 0 ≤ (x9_2 : Int) := of_decide_eq_true zz76; have q492 : x9_2 < (l1.length : Int) := of_decide_eq_true zz76; obtain ⟨ad492, A492_0, c492_0, e492, hx492_0, hl492_0, hi492_0⟩ := at_L1 HR1.out x9_2 p492 q492; obtain rfl : ad489 = ad492 := (by injection e492); replace hx492_0 := (HB.out.cell (World.block_lt_of_cell? w _ hx492_0)).trans hx492_0; have HR492_0 := aM hi492_0; have HC492_0 := aM hl492_0; clear hi492_0 hl492_0; replace p492 := eq_true p492; replace q492 := eq_true q492; have ea_ := Option.some.inj (hx489_0.symm.trans hx492_0); injection ea_ with ea_ en_ ec_
                                    subst ea_; subst ec_; clear en_; have p493 : 0 ≤ (x10_3 : Int) := of_decide_eq_true zz76; have q493 : x10_3 < ((rd_L1 l1 x9_2).length : Int) := of_decide_eq_true zz76; obtain ⟨ad493, e493, hx493_0⟩ := Kd.at_int HR492_0.out x10_3 p493 q493
                                    cases e493; replace hx493_0 := (HB.out.cell (World.block_lt_of_cell? w _ hx493_0)).trans hx493_0; replace p493 := eq_true p493; replace q493 := eq_true q493; have p20 : 0 ≤ (x10_3 : Int) := of_decide_eq_true zz76; have q20 : (x10_3 : Int) < ((x7_3.length : Int) : Int) := of_decide_eq_true zz76; obtain ⟨go20, co20, eo20, gb20, gl20, cl20, HG20⟩ := Kd.R_form HO_7.out (by omega)
                                    (first | cases eo20 | (injection eo20 with ea_ en_ ec_; (first | subst ea_ | (injection ea_ with ea_; subst ea_)); subst ec_; clear en_))
                                    have GB20 := aM gb20; have GG20 := aM HG20; clear gb20 gl20 HG20
                                    (first | simp only [add_plain] at hx488_0 | skip)
                                    (first | simp only [add_plain] at hx491_0 | skip)
                                    obtain ⟨hx20_0, hf20_0⟩ := Kd.R_celln 0 HO_7.out (x10_3 : Int) p20 q20; replace p20 := eq_true p20; replace q20 := eq_true q20; go_wp2
                                    go_quiet (fail)
                                    have n0_ := aM (Kd.R_drewN HO_7.out nq); have n1_ := aM (pw_below_drewN HB.out nq); clear HO_7 HB hx20_0 hf20_0; have HO_7 := n0_; have HB := n1_; clear n0_ n1_; obtain ⟨hx20_0, hf20_0⟩ := Kd.R_celln 0 HO_7.out (x10_3 : Int) (of_eq_true p20) (of_eq_true q20); have HP23 := Kd.R_putg HO_7.out (x10_3 : Int) ji19
                                    go_wp2_with (first | ((with_reducible refine gate_store (t := 3) (p := 70) rfl ?_); refine store_event (t := 3) (p := 70) (v := ?vo_w24) (w1 := ((wr.drewN nq).setCell ⟨go20, (x10_3 : Int).toNat, none⟩ (.int .i64 ji19))) ?hg ?ho ?hn ?hr ?_; (case ho => rfl); (case hg => rfl); (case hn => rfl); (case hr => first | (go_simp; done) | (go_simp; rfl)); intro w24 hw; have hg : (wr.drewN nq).grownBy w24 (some go20) := (by rw [hw]; exact HP23.2); have hp_ : Kd.R (Kd.int .i64) 3 w24 w.heap.size (fun _ => True) (.slice (some ⟨go20, 0, none⟩) x7_3.length co22) y494 := (by rw [hw, Ny494.out]; exact HP23.1); clear HP23; replace HO_7 := aM (hp_); replace HB := aM ((by rw [hw]; exact below_set (HB.out) GB20.out : Below w.heap.size w w24)); clear hg hw hp_; have p21 : 0 ≤ ((rd (rd_L1 l1 x9_2) x10_3) : Int) := of_decide_eq_true zz76; have q21 : ((rd (rd_L1 l1 x9_2) x10_3) : Int) < ((x7_3.length : Int) : Int) := of_decide_eq_true zz76; obtain ⟨hx21_0, hf21_0⟩ := Kd.R_celln 0 HO_7.out ((rd (rd_L1 l1 x9_2) x10_3) : Int) p21 q21; replace p21 := eq_true p21; replace q21 := eq_true q21; obtain ⟨hy25_, hz25_⟩ := Kd.R_celln 0 HO_7.out ((rd (rd_L1 l1 x9_2) x10_3) : Int) (of_decide_eq_true zz76) (of_decide_eq_true zz76); have HP25 := Kd.R_putg HO_7.out ((rd (rd_L1 l1 x9_2) x10_3) : Int) ji19) | ((with_reducible refine gate_store (t := 3) (p := 71) rfl ?_); refine store_event (t := 3) (p := 71) (v := ?vo_w26) (w1 := (w24.setCell ⟨go20, ((rd (rd_L1 l1 x9_2) x10_3) : Int).toNat, none⟩ (.int .i64 ji19))) ?hg ?ho ?hn ?hr ?_; (case ho => rfl); (case hg => rfl); (case hn => rfl); (case hr => first | (go_simp; done) | (go_simp; rfl)); intro w26 hw; have hg : w24.grownBy w26 (some go20) := (by rw [hw]; exact HP25.2); have hp_ : Kd.R (Kd.int .i64) 3 w26 w.heap.size (fun _ => True) (.slice (some ⟨go20, 0, none⟩) x7_3.length co22) y495 := (by rw [hw, Ny495.out]; exact HP25.1); clear HP25; replace HO_7 := aM (hp_); replace HB := aM ((by rw [hw]; exact below_set (HB.out) GB20.out : Below w.heap.size w w26)); clear hg hw hp_))
                                    go_roundg k3
                                    case measure => have := HK1.out; have := HK2.out; have := HK3.out; omega
                                    case rel => exact ⟨(y495), (true), (wrap64 (x10_3 + 1)), zz77, zz77, H', ⟨zz75⟩, ⟨(zR HO_7)⟩, ⟨zz53⟩⟩
                                  rw [if_neg c16] at H
                                  exact absurd H (by simp)
                                rw [if_neg c15] at H
                                exact absurd H (by simp)
                              rw [if_neg c14] at H
                              exact absurd H (by simp)
                            rw [if_neg c13] at H
                            exact absurd H (by simp)
                          rw [if_neg c12] at H
                          exact absurd H (by simp)
                        rw [if_neg c11] at H
                        exact absurd H (by simp)
                      rw [if_neg c10] at H
                      exact absurd H (by simp)
                    rw [if_neg c9] at H; have c9b0 := decide_eq_false c9; clear c9; have H' := aM H; clear H; go_wp2
                    repeat (go_quiet (fail); try go_wp2)
                    go_roundg k3
                    case measure => have := HK1.out; have := HK2.out; have := HK3.out; omega
                    case rel => exact ⟨(x7_3), (x8_3), (wrap64 (x9_2 + 1)), zz77, zz77, H', ⟨zz75⟩, ⟨(zR HO_7)⟩, ⟨zz53⟩⟩
              rw [if_neg c8] at H; have c8b0 := decide_eq_false c8; clear c8; have H' := aM H; clear H; go_wp2
              repeat (go_quiet (fail); try go_wp2)
              go_roundg k2
              case measure => have := HK1.out; have := HK2.out; omega
              case rel => exact ⟨(x7_2), (x8_2), zz77, H', ⟨zz78⟩, ⟨(zR HO_7)⟩, ⟨zz53⟩⟩
        replace c7 := Bool.eq_false_iff.mpr c7; subst c7; have H1 : (r30_Orbits.l3 k1 a0 x7_1 ([] : List (List Int)) 0) = some (r1, r2) := by rw [if_neg (show ¬ (false = true) by decide)] at H; exact H
        clear H; have H := H1; clear H1; have H' := aM H; clear H; go_wp2
        repeat (go_quiet (fail); try go_wp2)
        go_loopg [13, 14] k1 (fun kq v13 v14 w' => ∃ (x13_2 : List (List Int)) (x14_2 : Int), v14 = .int .i64 x14_2 ∧ Aside0 (r30_Orbits.l3 kq a0 x7_1 x13_2 x14_2 = some (r1, r2)) ∧ Aside0 (kq ≤ k1) ∧ Aside0 (Kd.R (Kd.int .i64) 3 w' w.heap.size (fun _ => True) v486 x7_1) ∧ Aside0 (Kd.S (Kd.slice 3 (Kd.int .i64)) 22 w' w.heap.size (fun k_ => some k_ ≠ (v486 : Value).ownBlock) v13 x13_2) ∧ Aside0 (Below w.heap.size w w'))
        case atStart => exact ⟨(([] : List (List Int))), (0), zz77, H', ⟨Nat.le_refl _⟩, ⟨(zR HO_7)⟩, ⟨zz49⟩, ⟨zz53⟩⟩
        case round =>
          clear H'; (try clear c1); (try clear c2); (try clear p2); (try clear q2); (try clear hx2); (try clear hf2); (try clear c4); (try clear c4b0); (try clear c4b1); (try clear p4); (try clear q4); (try clear hx4); (try clear p6); (try clear c7); (try clear c8); (try clear c8b0); (try clear c9); (try clear c9b0); (try clear c10); (try clear c10b0); (try clear c11); (try clear c11b0); (try clear c12); (try clear c12b0); (try clear c13); (try clear c13b0); (try clear c14); (try clear c14b0); (try clear c15); (try clear c15b0); (try clear c16); (try clear c16b0); (try clear c17); (try clear c17b0); (try clear c17b1); (try clear p20); (try clear q20); (try clear hx20); (try clear hf20); (try clear p21); (try clear q21); (try clear hx21); (try clear hf21); (try clear hx20_0); (try clear hx21_0); (try clear hx488_0); (try clear hx489_0); (try clear hx490_0); (try clear hx491_0); (try clear hx492_0); (try clear hx493_0); (try clear p2); (try clear p20); (try clear p21); (try clear p488); (try clear p489); (try clear p490); (try clear p491); (try clear p492); (try clear p493); (try clear q20); (try clear q21); (try clear q488); (try clear q489); (try clear q490); (try clear q491); (try clear q492); (try clear q493); obtain ⟨x13_2, x14_2, rfl, HA, HK2, HO_7, HO_13, HB⟩ := hrel
          cases gk with
          | zero => exact absurd HA.out (by simp [r30_Orbits.l3])
          | succ k2 =>
            have H := HA.out; clear HA; simp only [r30_Orbits.l3] at H
            by_cases c27 : x14_2 < a0
            · rw [if_pos c27] at H; have c27b0 := decide_eq_true c27; clear c27; have H' := aM H; clear H; go_wp2
              repeat (go_quiet (fail); try go_wp2)
              go_loopg [15, 16] k2 (fun kq v15 v16 w' => ∃ (x15_3 : List Int) (x16_3 : Int), v16 = .int .i64 x16_3 ∧ Aside0 (r30_Orbits.l4 kq a0 x7_1 x13_2 x14_2 x15_3 x16_3 = some (r1, r2)) ∧ Aside0 (kq ≤ k2) ∧ Aside0 (Kd.R (Kd.int .i64) 3 w' w.heap.size (fun k_ => some k_ ≠ (v15 : Value).ownBlock) v486 x7_1) ∧ Aside0 (Kd.S (Kd.slice 3 (Kd.int .i64)) 22 w' w.heap.size (fun k_ => some k_ ≠ (v486 : Value).ownBlock ∧ some k_ ≠ (v15 : Value).ownBlock) u13 x13_2) ∧ Aside0 (Kd.R (Kd.int .i64) 3 w' w.heap.size (fun k_ => some k_ ≠ (v486 : Value).ownBlock) v15 x15_3) ∧ Aside0 (Below w.heap.size w w'))
              case atStart => exact ⟨(([] : List Int)), (0), zz77, H', ⟨Nat.le_refl _⟩, ⟨(by (with_reducible repeat (first | apply Kd.R_alloc | apply Kd.R_drewN | apply Kd.R_drew)); exact Kd.R_mono HO_7.out (fun _ hk => zz84))⟩, ⟨(by (with_reducible repeat (first | apply Kd.S_alloc | apply Kd.S_drewN | apply Kd.S_drew)); exact Kd.S_mono HO_13.out (fun _ hk => ⟨hk, zz84⟩))⟩, ⟨zz50⟩, ⟨zz53⟩⟩
              case round =>
                clear H'; (try clear c1); (try clear c2); (try clear p2); (try clear q2); (try clear hx2); (try clear hf2); (try clear c4); (try clear c4b0); (try clear c4b1); (try clear p4); (try clear q4); (try clear hx4); (try clear p6); (try clear c7); (try clear c8); (try clear c8b0); (try clear c9); (try clear c9b0); (try clear c10); (try clear c10b0); (try clear c11); (try clear c11b0); (try clear c12); (try clear c12b0); (try clear c13); (try clear c13b0); (try clear c14); (try clear c14b0); (try clear c15); (try clear c15b0); (try clear c16); (try clear c16b0); (try clear c17); (try clear c17b0); (try clear c17b1); (try clear p20); (try clear q20); (try clear hx20); (try clear hf20); (try clear p21); (try clear q21); (try clear hx21); (try clear hf21); (try clear c27); (try clear c27b0); (try clear hx20_0); (try clear hx21_0); (try clear hx488_0); (try clear hx489_0); (try clear hx490_0); (try clear hx491_0); (try clear hx492_0); (try clear hx493_0); (try clear p2); (try clear p20); (try clear p21); (try clear p4); (try clear p488); (try clear p489); (try clear p490); (try clear p491); (try clear p492); (try clear p493); (try clear p6); (try clear q2); (try clear q20); (try clear q21); (try clear q4); (try clear q488); (try clear q489); (try clear q490); (try clear q491); (try clear q492); (try clear q493); obtain ⟨x15_3, x16_3, rfl, HA, HK3, HO_7, HO_13, HO_15, HB⟩ := hrel
                cases gk with
                | zero => exact absurd HA.out (by simp [r30_Orbits.l4])
                | succ k3 =>
                  have H := HA.out; clear HA; simp only [r30_Orbits.l4] at H
                  by_cases c28 : x16_3 < a0
                  · rw [if_pos c28] at H; have c28b0 := decide_eq_true c28; clear c28
                    by_cases c29 : 0 ≤ x16_3
                    · rw [if_pos c29] at H; have c29b0 := decide_eq_true c29; clear c29
                      by_cases c30 : x16_3 < (x7_1.length : Int)
                      · rw [if_pos c30] at H; have c30b0 := decide_eq_true c30; clear c30
                        by_cases c31 : (rd x7_1 x16_3) = x14_2
                        · rw [if_pos c31] at H; have c31b0 := beq_iff_eq.mpr c31; have c31b1 := bne_eq_false_iff_eq.mpr c31; clear c31
                          by_cases c32 : x15_3.length < 17592186044416
                          · rw [if_pos c32] at H; have LMc32 := aM c32; clear c32; obtain ⟨y497, hy497⟩ : ∃ y_ : List Int, y_ = (x15_3 ++ [x16_3]) := ⟨_, rfl⟩; replace H : (r30_Orbits.l4 k3 a0 x7_1 x13_2 x14_2 y497 (wrap64 (x16_3 + 1))) = some (r1, r2) := by first | (rw [hy497]; with_reducible exact H) | (have H2_ := (Option.bind_some _ _).symm.trans H; rw [hy497]; with_reducible exact H2_) | (have H2_ := (Option.bind_some _ _).symm.trans H; with_reducible exact H2_) | with_reducible exact H | (rw [hy497]; exact H) | exact H
                            have Ny497 := aM hy497; clear hy497; have H' := aM H; clear H; obtain ⟨Ao33, co33, eo33⟩ := Kd.R_slice HO_7.out; subst eo33; have p496 : 0 ≤ (x16_3 : Int) := of_decide_eq_true zz76; have q496 : x16_3 < (x7_1.length : Int) := of_decide_eq_true zz76; obtain ⟨ad496, e496, hx496_0⟩ := Kd.at_int (Kd.R_reads' HO_7.out).2.2 x16_3 p496 q496
                            cases e496; replace p496 := eq_true p496; replace q496 := eq_true q496
                            go_wp2_with (first | ((with_reducible refine gate_builtin (b := .append) (xs := #[.tmp 88, .tmp 90]) rfl ?_); at_builtin; refine Kd.R_append (Kd.int .i64) (w0 := w) w.heap.size rfl (.tmp 88) (.tmp 90) 22 3 (.int .i64 0) 8 rfl Try.underlying22 info3 rfl (by decide) (by omega) u15 x15_3 x16_3 [.int .i64 x16_3] (fun k_ => some k_ ≠ (.slice (some ad496) x7_1.length co33 : Value).ownBlock) (fun _ => False) rfl rfl ?aP (fun _ hk => hk.elim) ?aF ?aO ?aB ?aS ?aL ?_; (case aP => exact rfl); (case aB => exact zz53); (case aF => exact (fun k_ hk => Kd.fresh' (Kd.R_lt (zR HO_7)) k_ hk)); (case aO => exact (zR HO_15)); (case aS => exact (below_size zz53)); (case aL => have := LMc32.out; omega); intro v498 w34 ho hb hg hat; rw [← Ny497.out] at ho; replace HO_7 := aM (Kd.R_after (ok := (fun _ => True)) zz22 hg hat); replace HO_13 := aM (Kd.S_after (ok := (fun k_ => some k_ ≠ (.slice (some ad496) x7_1.length co33 : Value).ownBlock)) (zS HO_13) hg hat); replace HB := aM (hb); have HO499 := aM (ho); clear HO_15; clear ho hb hg hat))
                            repeat (go_quiet (first | ((with_reducible refine gate_builtin (b := .append) (xs := #[.tmp 88, .tmp 90]) rfl ?_); at_builtin; refine Kd.R_append (Kd.int .i64) (w0 := w) w.heap.size rfl (.tmp 88) (.tmp 90) 22 3 (.int .i64 0) 8 rfl Try.underlying22 info3 rfl (by decide) (by omega) u15 x15_3 x16_3 [.int .i64 x16_3] (fun k_ => some k_ ≠ (.slice (some ad496) x7_1.length co33 : Value).ownBlock) (fun _ => False) rfl rfl ?aP (fun _ hk => hk.elim) ?aF ?aO ?aB ?aS ?aL ?_; (case aP => exact rfl); (case aB => exact zz53); (case aF => exact (fun k_ hk => Kd.fresh' (Kd.R_lt (zR HO_7)) k_ hk)); (case aO => exact (zR HO_15)); (case aS => exact (below_size zz53)); (case aL => have := LMc32.out; omega); intro v498 w34 ho hb hg hat; rw [← Ny497.out] at ho; replace HO_7 := aM (Kd.R_after (ok := (fun _ => True)) zz22 hg hat); replace HO_13 := aM (Kd.S_after (ok := (fun k_ => some k_ ≠ (.slice (some ad496) x7_1.length co33 : Value).ownBlock)) (zS HO_13) hg hat); replace HB := aM (hb); have HO499 := aM (ho); clear HO_15; clear ho hb hg hat)); try go_wp2_with (first | ((with_reducible refine gate_builtin (b := .append) (xs := #[.tmp 88, .tmp 90]) rfl ?_); at_builtin; refine Kd.R_append (Kd.int .i64) (w0 := w) w.heap.size rfl (.tmp 88) (.tmp 90) 22 3 (.int .i64 0) 8 rfl Try.underlying22 info3 rfl (by decide) (by omega) u15 x15_3 x16_3 [.int .i64 x16_3] (fun k_ => some k_ ≠ (.slice (some ad496) x7_1.length co33 : Value).ownBlock) (fun _ => False) rfl rfl ?aP (fun _ hk => hk.elim) ?aF ?aO ?aB ?aS ?aL ?_; (case aP => exact rfl); (case aB => exact zz53); (case aF => exact (fun k_ hk => Kd.fresh' (Kd.R_lt (zR HO_7)) k_ hk)); (case aO => exact (zR HO_15)); (case aS => exact (below_size zz53)); (case aL => have := LMc32.out; omega); intro v498 w34 ho hb hg hat; rw [← Ny497.out] at ho; replace HO_7 := aM (Kd.R_after (ok := (fun _ => True)) zz22 hg hat); replace HO_13 := aM (Kd.S_after (ok := (fun k_ => some k_ ≠ (.slice (some ad496) x7_1.length co33 : Value).ownBlock)) (zS HO_13) hg hat); replace HB := aM (hb); have HO499 := aM (ho); clear HO_15; clear ho hb hg hat)))
                            go_roundg k3
                            case measure => have := HK1.out; have := HK2.out; have := HK3.out; omega
                            case rel => exact ⟨(y497), (wrap64 (x16_3 + 1)), zz77, H', ⟨zz75⟩, ⟨(by (with_reducible repeat (first | apply Kd.R_alloc | apply Kd.R_drewN | apply Kd.R_drew)); exact Kd.R_mono HO_7.out (fun _ hk => by first | exact hk.2 | ((repeat' apply And.intro) <;> (first | exact hk | exact hk.1 | exact hk.2 | exact hk.1.1 | exact hk.1.2 | exact hk.2.1 | exact hk.2.2 | exact hk.1.1.1 | exact hk.1.1.2 | exact hk.1.2.1 | exact hk.1.2.2 | exact hk.2.1.1 | exact hk.2.1.2 | exact hk.2.2.1 | exact hk.2.2.2 | exact hk.1.1.1.1 | exact hk.1.1.1.2 | exact hk.2.2.2.1 | exact hk.2.2.2.2))))⟩, ⟨(zS HO_13)⟩, ⟨(zR HO499)⟩, ⟨zz53⟩⟩
                          rw [if_neg c32] at H
                          exact absurd H (by simp)
                        rw [if_neg c31] at H; have c31b0 := beq_eq_false_iff_ne.mpr c31; have c31b1 := bne_iff_ne.mpr c31; have H' := aM H; clear H; obtain ⟨Ao35, co35, eo35⟩ := Kd.R_slice HO_7.out; subst eo35; have p496 : 0 ≤ (x16_3 : Int) := of_decide_eq_true zz76; have q496 : x16_3 < (x7_1.length : Int) := of_decide_eq_true zz76; obtain ⟨ad496, e496, hx496_0⟩ := Kd.at_int (Kd.R_reads' HO_7.out).2.2 x16_3 p496 q496
                        cases e496; replace p496 := eq_true p496; replace q496 := eq_true q496; go_wp2
                        repeat (go_quiet (fail); try go_wp2)
                        go_roundg k3
                        case measure => have := HK1.out; have := HK2.out; have := HK3.out; omega
                        case rel => exact ⟨(x15_3), (wrap64 (x16_3 + 1)), zz77, H', ⟨zz75⟩, ⟨(zR HO_7)⟩, ⟨(zS HO_13)⟩, ⟨(zR HO_15)⟩, ⟨zz53⟩⟩
                      rw [if_neg c30] at H
                      exact absurd H (by simp)
                    rw [if_neg c29] at H
                    exact absurd H (by simp)
                  rw [if_neg c28] at H; have c28b0 := decide_eq_false c28; clear c28
                  by_cases c36 : (x15_3.length : Int) > 0
                  · rw [if_pos c36] at H; have c36b0 := decide_eq_true c36; have c36b1 : decide (0 < x15_3.length) = true := decide_eq_true (by omega); clear c36
                    by_cases c37 : x13_2.length < 5864062014805
                    · rw [if_pos c37] at H; have LMc37 := aM c37; clear c37; obtain ⟨y500, hy500⟩ : ∃ y_ : List (List Int), y_ = (x13_2 ++ [x15_3]) := ⟨_, rfl⟩; replace H : (r30_Orbits.l3 k3 a0 x7_1 y500 (wrap64 (x14_2 + 1))) = some (r1, r2) := by first | (rw [hy500]; with_reducible exact H) | (have H2_ := (Option.bind_some _ _).symm.trans H; rw [hy500]; with_reducible exact H2_) | (have H2_ := (Option.bind_some _ _).symm.trans H; with_reducible exact H2_) | with_reducible exact H | (rw [hy500]; exact H) | exact H
                      have Ny500 := aM hy500; clear hy500; have H' := aM H; clear H; obtain ⟨Ao38, co38, eo38⟩ := Kd.R_slice HO_15.out; subst eo38
                      go_wp2_with (first | ((with_reducible refine gate_builtin (b := .append) (xs := #[.tmp 95, .tmp 97]) rfl ?_); at_builtin; refine Kd.S_append (Kd.slice 3 (Kd.int .i64)) (w0 := w) w.heap.size rfl (.tmp 95) (.tmp 97) 28 22 (.slice none 0 0) 24 rfl Try.underlying28 info22 rfl (by decide) (by omega) u13 x13_2 x15_3 [.slice Ao38 x15_3.length co38] (fun k_ => some k_ ≠ (v486 : Value).ownBlock) (fun k_ => some k_ = (.slice Ao38 x15_3.length co38 : Value).ownBlock) rfl rfl ?aP (fun k_ hk_ => ((Kd.R_mono (ok' := fun k_ => ((fun k_ => some k_ ≠ (v486 : Value).ownBlock)) k_ ∧ some k_ ≠ (u13 : Value).ownBlock) (Kd.R_apart' (HO_15.out) (Kd.S_typed HO_13.out) (by decide)) (fun k_ hk => by first | exact ⟨hk.1, hk.2⟩ | ((repeat' apply And.intro) <;> (first | exact hk | exact hk.1 | exact hk.2 | exact hk.1.1 | exact hk.1.2 | exact hk.2.1 | exact hk.2.2 | exact hk.1.1.1 | exact hk.1.1.2 | exact hk.1.2.1 | exact hk.1.2.2 | exact hk.2.1.1 | exact hk.2.1.2 | exact hk.2.2.1 | exact hk.2.2.2 | exact hk.1.1.1.1 | exact hk.1.1.1.2 | exact hk.2.2.2.1 | exact hk.2.2.2.2))))).1 k_ hk_.symm) ?aF ?aO ?aB ?aS ?aL ?_; (case aP => exact Kd.M_row (Kd.R_mono (Kd.R_tight rfl (Kd.R_mono (ok' := fun k_ => ((fun k_ => some k_ ≠ (v486 : Value).ownBlock)) k_ ∧ some k_ ≠ (u13 : Value).ownBlock) (Kd.R_apart' (HO_15.out) (Kd.S_typed HO_13.out) (by decide)) (fun k_ hk => by first | exact ⟨hk.1, hk.2⟩ | ((repeat' apply And.intro) <;> (first | exact hk | exact hk.1 | exact hk.2 | exact hk.1.1 | exact hk.1.2 | exact hk.2.1 | exact hk.2.2 | exact hk.1.1.1 | exact hk.1.1.2 | exact hk.1.2.1 | exact hk.1.2.2 | exact hk.2.1.1 | exact hk.2.1.2 | exact hk.2.2.1 | exact hk.2.2.2 | exact hk.1.1.1.1 | exact hk.1.1.1.2 | exact hk.2.2.2.1 | exact hk.2.2.2.2))))) (fun _ h_ => h_))); (case aB => exact zz53); (case aF => exact (fun k_ hk => Kd.fresh' (Kd.R_lt (zR HO_7)) k_ hk)); (case aO => exact zz21); (case aS => exact (below_size zz53)); (case aL => have := LMc37.out; omega); intro v501 w39 ho hb hg hat; rw [← Ny500.out] at ho; replace HO_7 := aM (Kd.R_over' (zR HO_7) (Kd.S_typed (zS HO_13)) (by decide) hg); replace HB := aM (hb); have HO502 := aM (ho); clear HO_13 HO_15; clear ho hb hg hat))
                      repeat (go_quiet (first | ((with_reducible refine gate_builtin (b := .append) (xs := #[.tmp 95, .tmp 97]) rfl ?_); at_builtin; refine Kd.S_append (Kd.slice 3 (Kd.int .i64)) (w0 := w) w.heap.size rfl (.tmp 95) (.tmp 97) 28 22 (.slice none 0 0) 24 rfl Try.underlying28 info22 rfl (by decide) (by omega) u13 x13_2 x15_3 [.slice Ao38 x15_3.length co38] (fun k_ => some k_ ≠ (v486 : Value).ownBlock) (fun k_ => some k_ = (.slice Ao38 x15_3.length co38 : Value).ownBlock) rfl rfl ?aP (fun k_ hk_ => ((Kd.R_mono (ok' := fun k_ => ((fun k_ => some k_ ≠ (v486 : Value).ownBlock)) k_ ∧ some k_ ≠ (u13 : Value).ownBlock) (Kd.R_apart' (HO_15.out) (Kd.S_typed HO_13.out) (by decide)) (fun k_ hk => by first | exact ⟨hk.1, hk.2⟩ | ((repeat' apply And.intro) <;> (first | exact hk | exact hk.1 | exact hk.2 | exact hk.1.1 | exact hk.1.2 | exact hk.2.1 | exact hk.2.2 | exact hk.1.1.1 | exact hk.1.1.2 | exact hk.1.2.1 | exact hk.1.2.2 | exact hk.2.1.1 | exact hk.2.1.2 | exact hk.2.2.1 | exact hk.2.2.2 | exact hk.1.1.1.1 | exact hk.1.1.1.2 | exact hk.2.2.2.1 | exact hk.2.2.2.2))))).1 k_ hk_.symm) ?aF ?aO ?aB ?aS ?aL ?_; (case aP => exact Kd.M_row (Kd.R_mono (Kd.R_tight rfl (Kd.R_mono (ok' := fun k_ => ((fun k_ => some k_ ≠ (v486 : Value).ownBlock)) k_ ∧ some k_ ≠ (u13 : Value).ownBlock) (Kd.R_apart' (HO_15.out) (Kd.S_typed HO_13.out) (by decide)) (fun k_ hk => by first | exact ⟨hk.1, hk.2⟩ | ((repeat' apply And.intro) <;> (first | exact hk | exact hk.1 | exact hk.2 | exact hk.1.1 | exact hk.1.2 | exact hk.2.1 | exact hk.2.2 | exact hk.1.1.1 | exact hk.1.1.2 | exact hk.1.2.1 | exact hk.1.2.2 | exact hk.2.1.1 | exact hk.2.1.2 | exact hk.2.2.1 | exact hk.2.2.2 | exact hk.1.1.1.1 | exact hk.1.1.1.2 | exact hk.2.2.2.1 | exact hk.2.2.2.2))))) (fun _ h_ => h_))); (case aB => exact zz53); (case aF => exact (fun k_ hk => Kd.fresh' (Kd.R_lt (zR HO_7)) k_ hk)); (case aO => exact zz21); (case aS => exact (below_size zz53)); (case aL => have := LMc37.out; omega); intro v501 w39 ho hb hg hat; rw [← Ny500.out] at ho; replace HO_7 := aM (Kd.R_over' (zR HO_7) (Kd.S_typed (zS HO_13)) (by decide) hg); replace HB := aM (hb); have HO502 := aM (ho); clear HO_13 HO_15; clear ho hb hg hat)); try go_wp2_with (first | ((with_reducible refine gate_builtin (b := .append) (xs := #[.tmp 95, .tmp 97]) rfl ?_); at_builtin; refine Kd.S_append (Kd.slice 3 (Kd.int .i64)) (w0 := w) w.heap.size rfl (.tmp 95) (.tmp 97) 28 22 (.slice none 0 0) 24 rfl Try.underlying28 info22 rfl (by decide) (by omega) u13 x13_2 x15_3 [.slice Ao38 x15_3.length co38] (fun k_ => some k_ ≠ (v486 : Value).ownBlock) (fun k_ => some k_ = (.slice Ao38 x15_3.length co38 : Value).ownBlock) rfl rfl ?aP (fun k_ hk_ => ((Kd.R_mono (ok' := fun k_ => ((fun k_ => some k_ ≠ (v486 : Value).ownBlock)) k_ ∧ some k_ ≠ (u13 : Value).ownBlock) (Kd.R_apart' (HO_15.out) (Kd.S_typed HO_13.out) (by decide)) (fun k_ hk => by first | exact ⟨hk.1, hk.2⟩ | ((repeat' apply And.intro) <;> (first | exact hk | exact hk.1 | exact hk.2 | exact hk.1.1 | exact hk.1.2 | exact hk.2.1 | exact hk.2.2 | exact hk.1.1.1 | exact hk.1.1.2 | exact hk.1.2.1 | exact hk.1.2.2 | exact hk.2.1.1 | exact hk.2.1.2 | exact hk.2.2.1 | exact hk.2.2.2 | exact hk.1.1.1.1 | exact hk.1.1.1.2 | exact hk.2.2.2.1 | exact hk.2.2.2.2))))).1 k_ hk_.symm) ?aF ?aO ?aB ?aS ?aL ?_; (case aP => exact Kd.M_row (Kd.R_mono (Kd.R_tight rfl (Kd.R_mono (ok' := fun k_ => ((fun k_ => some k_ ≠ (v486 : Value).ownBlock)) k_ ∧ some k_ ≠ (u13 : Value).ownBlock) (Kd.R_apart' (HO_15.out) (Kd.S_typed HO_13.out) (by decide)) (fun k_ hk => by first | exact ⟨hk.1, hk.2⟩ | ((repeat' apply And.intro) <;> (first | exact hk | exact hk.1 | exact hk.2 | exact hk.1.1 | exact hk.1.2 | exact hk.2.1 | exact hk.2.2 | exact hk.1.1.1 | exact hk.1.1.2 | exact hk.1.2.1 | exact hk.1.2.2 | exact hk.2.1.1 | exact hk.2.1.2 | exact hk.2.2.1 | exact hk.2.2.2 | exact hk.1.1.1.1 | exact hk.1.1.1.2 | exact hk.2.2.2.1 | exact hk.2.2.2.2))))) (fun _ h_ => h_))); (case aB => exact zz53); (case aF => exact (fun k_ hk => Kd.fresh' (Kd.R_lt (zR HO_7)) k_ hk)); (case aO => exact zz21); (case aS => exact (below_size zz53)); (case aL => have := LMc37.out; omega); intro v501 w39 ho hb hg hat; rw [← Ny500.out] at ho; replace HO_7 := aM (Kd.R_over' (zR HO_7) (Kd.S_typed (zS HO_13)) (by decide) hg); replace HB := aM (hb); have HO502 := aM (ho); clear HO_13 HO_15; clear ho hb hg hat)))
                      go_roundg k3
                      case measure => have := HK1.out; have := HK2.out; have := HK3.out; omega
                      case rel => exact ⟨(y500), (wrap64 (x14_2 + 1)), zz77, H', ⟨zz75⟩, ⟨zz52⟩, ⟨(zS HO502)⟩, ⟨zz53⟩⟩
                    rw [if_neg c37] at H
                    exact absurd H (by simp)
                  rw [if_neg c36] at H; have c36b0 := decide_eq_false c36; have c36b1 : decide (0 < x15_3.length) = false := decide_eq_false (by omega); clear c36; have H' := aM H; clear H; obtain ⟨Ao40, co40, eo40⟩ := Kd.R_slice HO_15.out; subst eo40; go_wp2
                  repeat (go_quiet (fail); try go_wp2)
                  go_roundg k3
                  case measure => have := HK1.out; have := HK2.out; have := HK3.out; omega
                  case rel => exact ⟨(x13_2), (wrap64 (x14_2 + 1)), zz77, H', ⟨zz75⟩, ⟨zz52⟩, ⟨(by (with_reducible repeat (first | apply Kd.S_alloc | apply Kd.S_drewN | apply Kd.S_drew)); exact Kd.S_mono HO_13.out (fun _ hk => by first | exact hk.1 | ((repeat' apply And.intro) <;> (first | exact hk | exact hk.1 | exact hk.2 | exact hk.1.1 | exact hk.1.2 | exact hk.2.1 | exact hk.2.2 | exact hk.1.1.1 | exact hk.1.1.2 | exact hk.1.2.1 | exact hk.1.2.2 | exact hk.2.1.1 | exact hk.2.1.2 | exact hk.2.2.1 | exact hk.2.2.2 | exact hk.1.1.1.1 | exact hk.1.1.1.2 | exact hk.2.2.2.1 | exact hk.2.2.2.2))))⟩, ⟨zz53⟩⟩
            rw [if_neg c27] at H; have c27b0 := decide_eq_false c27; clear c27; simp only [Option.some.injEq, Prod.mk.injEq] at H; obtain ⟨rfl, rfl⟩ := H; go_wp2
            repeat (go_quiet (fail); try go_wp2)
            go_ret2
            exact ⟨_, by first | rfl | (simp [errW_none, errW_some] <;> rfl) | (simp [*, errW_none, errW_some] <;> rfl), by (with_reducible repeat (first | apply Kd.S_alloc | apply Kd.S_drewN | apply Kd.S_drew)); exact Kd.S_mono HO_13.out (fun _ hk => trivial), by repeat (first | (with_reducible first | exact HB.out | apply below_alloc | apply pw_below_drewN | apply below_drew1) | exact HB.out)⟩
  rw [if_neg c4] at H
  have c4b0 := beq_eq_false_iff_ne.mpr c4
  have c4b1 := bne_iff_ne.mpr c4
  simp only [Option.some.injEq, Prod.mk.injEq] at H
  obtain ⟨rfl, rfl⟩ := H
  go_enter Try.func29, Try.ntmps29
  go_wp2_with (first | (go_at_call 59; (with_reducible refine (r30_group.calls k a0 _ _ l1 t484 _ ?side1 ?side2 A3.out).mono ?_); (case side1 => repeat (first | exact HR1.out | (with_reducible refine Kd.C_alloc ?_ _) | (with_reducible refine Kd.C_drewN ?_ _) | (with_reducible refine Kd.C_drew ?_))); (case side2 => exact HC1.out); rintro e w' ⟨rfl, ⟨nd, rfl⟩⟩; (try first | exact ⟨rfl, _, World.drewN_drewN _ _ _⟩ | exact ⟨rfl, _, Eq.trans (World.drewN_drewN _ _ _) (congrArg (World.drewN _) (Nat.add_assoc _ _ _))⟩)))
  repeat (go_quiet (first | (go_at_call 59; (with_reducible refine (r30_group.calls k a0 _ _ l1 t484 _ ?side1 ?side2 A3.out).mono ?_); (case side1 => repeat (first | exact HR1.out | (with_reducible refine Kd.C_alloc ?_ _) | (with_reducible refine Kd.C_drewN ?_ _) | (with_reducible refine Kd.C_drew ?_))); (case side2 => exact HC1.out); rintro e w' ⟨rfl, ⟨nd, rfl⟩⟩; (try first | exact ⟨rfl, _, World.drewN_drewN _ _ _⟩ | exact ⟨rfl, _, Eq.trans (World.drewN_drewN _ _ _) (congrArg (World.drewN _) (Nat.add_assoc _ _ _))⟩))); try go_wp2_with (first | (go_at_call 59; (with_reducible refine (r30_group.calls k a0 _ _ l1 t484 _ ?side1 ?side2 A3.out).mono ?_); (case side1 => repeat (first | exact HR1.out | (with_reducible refine Kd.C_alloc ?_ _) | (with_reducible refine Kd.C_drewN ?_ _) | (with_reducible refine Kd.C_drew ?_))); (case side2 => exact HC1.out); rintro e w' ⟨rfl, ⟨nd, rfl⟩⟩; (try first | exact ⟨rfl, _, World.drewN_drewN _ _ _⟩ | exact ⟨rfl, _, Eq.trans (World.drewN_drewN _ _ _) (congrArg (World.drewN _) (Nat.add_assoc _ _ _))⟩))))
  go_ret2
  exact ⟨_, by first | rfl | (simp [errW_none, errW_some] <;> rfl) | (simp [*, errW_none, errW_some] <;> rfl), by first | exact Kd.S_nil _ _ _ _ _ | exact Kd.N_nil _ _ _ _ _ | exact Kd.V_nil _ _ _ _ _ | exact Kd.Q_nil _ _ _ _ _ | exact Kd.R_nil _ _ _ _ _, by repeat (first | (with_reducible first | exact HB.out | apply below_alloc | apply pw_below_drewN | apply below_drew1) | exact HB.out)⟩
end
section
attribute [local go_sem] max2_int min2_int max_two min_two max_three min_three max_four min_four
def perm_identity.l0 : Nat → List Int → Int → Int → Option (List Int)
  | 0, _, _, _ => none
  | k + 1, x3, x8, x9 => if x9 < x8 then (if 0 ≤ x9 then (if x9 < (x3.length : Int) then (perm_identity.l0 k (x3.set (x9 : Int).toNat x9) x8 (wrap64 (x9 + 1))) else (none)) else (none)) else (some x3)
def perm_identity.f (k : Nat) (a0 : Int) : Option (List Int) := if 0 ≤ a0 then (if (a0 : Int).toNat ≤ 35184372088832 then ((some (List.replicate (a0 : Int).toNat 0 : List Int)).bind fun y101 => (perm_identity.l0 k y101 (y101.length : Int) 0)) else (none)) else (none)
theorem perm_identity.mono_l : ∀ k, (∀ y0 y1 y2, LeO (perm_identity.l0 k y0 y1 y2) (perm_identity.l0 (k + 1) y0 y1 y2))
  | 0 => fun _ _ _ r h => by simp [perm_identity.l0] at h
  | k + 1 => by
    have ih0 := perm_identity.mono_l k
    · intro y0 y1 y2; unfold perm_identity.l0
      repeat' first
      | (with_reducible exact ih0 _ _ _)
      | (with_reducible exact LeO.refl _)
      | (with_reducible exact LeO.none _)
      | (with_reducible refine LeO.ite ?_ ?_)
      | (with_reducible refine LeO.bind ?_ (fun _ => ?_))
theorem perm_identity.mono : ∀ a0 k, LeO (perm_identity.f k a0) (perm_identity.f (k + 1) a0) := by
  intro a0 k
  have ih0 := perm_identity.mono_l k
  unfold perm_identity.f
  repeat' first
      | (with_reducible exact ih0 _ _ _)
      | (with_reducible exact LeO.refl _)
      | (with_reducible exact LeO.none _)
      | (with_reducible refine LeO.ite ?_ ?_)
      | (with_reducible refine LeO.bind ?_ (fun _ => ?_))
theorem perm_identity.calls (k : Nat) (a0 : Int) (r : List Int) (w : World) (h : perm_identity.f k a0 = some r) :
    Calls Try.prog 49 #[.int .i64 a0] w fun e w' => ∃ v0_ : Value, e = .returned (v0_) ∧ Kd.R (Kd.int .i64) 3 w' w.heap.size (fun _ => True) v0_ r ∧ Below w.heap.size w w' := by
  have HB := aM (Below.refl w.heap.size w)
  have H : (if 0 ≤ a0 then (if (a0 : Int).toNat ≤ 35184372088832 then ((some (List.replicate (a0 : Int).toNat 0 : List Int)).bind fun y101 => (perm_identity.l0 k y101 (y101.length : Int) 0)) else (none)) else (none)) = some r := h
  clear h
  by_cases c2 : 0 ≤ a0
  · rw [if_pos c2] at H
    have c2b0 := eq_true c2; have c2b1 := decide_eq_true c2; clear c2
    by_cases c3 : (a0 : Int).toNat ≤ 35184372088832
    · rw [if_pos c3] at H; have c3b0 := eq_true c3; have c3b1 := decide_eq_true c3; clear c3; obtain ⟨y101, hy101⟩ : ∃ y_ : List Int, y_ = (List.replicate (a0 : Int).toNat 0) := ⟨_, rfl⟩; replace H : (perm_identity.l0 k y101 (y101.length : Int) 0) = some r := by first | (rw [hy101]; with_reducible exact H) | (have H2_ := (Option.bind_some _ _).symm.trans H; rw [hy101]; with_reducible exact H2_) | (have H2_ := (Option.bind_some _ _).symm.trans H; with_reducible exact H2_) | with_reducible exact H | (rw [hy101]; exact H) | exact H
      have Ny101 := aM hy101; clear hy101; have H' := aM H; clear H
      go_enter Try.func49, Try.ntmps49
      go_wp2_with (first | ((with_reducible refine gate_dst (N := 6) rfl ?_); refine Kd.R_make (Kd.int .i64) _ 3 rfl (N := 6) rfl 22 _ _ rfl a0 rfl rfl Try.underlying22 (.int .i64 0) 8 info3 rfl (by decide) (by omega) 0 (ok := fun _ => True) (okp := fun _ => True) rfl (fun _ hk => hk) trivial (of_decide_eq_true zz76) (Nat.le_trans (Nat.mul_le_mul_right _ (of_decide_eq_true zz76 : a0.toNat ≤ 35184372088832)) (by omega)) (Below.refl _ _) (Nat.le_refl _) ?_; intro v102 w4 ho5 hb hg_ hnew_; clear hg_ hnew_; (first | rw [← Ny101.out] at ho5 | (simp only [Int.reduceToNat] at ho5; rw [← Ny101.out] at ho5)); have HO103 := aM (Kd.R_lower ho5 (below_size zz53)); replace HB := aM (below_step zz53 hb); clear hb ho5; obtain ⟨Ao6, co6, eo6⟩ := Kd.R_slice HO103.out; subst eo6))
      go_loopg [9] k (fun kq v9 w' => ∃ (x3_1 : List Int) (x9_1 : Int), v9 = .int .i64 x9_1 ∧ Aside0 (perm_identity.l0 kq x3_1 (y101.length : Int) x9_1 = some r) ∧ Aside0 (kq ≤ k) ∧ Aside0 (Kd.R (Kd.int .i64) 3 w' w.heap.size (fun _ => True) (.slice Ao6 y101.length co6) x3_1) ∧ Aside0 (Below w.heap.size w w'))
      case atStart => exact ⟨(y101), (0), zz77, H', ⟨Nat.le_refl _⟩, ⟨(zR HO103)⟩, ⟨zz53⟩⟩
      case round =>
        clear H'; (try clear c2); (try clear c2b0); (try clear c2b1); (try clear p2); (try clear c3); (try clear c3b0); (try clear c3b1); (try clear c4); obtain ⟨x3_1, x9_1, rfl, HA, HK1, HO_3, HB⟩ := hrel; have hl3_1 := (Kd.R_reads' HO_3.out).1; rw [hl3_1] at HO_3
        (try simp only [hl3_1])
        cases gk with
        | zero => exact absurd HA.out (by simp [perm_identity.l0])
        | succ k1 =>
          have H := HA.out; clear HA; simp only [perm_identity.l0] at H
          by_cases c7 : x9_1 < (y101.length : Int)
          · rw [if_pos c7] at H; have c7b0 := decide_eq_true c7; clear c7
            by_cases c8 : 0 ≤ x9_1
            · rw [if_pos c8] at H; have c8b0 := decide_eq_true c8; clear c8
              by_cases c9 : x9_1 < (x3_1.length : Int)
              · rw [if_pos c9] at H; have c9b0 := decide_eq_true c9; clear c9; obtain ⟨y104, hy104⟩ : ∃ y_ : List Int, y_ = (x3_1.set (x9_1 : Int).toNat x9_1) := ⟨_, rfl⟩; replace H : (perm_identity.l0 k1 y104 (y101.length : Int) (wrap64 (x9_1 + 1))) = some r := by first | (rw [hy104]; with_reducible exact H) | (have H2_ := (Option.bind_some _ _).symm.trans H; rw [hy104]; with_reducible exact H2_) | (have H2_ := (Option.bind_some _ _).symm.trans H; with_reducible exact H2_) | with_reducible exact H | (rw [hy104]; exact H) | exact H
                have Ny104 := aM hy104; clear hy104; have H' := aM H; clear H; have p10 : 0 ≤ (x9_1 : Int) := of_decide_eq_true zz76; have q10 : (x9_1 : Int) < ((x3_1.length : Int) : Int) := of_decide_eq_true zz76; obtain ⟨go10, co10, eo10, gb10, gl10, cl10, HG10⟩ := Kd.R_form HO_3.out (by omega)
                (first | cases eo10 | (injection eo10 with ea_ en_ ec_; (first | subst ea_ | (injection ea_ with ea_; subst ea_)); subst ec_; clear en_))
                have GB10 := aM gb10; have GG10 := aM HG10; clear gb10 gl10 HG10; obtain ⟨hx10_0, hf10_0⟩ := Kd.R_celln 0 HO_3.out (x9_1 : Int) p10 q10; replace p10 := eq_true p10; replace q10 := eq_true q10; have HP11 := Kd.R_putg HO_3.out (x9_1 : Int) x9_1
                go_wp2_with (first | ((with_reducible refine gate_store (t := 3) (p := 15) rfl ?_); refine store_event (t := 3) (p := 15) (v := ?vo_w12) (w1 := (wr.setCell ⟨go10, (x9_1 : Int).toNat, none⟩ (.int .i64 x9_1))) ?hg ?ho ?hn ?hr ?_; (case ho => rfl); (case hg => rfl); (case hn => rfl); (case hr => first | (go_simp; done) | (go_simp; rfl)); intro w12 hw; have hg : wr.grownBy w12 (some go10) := (by rw [hw]; exact HP11.2); have hp_ : Kd.R (Kd.int .i64) 3 w12 w.heap.size (fun _ => True) (.slice (some ⟨go10, 0, none⟩) x3_1.length co6) y104 := (by rw [hw, Ny104.out]; exact HP11.1); clear HP11; replace HO_3 := aM (hp_); replace HB := aM ((by rw [hw]; exact below_set (HB.out) GB10.out : Below w.heap.size w w12)); clear hg hw hp_))
                (try simp only [← hl3_1])
                go_roundg k1
                case measure => have := HK1.out; omega
                case rel => exact ⟨(y104), (wrap64 (x9_1 + 1)), zz77, H', ⟨zz83⟩, ⟨(by (try simp only [hl3_1]); (with_reducible repeat (first | apply Kd.R_alloc | apply Kd.R_drewN | apply Kd.R_drew)); exact HO_3.out)⟩, ⟨zz53⟩⟩
              rw [if_neg c9] at H
              exact absurd H (by simp)
            rw [if_neg c8] at H
            exact absurd H (by simp)
          rw [if_neg c7] at H; have c7b0 := decide_eq_false c7; have c7b1 : decide (x9_1 < (x3_1.length : Int)) = false := by rw [← hl3_1]; exact c7b0
          clear c7; obtain rfl := Option.some.inj H; go_wp2; go_ret
          exact ⟨_, by first | rfl | (simp [errW_none, errW_some] <;> rfl) | (simp [*, errW_none, errW_some] <;> rfl), by (with_reducible repeat (first | apply Kd.R_alloc | apply Kd.R_drewN | apply Kd.R_drew)); exact HO_3.out, by repeat (first | (with_reducible first | exact HB.out | apply below_alloc | apply pw_below_drewN | apply below_drew1) | exact HB.out)⟩
    rw [if_neg c3] at H
    exact absurd H (by simp)
  rw [if_neg c2] at H
  exact absurd H (by simp)
end
section
attribute [local go_sem] max2_int min2_int max_two min_two max_three min_three max_four min_four
def slEq.l0 : Nat → List Int → List Int → Int → Int → Option (Bool)
  | 0, _, _, _, _ => none
  | k + 1, x0, x1, x12, x13 => if x13 < x12 then (if 0 ≤ x13 then (if x13 < (x0.length : Int) then (if x13 < (x1.length : Int) then (if (rd x0 x13) = (rd x1 x13) then (slEq.l0 k x0 x1 x12 (wrap64 (x13 + 1))) else (some false)) else (none)) else (none)) else (none)) else (some true)
def slEq.f (k : Nat) (l0 : List Int) (l1 : List Int) : Option (Bool) := if (l0.length : Int) = (l1.length : Int) then (slEq.l0 k l0 l1 (l0.length : Int) 0) else (some false)
theorem slEq.calls (k : Nat) (A0 : Option Addr) (c0 : Nat) (l0 : List Int) (A1 : Option Addr) (c1 : Nat) (l1 : List Int) (r : Bool) (w : World) (hr0 : Kd.C (Kd.int .i64) w A0 l0.length l0) (hc0 : l0.length ≤ c0) (hr1 : Kd.C (Kd.int .i64) w A1 l1.length l1) (hc1 : l1.length ≤ c1) (h : slEq.f k l0 l1 = some r) :
    Calls Try.prog 65 #[.slice A0 l0.length c0, .slice A1 l1.length c1] w fun e w' => e = .returned (.bool r) ∧ Drawn0 w w' := by
  have HR0 := aM hr0
  have HC0 := aM hc0
  clear hr0 hc0
  have HR1 := aM hr1
  have HC1 := aM hc1
  clear hr1 hc1
  have H : (if (l0.length : Int) = (l1.length : Int) then (slEq.l0 k l0 l1 (l0.length : Int) 0) else (some false)) = some r := h
  clear h
  by_cases c3 : (l0.length : Int) = (l1.length : Int)
  · rw [if_pos c3] at H
    have c3b0 := beq_iff_eq.mpr c3; have c3b1 := bne_eq_false_iff_eq.mpr c3; have c3b2 : (l0.length == l1.length) = true := by first | simpa using c3 | (simp at c3 ⊢; omega)
    clear c3; have H' := aM H; clear H
    go_enter Try.func65, Try.ntmps65
    go_wp2
    repeat (go_quiet (fail); try go_wp2)
    go_loopg [13] k (fun kq v13 w' => ∃ (x13_1 : Int), v13 = .int .i64 x13_1 ∧ Aside0 (slEq.l0 kq l0 l1 (l0.length : Int) x13_1 = some r) ∧ Aside0 (kq ≤ k) ∧ Drawn0 w w')
    case atStart => exact ⟨(0), zz77, H', ⟨Nat.le_refl _⟩, by repeat (first | exact Drawn0.refl _ | apply Drawn0.step)⟩
    case round =>
      clear H'; (try clear c1); (try clear p2); (try clear c3); (try clear c3b0); (try clear c3b1); (try clear c3b2); obtain ⟨x13_1, rfl, HA, HK1, ⟨m1, rfl⟩⟩ := hrel
      cases gk with
      | zero => exact absurd HA.out (by simp [slEq.l0])
      | succ k1 =>
        have H := HA.out; clear HA; simp only [slEq.l0] at H
        by_cases c4 : x13_1 < (l0.length : Int)
        · rw [if_pos c4] at H; have c4b0 := decide_eq_true c4; clear c4
          by_cases c5 : 0 ≤ x13_1
          · rw [if_pos c5] at H; have c5b0 := decide_eq_true c5; clear c5
            by_cases c6 : x13_1 < (l0.length : Int)
            · rw [if_pos c6] at H; have c6b0 := decide_eq_true c6; clear c6
              by_cases c7 : x13_1 < (l1.length : Int)
              · rw [if_pos c7] at H; have c7b0 := decide_eq_true c7; clear c7
                by_cases c8 : (rd l0 x13_1) = (rd l1 x13_1)
                · rw [if_pos c8] at H; have c8b0 := beq_iff_eq.mpr c8; have c8b1 := bne_eq_false_iff_eq.mpr c8; clear c8; have H' := aM H; clear H; have p220 : 0 ≤ (x13_1 : Int) := of_decide_eq_true zz76; have q220 : x13_1 < (l0.length : Int) := of_decide_eq_true zz76; obtain ⟨ad220, e220, hx220_0⟩ := Kd.at_int HR0.out x13_1 p220 q220
                  cases e220; replace p220 := eq_true p220; replace q220 := eq_true q220; have p221 : 0 ≤ (x13_1 : Int) := of_decide_eq_true zz76; have q221 : x13_1 < (l1.length : Int) := of_decide_eq_true zz76; obtain ⟨ad221, e221, hx221_0⟩ := Kd.at_int HR1.out x13_1 p221 q221
                  cases e221; replace p221 := eq_true p221; replace q221 := eq_true q221; go_wp2
                  repeat (go_quiet (fail); try go_wp2)
                  go_roundg k1
                  case measure => have := HK1.out; omega
                  case rel => exact ⟨(wrap64 (x13_1 + 1)), zz77, H', ⟨zz83⟩, by repeat (first | exact Drawn0.refl _ | apply Drawn0.step)⟩
                rw [if_neg c8] at H; have c8b0 := beq_eq_false_iff_ne.mpr c8; have c8b1 := bne_iff_ne.mpr c8; obtain rfl := Option.some.inj H; have p220 : 0 ≤ (x13_1 : Int) := of_decide_eq_true zz76; have q220 : x13_1 < (l0.length : Int) := of_decide_eq_true zz76; obtain ⟨ad220, e220, hx220_0⟩ := Kd.at_int HR0.out x13_1 p220 q220
                cases e220; replace p220 := eq_true p220; replace q220 := eq_true q220; have p221 : 0 ≤ (x13_1 : Int) := of_decide_eq_true zz76; have q221 : x13_1 < (l1.length : Int) := of_decide_eq_true zz76; obtain ⟨ad221, e221, hx221_0⟩ := Kd.at_int HR1.out x13_1 p221 q221
                cases e221; replace p221 := eq_true p221; replace q221 := eq_true q221; go_wp2
                repeat (go_quiet (fail); try go_wp2)
                go_ret
                exact ⟨by first | rfl | (simp; done) | (simp [*]; done), by repeat (first | exact Drawn0.refl _ | apply Drawn0.step)⟩
              rw [if_neg c7] at H
              exact absurd H (by simp)
            rw [if_neg c6] at H
            exact absurd H (by simp)
          rw [if_neg c5] at H
          exact absurd H (by simp)
        rw [if_neg c4] at H; have c4b0 := decide_eq_false c4; clear c4; obtain rfl := Option.some.inj H; go_wp2
        repeat (go_quiet (fail); try go_wp2)
        go_ret
        exact ⟨by first | rfl | (simp; done) | (simp [*]; done), by repeat (first | exact Drawn0.refl _ | apply Drawn0.step)⟩
  rw [if_neg c3] at H
  have c3b0 := beq_eq_false_iff_ne.mpr c3
  have c3b1 := bne_iff_ne.mpr c3
  have c3b2 : (l0.length == l1.length) = false := by first | simpa using c3 | (simp at c3 ⊢; omega)
  obtain rfl := Option.some.inj H
  go_enter Try.func65, Try.ntmps65
  go_wp2
  repeat (go_quiet (fail); try go_wp2)
  go_ret
  exact ⟨by first | rfl | (simp; done) | (simp [*]; done), by repeat (first | exact Drawn0.refl _ | apply Drawn0.step)⟩
end
section
attribute [local go_sem] max2_int min2_int max_two min_two max_three min_three max_four min_four
def perm_then.l0 : Nat → List Int → List Int → List Int → Int → Int → Option (List Int)
  | 0, _, _, _, _, _ => none
  | k + 1, x1, x5, x11, x12, x13 => if x13 < x12 then (if 0 ≤ x13 then (if x13 < (x11.length : Int) then (if 0 ≤ (rd x11 x13) then (if (rd x11 x13) < (x1.length : Int) then (if x13 < (x5.length : Int) then (perm_then.l0 k x1 (x5.set (x13 : Int).toNat (rd x1 (rd x11 x13))) x11 x12 (wrap64 (x13 + 1))) else (none)) else (none)) else (none)) else (none)) else (none)) else (some x5)
def perm_then.f (k : Nat) (l0 : List Int) (l1 : List Int) : Option (List Int) := if 0 ≤ (l0.length : Int) then (if ((l0.length : Int) : Int).toNat ≤ 35184372088832 then (perm_then.l0 k l1 (List.replicate ((l0.length : Int) : Int).toNat 0) l0 (l0.length : Int) 0) else (none)) else (none)
theorem perm_then.mono_l : ∀ k, (∀ y0 y1 y2 y3 y4, LeO (perm_then.l0 k y0 y1 y2 y3 y4) (perm_then.l0 (k + 1) y0 y1 y2 y3 y4))
  | 0 => fun _ _ _ _ _ r h => by simp [perm_then.l0] at h
  | k + 1 => by
    have ih0 := perm_then.mono_l k
    · intro y0 y1 y2 y3 y4; unfold perm_then.l0
      repeat' first
      | (with_reducible exact ih0 _ _ _ _ _)
      | (with_reducible exact LeO.refl _)
      | (with_reducible exact LeO.none _)
      | (with_reducible refine LeO.ite ?_ ?_)
      | (with_reducible refine LeO.bind ?_ (fun _ => ?_))
theorem perm_then.mono : ∀ a0 a1 k, LeO (perm_then.f k a0 a1) (perm_then.f (k + 1) a0 a1) := by
  intro a0 a1 k
  have ih0 := perm_then.mono_l k
  unfold perm_then.f
  repeat' first
      | (with_reducible exact ih0 _ _ _ _ _)
      | (with_reducible exact LeO.refl _)
      | (with_reducible exact LeO.none _)
      | (with_reducible refine LeO.ite ?_ ?_)
      | (with_reducible refine LeO.bind ?_ (fun _ => ?_))
theorem perm_then.calls (k : Nat) (A0 : Option Addr) (c0 : Nat) (l0 : List Int) (A1 : Option Addr) (c1 : Nat) (l1 : List Int) (r : List Int) (w : World) (hr0 : Kd.C (Kd.int .i64) w A0 l0.length l0) (hc0 : l0.length ≤ c0) (hr1 : Kd.C (Kd.int .i64) w A1 l1.length l1) (hc1 : l1.length ≤ c1) (h : perm_then.f k l0 l1 = some r) :
    Calls Try.prog 50 #[.slice A0 l0.length c0, .slice A1 l1.length c1] w fun e w' => ∃ v0_ : Value, e = .returned (v0_) ∧ Kd.R (Kd.int .i64) 3 w' w.heap.size (fun _ => True) v0_ r ∧ Below w.heap.size w w' := by
  have HR0 := aM hr0
  have HC0 := aM hc0
  clear hr0 hc0
  have HR1 := aM hr1
  have HC1 := aM hc1
  clear hr1 hc1
  have HB := aM (Below.refl w.heap.size w)
  have H : (if 0 ≤ (l0.length : Int) then (if ((l0.length : Int) : Int).toNat ≤ 35184372088832 then (perm_then.l0 k l1 (List.replicate ((l0.length : Int) : Int).toNat 0) l0 (l0.length : Int) 0) else (none)) else (none)) = some r := h
  clear h
  by_cases c3 : 0 ≤ (l0.length : Int)
  · rw [if_pos c3] at H
    have c3b0 := eq_true c3; have c3b1 := decide_eq_true c3; clear c3
    by_cases c4 : ((l0.length : Int) : Int).toNat ≤ 35184372088832
    · rw [if_pos c4] at H; have c4b0 := eq_true c4; have c4b1 := decide_eq_true c4; clear c4; obtain ⟨y105, hy105⟩ : ∃ y_ : List Int, y_ = (List.replicate ((l0.length : Int) : Int).toNat 0) := ⟨_, rfl⟩; replace H : (perm_then.l0 k l1 y105 l0 (l0.length : Int) 0) = some r := by first | (rw [hy105]; with_reducible exact H) | (have H2_ := (Option.bind_some _ _).symm.trans H; rw [hy105]; with_reducible exact H2_) | (have H2_ := (Option.bind_some _ _).symm.trans H; with_reducible exact H2_) | with_reducible exact H | (rw [hy105]; exact H) | exact H
      have Ny105 := aM hy105; clear hy105; have H' := aM H; clear H
      go_enter Try.func50, Try.ntmps50
      go_wp2_with (first | ((with_reducible refine gate_dst (N := 10) rfl ?_); refine Kd.R_make (Kd.int .i64) _ 3 rfl (N := 10) rfl 22 _ _ rfl (l0.length : Int) rfl rfl Try.underlying22 (.int .i64 0) 8 info3 rfl (by decide) (by omega) 0 (ok := fun _ => True) (okp := fun _ => True) rfl (fun _ hk => hk) trivial (of_decide_eq_true zz76) (Nat.le_trans (Nat.mul_le_mul_right _ (of_decide_eq_true zz76 : (l0.length : Int).toNat ≤ 35184372088832)) (by omega)) (Below.refl _ _) (Nat.le_refl _) ?_; intro v106 w5 ho6 hb hg_ hnew_; clear hg_ hnew_; (first | rw [← Ny105.out] at ho6 | (simp only [Int.reduceToNat] at ho6; rw [← Ny105.out] at ho6)); have HO107 := aM (Kd.R_lower ho6 (below_size zz53)); replace HB := aM (below_step zz53 hb); clear hb ho6))
      go_loopg [13] k (fun kq v13 w' => ∃ (x5_1 : List Int) (x13_1 : Int), v13 = .int .i64 x13_1 ∧ Aside0 (perm_then.l0 kq l1 x5_1 l0 (l0.length : Int) x13_1 = some r) ∧ Aside0 (kq ≤ k) ∧ Aside0 (Kd.R (Kd.int .i64) 3 w' w.heap.size (fun _ => True) v106 x5_1) ∧ Aside0 (Below w.heap.size w w'))
      case atStart => exact ⟨(y105), (0), zz77, H', ⟨Nat.le_refl _⟩, ⟨(zR HO107)⟩, ⟨zz53⟩⟩
      case round =>
        clear H'; (try clear c1); (try clear p2); (try clear c3); (try clear c3b0); (try clear c3b1); (try clear c4); (try clear c4b0); (try clear c4b1); (try clear c5); obtain ⟨x5_1, x13_1, rfl, HA, HK1, HO_5, HB⟩ := hrel
        cases gk with
        | zero => exact absurd HA.out (by simp [perm_then.l0])
        | succ k1 =>
          have H := HA.out; clear HA; simp only [perm_then.l0] at H
          by_cases c7 : x13_1 < (l0.length : Int)
          · rw [if_pos c7] at H; have c7b0 := decide_eq_true c7; clear c7
            by_cases c8 : 0 ≤ x13_1
            · rw [if_pos c8] at H; have c8b0 := decide_eq_true c8; clear c8
              by_cases c9 : x13_1 < (l0.length : Int)
              · rw [if_pos c9] at H; have c9b0 := decide_eq_true c9; clear c9
                by_cases c10 : 0 ≤ (rd l0 x13_1)
                · rw [if_pos c10] at H; have c10b0 := decide_eq_true c10; clear c10
                  by_cases c11 : (rd l0 x13_1) < (l1.length : Int)
                  · rw [if_pos c11] at H; have c11b0 := decide_eq_true c11; clear c11
                    by_cases c12 : x13_1 < (x5_1.length : Int)
                    · rw [if_pos c12] at H; have c12b0 := decide_eq_true c12; clear c12; obtain ⟨y110, hy110⟩ : ∃ y_ : List Int, y_ = (x5_1.set (x13_1 : Int).toNat (rd l1 (rd l0 x13_1))) := ⟨_, rfl⟩; replace H : (perm_then.l0 k1 l1 y110 l0 (l0.length : Int) (wrap64 (x13_1 + 1))) = some r := by first | (rw [hy110]; with_reducible exact H) | (have H2_ := (Option.bind_some _ _).symm.trans H; rw [hy110]; with_reducible exact H2_) | (have H2_ := (Option.bind_some _ _).symm.trans H; with_reducible exact H2_) | with_reducible exact H | (rw [hy110]; exact H) | exact H
                      have Ny110 := aM hy110; clear hy110; have H' := aM H; clear H; have p108 : 0 ≤ (x13_1 : Int) := of_decide_eq_true zz76; have q108 : x13_1 < (l0.length : Int) := of_decide_eq_true zz76; obtain ⟨ad108, e108, hx108_0⟩ := Kd.at_int HR0.out x13_1 p108 q108
                      cases e108; replace hx108_0 := (HB.out.cell (World.block_lt_of_cell? w _ hx108_0)).trans hx108_0; replace p108 := eq_true p108; replace q108 := eq_true q108; have p109 : 0 ≤ ((rd l0 x13_1) : Int) := of_decide_eq_true zz76; have q109 : (rd l0 x13_1) < (l1.length : Int) := of_decide_eq_true zz76; obtain ⟨ad109, e109, hx109_0⟩ := Kd.at_int HR1.out (rd l0 x13_1) p109 q109
                      cases e109; replace hx109_0 := (HB.out.cell (World.block_lt_of_cell? w _ hx109_0)).trans hx109_0; replace p109 := eq_true p109; replace q109 := eq_true q109; have p13 : 0 ≤ (x13_1 : Int) := of_decide_eq_true zz76; have q13 : (x13_1 : Int) < ((x5_1.length : Int) : Int) := of_decide_eq_true zz76; obtain ⟨go13, co13, eo13, gb13, gl13, cl13, HG13⟩ := Kd.R_form HO_5.out (by omega)
                      (first | cases eo13 | (injection eo13 with ea_ en_ ec_; (first | subst ea_ | (injection ea_ with ea_; subst ea_)); subst ec_; clear en_))
                      have GB13 := aM gb13; have GG13 := aM HG13; clear gb13 gl13 HG13; obtain ⟨hx13_0, hf13_0⟩ := Kd.R_celln 0 HO_5.out (x13_1 : Int) p13 q13; replace p13 := eq_true p13; replace q13 := eq_true q13; have HP14 := Kd.R_putg HO_5.out (x13_1 : Int) (rd l1 (rd l0 x13_1))
                      go_wp2_with (first | ((with_reducible refine gate_store (t := 3) (p := 24) rfl ?_); refine store_event (t := 3) (p := 24) (v := ?vo_w15) (w1 := (wr.setCell ⟨go13, (x13_1 : Int).toNat, none⟩ (.int .i64 (rd l1 (rd l0 x13_1))))) ?hg ?ho ?hn ?hr ?_; (case ho => rfl); (case hg => rfl); (case hn => rfl); (case hr => first | (go_simp; done) | (go_simp; rfl)); intro w15 hw; have hg : wr.grownBy w15 (some go13) := (by rw [hw]; exact HP14.2); have hp_ : Kd.R (Kd.int .i64) 3 w15 w.heap.size (fun _ => True) (.slice (some ⟨go13, 0, none⟩) x5_1.length co13) y110 := (by rw [hw, Ny110.out]; exact HP14.1); clear HP14; replace HO_5 := aM (hp_); replace HB := aM ((by rw [hw]; exact below_set (HB.out) GB13.out : Below w.heap.size w w15)); clear hg hw hp_))
                      go_roundg k1
                      case measure => have := HK1.out; omega
                      case rel => exact ⟨(y110), (wrap64 (x13_1 + 1)), zz77, H', ⟨zz83⟩, ⟨(zR HO_5)⟩, ⟨zz53⟩⟩
                    rw [if_neg c12] at H
                    exact absurd H (by simp)
                  rw [if_neg c11] at H
                  exact absurd H (by simp)
                rw [if_neg c10] at H
                exact absurd H (by simp)
              rw [if_neg c9] at H
              exact absurd H (by simp)
            rw [if_neg c8] at H
            exact absurd H (by simp)
          rw [if_neg c7] at H; have c7b0 := decide_eq_false c7; clear c7; obtain rfl := Option.some.inj H; go_wp2; go_ret
          exact ⟨_, by first | rfl | (simp [errW_none, errW_some] <;> rfl) | (simp [*, errW_none, errW_some] <;> rfl), by (with_reducible repeat (first | apply Kd.R_alloc | apply Kd.R_drewN | apply Kd.R_drew)); exact HO_5.out, by repeat (first | (with_reducible first | exact HB.out | apply below_alloc | apply pw_below_drewN | apply below_drew1) | exact HB.out)⟩
    rw [if_neg c4] at H
    exact absurd H (by simp)
  rw [if_neg c3] at H
  exact absurd H (by simp)
end
section
attribute [local go_sem] max2_int min2_int max_two min_two max_three min_three max_four min_four
def perm_inverse.l0 : Nat → List Int → List Int → Int → Int → Option (List Int)
  | 0, _, _, _, _ => none
  | k + 1, x3, x9, x10, x11 => if x11 < x10 then (if 0 ≤ x11 then (if x11 < (x9.length : Int) then (if 0 ≤ (rd x9 x11) then (if (rd x9 x11) < (x3.length : Int) then (perm_inverse.l0 k (x3.set ((rd x9 x11) : Int).toNat x11) x9 x10 (wrap64 (x11 + 1))) else (none)) else (none)) else (none)) else (none)) else (some x3)
def perm_inverse.f (k : Nat) (l0 : List Int) : Option (List Int) := if 0 ≤ (l0.length : Int) then (if ((l0.length : Int) : Int).toNat ≤ 35184372088832 then (perm_inverse.l0 k (List.replicate ((l0.length : Int) : Int).toNat 0) l0 (l0.length : Int) 0) else (none)) else (none)
theorem perm_inverse.mono_l : ∀ k, (∀ y0 y1 y2 y3, LeO (perm_inverse.l0 k y0 y1 y2 y3) (perm_inverse.l0 (k + 1) y0 y1 y2 y3))
  | 0 => fun _ _ _ _ r h => by simp [perm_inverse.l0] at h
  | k + 1 => by
    have ih0 := perm_inverse.mono_l k
    · intro y0 y1 y2 y3; unfold perm_inverse.l0
      repeat' first
      | (with_reducible exact ih0 _ _ _ _)
      | (with_reducible exact LeO.refl _)
      | (with_reducible exact LeO.none _)
      | (with_reducible refine LeO.ite ?_ ?_)
      | (with_reducible refine LeO.bind ?_ (fun _ => ?_))
theorem perm_inverse.mono : ∀ a0 k, LeO (perm_inverse.f k a0) (perm_inverse.f (k + 1) a0) := by
  intro a0 k
  have ih0 := perm_inverse.mono_l k
  unfold perm_inverse.f
  repeat' first
      | (with_reducible exact ih0 _ _ _ _)
      | (with_reducible exact LeO.refl _)
      | (with_reducible exact LeO.none _)
      | (with_reducible refine LeO.ite ?_ ?_)
      | (with_reducible refine LeO.bind ?_ (fun _ => ?_))
theorem perm_inverse.calls (k : Nat) (A0 : Option Addr) (c0 : Nat) (l0 : List Int) (r : List Int) (w : World) (hr0 : Kd.C (Kd.int .i64) w A0 l0.length l0) (hc0 : l0.length ≤ c0) (h : perm_inverse.f k l0 = some r) :
    Calls Try.prog 55 #[.slice A0 l0.length c0] w fun e w' => ∃ v0_ : Value, e = .returned (v0_) ∧ Kd.R (Kd.int .i64) 3 w' w.heap.size (fun _ => True) v0_ r ∧ Below w.heap.size w w' := by
  have HR0 := aM hr0
  have HC0 := aM hc0
  clear hr0 hc0
  have HB := aM (Below.refl w.heap.size w)
  have H : (if 0 ≤ (l0.length : Int) then (if ((l0.length : Int) : Int).toNat ≤ 35184372088832 then (perm_inverse.l0 k (List.replicate ((l0.length : Int) : Int).toNat 0) l0 (l0.length : Int) 0) else (none)) else (none)) = some r := h
  clear h
  by_cases c2 : 0 ≤ (l0.length : Int)
  · rw [if_pos c2] at H
    have c2b0 := eq_true c2; have c2b1 := decide_eq_true c2; clear c2
    by_cases c3 : ((l0.length : Int) : Int).toNat ≤ 35184372088832
    · rw [if_pos c3] at H; have c3b0 := eq_true c3; have c3b1 := decide_eq_true c3; clear c3; obtain ⟨y123, hy123⟩ : ∃ y_ : List Int, y_ = (List.replicate ((l0.length : Int) : Int).toNat 0) := ⟨_, rfl⟩; replace H : (perm_inverse.l0 k y123 l0 (l0.length : Int) 0) = some r := by first | (rw [hy123]; with_reducible exact H) | (have H2_ := (Option.bind_some _ _).symm.trans H; rw [hy123]; with_reducible exact H2_) | (have H2_ := (Option.bind_some _ _).symm.trans H; with_reducible exact H2_) | with_reducible exact H | (rw [hy123]; exact H) | exact H
      have Ny123 := aM hy123; clear hy123; have H' := aM H; clear H
      go_enter Try.func55, Try.ntmps55
      go_wp2_with (first | ((with_reducible refine gate_dst (N := 8) rfl ?_); refine Kd.R_make (Kd.int .i64) _ 3 rfl (N := 8) rfl 22 _ _ rfl (l0.length : Int) rfl rfl Try.underlying22 (.int .i64 0) 8 info3 rfl (by decide) (by omega) 0 (ok := fun _ => True) (okp := fun _ => True) rfl (fun _ hk => hk) trivial (of_decide_eq_true zz76) (Nat.le_trans (Nat.mul_le_mul_right _ (of_decide_eq_true zz76 : (l0.length : Int).toNat ≤ 35184372088832)) (by omega)) (Below.refl _ _) (Nat.le_refl _) ?_; intro v124 w4 ho5 hb hg_ hnew_; clear hg_ hnew_; (first | rw [← Ny123.out] at ho5 | (simp only [Int.reduceToNat] at ho5; rw [← Ny123.out] at ho5)); have HO125 := aM (Kd.R_lower ho5 (below_size zz53)); replace HB := aM (below_step zz53 hb); clear hb ho5))
      go_loopg [11] k (fun kq v11 w' => ∃ (x3_1 : List Int) (x11_1 : Int), v11 = .int .i64 x11_1 ∧ Aside0 (perm_inverse.l0 kq x3_1 l0 (l0.length : Int) x11_1 = some r) ∧ Aside0 (kq ≤ k) ∧ Aside0 (Kd.R (Kd.int .i64) 3 w' w.heap.size (fun _ => True) v124 x3_1) ∧ Aside0 (Below w.heap.size w w'))
      case atStart => exact ⟨(y123), (0), zz77, H', ⟨Nat.le_refl _⟩, ⟨(zR HO125)⟩, ⟨zz53⟩⟩
      case round =>
        clear H'; (try clear c2); (try clear c2b0); (try clear c2b1); (try clear p2); (try clear c3); (try clear c3b0); (try clear c3b1); (try clear c5); obtain ⟨x3_1, x11_1, rfl, HA, HK1, HO_3, HB⟩ := hrel
        cases gk with
        | zero => exact absurd HA.out (by simp [perm_inverse.l0])
        | succ k1 =>
          have H := HA.out; clear HA; simp only [perm_inverse.l0] at H
          by_cases c6 : x11_1 < (l0.length : Int)
          · rw [if_pos c6] at H; have c6b0 := decide_eq_true c6; clear c6
            by_cases c7 : 0 ≤ x11_1
            · rw [if_pos c7] at H; have c7b0 := decide_eq_true c7; clear c7
              by_cases c8 : x11_1 < (l0.length : Int)
              · rw [if_pos c8] at H; have c8b0 := decide_eq_true c8; clear c8
                by_cases c9 : 0 ≤ (rd l0 x11_1)
                · rw [if_pos c9] at H; have c9b0 := decide_eq_true c9; clear c9
                  by_cases c10 : (rd l0 x11_1) < (x3_1.length : Int)
                  · rw [if_pos c10] at H; have c10b0 := decide_eq_true c10; clear c10; obtain ⟨y127, hy127⟩ : ∃ y_ : List Int, y_ = (x3_1.set ((rd l0 x11_1) : Int).toNat x11_1) := ⟨_, rfl⟩; replace H : (perm_inverse.l0 k1 y127 l0 (l0.length : Int) (wrap64 (x11_1 + 1))) = some r := by first | (rw [hy127]; with_reducible exact H) | (have H2_ := (Option.bind_some _ _).symm.trans H; rw [hy127]; with_reducible exact H2_) | (have H2_ := (Option.bind_some _ _).symm.trans H; with_reducible exact H2_) | with_reducible exact H | (rw [hy127]; exact H) | exact H
                    have Ny127 := aM hy127; clear hy127; have H' := aM H; clear H; have p126 : 0 ≤ (x11_1 : Int) := of_decide_eq_true zz76; have q126 : x11_1 < (l0.length : Int) := of_decide_eq_true zz76; obtain ⟨ad126, e126, hx126_0⟩ := Kd.at_int HR0.out x11_1 p126 q126
                    cases e126; replace hx126_0 := (HB.out.cell (World.block_lt_of_cell? w _ hx126_0)).trans hx126_0; replace p126 := eq_true p126; replace q126 := eq_true q126; have p11 : 0 ≤ ((rd l0 x11_1) : Int) := of_decide_eq_true zz76; have q11 : ((rd l0 x11_1) : Int) < ((x3_1.length : Int) : Int) := of_decide_eq_true zz76; obtain ⟨go11, co11, eo11, gb11, gl11, cl11, HG11⟩ := Kd.R_form HO_3.out (by omega)
                    (first | cases eo11 | (injection eo11 with ea_ en_ ec_; (first | subst ea_ | (injection ea_ with ea_; subst ea_)); subst ec_; clear en_))
                    have GB11 := aM gb11; have GG11 := aM HG11; clear gb11 gl11 HG11; obtain ⟨hx11_0, hf11_0⟩ := Kd.R_celln 0 HO_3.out ((rd l0 x11_1) : Int) p11 q11; replace p11 := eq_true p11; replace q11 := eq_true q11; have HP12 := Kd.R_putg HO_3.out ((rd l0 x11_1) : Int) x11_1
                    go_wp2_with (first | ((with_reducible refine gate_store (t := 3) (p := 19) rfl ?_); refine store_event (t := 3) (p := 19) (v := ?vo_w13) (w1 := (wr.setCell ⟨go11, ((rd l0 x11_1) : Int).toNat, none⟩ (.int .i64 x11_1))) ?hg ?ho ?hn ?hr ?_; (case ho => rfl); (case hg => rfl); (case hn => rfl); (case hr => first | (go_simp; done) | (go_simp; rfl)); intro w13 hw; have hg : wr.grownBy w13 (some go11) := (by rw [hw]; exact HP12.2); have hp_ : Kd.R (Kd.int .i64) 3 w13 w.heap.size (fun _ => True) (.slice (some ⟨go11, 0, none⟩) x3_1.length co11) y127 := (by rw [hw, Ny127.out]; exact HP12.1); clear HP12; replace HO_3 := aM (hp_); replace HB := aM ((by rw [hw]; exact below_set (HB.out) GB11.out : Below w.heap.size w w13)); clear hg hw hp_))
                    go_roundg k1
                    case measure => have := HK1.out; omega
                    case rel => exact ⟨(y127), (wrap64 (x11_1 + 1)), zz77, H', ⟨zz83⟩, ⟨(zR HO_3)⟩, ⟨zz53⟩⟩
                  rw [if_neg c10] at H
                  exact absurd H (by simp)
                rw [if_neg c9] at H
                exact absurd H (by simp)
              rw [if_neg c8] at H
              exact absurd H (by simp)
            rw [if_neg c7] at H
            exact absurd H (by simp)
          rw [if_neg c6] at H; have c6b0 := decide_eq_false c6; clear c6; obtain rfl := Option.some.inj H; go_wp2; go_ret
          exact ⟨_, by first | rfl | (simp [errW_none, errW_some] <;> rfl) | (simp [*, errW_none, errW_some] <;> rfl), by (with_reducible repeat (first | apply Kd.R_alloc | apply Kd.R_drewN | apply Kd.R_drew)); exact HO_3.out, by repeat (first | (with_reducible first | exact HB.out | apply below_alloc | apply pw_below_drewN | apply below_drew1) | exact HB.out)⟩
    rw [if_neg c3] at H
    exact absurd H (by simp)
  rw [if_neg c2] at H
  exact absurd H (by simp)
end
section
attribute [local go_sem] max2_int min2_int max_two min_two max_three min_three max_four min_four
def slIx.l0 : Nat → List Int → Int → Int → Int → Option (Int)
  | 0, _, _, _, _ => none
  | k + 1, x0, x1, x7, x8 => if x8 < x7 then (if 0 ≤ x8 then (if x8 < (x0.length : Int) then (if x1 = (rd x0 x8) then (some x8) else (slIx.l0 k x0 x1 x7 (wrap64 (x8 + 1)))) else (none)) else (none)) else (some (-1))
def slIx.f (k : Nat) (l0 : List Int) (a1 : Int) : Option (Int) := slIx.l0 k l0 a1 (l0.length : Int) 0
theorem slIx.calls (k : Nat) (A0 : Option Addr) (c0 : Nat) (l0 : List Int) (a1 : Int) (r : Int) (w : World) (hr0 : Kd.C (Kd.int .i64) w A0 l0.length l0) (hc0 : l0.length ≤ c0) (h : slIx.f k l0 a1 = some r) :
    Calls Try.prog 70 #[.slice A0 l0.length c0, .int .i64 a1] w fun e w' => e = .returned (.int .i64 r) ∧ Drawn0 w w' := by
  have HR0 := aM hr0
  have HC0 := aM hc0
  clear hr0 hc0
  have H : (slIx.l0 k l0 a1 (l0.length : Int) 0) = some r := h
  clear h
  have H' := aM H
  clear H
  go_enter Try.func70, Try.ntmps70
  go_wp2
  go_loopg [8] k (fun kq v8 w' => ∃ (x8_1 : Int), v8 = .int .i64 x8_1 ∧ Aside0 (slIx.l0 kq l0 a1 (l0.length : Int) x8_1 = some r) ∧ Aside0 (kq ≤ k) ∧ Drawn0 w w')
  case atStart => exact ⟨(0), zz77, H', ⟨Nat.le_refl _⟩, by repeat (first | exact Drawn0.refl _ | apply Drawn0.step)⟩
  case round =>
    clear H'; (try clear p2); obtain ⟨x8_1, rfl, HA, HK1, ⟨m1, rfl⟩⟩ := hrel
    cases gk with
    | zero => exact absurd HA.out (by simp [slIx.l0])
    | succ k1 =>
      have H := HA.out; clear HA; simp only [slIx.l0] at H
      by_cases c3 : x8_1 < (l0.length : Int)
      · rw [if_pos c3] at H; have c3b0 := decide_eq_true c3; clear c3
        by_cases c4 : 0 ≤ x8_1
        · rw [if_pos c4] at H; have c4b0 := decide_eq_true c4; clear c4
          by_cases c5 : x8_1 < (l0.length : Int)
          · rw [if_pos c5] at H; have c5b0 := decide_eq_true c5; clear c5
            by_cases c6 : a1 = (rd l0 x8_1)
            · rw [if_pos c6] at H; have c6b0 := beq_iff_eq.mpr c6; have c6b1 := bne_eq_false_iff_eq.mpr c6; clear c6; obtain rfl := Option.some.inj H; have p268 : 0 ≤ (x8_1 : Int) := of_decide_eq_true zz76; have q268 : x8_1 < (l0.length : Int) := of_decide_eq_true zz76; obtain ⟨ad268, e268, hx268_0⟩ := Kd.at_int HR0.out x8_1 p268 q268
              cases e268; replace p268 := eq_true p268; replace q268 := eq_true q268; go_wp2; go_ret
              exact ⟨by first | rfl | (simp; done) | (simp [*]; done), by repeat (first | exact Drawn0.refl _ | apply Drawn0.step)⟩
            rw [if_neg c6] at H; have c6b0 := beq_eq_false_iff_ne.mpr c6; have c6b1 := bne_iff_ne.mpr c6; have H' := aM H; clear H; have p268 : 0 ≤ (x8_1 : Int) := of_decide_eq_true zz76; have q268 : x8_1 < (l0.length : Int) := of_decide_eq_true zz76; obtain ⟨ad268, e268, hx268_0⟩ := Kd.at_int HR0.out x8_1 p268 q268
            cases e268; replace p268 := eq_true p268; replace q268 := eq_true q268; go_wp2
            go_roundg k1
            case measure => have := HK1.out; omega
            case rel => exact ⟨(wrap64 (x8_1 + 1)), zz77, H', ⟨zz83⟩, by repeat (first | exact Drawn0.refl _ | apply Drawn0.step)⟩
          rw [if_neg c5] at H
          exact absurd H (by simp)
        rw [if_neg c4] at H
        exact absurd H (by simp)
      rw [if_neg c3] at H; have c3b0 := decide_eq_false c3; clear c3; obtain rfl := Option.some.inj H; go_wp2; go_ret
      exact ⟨by first | rfl | (simp; done) | (simp [*]; done), by repeat (first | exact Drawn0.refl _ | apply Drawn0.step)⟩
end
section
structure Tw where
  n : Nat
  reps : List (List (List Int))
  gens : List (List (List Int))
def Tw.row (T : Tw) (b : Int) : List (List Int) := T.reps.getD b.toNat []
def Tw.rep (T : Tw) (b x : Int) : List Int := (T.row b).getD x.toNat []
def Tw.gen (T : Tw) (b : Int) : List (List Int) := T.gens.getD b.toNat []
def Lok (base : Nat) (w : World) (k : Nat) : Prop := k < base ∨ ∃ cs fr, w.heap[k]? = some (.cells cs 3 fr)
def Leaf (base : Nat) (w : World) (v : Value) (l : List Int) : Prop :=
  ∃ A c, v = .slice A l.length c ∧ l.length ≤ c ∧ Kd.F (Kd.int .i64) w (Lok base w) A l.length l ∧ (l = [] → v = .slice none 0 0)
structure Keep (base : Nat) (w w1 : World) : Prop where
  below : Below base w w1
  ints : ∀ (k : Nat) (cs : Array Value) (fr : Nat × Nat), w.heap[k]? = some (Obj.cells cs 3 fr) → w1.heap[k]? = w.heap[k]?
theorem Keep.refl (base : Nat) (w : World) : Keep base w w := ⟨Below.refl _ _, fun _ _ _ _ => rfl⟩
theorem Keep.trans {base : Nat} {w w1 w2 : World} (h : Keep base w w1) (k : Keep base w1 w2) : Keep base w w2 :=
  ⟨h.below.trans k.below, fun i cs fr hi => by
    have h1 := h.ints i cs fr hi; rw [k.ints i cs fr (h1.trans hi), h1]⟩
theorem lt_of_some {w : World} {k : Nat} {o : Obj} (h : w.heap[k]? = some o) : k < w.heap.size := (Array.getElem?_eq_some_iff.1 h).1
theorem Keep.of_below {base : Nat} {w w1 : World} (hb : base ≤ w.heap.size) (h : Below w.heap.size w w1) : Keep base w w1 :=
  ⟨⟨h.os, h.tape, h.output, h.size, fun i hi => h.block i (Nat.lt_of_lt_of_le hi hb)⟩, fun k _ _ hk => h.block k (lt_of_some hk)⟩
theorem Keep.lok {base : Nat} {w w1 : World} (h : Keep base w w1) {k : Nat} (hk : Lok base w k) : Lok base w1 k := by
  rcases hk with hk | ⟨cs, fr, hk⟩
  · exact .inl hk
  · exact .inr ⟨cs, fr, (h.ints k cs fr hk).trans hk⟩
theorem Leaf.keep {base : Nat} {w w1 : World} {v : Value} {l : List Int} (h : Leaf base w v l) (hk : Keep base w w1) : Leaf base w1 v l := by
  obtain ⟨A, c, rfl, hl, hf, hn⟩ := h
  refine ⟨A, c, rfl, hl, ?_, hn⟩
  refine Kd.F_mono (Kd.F_step hf (fun k hk' hlt => ?_)) (fun k hk' => hk.lok hk')
  rcases hk' with hk' | ⟨cs, fr, hk'⟩
  · exact hk.below.block k hk'
  · exact hk.ints k cs fr hk'
theorem Leaf.reads {base : Nat} {w : World} {v : Value} {l : List Int} (h : Leaf base w v l) : ∃ A c, v = .slice A l.length c ∧ l.length ≤ c ∧ (Kd.int .i64).C w A l.length l := by
  obtain ⟨A, c, rfl, hl, hf, _⟩ := h
  exact ⟨A, c, rfl, hl, Kd.F_now hf⟩
theorem Leaf.of_R {base b : Nat} {w : World} {ok : Nat → Prop} {v : Value} {l : List Int} (h : (Kd.int .i64).R 3 w b ok v l) (hl : l ≠ []) : Leaf base w v l := by
  obtain ⟨A, c, rfl, hc, hr⟩ := Kd.R_reads h
  refine ⟨A, c, rfl, hc, Kd.F_mono (Kd.R_F (Kd.R_bound h)) (fun k hk => ?_), fun h0 => absurd h0 hl⟩
  obtain ⟨_, _, _, q, hq, cells, hcell⟩ := hk
  have : q = 3 := by
    rcases List.mem_cons.1 hq with h1 | h1
    · exact h1
    · exact absurd h1 zz82
  subst this
  exact .inr ⟨cells, _, hcell⟩
def LeafN (base : Nat) (w : World) (v : Value) (l : List Int) : Prop :=
  ∃ A c, v = .slice A l.length c ∧ l.length ≤ c ∧ Kd.F (Kd.int .i64) w (fun k => base ≤ k ∧ ∃ cs fr, w.heap[k]? = some (Obj.cells cs 3 fr)) A l.length l ∧ (l = [] → v = .slice none 0 0)
theorem LeafN.leaf {base : Nat} {w : World} {v : Value} {l : List Int} (h : LeafN base w v l) : Leaf base w v l := by
  obtain ⟨A, c, rfl, hl, hf, hn⟩ := h
  exact ⟨A, c, rfl, hl, Kd.F_mono hf (fun k hk => .inr hk.2), hn⟩
theorem LeafN.keep {base : Nat} {w w1 : World} {v : Value} {l : List Int} (h : LeafN base w v l) (hk : Keep base w w1) : LeafN base w1 v l := by
  obtain ⟨A, c, rfl, hl, hf, hn⟩ := h
  refine ⟨A, c, rfl, hl, ?_, hn⟩
  refine Kd.F_mono (Kd.F_step hf (fun k hk' hlt => ?_)) (fun k hk' => ⟨hk'.1, ?_⟩)
  · obtain ⟨_, cs, fr, hk'⟩ := hk'
    exact hk.ints k cs fr hk'
  · obtain ⟨_, cs, fr, hk'⟩ := hk'
    exact ⟨cs, fr, (hk.ints k cs fr hk').trans hk'⟩
theorem LeafN.of_R {base b : Nat} {w : World} {ok : Nat → Prop} {v : Value} {l : List Int} (h : (Kd.int .i64).R 3 w b ok v l) (hb : base ≤ b) (hl : l ≠ []) : LeafN base w v l := by
  obtain ⟨A, c, rfl, hc, hr⟩ := Kd.R_reads h
  refine ⟨A, c, rfl, hc, Kd.F_mono (Kd.R_F (Kd.R_bound h)) (fun k hk => ?_), fun h0 => absurd h0 hl⟩
  obtain ⟨_, h2, _, q, hq, cells, hcell⟩ := hk
  have : q = 3 := by
    rcases List.mem_cons.1 hq with h1 | h1
    · exact h1
    · exact absurd h1 zz82
  subst this
  exact ⟨Nat.le_trans hb h2, cells, _, hcell⟩
theorem LeafN.none_ (base : Nat) (w : World) : LeafN base w (.slice none 0 0) [] := ⟨none, 0, rfl, Nat.le_refl _, Kd.F_nil _ _ _, fun _ => rfl⟩
theorem Leaf.C {base : Nat} {w : World} {A : Option Addr} {c : Nat} {l : List Int} (h : Leaf base w (.slice A l.length c) l) : (Kd.int .i64).C w A l.length l ∧ l.length ≤ c := by
  obtain ⟨A', c', e, hl, hr⟩ := h.reads
  injection e with ea eb ec
  subst ea ec
  exact ⟨hr, hl⟩
structure TwAt (base : Nat) (w : World) (bt bR bG : Nat) (rb : Nat → Nat) (vr : Nat → Nat → Value) (vg : Nat → Value) (T : Tw) : Prop where
  n1 : 1 ≤ T.n
  n64 : T.n ≤ 64
  lr : T.reps.length = T.n
  lrr : ∀ i, i < T.n → (T.reps.getD i []).length = T.n
  lg : T.gens.length = T.n
  gt : base ≤ bt
  gR : base ≤ bR
  gG : base ≤ bG
  grb : ∀ i, i < T.n → base ≤ rb i
  ht : w.heap[bt]? = some (.cells #[.int .i64 T.n, .slice (some ⟨bR, 0, none⟩) T.n T.n, .slice (some ⟨bG, 0, none⟩) T.n T.n] 108 (0, 0))
  hR : w.heap[bR]? = some (.cells ((List.range T.n).map (fun i => Value.slice (some ⟨rb i, 0, none⟩) T.n T.n)).toArray 28 (0, 0))
  hr : ∀ i, i < T.n → w.heap[rb i]? = some (.cells ((List.range T.n).map (vr i)).toArray 22 (0, 0))
  hG : w.heap[bG]? = some (.cells ((List.range T.n).map vg).toArray 28 (0, 0))
  hg : ∀ i, i < T.n → ∃ inner, w.ownsRow base 22 1 (vg i) (T.gens.getD i []).length inner ∧ ∀ (j : Nat) (l : List Int), (T.gens.getD i [])[j]? = some l → ∃ v, inner[j]? = some v ∧ Leaf base w v l
  leaf : ∀ i x, i < T.n → x < T.n → LeafN base w (vr i x) ((T.reps.getD i []).getD x [])
  dRG : bR ≠ bG
  drb : ∀ i j, i < T.n → j < T.n → rb i = rb j → i = j
  drg : ∀ i j, i < T.n → j < T.n → (vg j).ownBlock ≠ some (rb i)
  dgg : ∀ i j, i < T.n → j < T.n → i ≠ j → (vg i).ownBlock = none ∨ (vg i).ownBlock ≠ (vg j).ownBlock
section
variable {base : Nat} {w w1 : World} {bt bR bG : Nat} {rb : Nat → Nat} {vr : Nat → Nat → Value} {vg : Nat → Value} {T : Tw}
theorem range_map_get {n i : Nat} (f : Nat → Value) (h : i < n) : ((List.range n).map f).toArray[i]? = some (f i) := by simp [h]
theorem TwAt.cell0 (h : TwAt base w bt bR bG rb vr vg T) : w.cell? ⟨bt, 0, none⟩ = some (.int .i64 T.n) := (blk_cell h.ht 0).trans rfl
theorem TwAt.cell1 (h : TwAt base w bt bR bG rb vr vg T) : w.cell? ⟨bt, 1, none⟩ = some (.slice (some ⟨bR, 0, none⟩) T.n T.n) := (blk_cell h.ht 1).trans rfl
theorem TwAt.cell2 (h : TwAt base w bt bR bG rb vr vg T) : w.cell? ⟨bt, 2, none⟩ = some (.slice (some ⟨bG, 0, none⟩) T.n T.n) := (blk_cell h.ht 2).trans rfl
theorem TwAt.cellR (h : TwAt base w bt bR bG rb vr vg T) {b : Int} (h0 : 0 ≤ b) (h1 : b < T.n) : w.cell? ⟨bR, b.toNat, none⟩ = some (.slice (some ⟨rb b.toNat, 0, none⟩) T.n T.n) :=
  (blk_cell h.hR b.toNat).trans (range_map_get _ (by omega))
theorem TwAt.cellG (h : TwAt base w bt bR bG rb vr vg T) {b : Int} (h0 : 0 ≤ b) (h1 : b < T.n) : w.cell? ⟨bG, b.toNat, none⟩ = some (vg b.toNat) :=
  (blk_cell h.hG b.toNat).trans (range_map_get _ (by omega))
theorem TwAt.cellr (h : TwAt base w bt bR bG rb vr vg T) {b x : Int} (h0 : 0 ≤ b) (h1 : b < T.n) (h2 : 0 ≤ x) (h3 : x < T.n) : w.cell? ⟨rb b.toNat, x.toNat, none⟩ = some (vr b.toNat x.toNat) :=
  (blk_cell (h.hr b.toNat (by omega)) x.toNat).trans (range_map_get _ (by omega))
theorem TwAt.leafr (h : TwAt base w bt bR bG rb vr vg T) {b x : Int} (h0 : 0 ≤ b) (h1 : b < T.n) (h2 : 0 ≤ x) (h3 : x < T.n) : Leaf base w (vr b.toNat x.toNat) (T.rep b x) :=
  (h.leaf b.toNat x.toNat (by omega) (by omega)).leaf
theorem TwAt.base_le (h : TwAt base w bt bR bG rb vr vg T) : base ≤ w.heap.size := Nat.le_trans h.gt (Nat.le_of_lt (lt_of_some h.ht))
theorem TwAt.below (h : TwAt base w bt bR bG rb vr vg T) (hb : Below w.heap.size w w1) : TwAt base w1 bt bR bG rb vr vg T := by
  have hk := Keep.of_below h.base_le hb
  exact { h with
    ht := (hb.block _ (lt_of_some h.ht)).trans h.ht
    hR := (hb.block _ (lt_of_some h.hR)).trans h.hR
    hr := fun i hi => (hb.block _ (lt_of_some (h.hr i hi))).trans (h.hr i hi)
    hG := (hb.block _ (lt_of_some h.hG)).trans h.hG
    hg := fun i hi => by
      obtain ⟨inner, ho, hl⟩ := h.hg i hi
      exact ⟨inner, pw_own_below ho hb, fun j l hj => by obtain ⟨v, hv, hf⟩ := hl j l hj; exact ⟨v, hv, hf.keep hk⟩⟩
    leaf := fun i x hi hx => (h.leaf i x hi hx).keep hk }
end
end
end Go.Proofs.Ytjjlhbgpdncpcaa.P
