/- What the claim's theorem is built on, part 1: words, walks of the code, and what they tell. -/
import Derived.Test.YtjjlhbgpdncpcaaProg
import Derived.Below
import Derived.Deep.Draws
import Derived.Deep.AppendLies
import Derived.Maps.AppendAt
import Derived.OwnWalk
import Derived.Laws.BytesArg
import Derived.Laws.MakeOwn
import Derived.Laws.OwnMore
import Derived.Deep.OwnRows
import Derived.Tactics
import Derived.Lib.ConvBytes
import Derived.Laws.Slices
import Derived.WalkKit
import Derived.KernelRfl
import Derived.RowKit3
import Derived.Deep.LoopGhost
import Derived.Deep.QuietTactic
import Derived.BigQuiet
import Derived.WideLaws
import Derived.Deep.DeepCutAuto
import Derived.Deep.CutBlock
import Derived.Deep.RegionHeld3
import Derived.Laws.Rows
import Derived.Lib.AppendStr
import Derived.ArgAppend
import Derived.Laws.IdiomCopy
import Derived.OrdersHeld
import Derived.Laws.BitsLemmas
import Derived.RowKit
import Derived.Shelf.Sort.Plain
import Derived.Sort.OwnSortedInts
import Derived.Shelf.Small.Bits
import Derived.WalkSpells
import Derived.Test.YtjjlhbgpdncpcaaMs0
namespace Go.Proofs.Ytjjlhbgpdncpcaa.P
open Go.RowKit Go.Proofs.YtjjlhbgpdncpcaaW.PrintWords Go.Proofs.YtjjlhbgpdncpcaaW.PrintLast Go.Proofs.YtjjlhbgpdncpcaaW.PrintMore
set_option linter.unusedVariables false
set_option linter.unusedSimpArgs false
set_option maxHeartbeats 8000000
set_option maxRecDepth 100000
section
attribute [local go_sem] max2_int min2_int max_two min_two max_three min_three max_four min_four
def errW : Option Int → Value
  | none => .nilIface
  | some c => .iface 0 (.int .i64 c)
theorem errW_none : errW none = .nilIface := rfl
theorem errW_some (c : Int) : errW (some c) = .iface 0 (.int .i64 c) := rfl
theorem info3 : (Try.prog.info? 3).map (fun i => (i.zero, i.size, i.bytes)) = some (some (.int .i64 0), 1, 8) := by kernel_rfl
theorem info4 : (Try.prog.info? 4).map (fun i => (i.zero, i.size, i.bytes)) = some (some (.bool false), 1, 1) := by kernel_rfl
theorem info22 : (Try.prog.info? 22).map (fun i => (i.zero, i.size, i.bytes)) = some (some (.slice none 0 0), 1, 24) := by kernel_rfl
theorem info72 : (Try.prog.info? 72).map (fun i => (i.zero, i.size, i.bytes)) = some (some (.int .u32 0), 1, 4) := by kernel_rfl
theorem info74 : (Try.prog.info? 74).map (fun i => (i.zero, i.size, i.bytes)) = some (some (.agg #[(.int .i64 0), (.slice none 0 0), (.slice none 0 0)]), 3, 56) := by kernel_rfl
def rd_L1 (xs : List (List Int)) (i : Int) : (List Int) := xs.getD i.toNat ([] : List Int)
theorem at_L1 {w : World} {A : Option Addr} {n : Nat} {xs : List (List Int)} (h : Kd.C (Kd.slice 3 (Kd.int .i64)) w A n xs) (i : Int) (h0 : 0 ≤ i) (h1 : i < n) : ∃ ad A0 c0, A = some ad ∧ w.cell? (ad.add i.toNat) = some (.slice A0 (rd_L1 xs i).length c0) ∧ (rd_L1 xs i).length ≤ c0 ∧ (Kd.int .i64).C w A0 (rd_L1 xs i).length (rd_L1 xs i) := by
  obtain ⟨ad, c, e, _, hK, hc0⟩ := Kd.C_get h ([] : List Int) i h0 h1
  have hc : ∀ j u, c[j]? = some u → w.cell? (ad.add (i.toNat * 1 + j)) = some u := hc0
  obtain ⟨A0, c0, rfl, l0, g0⟩ := hK
  exact ⟨ad, A0, c0, e, by have hq := hc 0 _ rfl; rwa [Nat.mul_one, Nat.add_zero] at hq, l0, g0⟩
structure S74 where
  f0 : Int
  f1 : (List Int)
  f2 : (List (List Int))
def z74 : S74 := ⟨(0 : Int), ([] : List Int), ([] : List (List Int))⟩
def k74 : Kd S74 := Kd.iso (Kd.pair (Kd.int .i64) (Kd.pair (Kd.slice 3 (Kd.int .i64)) (Kd.slice 22 (Kd.slice 3 (Kd.int .i64))))) (fun x : S74 => (x.f0, x.f1, x.f2))
theorem k74_heap : Kd.Heap k74 := Kd.heap_iso _ (Kd.heap_pair (Kd.heap_int .i64) (Kd.heap_pair (Kd.heap_slice 3 (Kd.heap_int .i64)) (Kd.heap_slice 22 (Kd.heap_slice 3 (Kd.heap_int .i64)))))
theorem k74_open {w : World} {x : S74} {cs : List Value} (h : k74.K w x cs) : ∃ A1 c1 A2 c2, cs = [.int .i64 x.f0, .slice A1 x.f1.length c1, .slice A2 x.f2.length c2] ∧ x.f1.length ≤ c1 ∧ (Kd.int .i64).C w A1 x.f1.length x.f1 ∧ x.f2.length ≤ c2 ∧ (Kd.slice 3 (Kd.int .i64)).C w A2 x.f2.length x.f2 := by
  obtain ⟨_, _, rfl, rfl, ⟨_, _, rfl, ⟨A1, c1, rfl, l1, g1⟩, ⟨A2, c2, rfl, l2, g2⟩⟩⟩ := h
  exact ⟨A1, c1, A2, c2, rfl, l1, g1, l2, g2⟩
theorem k74_mk (w : World) (x : S74) {A1 : Option Addr} {c1 : Nat} (l1 : x.f1.length ≤ c1) (g1 : (Kd.int .i64).C w A1 x.f1.length x.f1) {A2 : Option Addr} {c2 : Nat} (l2 : x.f2.length ≤ c2) (g2 : (Kd.slice 3 (Kd.int .i64)).C w A2 x.f2.length x.f2) : k74.K w x [.int .i64 x.f0, .slice A1 x.f1.length c1, .slice A2 x.f2.length c2] := ⟨[.int .i64 x.f0], [.slice A1 x.f1.length c1, .slice A2 x.f2.length c2], rfl, rfl, ⟨[.slice A1 x.f1.length c1], [.slice A2 x.f2.length c2], rfl, ⟨A1, c1, rfl, l1, g1⟩, ⟨A2, c2, rfl, l2, g2⟩⟩⟩
theorem k74_openF {W : World} {ok : Nat → Prop} {x : S74} {cs : List Value} (h : Kd.FK k74 W ok x cs) : ∃ A1 c1 A2 c2, cs = [.int .i64 x.f0, .slice A1 x.f1.length c1, .slice A2 x.f2.length c2] ∧ x.f1.length ≤ c1 ∧ Kd.F (Kd.int .i64) W ok A1 x.f1.length x.f1 ∧ x.f2.length ≤ c2 ∧ Kd.F (Kd.slice 3 (Kd.int .i64)) W ok A2 x.f2.length x.f2 := by
  obtain ⟨A1, c1, A2, c2, rfl, l1, _, l2, _⟩ := k74_open (Kd.FK_now h)
  exact ⟨A1, c1, A2, c2, rfl, l1, (fun W' hW => by obtain ⟨A1_, c1_, A2_, c2_, he, l1_, g1_, l2_, g2_⟩ := k74_open (h W' hW); injection (Option.some.inj (show some (Value.slice A1 x.f1.length c1) = some (Value.slice A1_ x.f1.length c1_) from congrArg (fun l => l[1]?) he)) with ha_ _ _; rw [ha_]; exact g1_), l2, (fun W' hW => by obtain ⟨A1_, c1_, A2_, c2_, he, l1_, g1_, l2_, g2_⟩ := k74_open (h W' hW); injection (Option.some.inj (show some (Value.slice A2 x.f2.length c2) = some (Value.slice A2_ x.f2.length c2_) from congrArg (fun l => l[2]?) he)) with ha_ _ _; rw [ha_]; exact g2_)⟩
theorem k74_mkF (W : World) (ok : Nat → Prop) (x : S74) {A1 : Option Addr} {c1 : Nat} (l1 : x.f1.length ≤ c1) (g1 : Kd.F (Kd.int .i64) W ok A1 x.f1.length x.f1) {A2 : Option Addr} {c2 : Nat} (l2 : x.f2.length ≤ c2) (g2 : Kd.F (Kd.slice 3 (Kd.int .i64)) W ok A2 x.f2.length x.f2) : Kd.FK k74 W ok x [.int .i64 x.f0, .slice A1 x.f1.length c1, .slice A2 x.f2.length c2] := fun W2 hW => k74_mk W2 x l1 (g1 W2 hW) l2 (g2 W2 hW)
def rd_T74 (xs : List S74) (i : Int) : S74 := xs.getD i.toNat z74
theorem at_T74 {w : World} {A : Option Addr} {n : Nat} {xs : List S74} (h : Kd.C k74 w A n xs) (i : Int) (h0 : 0 ≤ i) (h1 : i < n) : ∃ ad A1 c1 A2 c2, A = some ad ∧ w.cell? (ad.add (i.toNat * 3)) = some (.int .i64 (rd_T74 xs i).f0) ∧ w.cell? ⟨(ad.add (i.toNat * 3)).block, (ad.add (i.toNat * 3)).off + 1, none⟩ = some (.slice A1 (rd_T74 xs i).f1.length c1) ∧ w.cell? ⟨(ad.add (i.toNat * 3)).block, (ad.add (i.toNat * 3)).off + 2, none⟩ = some (.slice A2 (rd_T74 xs i).f2.length c2) ∧ (rd_T74 xs i).f1.length ≤ c1 ∧ (Kd.int .i64).C w A1 (rd_T74 xs i).f1.length (rd_T74 xs i).f1 ∧ (rd_T74 xs i).f2.length ≤ c2 ∧ (Kd.slice 3 (Kd.int .i64)).C w A2 (rd_T74 xs i).f2.length (rd_T74 xs i).f2 := by
  obtain ⟨ad, c, e, _, hK, hc0⟩ := Kd.C_get h z74 i h0 h1
  have hc : ∀ j u, c[j]? = some u → w.cell? (ad.add (i.toNat * 3 + j)) = some u := hc0
  obtain ⟨A1, c1, A2, c2, rfl, l1, g1, l2, g2⟩ := k74_open hK
  exact ⟨ad, A1, c1, A2, c2, e, hc 0 _ rfl, by rw [← add_field _ _ 1 (by omega)]; exact hc 1 _ rfl, by rw [← add_field _ _ 2 (by omega)]; exact hc 2 _ rfl, l1, g1, l2, g2⟩
structure S46 where
  f0 : Int
  f1 : (List S74)
def z46 : S46 := ⟨(0 : Int), ([] : List S74)⟩
def rd_L8 (xs : List (List Int)) (i : Int) : (List Int) := xs.getD i.toNat ([] : List Int)
theorem at_L8 {w : World} {A : Option Addr} {n : Nat} {xs : List (List Int)} (h : Kd.C (Kd.slice 72 (Kd.int .u32)) w A n xs) (i : Int) (h0 : 0 ≤ i) (h1 : i < n) : ∃ ad A0 c0, A = some ad ∧ w.cell? (ad.add i.toNat) = some (.slice A0 (rd_L8 xs i).length c0) ∧ (rd_L8 xs i).length ≤ c0 ∧ (Kd.int .u32).C w A0 (rd_L8 xs i).length (rd_L8 xs i) := by
  obtain ⟨ad, c, e, _, hK, hc0⟩ := Kd.C_get h ([] : List Int) i h0 h1
  have hc : ∀ j u, c[j]? = some u → w.cell? (ad.add (i.toNat * 1 + j)) = some u := hc0
  obtain ⟨A0, c0, rfl, l0, g0⟩ := hK
  exact ⟨ad, A0, c0, e, by have hq := hc 0 _ rfl; rwa [Nat.mul_one, Nat.add_zero] at hq, l0, g0⟩
theorem aM {p : Prop} (h : p) : Aside0 p := ⟨h⟩
theorem zR {p q : Prop} (a : Aside0 q) (h : q → p := by intro a_; (with_reducible repeat (first | apply Kd.R_alloc | apply Kd.R_drewN | apply Kd.R_drew)); exact a_) : p := h a.out
theorem zV {p q : Prop} (a : Aside0 q) (h : q → p := by intro a_; (with_reducible repeat (first | apply Kd.V_alloc | apply Kd.V_drewN | apply Kd.V_drew)); exact a_) : p := h a.out
theorem zN {p q : Prop} (a : Aside0 q) (h : q → p := by intro a_; (with_reducible repeat (first | apply Kd.N_alloc | apply Kd.N_drewN | apply Kd.N_drew)); exact a_) : p := h a.out
theorem zS {p q : Prop} (a : Aside0 q) (h : q → p := by intro a_; (with_reducible repeat (first | apply Kd.S_alloc | apply Kd.S_drewN | apply Kd.S_drew)); exact a_) : p := h a.out
theorem zB {p q : Prop} (a : Aside0 q) (h : q → p := by intro a_; (with_reducible repeat (first | refine blk_drewN ?_ _ | refine blk_drew ?_ | refine blk_alloc ?_ _)); exact a_) : p := h a.out
theorem zz144 {p : Prop} (h : p := by simp [Value.ownBlock]) : p := h
theorem zz143 {p : Prop} (h : p := by have := HK1.out; omega) : p := h
theorem zz142 {p : Prop} (h : p := by simp [Kd.int, Kd.scalar]) : p := h
theorem zz141 {p : Prop} (h : p := by cases k <;> simp [l30_awakeW.j0]) : p := h
theorem zz140 {p : Prop} (h : p := by cases kj6 <;> simp [l30_awakeW.j1]) : p := h
theorem zz138 {p : Prop} (h : p := by first | omega | exact Nat.le_refl _) : p := h
theorem zz139 {p : Prop} (h : p := by simp only [List.length_cons]; omega) : p := h
theorem zz137 {p : Prop} (h : p := by have := HK1.out; have := HK2.out; omega) : p := h
theorem zz136 {p : Prop} (h : p := by first | rfl | (simp; done) | (simp [*]; done)) : p := h
theorem zz135 {p : Prop} (h : p := by first | (with_reducible assumption) | assumption) : p := h
theorem zz134 {p : Prop} (h : p := by have := HK1.out; first | omega | exact Nat.le_refl _) : p := h
theorem zz133 {p : Prop} (h : p := by have := HK1.out; have := HK2.out; have := HK3.out; omega) : p := h
theorem zz132 {p : Prop} (h : p := by have := HJ2.out; have := HJ16.out; have := HK3.out; omega) : p := h
theorem zz131 {p : Prop} (h : p := by first | rfl | assumption | exact beq_iff_eq.mp (by assumption)) : p := h
theorem zz130 {p : Prop} (h : p := by have := HJ2.out; have := HK2.out; first | omega | exact Nat.le_refl _) : p := h
theorem zz129 {p : Prop} (h : p := by have := HJ1.out; have := HK2.out; have := HK3.out; have := HK4.out; omega) : p := h
theorem zz122 {p : Prop} (h : p := by have := World.block_lt_of_cell? _ _ hx279_0; first | rwa [add_block] at this | exact this) : p := h
theorem zz120 {p : Prop} (h : p := by first | rfl | assumption | exact beq_iff_eq.mp (by assumption) | (have h_ := HR_.out; simp_all)) : p := h
theorem zz121 {p : Prop} (h : p := by simp only [putAll, Act.put, List.setIfInBounds_toArray, List.set_cons_zero, List.set_cons_succ]) : p := h
theorem zz118 {p : Prop} (h : p := by have h1_ := HGR.out; have h2_ := lt_of_some HT.out.ht; have h3_ := HB3.out.size; show bt ≠ gout; omega) : p := h
theorem zz119 {p : Prop} (h : p := by first | exact Kd.N_base ho0 | exact Kd.N_base (Kd.S_N ho0) | exact Kd.N_base (Kd.S_N (Kd.S_bound ho0))) : p := h
theorem zz112 {p : Prop} (h : p := by first | (rw [add_block]; exact hn277_0) | (show (Addr.add _ _).block ≠ _; rw [add_block]; exact hn277_0) | exact hn277_0) : p := h
theorem zz113 {p : Prop} (h : p := by first | (rw [add_block]; exact hn277_1) | (show (Addr.add _ _).block ≠ _; rw [add_block]; exact hn277_1) | exact hn277_1) : p := h
theorem zz114 {p : Prop} (h : p := by first | (rw [add_block]; exact hn277_2) | (show (Addr.add _ _).block ≠ _; rw [add_block]; exact hn277_2) | exact hn277_2) : p := h
theorem zz115 {p : Prop} (h : p := by first | (rw [add_block]; exact hn279_0) | (show (Addr.add _ _).block ≠ _; rw [add_block]; exact hn279_0) | exact hn279_0) : p := h
theorem zz116 {p : Prop} (h : p := by first | (rw [add_block]; exact hn279_1) | (show (Addr.add _ _).block ≠ _; rw [add_block]; exact hn279_1) | exact hn279_1) : p := h
theorem zz117 {p : Prop} (h : p := by first | (rw [add_block]; exact hn279_2) | (show (Addr.add _ _).block ≠ _; rw [add_block]; exact hn279_2) | exact hn279_2) : p := h
theorem zz111 {p : Prop} (h : p := by (try simp only [hl7_2]); (with_reducible repeat (first | apply Kd.R_alloc | apply Kd.R_drewN | apply Kd.R_drew)); exact HO_7.out) : p := h
theorem zz110 {p : Prop} (h : p := by repeat (first | (with_reducible first | exact HB.out | apply below_alloc | apply pw_below_drewN | apply below_drew1) | exact HB.out)) : p := h
theorem zz109 {p : Prop} (h : p := by (try simp only [List.map_toArray, List.map_cons, List.map_nil]); first | done | rfl | (simp only [List.length_drop, List.length_take]; rfl)) : p := h
theorem zz108 {p : Prop} (h : p := by first | exact Kd.S_nil _ _ _ _ _ | exact Kd.N_nil _ _ _ _ _ | exact Kd.V_nil _ _ _ _ _ | exact Kd.Q_nil _ _ _ _ _ | exact Kd.R_nil _ _ _ _ _) : p := h
theorem zz107 {p : Prop} (h : p := by (with_reducible repeat (first | apply Kd.N_alloc | apply Kd.N_drewN | apply Kd.N_drew)); exact Kd.N_mono HO228.out (fun _ hk => ⟨hk.1, hk.2.1⟩)) : p := h
theorem zz104 {p : Prop} (h : p := by first | exact q224 | exact of_decide_eq_true zz135 | (have e_ := (Kd.V_reads' HO_25.out).1; omega)) : p := h
theorem zz105 {p : Prop} (h : p := by first | exact q235 | exact of_decide_eq_true zz135 | (have e_ := (Kd.V_reads' HO_70.out).1; omega)) : p := h
theorem zz106 {p : Prop} (h : p := by first | exact q757 | exact of_decide_eq_true zz135 | (have e_ := (Kd.N_reads' HO_81.out).1; omega)) : p := h
theorem zz103 {p : Prop} (h : p := by first | exact q237 | exact of_decide_eq_true zz135 | (have e_ := (Kd.N_reads' HO_235001.out).1; omega)) : p := h
theorem zz101 {p : Prop} (h : p := by (try simp only [hl7_2]); (try simp only [hl7_3]); (with_reducible repeat (first | apply Kd.R_alloc | apply Kd.R_drewN | apply Kd.R_drew)); exact HO_7.out) : p := h
theorem zz102 {p : Prop} (h : p := by (try simp only [hl7_2]); (try simp only [hl7_3]); (with_reducible repeat (first | apply Kd.S_alloc | apply Kd.S_drewN | apply Kd.S_drew)); exact HO_8.out) : p := h
theorem zz100 {p : Prop} (h : p := by (try simp only [hl7_2]); (try simp only [hl7_3]); (with_reducible repeat (first | apply Kd.R_alloc | apply Kd.R_drewN | apply Kd.R_drew)); exact HO_10.out) : p := h
theorem zz99 {p : Prop} (h : p := by (with_reducible repeat (first | apply Kd.V_alloc | apply Kd.V_drewN | apply Kd.V_drew)); exact Kd.V_mono HO_25.out (fun _ hk => ⟨hk.1.1, ⟨hk.2, hk.1.2.1⟩⟩)) : p := h
theorem zz98 {p : Prop} (h : p := by (with_reducible repeat (first | apply Kd.V_alloc | apply Kd.V_drewN | apply Kd.V_drew)); exact Kd.V_mono HO_223001.out (fun _ hk => ⟨hk.1.1, ⟨hk.2, hk.1.2.1⟩⟩)) : p := h
theorem zz91 {p : Prop} (h : p := by repeat (first | (with_reducible first | exact HB.out | apply below_alloc | apply pw_below_drewN | apply below_drew1 | refine below_set ?_ GE222.out) | exact HB.out)) : p := h
theorem zz92 {p : Prop} (h : p := by repeat (first | (with_reducible first | exact HB.out | apply below_alloc | apply pw_below_drewN | apply below_drew1 | refine below_set ?_ GE252.out) | exact HB.out)) : p := h
theorem zz93 {p : Prop} (h : p := by repeat (first | (with_reducible first | exact HB.out | apply below_alloc | apply pw_below_drewN | apply below_drew1 | refine below_set ?_ GE269.out) | exact HB.out)) : p := h
theorem zz94 {p : Prop} (h : p := by repeat (first | (with_reducible first | exact HB.out | apply below_alloc | apply pw_below_drewN | apply below_drew1 | refine below_set ?_ GE286.out) | exact HB.out)) : p := h
theorem zz95 {p : Prop} (h : p := by repeat (first | (with_reducible first | exact HB.out | apply below_alloc | apply pw_below_drewN | apply below_drew1 | refine below_set ?_ GE212.out) | exact HB.out)) : p := h
theorem zz96 {p : Prop} (h : p := by repeat (first | (with_reducible first | exact HB.out | apply below_alloc | apply pw_below_drewN | apply below_drew1 | refine below_set ?_ GE339.out) | exact HB.out)) : p := h
theorem zz97 {p : Prop} (h : p := by repeat (first | (with_reducible first | exact HB.out | apply below_alloc | apply pw_below_drewN | apply below_drew1 | refine below_set ?_ GE742.out) | exact HB.out)) : p := h
theorem zz90 {p : Prop} (h : p := by (with_reducible repeat (first | apply Kd.V_alloc | apply Kd.V_drewN | apply Kd.V_drew)); exact Kd.V_mono HO0_1.out (fun _ hk => ⟨hk.1, ⟨zz144, hk.2⟩⟩)) : p := h
theorem zz86 {p : Prop} (h : p := by repeat (first | (with_reducible exact HR149_0.out) | (with_reducible refine Kd.C_alloc ?_ _) | (with_reducible refine Kd.C_drewN ?_ _) | (with_reducible refine Kd.C_drew ?_) | exact HR149_0.out)) : p := h
theorem zz87 {p : Prop} (h : p := by repeat (first | (with_reducible exact HR757_0.out) | (with_reducible refine Kd.C_alloc ?_ _) | (with_reducible refine Kd.C_drewN ?_ _) | (with_reducible refine Kd.C_drew ?_) | exact HR757_0.out)) : p := h
theorem zz88 {p : Prop} (h : p := by repeat (first | (with_reducible exact HR755_1.out) | (with_reducible refine Kd.C_alloc ?_ _) | (with_reducible refine Kd.C_drewN ?_ _) | (with_reducible refine Kd.C_drew ?_) | exact HR755_1.out)) : p := h
theorem zz89 {p : Prop} (h : p := by repeat (first | (with_reducible exact HR755_2.out) | (with_reducible refine Kd.C_alloc ?_ _) | (with_reducible refine Kd.C_drewN ?_ _) | (with_reducible refine Kd.C_drew ?_) | exact HR755_2.out)) : p := h
theorem zz79 {p : Prop} (h : p := by repeat (first | (with_reducible first | exact HB.out | apply below_alloc | apply pw_below_drewN | apply below_drew1 | refine below_set ?_ GE222.out | refine below_set ?_ GE225.out) | exact HB.out)) : p := h
theorem zz80 {p : Prop} (h : p := by repeat (first | (with_reducible first | exact HB.out | apply below_alloc | apply pw_below_drewN | apply below_drew1 | refine below_set ?_ GE222.out | refine below_set ?_ GE234.out) | exact HB.out)) : p := h
theorem zz81 {p : Prop} (h : p := by repeat (first | (with_reducible first | exact HB.out | apply below_alloc | apply pw_below_drewN | apply below_drew1 | refine below_set ?_ GE252.out | refine below_set ?_ GE258.out) | exact HB.out)) : p := h
theorem zz82 {p : Prop} (h : p := by repeat (first | (with_reducible first | exact HB.out | apply below_alloc | apply pw_below_drewN | apply below_drew1 | refine below_set ?_ GE269.out | refine below_set ?_ GE276.out) | exact HB.out)) : p := h
theorem zz83 {p : Prop} (h : p := by repeat (first | (with_reducible first | exact HB.out | apply below_alloc | apply pw_below_drewN | apply below_drew1 | refine below_set ?_ GE212.out | refine below_set ?_ GE213.out) | exact HB.out)) : p := h
theorem zz84 {p : Prop} (h : p := by repeat (first | (with_reducible first | exact HB.out | apply below_alloc | apply pw_below_drewN | apply below_drew1 | refine below_set ?_ GE339.out | refine below_set ?_ GE395.out) | exact HB.out)) : p := h
theorem zz85 {p : Prop} (h : p := by repeat (first | (with_reducible first | exact HB.out | apply below_alloc | apply pw_below_drewN | apply below_drew1 | refine below_set ?_ GE742.out | refine below_set ?_ GE756.out) | exact HB.out)) : p := h
theorem zz75 {p : Prop} (h : p := by repeat (first | (with_reducible first | exact HB.out | apply below_alloc | apply pw_below_drewN | apply below_drew1 | refine below_set ?_ GE222.out | refine below_set ?_ GE234.out | refine below_set ?_ GE236.out) | exact HB.out)) : p := h
theorem zz76 {p : Prop} (h : p := by repeat (first | (with_reducible first | exact HB.out | apply below_alloc | apply pw_below_drewN | apply below_drew1 | refine below_set ?_ GE212.out | refine below_set ?_ GE213.out | refine below_set ?_ GE216.out) | exact HB.out)) : p := h
theorem zz77 {p : Prop} (h : p := by repeat (first | (with_reducible first | exact HB.out | apply below_alloc | apply pw_below_drewN | apply below_drew1 | refine below_set ?_ GE212.out | refine below_set ?_ GE213.out | refine below_set ?_ GE217.out) | exact HB.out)) : p := h
theorem zz78 {p : Prop} (h : p := by repeat (first | (with_reducible first | exact HB.out | apply below_alloc | apply pw_below_drewN | apply below_drew1 | refine below_set ?_ GE742.out | refine below_set ?_ GE756.out | refine below_set ?_ GE768.out) | exact HB.out)) : p := h
theorem zz67 {p : Prop} (h : p := by first | exact (Kd.V_reads' HL224_1.out).2.2 | (repeat (first | (with_reducible exact HR224_1.out) | (with_reducible refine Kd.C_alloc ?_ _) | (with_reducible refine Kd.C_drewN ?_ _) | (with_reducible refine Kd.C_drew ?_) | exact HR224_1.out))) : p := h
theorem zz68 {p : Prop} (h : p := by first | exact (Kd.V_reads' HL224_2.out).2.2 | (repeat (first | (with_reducible exact HR224_2.out) | (with_reducible refine Kd.C_alloc ?_ _) | (with_reducible refine Kd.C_drewN ?_ _) | (with_reducible refine Kd.C_drew ?_) | exact HR224_2.out))) : p := h
theorem zz69 {p : Prop} (h : p := by first | exact (Kd.V_reads' HL235_1.out).2.2 | (repeat (first | (with_reducible exact HR235_1.out) | (with_reducible refine Kd.C_alloc ?_ _) | (with_reducible refine Kd.C_drewN ?_ _) | (with_reducible refine Kd.C_drew ?_) | exact HR235_1.out))) : p := h
theorem zz70 {p : Prop} (h : p := by first | exact (Kd.V_reads' HL235_2.out).2.2 | (repeat (first | (with_reducible exact HR235_2.out) | (with_reducible refine Kd.C_alloc ?_ _) | (with_reducible refine Kd.C_drewN ?_ _) | (with_reducible refine Kd.C_drew ?_) | exact HR235_2.out))) : p := h
theorem zz71 {p : Prop} (h : p := by first | exact (Kd.V_reads' HL237_1.out).2.2 | (repeat (first | (with_reducible exact HR237_1.out) | (with_reducible refine Kd.C_alloc ?_ _) | (with_reducible refine Kd.C_drewN ?_ _) | (with_reducible refine Kd.C_drew ?_) | exact HR237_1.out))) : p := h
theorem zz72 {p : Prop} (h : p := by first | exact (Kd.V_reads' HL237_2.out).2.2 | (repeat (first | (with_reducible exact HR237_2.out) | (with_reducible refine Kd.C_alloc ?_ _) | (with_reducible refine Kd.C_drewN ?_ _) | (with_reducible refine Kd.C_drew ?_) | exact HR237_2.out))) : p := h
theorem zz73 {p : Prop} (h : p := by first | exact (Kd.V_reads' HL755_1.out).2.2 | (repeat (first | (with_reducible exact HR755_1.out) | (with_reducible refine Kd.C_alloc ?_ _) | (with_reducible refine Kd.C_drewN ?_ _) | (with_reducible refine Kd.C_drew ?_) | exact HR755_1.out))) : p := h
theorem zz74 {p : Prop} (h : p := by first | exact (Kd.V_reads' HL755_2.out).2.2 | (repeat (first | (with_reducible exact HR755_2.out) | (with_reducible refine Kd.C_alloc ?_ _) | (with_reducible refine Kd.C_drewN ?_ _) | (with_reducible refine Kd.C_drew ?_) | exact HR755_2.out))) : p := h
theorem zz66 {p : Prop} (h : p := by rw [hw]; exact zz75) : p := h
theorem zz64 {p : Prop} (h : p := by repeat (first | (with_reducible first | exact HB.out | apply below_alloc | apply pw_below_drewN | apply below_drew1 | refine below_set ?_ GE222.out | refine below_set ?_ GE234.out | refine below_set ?_ GE236.out | refine below_set ?_ GE238.out) | exact HB.out)) : p := h
theorem zz65 {p : Prop} (h : p := by repeat (first | (with_reducible first | exact HB.out | apply below_alloc | apply pw_below_drewN | apply below_drew1 | refine below_set ?_ GE212.out | refine below_set ?_ GE213.out | refine below_set ?_ GE216.out | refine below_set ?_ GE217.out) | exact HB.out)) : p := h
theorem zz61 {p : Prop} (h : p := by (with_reducible repeat (first | refine blk_drewN ?_ _ | refine blk_drew ?_ | refine blk_alloc ?_ _)); refine blk_far ?_ NB222_234.out _; (with_reducible repeat (first | refine blk_drewN ?_ _ | refine blk_drew ?_ | refine blk_alloc ?_ _)); refine blk_far ?_ NB222_234.out _; (with_reducible repeat (first | refine blk_drewN ?_ _ | refine blk_drew ?_ | refine blk_alloc ?_ _)); exact BK222.out) : p := h
theorem zz62 {p : Prop} (h : p := by (with_reducible repeat (first | refine blk_drewN ?_ _ | refine blk_drew ?_ | refine blk_alloc ?_ _)); refine blk_far ?_ NB742_768.out _; (with_reducible repeat (first | refine blk_drewN ?_ _ | refine blk_drew ?_ | refine blk_alloc ?_ _)); refine blk_far ?_ NB742_768.out _; (with_reducible repeat (first | refine blk_drewN ?_ _ | refine blk_drew ?_ | refine blk_alloc ?_ _)); exact BK742.out) : p := h
theorem zz63 {p : Prop} (h : p := by (with_reducible repeat (first | refine blk_drewN ?_ _ | refine blk_drew ?_ | refine blk_alloc ?_ _)); refine blk_far ?_ NB756_768.out _; (with_reducible repeat (first | refine blk_drewN ?_ _ | refine blk_drew ?_ | refine blk_alloc ?_ _)); refine blk_far ?_ NB756_768.out _; (with_reducible repeat (first | refine blk_drewN ?_ _ | refine blk_drew ?_ | refine blk_alloc ?_ _)); exact BK756.out) : p := h
theorem zz59 {p : Prop} (h : p := by (with_reducible repeat (first | refine blk_drewN ?_ _ | refine blk_drew ?_ | refine blk_alloc ?_ _)); refine blk_put (cs := #[.int .i64 t229, .slice none 0 0]) ?_ 1 _ rfl; (with_reducible repeat (first | refine blk_drewN ?_ _ | refine blk_drew ?_ | refine blk_alloc ?_ _)); refine blk_put (cs := #[.int .i64 0, .slice none 0 0]) ?_ 0 _ rfl; (with_reducible repeat (first | refine blk_drewN ?_ _ | refine blk_drew ?_ | refine blk_alloc ?_ _)); exact BK234.out) : p := h
theorem zz60 {p : Prop} (h : p := by (with_reducible repeat (first | refine blk_drewN ?_ _ | refine blk_drew ?_ | refine blk_alloc ?_ _)); refine blk_put (cs := #[.int .i64 t737, .slice none 0 0]) ?_ 1 _ rfl; (with_reducible repeat (first | refine blk_drewN ?_ _ | refine blk_drew ?_ | refine blk_alloc ?_ _)); refine blk_put (cs := #[.int .i64 0, .slice none 0 0]) ?_ 0 _ rfl; (with_reducible repeat (first | refine blk_drewN ?_ _ | refine blk_drew ?_ | refine blk_alloc ?_ _)); exact BK742.out) : p := h
theorem zz58 {p : Prop} (h : p := by (with_reducible repeat (first | apply Kd.R_alloc | apply Kd.R_drewN | apply Kd.R_drew)); exact (Kd.R_mono (Kd.R_far (p := ⟨gb258, 2, none⟩) (Kd.R_far (p := ⟨gb258, 1, none⟩) (Kd.R_far (p := ⟨gb258, 0, none⟩) (Kd.R_types HO_5.out BK258.out (by decide)) (fun _ hk => hk.2) (.int .i64 ((rd_T74 l0_1 x17_1).f0))) (fun _ hk => hk.2) (.slice A257_1 ((rd_T74 l0_1 x17_1).f1).length c257_1)) (fun _ hk => hk.2) (.slice A257_2 ((rd_T74 l0_1 x17_1).f2).length c257_2)) (fun _ h_ => h_.1))) : p := h
theorem zz57 {p : Prop} (h : p := by (with_reducible repeat (first | apply Kd.R_alloc | apply Kd.R_drewN | apply Kd.R_drew)); exact (Kd.R_mono (Kd.R_far (p := ⟨gb276, 2, none⟩) (Kd.R_far (p := ⟨gb276, 1, none⟩) (Kd.R_far (p := ⟨gb276, 0, none⟩) (Kd.R_types HO_8.out BK276.out (by decide)) (fun _ hk => hk.2) (.int .i64 ((rd_T74 l0_1 x35_4).f0))) (fun _ hk => hk.2) (.slice A275_1 ((rd_T74 l0_1 x35_4).f1).length c275_1)) (fun _ hk => hk.2) (.slice (some ad279) ((rd_T74 l0_1 x35_4).f2).length c275_2)) (fun _ h_ => h_.1))) : p := h
theorem zz56 {p : Prop} (h : p := by (with_reducible repeat (first | refine blk_drewN ?_ _ | refine blk_drew ?_ | refine blk_alloc ?_ _)); refine blk_put (cs := #[.int .i64 (wrap64 (1 + (Int.tmod (wrap64 (a0)) 8))), .slice none 0 0]) ?_ 1 _ rfl; (with_reducible repeat (first | refine blk_drewN ?_ _ | refine blk_drew ?_ | refine blk_alloc ?_ _)); refine blk_put (cs := #[.int .i64 0, .slice none 0 0]) ?_ 0 _ rfl; (with_reducible repeat (first | refine blk_drewN ?_ _ | refine blk_drew ?_ | refine blk_alloc ?_ _)); exact BK768.out) : p := h
theorem zz52 {p : Prop} (h : p := by (with_reducible repeat (first | apply Kd.V_alloc | apply Kd.V_drewN | apply Kd.V_drew)); exact (Kd.V_mono (Kd.V_far (p := ⟨gb238, 2, none⟩) (Kd.V_far (p := ⟨gb238, 1, none⟩) (Kd.V_far (p := ⟨gb238, 0, none⟩) (Kd.V_mono HL235_1.out (fun k_ hk => (⟨hk, hk.2⟩ : _ ∧ k_ ≠ gb238))) (fun _ hk => hk.2) (.int .i64 ((rd_T74 t230 x72_3).f0))) (fun _ hk => hk.2) (.slice A237_1 ((rd_T74 t230 x72_3).f1).length c237_1)) (fun _ hk => hk.2) (.slice A237_2 ((rd_T74 t230 x72_3).f2).length c237_2)) (fun _ h_ => h_.1))) : p := h
theorem zz53 {p : Prop} (h : p := by (with_reducible repeat (first | apply Kd.V_alloc | apply Kd.V_drewN | apply Kd.V_drew)); exact (Kd.V_mono (Kd.V_far (p := ⟨gb238, 2, none⟩) (Kd.V_far (p := ⟨gb238, 1, none⟩) (Kd.V_far (p := ⟨gb238, 0, none⟩) (Kd.V_mono HL237_1.out (fun k_ hk => (⟨hk, hk.2⟩ : _ ∧ k_ ≠ gb238))) (fun _ hk => hk.2) (.int .i64 ((rd_T74 t230 x72_3).f0))) (fun _ hk => hk.2) (.slice A237_1 ((rd_T74 t230 x72_3).f1).length c237_1)) (fun _ hk => hk.2) (.slice A237_2 ((rd_T74 t230 x72_3).f2).length c237_2)) (fun _ h_ => h_.1))) : p := h
theorem zz54 {p : Prop} (h : p := by (with_reducible repeat (first | apply Kd.V_alloc | apply Kd.V_drewN | apply Kd.V_drew)); exact (Kd.V_mono (Kd.V_far (p := ⟨gb238, 2, none⟩) (Kd.V_far (p := ⟨gb238, 1, none⟩) (Kd.V_far (p := ⟨gb238, 0, none⟩) (Kd.V_mono HL235_2.out (fun k_ hk => (⟨hk, hk.2⟩ : _ ∧ k_ ≠ gb238))) (fun _ hk => hk.2) (.int .i64 ((rd_T74 t230 x72_3).f0))) (fun _ hk => hk.2) (.slice A237_1 ((rd_T74 t230 x72_3).f1).length c237_1)) (fun _ hk => hk.2) (.slice A237_2 ((rd_T74 t230 x72_3).f2).length c237_2)) (fun _ h_ => h_.1))) : p := h
theorem zz55 {p : Prop} (h : p := by (with_reducible repeat (first | apply Kd.V_alloc | apply Kd.V_drewN | apply Kd.V_drew)); exact (Kd.V_mono (Kd.V_far (p := ⟨gb238, 2, none⟩) (Kd.V_far (p := ⟨gb238, 1, none⟩) (Kd.V_far (p := ⟨gb238, 0, none⟩) (Kd.V_mono HL237_2.out (fun k_ hk => (⟨hk, hk.2⟩ : _ ∧ k_ ≠ gb238))) (fun _ hk => hk.2) (.int .i64 ((rd_T74 t230 x72_3).f0))) (fun _ hk => hk.2) (.slice A237_1 ((rd_T74 t230 x72_3).f1).length c237_1)) (fun _ hk => hk.2) (.slice A237_2 ((rd_T74 t230 x72_3).f2).length c237_2)) (fun _ h_ => h_.1))) : p := h
theorem zz51 {p : Prop} (h : p := by (with_reducible repeat (first | apply Kd.N_alloc | apply Kd.N_drewN | apply Kd.N_drew)); exact Kd.N_mono (Kd.N_far (p := ⟨gb225, 2, none⟩) (Kd.N_far (p := ⟨gb225, 1, none⟩) (Kd.N_far (p := ⟨gb225, 0, none⟩) (Kd.N_mono HO_4.out (fun k_ hk => (⟨hk, hk.2⟩ : _ ∧ k_ ≠ gb225))) (fun _ hk => hk.2) (.int .i64 ((rd_T74 l0_1 x27_1).f0))) (fun _ hk => hk.2) (.slice A224_1 ((rd_T74 l0_1 x27_1).f1).length c224_1)) (fun _ hk => hk.2) (.slice A224_2 ((rd_T74 l0_1 x27_1).f2).length c224_2)) (fun _ hk => ⟨hk.1.1.1, ⟨hk.1.1.2, hk.1.2⟩⟩)) : p := h
theorem zz44 {p : Prop} (h : p := by (with_reducible repeat (first | refine blk_drewN ?_ _ | refine blk_drew ?_ | refine blk_alloc ?_ _)); refine blk_far ?_ NB222_225.out _; (with_reducible repeat (first | refine blk_drewN ?_ _ | refine blk_drew ?_ | refine blk_alloc ?_ _)); refine blk_far ?_ NB222_225.out _; (with_reducible repeat (first | refine blk_drewN ?_ _ | refine blk_drew ?_ | refine blk_alloc ?_ _)); refine blk_far ?_ NB222_225.out _; (with_reducible repeat (first | refine blk_drewN ?_ _ | refine blk_drew ?_ | refine blk_alloc ?_ _)); exact BK222.out) : p := h
theorem zz47 {p : Prop} (h : p := by (with_reducible repeat (first | refine blk_drewN ?_ _ | refine blk_drew ?_ | refine blk_alloc ?_ _)); refine blk_far ?_ NB222_238.out _; (with_reducible repeat (first | refine blk_drewN ?_ _ | refine blk_drew ?_ | refine blk_alloc ?_ _)); refine blk_far ?_ NB222_238.out _; (with_reducible repeat (first | refine blk_drewN ?_ _ | refine blk_drew ?_ | refine blk_alloc ?_ _)); refine blk_far ?_ NB222_238.out _; (with_reducible repeat (first | refine blk_drewN ?_ _ | refine blk_drew ?_ | refine blk_alloc ?_ _)); exact BK222.out) : p := h
theorem zz48 {p : Prop} (h : p := by (with_reducible repeat (first | refine blk_drewN ?_ _ | refine blk_drew ?_ | refine blk_alloc ?_ _)); refine blk_far ?_ NB234_238.out _; (with_reducible repeat (first | refine blk_drewN ?_ _ | refine blk_drew ?_ | refine blk_alloc ?_ _)); refine blk_far ?_ NB234_238.out _; (with_reducible repeat (first | refine blk_drewN ?_ _ | refine blk_drew ?_ | refine blk_alloc ?_ _)); refine blk_far ?_ NB234_238.out _; (with_reducible repeat (first | refine blk_drewN ?_ _ | refine blk_drew ?_ | refine blk_alloc ?_ _)); exact BK234.out) : p := h
theorem zz49 {p : Prop} (h : p := by (with_reducible repeat (first | refine blk_drewN ?_ _ | refine blk_drew ?_ | refine blk_alloc ?_ _)); refine blk_far ?_ NB252_258.out _; (with_reducible repeat (first | refine blk_drewN ?_ _ | refine blk_drew ?_ | refine blk_alloc ?_ _)); refine blk_far ?_ NB252_258.out _; (with_reducible repeat (first | refine blk_drewN ?_ _ | refine blk_drew ?_ | refine blk_alloc ?_ _)); refine blk_far ?_ NB252_258.out _; (with_reducible repeat (first | refine blk_drewN ?_ _ | refine blk_drew ?_ | refine blk_alloc ?_ _)); exact BK252.out) : p := h
theorem zz50 {p : Prop} (h : p := by (with_reducible repeat (first | refine blk_drewN ?_ _ | refine blk_drew ?_ | refine blk_alloc ?_ _)); refine blk_far ?_ NB269_276.out _; (with_reducible repeat (first | refine blk_drewN ?_ _ | refine blk_drew ?_ | refine blk_alloc ?_ _)); refine blk_far ?_ NB269_276.out _; (with_reducible repeat (first | refine blk_drewN ?_ _ | refine blk_drew ?_ | refine blk_alloc ?_ _)); refine blk_far ?_ NB269_276.out _; (with_reducible repeat (first | refine blk_drewN ?_ _ | refine blk_drew ?_ | refine blk_alloc ?_ _)); exact BK269.out) : p := h
theorem zz43 {p : Prop} (h : p := by (with_reducible repeat (first | apply Kd.V_alloc | apply Kd.V_drewN | apply Kd.V_drew)); exact Kd.V_mono (Kd.V_far (p := ⟨gb225, 2, none⟩) (Kd.V_far (p := ⟨gb225, 1, none⟩) (Kd.V_far (p := ⟨gb225, 0, none⟩) (Kd.V_mono HO_25.out (fun k_ hk => (⟨hk, hk.2⟩ : _ ∧ k_ ≠ gb225))) (fun _ hk => hk.2) (.int .i64 ((rd_T74 l0_1 x27_1).f0))) (fun _ hk => hk.2) (.slice A224_1 ((rd_T74 l0_1 x27_1).f1).length c224_1)) (fun _ hk => hk.2) (.slice A224_2 ((rd_T74 l0_1 x27_1).f2).length c224_2)) (fun _ hk => ⟨⟨hk.1.1.1, ⟨hk.1.1.2.2, hk.1.2⟩⟩, hk.1.1.2.1⟩)) : p := h
theorem zz41 {p : Prop} (h : p := by (with_reducible repeat (first | apply Kd.V_alloc | apply Kd.V_drewN | apply Kd.V_drew)); exact Kd.V_mono (Kd.V_far (p := ⟨gb225, 2, none⟩) (Kd.V_far (p := ⟨gb225, 1, none⟩) (Kd.V_far (p := ⟨gb225, 0, none⟩) (Kd.V_mono HL224_1.out (fun k_ hk => (⟨hk, hk.2⟩ : _ ∧ k_ ≠ gb225))) (fun _ hk => hk.2) (.int .i64 ((rd_T74 l0_1 x27_1).f0))) (fun _ hk => hk.2) (.slice A224_1 ((rd_T74 l0_1 x27_1).f1).length c224_1)) (fun _ hk => hk.2) (.slice A224_2 ((rd_T74 l0_1 x27_1).f2).length c224_2)) (fun _ hk => ⟨⟨hk.1.1.1, ⟨hk.1.1.2.2, hk.1.2⟩⟩, hk.1.1.2.1⟩)) : p := h
theorem zz42 {p : Prop} (h : p := by (with_reducible repeat (first | apply Kd.V_alloc | apply Kd.V_drewN | apply Kd.V_drew)); exact Kd.V_mono (Kd.V_far (p := ⟨gb225, 2, none⟩) (Kd.V_far (p := ⟨gb225, 1, none⟩) (Kd.V_far (p := ⟨gb225, 0, none⟩) (Kd.V_mono HL224_2.out (fun k_ hk => (⟨hk, hk.2⟩ : _ ∧ k_ ≠ gb225))) (fun _ hk => hk.2) (.int .i64 ((rd_T74 l0_1 x27_1).f0))) (fun _ hk => hk.2) (.slice A224_1 ((rd_T74 l0_1 x27_1).f1).length c224_1)) (fun _ hk => hk.2) (.slice A224_2 ((rd_T74 l0_1 x27_1).f2).length c224_2)) (fun _ hk => ⟨⟨hk.1.1.1, ⟨hk.1.1.2.2, hk.1.2⟩⟩, hk.1.1.2.1⟩)) : p := h
theorem zz39 {p : Prop} (h : p := by (with_reducible repeat (first | apply Kd.V_alloc | apply Kd.V_drewN | apply Kd.V_drew)); exact Kd.V_mono (Kd.V_far (p := ⟨gb225, 2, none⟩) (Kd.V_far (p := ⟨gb225, 1, none⟩) (Kd.V_far (p := ⟨gb225, 0, none⟩) (Kd.V_mono HO_223001.out (fun k_ hk => (⟨hk, hk.2⟩ : _ ∧ k_ ≠ gb225))) (fun _ hk => hk.2) (.int .i64 ((rd_T74 l0_1 x27_1).f0))) (fun _ hk => hk.2) (.slice A224_1 ((rd_T74 l0_1 x27_1).f1).length c224_1)) (fun _ hk => hk.2) (.slice A224_2 ((rd_T74 l0_1 x27_1).f2).length c224_2)) (fun _ hk => ⟨⟨hk.1.1.1, ⟨hk.1.1.2.2, hk.1.2⟩⟩, hk.1.1.2.1⟩)) : p := h
theorem zz37 {p : Prop} (h : p := by rw [hw]; exact (by (with_reducible repeat (first | refine blk_drewN ?_ _ | refine blk_drew ?_ | refine blk_alloc ?_ _)); refine blk_far ?_ NB222_236.out _; (with_reducible repeat (first | refine blk_drewN ?_ _ | refine blk_drew ?_ | refine blk_alloc ?_ _)); refine blk_far ?_ NB222_236.out _; (with_reducible repeat (first | refine blk_drewN ?_ _ | refine blk_drew ?_ | refine blk_alloc ?_ _)); refine blk_far ?_ NB222_236.out _; (with_reducible repeat (first | refine blk_drewN ?_ _ | refine blk_drew ?_ | refine blk_alloc ?_ _)); exact BK222.out)) : p := h
theorem zz38 {p : Prop} (h : p := by rw [hw]; exact (by (with_reducible repeat (first | refine blk_drewN ?_ _ | refine blk_drew ?_ | refine blk_alloc ?_ _)); refine blk_far ?_ NB234_236.out _; (with_reducible repeat (first | refine blk_drewN ?_ _ | refine blk_drew ?_ | refine blk_alloc ?_ _)); refine blk_far ?_ NB234_236.out _; (with_reducible repeat (first | refine blk_drewN ?_ _ | refine blk_drew ?_ | refine blk_alloc ?_ _)); refine blk_far ?_ NB234_236.out _; (with_reducible repeat (first | refine blk_drewN ?_ _ | refine blk_drew ?_ | refine blk_alloc ?_ _)); exact BK234.out)) : p := h
theorem zz32 {p : Prop} (h : p := by rw [hw]; exact (by (with_reducible repeat (first | apply Kd.N_alloc | apply Kd.N_drewN | apply Kd.N_drew)); exact Kd.N_mono (Kd.N_far (p := ⟨gb236, 2, none⟩) (Kd.N_far (p := ⟨gb236, 1, none⟩) (Kd.N_far (p := ⟨gb236, 0, none⟩) (Kd.N_mono HO_235001.out (fun k_ hk => (⟨hk, hk.2⟩ : _ ∧ k_ ≠ gb236))) (fun _ hk => hk.2) (.int .i64 ((rd_T74 l0_1 x72_3).f0))) (fun _ hk => hk.2) (.slice A235_1 ((rd_T74 l0_1 x72_3).f1).length c235_1)) (fun _ hk => hk.2) (.slice A235_2 ((rd_T74 l0_1 x72_3).f2).length c235_2)) (fun _ hk => ⟨hk.1.1.1, ⟨hk.1.1.2.1, ⟨hk.1.1.2.2, hk.1.2⟩⟩⟩))) : p := h
theorem zz31 {p : Prop} (h : p := by rw [hw]; exact (by (with_reducible repeat (first | apply Kd.V_alloc | apply Kd.V_drewN | apply Kd.V_drew)); exact Kd.V_mono (Kd.V_far (p := ⟨gb236, 2, none⟩) (Kd.V_far (p := ⟨gb236, 1, none⟩) (Kd.V_far (p := ⟨gb236, 0, none⟩) (Kd.V_mono HO_70.out (fun k_ hk => (⟨hk, hk.2⟩ : _ ∧ k_ ≠ gb236))) (fun _ hk => hk.2) (.int .i64 ((rd_T74 l0_1 x72_3).f0))) (fun _ hk => hk.2) (.slice A235_1 ((rd_T74 l0_1 x72_3).f1).length c235_1)) (fun _ hk => hk.2) (.slice A235_2 ((rd_T74 l0_1 x72_3).f2).length c235_2)) (fun _ hk => ⟨hk.1.1.1, ⟨hk.1.1.2.1, ⟨hk.1.1.2.2.1, ⟨hk.1.1.2.2.2, hk.1.2⟩⟩⟩⟩))) : p := h
theorem zz29 {p : Prop} (h : p := by rw [hw]; exact (by (with_reducible repeat (first | apply Kd.V_alloc | apply Kd.V_drewN | apply Kd.V_drew)); exact Kd.V_mono (Kd.V_far (p := ⟨gb236, 2, none⟩) (Kd.V_far (p := ⟨gb236, 1, none⟩) (Kd.V_far (p := ⟨gb236, 0, none⟩) (Kd.V_mono HL235_1.out (fun k_ hk => (⟨hk, hk.2⟩ : _ ∧ k_ ≠ gb236))) (fun _ hk => hk.2) (.int .i64 ((rd_T74 l0_1 x72_3).f0))) (fun _ hk => hk.2) (.slice A235_1 ((rd_T74 l0_1 x72_3).f1).length c235_1)) (fun _ hk => hk.2) (.slice A235_2 ((rd_T74 l0_1 x72_3).f2).length c235_2)) (fun _ hk => ⟨hk.1.1.1, ⟨hk.1.1.2.1, ⟨hk.1.1.2.2.1, ⟨hk.1.1.2.2.2, hk.1.2⟩⟩⟩⟩))) : p := h
theorem zz30 {p : Prop} (h : p := by rw [hw]; exact (by (with_reducible repeat (first | apply Kd.V_alloc | apply Kd.V_drewN | apply Kd.V_drew)); exact Kd.V_mono (Kd.V_far (p := ⟨gb236, 2, none⟩) (Kd.V_far (p := ⟨gb236, 1, none⟩) (Kd.V_far (p := ⟨gb236, 0, none⟩) (Kd.V_mono HL235_2.out (fun k_ hk => (⟨hk, hk.2⟩ : _ ∧ k_ ≠ gb236))) (fun _ hk => hk.2) (.int .i64 ((rd_T74 l0_1 x72_3).f0))) (fun _ hk => hk.2) (.slice A235_1 ((rd_T74 l0_1 x72_3).f1).length c235_1)) (fun _ hk => hk.2) (.slice A235_2 ((rd_T74 l0_1 x72_3).f2).length c235_2)) (fun _ hk => ⟨hk.1.1.1, ⟨hk.1.1.2.1, ⟨hk.1.1.2.2.1, ⟨hk.1.1.2.2.2, hk.1.2⟩⟩⟩⟩))) : p := h
theorem zz28 {p : Prop} (h : p := by rw [hw]; exact (by (with_reducible repeat (first | apply Kd.V_alloc | apply Kd.V_drewN | apply Kd.V_drew)); exact Kd.V_mono (Kd.V_far (p := ⟨gb236, 2, none⟩) (Kd.V_far (p := ⟨gb236, 1, none⟩) (Kd.V_far (p := ⟨gb236, 0, none⟩) (Kd.V_mono HO_223001.out (fun k_ hk => (⟨hk, hk.2⟩ : _ ∧ k_ ≠ gb236))) (fun _ hk => hk.2) (.int .i64 ((rd_T74 l0_1 x72_3).f0))) (fun _ hk => hk.2) (.slice A235_1 ((rd_T74 l0_1 x72_3).f1).length c235_1)) (fun _ hk => hk.2) (.slice A235_2 ((rd_T74 l0_1 x72_3).f2).length c235_2)) (fun _ hk => ⟨hk.1.1.1, ⟨hk.1.1.2.1, ⟨hk.1.1.2.2.1, ⟨hk.1.1.2.2.2, hk.1.2⟩⟩⟩⟩))) : p := h
theorem zz27 {p : Prop} (h : p := by skip; exact Kd.V_F (Kd.V_mono (ok' := (fun k_ => ((fun k_ => (P0_1_ k_ ∨ w.heap.size ≤ k_) ∧ k_ ≠ gb222 ∧ k_ ≠ gb225)) k_ ∧ some k_ ≠ (u4 : Value).ownBlock)) ((Kd.V_far (p := ⟨gb225, 2, none⟩) (Kd.V_far (p := ⟨gb225, 1, none⟩) (Kd.V_far (p := ⟨gb225, 0, none⟩) (Kd.V_mono HL224_2.out (fun k_ hk => (⟨hk, hk.2⟩ : _ ∧ k_ ≠ gb225))) (fun _ hk => hk.2) (.int .i64 ((rd_T74 l0_1 x27_1).f0))) (fun _ hk => hk.2) (.slice A224_1 ((rd_T74 l0_1 x27_1).f1).length c224_1)) (fun _ hk => hk.2) (.slice A224_2 ((rd_T74 l0_1 x27_1).f2).length c224_2))) (fun k_ hk => ⟨⟨hk.1.1.1, ⟨hk.1.1.2.2, hk.1.2⟩⟩, hk.1.1.2.1⟩))) : p := h
theorem zz15 {p : Prop} (h : p := by first | exact Nat.ne_of_lt (Nat.lt_of_lt_of_le (by have := World.block_lt_of_cell? _ _ hw214_0; first | rwa [add_block] at this | exact this) GW216.out) | (rw [add_block]; exact Nat.ne_of_lt (Nat.lt_of_lt_of_le (by have := World.block_lt_of_cell? _ _ hw214_0; first | rwa [add_block] at this | exact this) GW216.out)) | (show (Addr.add _ _).block ≠ _; rw [add_block]; exact Nat.ne_of_lt (Nat.lt_of_lt_of_le (by have := World.block_lt_of_cell? _ _ hw214_0; first | rwa [add_block] at this | exact this) GW216.out)) | (dsimp only; exact Nat.ne_of_lt (Nat.lt_of_lt_of_le (by have := World.block_lt_of_cell? _ _ hw214_0; first | rwa [add_block] at this | exact this) GW216.out))) : p := h
theorem zz16 {p : Prop} (h : p := by first | exact Nat.ne_of_lt (Nat.lt_of_lt_of_le (by have := World.block_lt_of_cell? _ _ hw214_1; first | rwa [add_block] at this | exact this) GW216.out) | (rw [add_block]; exact Nat.ne_of_lt (Nat.lt_of_lt_of_le (by have := World.block_lt_of_cell? _ _ hw214_1; first | rwa [add_block] at this | exact this) GW216.out)) | (show (Addr.add _ _).block ≠ _; rw [add_block]; exact Nat.ne_of_lt (Nat.lt_of_lt_of_le (by have := World.block_lt_of_cell? _ _ hw214_1; first | rwa [add_block] at this | exact this) GW216.out)) | (dsimp only; exact Nat.ne_of_lt (Nat.lt_of_lt_of_le (by have := World.block_lt_of_cell? _ _ hw214_1; first | rwa [add_block] at this | exact this) GW216.out))) : p := h
theorem zz17 {p : Prop} (h : p := by first | exact Nat.ne_of_lt (Nat.lt_of_lt_of_le (by have := World.block_lt_of_cell? _ _ hw214_2; first | rwa [add_block] at this | exact this) GW216.out) | (rw [add_block]; exact Nat.ne_of_lt (Nat.lt_of_lt_of_le (by have := World.block_lt_of_cell? _ _ hw214_2; first | rwa [add_block] at this | exact this) GW216.out)) | (show (Addr.add _ _).block ≠ _; rw [add_block]; exact Nat.ne_of_lt (Nat.lt_of_lt_of_le (by have := World.block_lt_of_cell? _ _ hw214_2; first | rwa [add_block] at this | exact this) GW216.out)) | (dsimp only; exact Nat.ne_of_lt (Nat.lt_of_lt_of_le (by have := World.block_lt_of_cell? _ _ hw214_2; first | rwa [add_block] at this | exact this) GW216.out))) : p := h
theorem zz18 {p : Prop} (h : p := by first | exact Nat.ne_of_lt (Nat.lt_of_lt_of_le (by have := World.block_lt_of_cell? _ _ hw215_0; first | rwa [add_block] at this | exact this) GW216.out) | (rw [add_block]; exact Nat.ne_of_lt (Nat.lt_of_lt_of_le (by have := World.block_lt_of_cell? _ _ hw215_0; first | rwa [add_block] at this | exact this) GW216.out)) | (show (Addr.add _ _).block ≠ _; rw [add_block]; exact Nat.ne_of_lt (Nat.lt_of_lt_of_le (by have := World.block_lt_of_cell? _ _ hw215_0; first | rwa [add_block] at this | exact this) GW216.out)) | (dsimp only; exact Nat.ne_of_lt (Nat.lt_of_lt_of_le (by have := World.block_lt_of_cell? _ _ hw215_0; first | rwa [add_block] at this | exact this) GW216.out))) : p := h
theorem zz19 {p : Prop} (h : p := by first | exact Nat.ne_of_lt (Nat.lt_of_lt_of_le (by have := World.block_lt_of_cell? _ _ hw215_1; first | rwa [add_block] at this | exact this) GW216.out) | (rw [add_block]; exact Nat.ne_of_lt (Nat.lt_of_lt_of_le (by have := World.block_lt_of_cell? _ _ hw215_1; first | rwa [add_block] at this | exact this) GW216.out)) | (show (Addr.add _ _).block ≠ _; rw [add_block]; exact Nat.ne_of_lt (Nat.lt_of_lt_of_le (by have := World.block_lt_of_cell? _ _ hw215_1; first | rwa [add_block] at this | exact this) GW216.out)) | (dsimp only; exact Nat.ne_of_lt (Nat.lt_of_lt_of_le (by have := World.block_lt_of_cell? _ _ hw215_1; first | rwa [add_block] at this | exact this) GW216.out))) : p := h
theorem zz20 {p : Prop} (h : p := by first | exact Nat.ne_of_lt (Nat.lt_of_lt_of_le (by have := World.block_lt_of_cell? _ _ hw215_2; first | rwa [add_block] at this | exact this) GW216.out) | (rw [add_block]; exact Nat.ne_of_lt (Nat.lt_of_lt_of_le (by have := World.block_lt_of_cell? _ _ hw215_2; first | rwa [add_block] at this | exact this) GW216.out)) | (show (Addr.add _ _).block ≠ _; rw [add_block]; exact Nat.ne_of_lt (Nat.lt_of_lt_of_le (by have := World.block_lt_of_cell? _ _ hw215_2; first | rwa [add_block] at this | exact this) GW216.out)) | (dsimp only; exact Nat.ne_of_lt (Nat.lt_of_lt_of_le (by have := World.block_lt_of_cell? _ _ hw215_2; first | rwa [add_block] at this | exact this) GW216.out))) : p := h
theorem zz21 {p : Prop} (h : p := by first | exact Nat.ne_of_lt (Nat.lt_of_lt_of_le (by have := World.block_lt_of_cell? _ _ hw214_0; first | rwa [add_block] at this | exact this) GW217.out) | (rw [add_block]; exact Nat.ne_of_lt (Nat.lt_of_lt_of_le (by have := World.block_lt_of_cell? _ _ hw214_0; first | rwa [add_block] at this | exact this) GW217.out)) | (show (Addr.add _ _).block ≠ _; rw [add_block]; exact Nat.ne_of_lt (Nat.lt_of_lt_of_le (by have := World.block_lt_of_cell? _ _ hw214_0; first | rwa [add_block] at this | exact this) GW217.out)) | (dsimp only; exact Nat.ne_of_lt (Nat.lt_of_lt_of_le (by have := World.block_lt_of_cell? _ _ hw214_0; first | rwa [add_block] at this | exact this) GW217.out))) : p := h
theorem zz22 {p : Prop} (h : p := by first | exact Nat.ne_of_lt (Nat.lt_of_lt_of_le (by have := World.block_lt_of_cell? _ _ hw214_1; first | rwa [add_block] at this | exact this) GW217.out) | (rw [add_block]; exact Nat.ne_of_lt (Nat.lt_of_lt_of_le (by have := World.block_lt_of_cell? _ _ hw214_1; first | rwa [add_block] at this | exact this) GW217.out)) | (show (Addr.add _ _).block ≠ _; rw [add_block]; exact Nat.ne_of_lt (Nat.lt_of_lt_of_le (by have := World.block_lt_of_cell? _ _ hw214_1; first | rwa [add_block] at this | exact this) GW217.out)) | (dsimp only; exact Nat.ne_of_lt (Nat.lt_of_lt_of_le (by have := World.block_lt_of_cell? _ _ hw214_1; first | rwa [add_block] at this | exact this) GW217.out))) : p := h
theorem zz23 {p : Prop} (h : p := by first | exact Nat.ne_of_lt (Nat.lt_of_lt_of_le (by have := World.block_lt_of_cell? _ _ hw214_2; first | rwa [add_block] at this | exact this) GW217.out) | (rw [add_block]; exact Nat.ne_of_lt (Nat.lt_of_lt_of_le (by have := World.block_lt_of_cell? _ _ hw214_2; first | rwa [add_block] at this | exact this) GW217.out)) | (show (Addr.add _ _).block ≠ _; rw [add_block]; exact Nat.ne_of_lt (Nat.lt_of_lt_of_le (by have := World.block_lt_of_cell? _ _ hw214_2; first | rwa [add_block] at this | exact this) GW217.out)) | (dsimp only; exact Nat.ne_of_lt (Nat.lt_of_lt_of_le (by have := World.block_lt_of_cell? _ _ hw214_2; first | rwa [add_block] at this | exact this) GW217.out))) : p := h
theorem zz24 {p : Prop} (h : p := by first | exact Nat.ne_of_lt (Nat.lt_of_lt_of_le (by have := World.block_lt_of_cell? _ _ hw215_0; first | rwa [add_block] at this | exact this) GW217.out) | (rw [add_block]; exact Nat.ne_of_lt (Nat.lt_of_lt_of_le (by have := World.block_lt_of_cell? _ _ hw215_0; first | rwa [add_block] at this | exact this) GW217.out)) | (show (Addr.add _ _).block ≠ _; rw [add_block]; exact Nat.ne_of_lt (Nat.lt_of_lt_of_le (by have := World.block_lt_of_cell? _ _ hw215_0; first | rwa [add_block] at this | exact this) GW217.out)) | (dsimp only; exact Nat.ne_of_lt (Nat.lt_of_lt_of_le (by have := World.block_lt_of_cell? _ _ hw215_0; first | rwa [add_block] at this | exact this) GW217.out))) : p := h
theorem zz25 {p : Prop} (h : p := by first | exact Nat.ne_of_lt (Nat.lt_of_lt_of_le (by have := World.block_lt_of_cell? _ _ hw215_1; first | rwa [add_block] at this | exact this) GW217.out) | (rw [add_block]; exact Nat.ne_of_lt (Nat.lt_of_lt_of_le (by have := World.block_lt_of_cell? _ _ hw215_1; first | rwa [add_block] at this | exact this) GW217.out)) | (show (Addr.add _ _).block ≠ _; rw [add_block]; exact Nat.ne_of_lt (Nat.lt_of_lt_of_le (by have := World.block_lt_of_cell? _ _ hw215_1; first | rwa [add_block] at this | exact this) GW217.out)) | (dsimp only; exact Nat.ne_of_lt (Nat.lt_of_lt_of_le (by have := World.block_lt_of_cell? _ _ hw215_1; first | rwa [add_block] at this | exact this) GW217.out))) : p := h
theorem zz26 {p : Prop} (h : p := by first | exact Nat.ne_of_lt (Nat.lt_of_lt_of_le (by have := World.block_lt_of_cell? _ _ hw215_2; first | rwa [add_block] at this | exact this) GW217.out) | (rw [add_block]; exact Nat.ne_of_lt (Nat.lt_of_lt_of_le (by have := World.block_lt_of_cell? _ _ hw215_2; first | rwa [add_block] at this | exact this) GW217.out)) | (show (Addr.add _ _).block ≠ _; rw [add_block]; exact Nat.ne_of_lt (Nat.lt_of_lt_of_le (by have := World.block_lt_of_cell? _ _ hw215_2; first | rwa [add_block] at this | exact this) GW217.out)) | (dsimp only; exact Nat.ne_of_lt (Nat.lt_of_lt_of_le (by have := World.block_lt_of_cell? _ _ hw215_2; first | rwa [add_block] at this | exact this) GW217.out))) : p := h
theorem zz11 {p : Prop} (h : p := by (with_reducible repeat (first | refine blk_drewN ?_ _ | refine blk_drew ?_ | refine blk_alloc ?_ _)); refine blk_put (cs := #[.int .i64 ((rd_T74 l0_1 x27_1).f0), .slice A224_1 ((rd_T74 l0_1 x27_1).f1).length c224_1, .slice none 0 0]) ?_ 2 _ rfl; (with_reducible repeat (first | refine blk_drewN ?_ _ | refine blk_drew ?_ | refine blk_alloc ?_ _)); refine blk_put (cs := #[.int .i64 ((rd_T74 l0_1 x27_1).f0), .slice none 0 0, .slice none 0 0]) ?_ 1 _ rfl; (with_reducible repeat (first | refine blk_drewN ?_ _ | refine blk_drew ?_ | refine blk_alloc ?_ _)); refine blk_put (cs := #[.int .i64 0, .slice none 0 0, .slice none 0 0]) ?_ 0 _ rfl; (with_reducible repeat (first | refine blk_drewN ?_ _ | refine blk_drew ?_ | refine blk_alloc ?_ _)); exact BK225.out) : p := h
theorem zz13 {p : Prop} (h : p := by (with_reducible repeat (first | refine blk_drewN ?_ _ | refine blk_drew ?_ | refine blk_alloc ?_ _)); refine blk_put (cs := #[.int .i64 ((rd_T74 l0_1 x17_1).f0), .slice A257_1 ((rd_T74 l0_1 x17_1).f1).length c257_1, .slice none 0 0]) ?_ 2 _ rfl; (with_reducible repeat (first | refine blk_drewN ?_ _ | refine blk_drew ?_ | refine blk_alloc ?_ _)); refine blk_put (cs := #[.int .i64 ((rd_T74 l0_1 x17_1).f0), .slice none 0 0, .slice none 0 0]) ?_ 1 _ rfl; (with_reducible repeat (first | refine blk_drewN ?_ _ | refine blk_drew ?_ | refine blk_alloc ?_ _)); refine blk_put (cs := #[.int .i64 0, .slice none 0 0, .slice none 0 0]) ?_ 0 _ rfl; (with_reducible repeat (first | refine blk_drewN ?_ _ | refine blk_drew ?_ | refine blk_alloc ?_ _)); exact BK258.out) : p := h
theorem zz14 {p : Prop} (h : p := by (with_reducible repeat (first | refine blk_drewN ?_ _ | refine blk_drew ?_ | refine blk_alloc ?_ _)); refine blk_put (cs := #[.int .i64 ((rd_T74 l0_1 x35_4).f0), .slice A275_1 ((rd_T74 l0_1 x35_4).f1).length c275_1, .slice none 0 0]) ?_ 2 _ rfl; (with_reducible repeat (first | refine blk_drewN ?_ _ | refine blk_drew ?_ | refine blk_alloc ?_ _)); refine blk_put (cs := #[.int .i64 ((rd_T74 l0_1 x35_4).f0), .slice none 0 0, .slice none 0 0]) ?_ 1 _ rfl; (with_reducible repeat (first | refine blk_drewN ?_ _ | refine blk_drew ?_ | refine blk_alloc ?_ _)); refine blk_put (cs := #[.int .i64 0, .slice none 0 0, .slice none 0 0]) ?_ 0 _ rfl; (with_reducible repeat (first | refine blk_drewN ?_ _ | refine blk_drew ?_ | refine blk_alloc ?_ _)); exact BK276.out) : p := h
theorem zz10 {p : Prop} (h : p := by rw [hw]; exact (by (with_reducible repeat (first | refine blk_drewN ?_ _ | refine blk_drew ?_ | refine blk_alloc ?_ _)); refine blk_put (cs := #[.int .i64 ((rd_T74 l0_1 x72_3).f0), .slice A235_1 ((rd_T74 l0_1 x72_3).f1).length c235_1, .slice none 0 0]) ?_ 2 _ rfl; (with_reducible repeat (first | refine blk_drewN ?_ _ | refine blk_drew ?_ | refine blk_alloc ?_ _)); refine blk_put (cs := #[.int .i64 ((rd_T74 l0_1 x72_3).f0), .slice none 0 0, .slice none 0 0]) ?_ 1 _ rfl; (with_reducible repeat (first | refine blk_drewN ?_ _ | refine blk_drew ?_ | refine blk_alloc ?_ _)); refine blk_put (cs := #[.int .i64 0, .slice none 0 0, .slice none 0 0]) ?_ 0 _ rfl; (with_reducible repeat (first | refine blk_drewN ?_ _ | refine blk_drew ?_ | refine blk_alloc ?_ _)); exact BK236.out)) : p := h
theorem zz8 {p : Prop} (h : p := by (with_reducible repeat (first | refine blk_drewN ?_ _ | refine blk_drew ?_ | refine blk_alloc ?_ _)); refine blk_far ?_ NB212_217.out _; (with_reducible repeat (first | refine blk_drewN ?_ _ | refine blk_drew ?_ | refine blk_alloc ?_ _)); refine blk_far ?_ NB212_217.out _; (with_reducible repeat (first | refine blk_drewN ?_ _ | refine blk_drew ?_ | refine blk_alloc ?_ _)); refine blk_far ?_ NB212_217.out _; (with_reducible repeat (first | refine blk_drewN ?_ _ | refine blk_drew ?_ | refine blk_alloc ?_ _)); refine blk_far ?_ NB212_216.out _; (with_reducible repeat (first | refine blk_drewN ?_ _ | refine blk_drew ?_ | refine blk_alloc ?_ _)); refine blk_far ?_ NB212_216.out _; (with_reducible repeat (first | refine blk_drewN ?_ _ | refine blk_drew ?_ | refine blk_alloc ?_ _)); refine blk_far ?_ NB212_216.out _; (with_reducible repeat (first | refine blk_drewN ?_ _ | refine blk_drew ?_ | refine blk_alloc ?_ _)); exact BK212.out) : p := h
theorem zz9 {p : Prop} (h : p := by (with_reducible repeat (first | refine blk_drewN ?_ _ | refine blk_drew ?_ | refine blk_alloc ?_ _)); refine blk_far ?_ NB213_217.out _; (with_reducible repeat (first | refine blk_drewN ?_ _ | refine blk_drew ?_ | refine blk_alloc ?_ _)); refine blk_far ?_ NB213_217.out _; (with_reducible repeat (first | refine blk_drewN ?_ _ | refine blk_drew ?_ | refine blk_alloc ?_ _)); refine blk_far ?_ NB213_217.out _; (with_reducible repeat (first | refine blk_drewN ?_ _ | refine blk_drew ?_ | refine blk_alloc ?_ _)); refine blk_far ?_ NB213_216.out _; (with_reducible repeat (first | refine blk_drewN ?_ _ | refine blk_drew ?_ | refine blk_alloc ?_ _)); refine blk_far ?_ NB213_216.out _; (with_reducible repeat (first | refine blk_drewN ?_ _ | refine blk_drew ?_ | refine blk_alloc ?_ _)); refine blk_far ?_ NB213_216.out _; (with_reducible repeat (first | refine blk_drewN ?_ _ | refine blk_drew ?_ | refine blk_alloc ?_ _)); exact BK213.out) : p := h
theorem zz7 {p : Prop} (h : p := by (with_reducible repeat (first | apply Kd.N_alloc | apply Kd.N_drewN | apply Kd.N_drew)); exact (Kd.N_mono (Kd.N_far (p := ⟨gb742, 1, none⟩) (Kd.N_far (p := ⟨gb742, 0, none⟩) (Kd.N_mono HO740.out (fun k_ hk => (⟨hk, hk.2⟩ : _ ∧ k_ ≠ gb742))) (fun _ hk => by first | exact hk.2 | ((repeat' apply And.intro) <;> (first | exact hk | exact hk.1 | exact hk.2 | exact hk.1.1 | exact hk.1.2 | exact hk.2.1 | exact hk.2.2 | exact hk.1.1.1 | exact hk.1.1.2 | exact hk.1.2.1 | exact hk.1.2.2 | exact hk.2.1.1 | exact hk.2.1.2 | exact hk.2.2.1 | exact hk.2.2.2 | exact hk.1.1.1.1 | exact hk.1.1.1.2 | exact hk.2.2.2.1 | exact hk.2.2.2.2))) (.int .i64 t737)) (fun _ hk => by first | exact hk.2 | ((repeat' apply And.intro) <;> (first | exact hk | exact hk.1 | exact hk.2 | exact hk.1.1 | exact hk.1.2 | exact hk.2.1 | exact hk.2.2 | exact hk.1.1.1 | exact hk.1.1.2 | exact hk.1.2.1 | exact hk.1.2.2 | exact hk.2.1.1 | exact hk.2.1.2 | exact hk.2.2.1 | exact hk.2.2.2 | exact hk.1.1.1.1 | exact hk.1.1.1.2 | exact hk.2.2.2.1 | exact hk.2.2.2.2))) (.slice Ao21 t738.length co21)) (fun _ h_ => h_.1))) : p := h
theorem zz6 {p : Prop} (h : p := by (with_reducible repeat (first | apply Kd.N_alloc | apply Kd.N_drewN | apply Kd.N_drew)); exact (Kd.N_mono (Kd.N_far (p := ⟨gb395, 1, none⟩) (Kd.N_far (p := ⟨gb395, 0, none⟩) (Kd.N_mono HO_340001.out (fun k_ hk => (⟨hk, hk.2⟩ : _ ∧ k_ ≠ gb395))) (fun _ hk => by first | exact hk.2 | ((repeat' apply And.intro) <;> (first | exact hk | exact hk.1 | exact hk.2 | exact hk.1.1 | exact hk.1.2 | exact hk.2.1 | exact hk.2.2 | exact hk.1.1.1 | exact hk.1.1.2 | exact hk.1.2.1 | exact hk.1.2.2 | exact hk.2.1.1 | exact hk.2.1.2 | exact hk.2.2.1 | exact hk.2.2.2 | exact hk.1.1.1.1 | exact hk.1.1.1.2 | exact hk.2.2.2.1 | exact hk.2.2.2.2))) (.int .i64 4)) (fun _ hk => by first | exact hk.2 | ((repeat' apply And.intro) <;> (first | exact hk | exact hk.1 | exact hk.2 | exact hk.1.1 | exact hk.1.2 | exact hk.2.1 | exact hk.2.2 | exact hk.1.1.1 | exact hk.1.1.2 | exact hk.1.2.1 | exact hk.1.2.2 | exact hk.2.1.1 | exact hk.2.1.2 | exact hk.2.2.1 | exact hk.2.2.2 | exact hk.1.1.1.1 | exact hk.1.1.1.2 | exact hk.2.2.2.1 | exact hk.2.2.2.2))) (.slice Ao146 y392.length co146)) (fun _ h_ => h_.1))) : p := h
theorem zz5 {p : Prop} (h : p := by (with_reducible repeat (first | apply Kd.R_alloc | apply Kd.R_drewN | apply Kd.R_drew)); exact (Kd.R_mono (Kd.R_far (p := ⟨gb768, 1, none⟩) (Kd.R_far (p := ⟨gb768, 0, none⟩) (Kd.R_types HO_10.out BK768.out (by decide)) (fun _ hk => by first | exact hk.2 | ((repeat' apply And.intro) <;> (first | exact hk | exact hk.1 | exact hk.2 | exact hk.1.1 | exact hk.1.2 | exact hk.2.1 | exact hk.2.2 | exact hk.1.1.1 | exact hk.1.1.2 | exact hk.1.2.1 | exact hk.1.2.2 | exact hk.2.1.1 | exact hk.2.1.2 | exact hk.2.2.1 | exact hk.2.2.2 | exact hk.1.1.1.1 | exact hk.1.1.1.2 | exact hk.2.2.2.1 | exact hk.2.2.2.2))) (.int .i64 (wrap64 (1 + (Int.tmod (wrap64 (a0)) 8))))) (fun _ hk => by first | exact hk.2 | ((repeat' apply And.intro) <;> (first | exact hk | exact hk.1 | exact hk.2 | exact hk.1.1 | exact hk.1.2 | exact hk.2.1 | exact hk.2.2 | exact hk.1.1.1 | exact hk.1.1.2 | exact hk.1.2.1 | exact hk.1.2.2 | exact hk.2.1.1 | exact hk.2.1.2 | exact hk.2.2.1 | exact hk.2.2.2 | exact hk.1.1.1.1 | exact hk.1.1.1.2 | exact hk.2.2.2.1 | exact hk.2.2.2.2))) (.slice A80 y763.length c80)) (fun _ h_ => h_.1))) : p := h
theorem zz3 {p : Prop} (h : p := by (with_reducible repeat (first | apply Kd.V_alloc | apply Kd.V_drewN | apply Kd.V_drew)); exact (Kd.V_mono (Kd.V_far (p := ⟨gb768, 1, none⟩) (Kd.V_far (p := ⟨gb768, 0, none⟩) (Kd.V_mono HO767.out (fun k_ hk => (⟨hk, hk.2⟩ : _ ∧ k_ ≠ gb768))) (fun _ hk => by first | exact hk.2 | ((repeat' apply And.intro) <;> (first | exact hk | exact hk.1 | exact hk.2 | exact hk.1.1 | exact hk.1.2 | exact hk.2.1 | exact hk.2.2 | exact hk.1.1.1 | exact hk.1.1.2 | exact hk.1.2.1 | exact hk.1.2.2 | exact hk.2.1.1 | exact hk.2.1.2 | exact hk.2.2.1 | exact hk.2.2.2 | exact hk.1.1.1.1 | exact hk.1.1.1.2 | exact hk.2.2.2.1 | exact hk.2.2.2.2))) (.int .i64 (wrap64 (1 + (Int.tmod (wrap64 (a0)) 8))))) (fun _ hk => by first | exact hk.2 | ((repeat' apply And.intro) <;> (first | exact hk | exact hk.1 | exact hk.2 | exact hk.1.1 | exact hk.1.2 | exact hk.2.1 | exact hk.2.2 | exact hk.1.1.1 | exact hk.1.1.2 | exact hk.1.2.1 | exact hk.1.2.2 | exact hk.2.1.1 | exact hk.2.1.2 | exact hk.2.2.1 | exact hk.2.2.2 | exact hk.1.1.1.1 | exact hk.1.1.1.2 | exact hk.2.2.2.1 | exact hk.2.2.2.2))) (.slice A80 y763.length c80)) (fun _ h_ => h_.1))) : p := h
theorem zz4 {p : Prop} (h : p := by (with_reducible repeat (first | apply Kd.N_alloc | apply Kd.N_drewN | apply Kd.N_drew)); exact (Kd.N_mono (Kd.N_far (p := ⟨gb768, 1, none⟩) (Kd.N_far (p := ⟨gb768, 0, none⟩) (Kd.N_mono HO_81.out (fun k_ hk => (⟨hk, hk.2⟩ : _ ∧ k_ ≠ gb768))) (fun _ hk => by first | exact hk.2 | ((repeat' apply And.intro) <;> (first | exact hk | exact hk.1 | exact hk.2 | exact hk.1.1 | exact hk.1.2 | exact hk.2.1 | exact hk.2.2 | exact hk.1.1.1 | exact hk.1.1.2 | exact hk.1.2.1 | exact hk.1.2.2 | exact hk.2.1.1 | exact hk.2.1.2 | exact hk.2.2.1 | exact hk.2.2.2 | exact hk.1.1.1.1 | exact hk.1.1.1.2 | exact hk.2.2.2.1 | exact hk.2.2.2.2))) (.int .i64 (wrap64 (1 + (Int.tmod (wrap64 (a0)) 8))))) (fun _ hk => by first | exact hk.2 | ((repeat' apply And.intro) <;> (first | exact hk | exact hk.1 | exact hk.2 | exact hk.1.1 | exact hk.1.2 | exact hk.2.1 | exact hk.2.2 | exact hk.1.1.1 | exact hk.1.1.2 | exact hk.1.2.1 | exact hk.1.2.2 | exact hk.2.1.1 | exact hk.2.1.2 | exact hk.2.2.1 | exact hk.2.2.2 | exact hk.1.1.1.1 | exact hk.1.1.1.2 | exact hk.2.2.2.1 | exact hk.2.2.2.2))) (.slice A80 y763.length c80)) (fun _ h_ => h_.1))) : p := h
theorem zz2 {p : Prop} (h : p := by (with_reducible repeat (first | apply Kd.N_alloc | apply Kd.N_drewN | apply Kd.N_drew)); exact (Kd.N_mono (Kd.N_far (p := ⟨gb768, 1, none⟩) (Kd.N_far (p := ⟨gb768, 0, none⟩) (Kd.N_mono HO_743001.out (fun k_ hk => (⟨hk, hk.2⟩ : _ ∧ k_ ≠ gb768))) (fun _ hk => by first | exact hk.2 | ((repeat' apply And.intro) <;> (first | exact hk | exact hk.1 | exact hk.2 | exact hk.1.1 | exact hk.1.2 | exact hk.2.1 | exact hk.2.2 | exact hk.1.1.1 | exact hk.1.1.2 | exact hk.1.2.1 | exact hk.1.2.2 | exact hk.2.1.1 | exact hk.2.1.2 | exact hk.2.2.1 | exact hk.2.2.2 | exact hk.1.1.1.1 | exact hk.1.1.1.2 | exact hk.2.2.2.1 | exact hk.2.2.2.2))) (.int .i64 (wrap64 (1 + (Int.tmod (wrap64 (a0)) 8))))) (fun _ hk => by first | exact hk.2 | ((repeat' apply And.intro) <;> (first | exact hk | exact hk.1 | exact hk.2 | exact hk.1.1 | exact hk.1.2 | exact hk.2.1 | exact hk.2.2 | exact hk.1.1.1 | exact hk.1.1.2 | exact hk.1.2.1 | exact hk.1.2.2 | exact hk.2.1.1 | exact hk.2.1.2 | exact hk.2.2.1 | exact hk.2.2.2 | exact hk.1.1.1.1 | exact hk.1.1.1.2 | exact hk.2.2.2.1 | exact hk.2.2.2.2))) (.slice A80 y763.length c80)) (fun _ h_ => h_.1))) : p := h
theorem zz0 {p : Prop} (h : p := by (with_reducible repeat (first | refine blk_drewN ?_ _ | refine blk_drew ?_ | refine blk_alloc ?_ _)); refine blk_far ?_ NB216_217.out _; (with_reducible repeat (first | refine blk_drewN ?_ _ | refine blk_drew ?_ | refine blk_alloc ?_ _)); refine blk_far ?_ NB216_217.out _; (with_reducible repeat (first | refine blk_drewN ?_ _ | refine blk_drew ?_ | refine blk_alloc ?_ _)); refine blk_far ?_ NB216_217.out _; (with_reducible repeat (first | refine blk_drewN ?_ _ | refine blk_drew ?_ | refine blk_alloc ?_ _)); refine blk_put (cs := #[.int .i64 ((rd_T74 l0_1 x5_2).f0), .slice A214_1 ((rd_T74 l0_1 x5_2).f1).length c214_1, .slice none 0 0]) ?_ 2 _ rfl; (with_reducible repeat (first | refine blk_drewN ?_ _ | refine blk_drew ?_ | refine blk_alloc ?_ _)); refine blk_put (cs := #[.int .i64 ((rd_T74 l0_1 x5_2).f0), .slice none 0 0, .slice none 0 0]) ?_ 1 _ rfl; (with_reducible repeat (first | refine blk_drewN ?_ _ | refine blk_drew ?_ | refine blk_alloc ?_ _)); refine blk_put (cs := #[.int .i64 0, .slice none 0 0, .slice none 0 0]) ?_ 0 _ rfl; (with_reducible repeat (first | refine blk_drewN ?_ _ | refine blk_drew ?_ | refine blk_alloc ?_ _)); exact BK216.out) : p := h
theorem zz1 {p : Prop} (h : p := by (with_reducible repeat (first | refine blk_drewN ?_ _ | refine blk_drew ?_ | refine blk_alloc ?_ _)); refine blk_put (cs := #[.int .i64 ((rd_T74 l1_1 x5_2).f0), .slice A215_1 ((rd_T74 l1_1 x5_2).f1).length c215_1, .slice none 0 0]) ?_ 2 _ rfl; (with_reducible repeat (first | refine blk_drewN ?_ _ | refine blk_drew ?_ | refine blk_alloc ?_ _)); refine blk_put (cs := #[.int .i64 ((rd_T74 l1_1 x5_2).f0), .slice none 0 0, .slice none 0 0]) ?_ 1 _ rfl; (with_reducible repeat (first | refine blk_drewN ?_ _ | refine blk_drew ?_ | refine blk_alloc ?_ _)); refine blk_put (cs := #[.int .i64 0, .slice none 0 0, .slice none 0 0]) ?_ 0 _ rfl; (with_reducible repeat (first | refine blk_drewN ?_ _ | refine blk_drew ?_ | refine blk_alloc ?_ _)); refine blk_far ?_ NB217_216.out _; (with_reducible repeat (first | refine blk_drewN ?_ _ | refine blk_drew ?_ | refine blk_alloc ?_ _)); refine blk_far ?_ NB217_216.out _; (with_reducible repeat (first | refine blk_drewN ?_ _ | refine blk_drew ?_ | refine blk_alloc ?_ _)); refine blk_far ?_ NB217_216.out _; (with_reducible repeat (first | refine blk_drewN ?_ _ | refine blk_drew ?_ | refine blk_alloc ?_ _)); exact BK217.out) : p := h
end
section
attribute [local go_sem] max2_int min2_int max_two min_two max_three min_three max_four min_four
def r09_SameInts.l0 : Nat → List Int → List Int → Int → Option (Bool)
  | 0, _, _, _ => none
  | k + 1, x0, x1, x5 => if x5 < (x0.length : Int) then (if 0 ≤ x5 then (if x5 < (x1.length : Int) then (if (rd x0 x5) = (rd x1 x5) then (r09_SameInts.l0 k x0 x1 (wrap64 (x5 + 1))) else (some false)) else (none)) else (none)) else (some true)
def r09_SameInts.f (k : Nat) (l0 : List Int) (l1 : List Int) : Option (Bool) := if (l0.length : Int) = (l1.length : Int) then (r09_SameInts.l0 k l0 l1 0) else (some false)
theorem r09_SameInts.calls (k : Nat) (A0 : Option Addr) (c0 : Nat) (l0 : List Int) (A1 : Option Addr) (c1 : Nat) (l1 : List Int) (r : Bool) (w : World) (hr0 : Kd.C (Kd.int .i64) w A0 l0.length l0) (hc0 : l0.length ≤ c0) (hr1 : Kd.C (Kd.int .i64) w A1 l1.length l1) (hc1 : l1.length ≤ c1) (h : r09_SameInts.f k l0 l1 = some r) :
    Calls Try.prog 15 #[.slice A0 l0.length c0, .slice A1 l1.length c1] w fun e w' => e = .returned (.bool r) ∧ Drawn0 w w' := by
  have HR0 := aM hr0
  have HC0 := aM hc0
  clear hr0 hc0
  have HR1 := aM hr1
  have HC1 := aM hc1
  clear hr1 hc1
  have H : (if (l0.length : Int) = (l1.length : Int) then (r09_SameInts.l0 k l0 l1 0) else (some false)) = some r := h
  clear h
  by_cases c3 : (l0.length : Int) = (l1.length : Int)
  · rw [if_pos c3] at H
    have c3b0 := beq_iff_eq.mpr c3; have c3b1 := bne_eq_false_iff_eq.mpr c3; have c3b2 : (l0.length == l1.length) = true := by first | simpa using c3 | (simp at c3 ⊢; omega)
    clear c3; have H' := aM H; clear H
    go_enter Try.func15, Try.ntmps15
    go_wp2
    repeat (go_quiet (fail); try go_wp2)
    go_loopg [5] k (fun kq v5 w' => ∃ (x5_1 : Int), v5 = .int .i64 x5_1 ∧ Aside0 (r09_SameInts.l0 kq l0 l1 x5_1 = some r) ∧ Aside0 (kq ≤ k) ∧ Drawn0 w w')
    case atStart => exact ⟨(0), zz136, H', ⟨Nat.le_refl _⟩, by repeat (first | exact Drawn0.refl _ | apply Drawn0.step)⟩
    case round =>
      clear H'; (try clear c1); (try clear p2); (try clear c3); (try clear c3b0); (try clear c3b1); (try clear c3b2); obtain ⟨x5_1, rfl, HA, HK1, ⟨m1, rfl⟩⟩ := hrel
      cases gk with
      | zero => exact absurd HA.out (by simp [r09_SameInts.l0])
      | succ k1 =>
        have H := HA.out; clear HA; simp only [r09_SameInts.l0] at H
        by_cases c4 : x5_1 < (l0.length : Int)
        · rw [if_pos c4] at H; have c4b0 := decide_eq_true c4; clear c4
          by_cases c5 : 0 ≤ x5_1
          · rw [if_pos c5] at H; have c5b0 := decide_eq_true c5; clear c5
            by_cases c6 : x5_1 < (l1.length : Int)
            · rw [if_pos c6] at H; have c6b0 := decide_eq_true c6; clear c6
              by_cases c7 : (rd l0 x5_1) = (rd l1 x5_1)
              · rw [if_pos c7] at H; have c7b0 := beq_iff_eq.mpr c7; have c7b1 := bne_eq_false_iff_eq.mpr c7; clear c7; have H' := aM H; clear H; have p121 : 0 ≤ (x5_1 : Int) := of_decide_eq_true zz135; have q121 : x5_1 < (l0.length : Int) := of_decide_eq_true zz135; obtain ⟨ad121, e121, hx121_0⟩ := Kd.at_int HR0.out x5_1 p121 q121
                cases e121; replace p121 := eq_true p121; replace q121 := eq_true q121; have p122 : 0 ≤ (x5_1 : Int) := of_decide_eq_true zz135; have q122 : x5_1 < (l1.length : Int) := of_decide_eq_true zz135; obtain ⟨ad122, e122, hx122_0⟩ := Kd.at_int HR1.out x5_1 p122 q122
                cases e122; replace p122 := eq_true p122; replace q122 := eq_true q122; go_wp2
                repeat (go_quiet (fail); try go_wp2)
                go_roundg k1
                case measure => have := HK1.out; omega
                case rel => exact ⟨(wrap64 (x5_1 + 1)), zz136, H', ⟨zz143⟩, by repeat (first | exact Drawn0.refl _ | apply Drawn0.step)⟩
              rw [if_neg c7] at H; have c7b0 := beq_eq_false_iff_ne.mpr c7; have c7b1 := bne_iff_ne.mpr c7; obtain rfl := Option.some.inj H; have p121 : 0 ≤ (x5_1 : Int) := of_decide_eq_true zz135; have q121 : x5_1 < (l0.length : Int) := of_decide_eq_true zz135; obtain ⟨ad121, e121, hx121_0⟩ := Kd.at_int HR0.out x5_1 p121 q121
              cases e121; replace p121 := eq_true p121; replace q121 := eq_true q121; have p122 : 0 ≤ (x5_1 : Int) := of_decide_eq_true zz135; have q122 : x5_1 < (l1.length : Int) := of_decide_eq_true zz135; obtain ⟨ad122, e122, hx122_0⟩ := Kd.at_int HR1.out x5_1 p122 q122
              cases e122; replace p122 := eq_true p122; replace q122 := eq_true q122; go_wp2
              repeat (go_quiet (fail); try go_wp2)
              go_ret
              exact ⟨by first | rfl | (simp; done) | (simp [*]; done), by repeat (first | exact Drawn0.refl _ | apply Drawn0.step)⟩
            rw [if_neg c6] at H
            exact absurd H (by simp)
          rw [if_neg c5] at H
          exact absurd H (by simp)
        rw [if_neg c4] at H; have c4b0 := decide_eq_false c4; clear c4; obtain rfl := Option.some.inj H; go_wp2
        repeat (go_quiet (fail); try go_wp2)
        go_ret
        exact ⟨by first | rfl | (simp; done) | (simp [*]; done), by repeat (first | exact Drawn0.refl _ | apply Drawn0.step)⟩
  rw [if_neg c3] at H
  have c3b0 := beq_eq_false_iff_ne.mpr c3
  have c3b1 := bne_iff_ne.mpr c3
  have c3b2 : (l0.length == l1.length) = false := by first | simpa using c3 | (simp at c3 ⊢; omega)
  obtain rfl := Option.some.inj H
  go_enter Try.func15, Try.ntmps15
  go_wp2
  repeat (go_quiet (fail); try go_wp2)
  go_ret
  exact ⟨by first | rfl | (simp; done) | (simp [*]; done), by repeat (first | exact Drawn0.refl _ | apply Drawn0.step)⟩
end
section
attribute [local go_sem] max2_int min2_int max_two min_two max_three min_three max_four min_four
def perm_degree.f (a0 : Int) : Option (Int) := if a0 < 1 then (some 4) else (if a0 > 64 then (some 4) else (some 0))
theorem perm_degree.calls (a0 : Int) (r : Int) (w : World) (h : perm_degree.f a0 = some r) :
    Calls Try.prog 52 #[.int .i64 a0] w fun e w' => e = .returned (.int .i64 r) ∧ Drawn0 w w' := by
  have H : (if a0 < 1 then (some 4) else (if a0 > 64 then (some 4) else (some 0))) = some r := h
  clear h
  by_cases c2 : a0 < 1
  · rw [if_pos c2] at H
    have c2b0 := decide_eq_true c2; clear c2; obtain rfl := Option.some.inj H
    go_enter Try.func52, Try.ntmps52
    go_wp2; go_ret
    exact ⟨by first | rfl | (simp; done) | (simp [*]; done), by repeat (first | exact Drawn0.refl _ | apply Drawn0.step)⟩
  rw [if_neg c2] at H
  have c2b0 := decide_eq_false c2
  clear c2
  by_cases c3 : a0 > 64
  · rw [if_pos c3] at H
    have c3b0 := decide_eq_true c3; clear c3; obtain rfl := Option.some.inj H
    go_enter Try.func52, Try.ntmps52
    go_wp2; go_ret
    exact ⟨by first | rfl | (simp; done) | (simp [*]; done), by repeat (first | exact Drawn0.refl _ | apply Drawn0.step)⟩
  rw [if_neg c3] at H
  have c3b0 := decide_eq_false c3
  clear c3
  obtain rfl := Option.some.inj H
  go_enter Try.func52, Try.ntmps52
  go_wp2
  go_ret
  exact ⟨by first | rfl | (simp; done) | (simp [*]; done), by repeat (first | exact Drawn0.refl _ | apply Drawn0.step)⟩
end
section
def permOk (n : Nat) (l : List Int) : Prop := l.length = n ∧ (∀ x ∈ l, 0 ≤ x ∧ x < n) ∧ l.Nodup
instance (n : Nat) (l : List Int) : Decidable (permOk n l) := by unfold permOk; infer_instance
def checkL (l : List Int) : Int := if l.length < 1 ∨ 64 < l.length then 4 else if ∃ x ∈ l, x < 0 ∨ (l.length : Int) ≤ x then 6 else if l.Nodup then 0 else 18
def perm_Check.f (l0 : List Int) : Option Int := some (checkL l0)
def outB (n : Nat) (x : Int) : Bool := decide (x < 0) || decide ((n : Int) ≤ x)
theorem check1_lo (x : Int) (g n c : Nat) (A : Option Addr) (w : World) (hcell : w.cell? ⟨g, 0, none⟩ = some (.slice A n c)) (hx : x < 0) :
    Calls Try.prog 54 #[.int .i64 x, .pointer (some ⟨g, 0, none⟩)] w fun e w' => e = .returned (.bool true) ∧ w = w' := by
  have h1 : decide (x < 0) = true := decide_eq_true hx
  go_enter Try.func54, Try.ntmps54
  go_wp2
  go_ret
  exact ⟨rfl, rfl⟩
theorem check1_hi (x : Int) (g n c : Nat) (A : Option Addr) (w : World) (hcell : w.cell? ⟨g, 0, none⟩ = some (.slice A n c)) (hx : 0 ≤ x) (b : Bool) (hb : decide ((n : Int) ≤ x) = b) :
    Calls Try.prog 54 #[.int .i64 x, .pointer (some ⟨g, 0, none⟩)] w fun e w' => e = .returned (.bool b) ∧ w = w' := by
  have h1 : decide (x < 0) = false := decide_eq_false (by omega)
  have Hb := aM hb
  clear hb
  go_enter Try.func54, Try.ntmps54
  go_wp2
  go_ret
  exact ⟨by rw [← Hb.out]; rfl, rfl⟩
theorem check1 (x : Int) (g n c : Nat) (A : Option Addr) (w : World) (hcell : w.cell? ⟨g, 0, none⟩ = some (.slice A n c)) :
    Calls Try.prog 54 #[.int .i64 x, .pointer (some ⟨g, 0, none⟩)] w fun e w' => e = .returned (.bool (outB n x)) ∧ w = w' := by
  unfold outB
  by_cases hx : x < 0
  · rw [decide_eq_true hx]; exact check1_lo x g n c A w hcell hx
  rw [decide_eq_false hx, Bool.false_or]; exact check1_hi x g n c A w hcell (by omega) _ rfl
theorem rd_mem {l : List Int} {i : Int} (h0 : 0 ≤ i) (h1 : i < (l.length : Int)) : rd l i ∈ l := by
  unfold rd
  rw [List.getD_eq_getElem?_getD, List.getElem?_eq_getElem (by omega)]
  exact List.getElem_mem _
theorem take_rd {l : List Int} {i : Int} (h0 : 0 ≤ i) (h1 : i < (l.length : Int)) : l.take (i + 1).toNat = l.take i.toNat ++ [rd l i] := by
  have e : (i + 1).toNat = i.toNat + 1 := by omega
  rw [e, List.take_succ_eq_append_getElem (by omega)]
  congr 2
  unfold rd
  rw [List.getD_eq_getElem?_getD, List.getElem?_eq_getElem (by omega)]
  rfl
def IdxPost (p : Int → Bool) (l : List Int) (w : World) (e : Ending) (w' : World) : Prop := ∃ r : Int, e = .returned (.int .i64 r) ∧ decide (0 ≤ r) = l.any p ∧ Drawn0 w w'
theorem idx75_calls (A0 : Option Addr) (c0 : Nat) (l0 : List Int) (g n c : Nat) (A : Option Addr) (w : World) (hr0 : Kd.C (Kd.int .i64) w A0 l0.length l0) (hcell : w.cell? ⟨g, 0, none⟩ = some (.slice A n c)) :
    Calls Try.prog 75 #[.slice A0 l0.length c0, .func (Fn.func 54) #[] #[.pointer (some ⟨g, 0, none⟩)]] w (IdxPost (outB n) l0 w) := by
  have HR := aM hr0
  have HC := aM hcell
  clear hr0 hcell
  go_enter Try.func75, Try.ntmps75
  go_wp2
  go_loopg [8] l0.length (fun kq v8 w' => ∃ i : Int, v8 = .int .i64 i ∧ Aside0 (0 ≤ i) ∧ Aside0 (i.toNat + kq = l0.length) ∧ Aside0 ((l0.take i.toNat).any (outB n) = false) ∧ Aside0 (Drawn0 w w'))
  case atStart => exact ⟨0, rfl, ⟨by omega⟩, ⟨by simp⟩, ⟨by simp⟩, ⟨Drawn0.refl _⟩⟩
  case round =>
    obtain ⟨i, rfl, HI0, HI1, HA, HD⟩ := hrel; have i0 := HI0.out
    by_cases d1 : i < (l0.length : Int)
    · have d1b : decide (i < (l0.length : Int)) = true := decide_eq_true d1; have q0 := eq_true i0; have q1 := eq_true d1; have hmax : l0.length ≤ 9223372036854775807 := HR.out.2.1; obtain ⟨ad, ea, hx1⟩ := Kd.at_int HR.out i i0 d1
      cases ea; replace hx1 := (HD.out.below.cell (World.block_lt_of_cell? w _ hx1)).trans hx1; have hc1 := (HD.out.below.cell (World.block_lt_of_cell? w _ HC.out)).trans HC.out; have HC1 := aM hc1; clear hc1
      cases hb : outB n (rd l0 i) with
      | true =>
        have HBo := aM hb; clear hb
        go_wp2_with (first
          | (go_at_call 54; (with_reducible refine (check1 (rd l0 i) g n c A _ HC1.out).mono ?_); rintro e w5 ⟨rfl, rfl⟩; rw [HBo.out]))
        go_ret
        exact ⟨i, rfl, by rw [decide_eq_true HI0.out]; exact (List.any_eq_true.2 ⟨_, rd_mem HI0.out d1, HBo.out⟩).symm, HD.out⟩
      | false =>
        have HBo := aM hb; clear hb
        go_wp2_with (first
          | (go_at_call 54; (with_reducible refine (check1 (rd l0 i) g n c A _ HC1.out).mono ?_); rintro e w5 ⟨rfl, rfl⟩; rw [HBo.out]))
        obtain ⟨k1, rfl⟩ : ∃ m, gk = m + 1 := ⟨gk - 1, by have := HI1.out; omega⟩
        go_roundg k1
        case measure => omega
        case rel => exact ⟨i + 1, rfl, ⟨by have := HI0.out; omega⟩, ⟨by have := HI1.out; have := HI0.out; omega⟩, ⟨by rw [take_rd HI0.out d1, List.any_append, HA.out]; simp [HBo.out]⟩, HD⟩
    have d1b : decide (i < (l0.length : Int)) = false := decide_eq_false d1; have ha := HA.out; rw [List.take_of_length_le (by omega)] at ha; have HA2 := aM ha; clear ha; go_wp2; go_ret
    exact ⟨-1, rfl, by rw [HA2.out]; rfl, HD.out⟩
def ContPost (p : Int → Bool) (l : List Int) (w : World) (e : Ending) (w' : World) : Prop := e = .returned (.bool (l.any p)) ∧ Drawn0 w w'
theorem cont53_calls (A0 : Option Addr) (c0 : Nat) (l0 : List Int) (g n c : Nat) (A : Option Addr) (w : World) (hr0 : Kd.C (Kd.int .i64) w A0 l0.length l0) (hcell : w.cell? ⟨g, 0, none⟩ = some (.slice A n c)) :
    Calls Try.prog 53 #[.slice A0 l0.length c0, .func (Fn.func 54) #[] #[.pointer (some ⟨g, 0, none⟩)]] w (ContPost (outB n) l0 w) := by
  have HR := aM hr0
  have HC := aM hcell
  clear hr0 hcell
  go_enter Try.func53, Try.ntmps53
  go_wp2_with (first
    | (go_at_call 75; (with_reducible refine (idx75_calls _ _ l0 g n c A _ HR.out HC.out).mono ?_); rintro e w5 ⟨r, rfl, hr, hd⟩; have HDr := aM (And.intro hr hd); clear hr hd))
  go_ret
  exact ⟨by rw [← HDr.out.1]; rfl, HDr.out.2⟩
theorem any_out (l : List Int) : l.any (outB l.length) = true ↔ ∃ x ∈ l, x < 0 ∨ (l.length : Int) ≤ x := by
  simp [List.any_eq_true, outB]
def SeenOk (l : List Int) (i : Int) (sx : List Bool) : Prop := sx.length = l.length ∧ (l.take i.toNat).Nodup ∧ ∀ y : Int, 0 ≤ y → y < l.length → (rdOf false sx y = true ↔ y ∈ l.take i.toNat)
theorem seen_start (l : List Int) : SeenOk l 0 (List.replicate l.length false) := by
  refine ⟨by simp, by simp, fun y h0 h1 => ?_⟩
  simp [rdOf, List.getD_eq_getElem?_getD, show y.toNat < l.length by omega]
theorem seen_next {l : List Int} {i : Int} {sx : List Bool} (h : SeenOk l i sx) (h0 : 0 ≤ i) (h1 : i < l.length) (hx0 : 0 ≤ rd l i) (hx1 : rd l i < l.length) (hs : rdOf false sx (rd l i) = false) : SeenOk l (i + 1) (sx.set (rd l i).toNat true) := by
  obtain ⟨hl, hn, hy⟩ := h
  have hnot : rd l i ∉ l.take i.toNat := fun hm => by
    have := (hy (rd l i) hx0 hx1).2 hm; rw [hs] at this
    cases this
  refine ⟨by simpa using hl, ?_, fun y y0 y1 => ?_⟩
  · rw [take_rd h0 h1, List.nodup_append]
    exact ⟨hn, by simp, fun a ha b hb => by rw [List.mem_singleton.1 hb]; exact fun e => hnot (e ▸ ha)⟩
  · rw [take_rd h0 h1, List.mem_append, List.mem_singleton]
    by_cases e : y = rd l i
    · subst e; simp [rdOf, List.getD_eq_getElem?_getD, show (rd l i).toNat < sx.length by omega]
    have e' : (rd l i).toNat ≠ y.toNat := by omega
    have := hy y y0 y1; simp only [rdOf, List.getD_eq_getElem?_getD] at this ⊢; rw [List.getElem?_set_ne e']; rw [this]; simp [e]
theorem seen_dup {l : List Int} {i : Int} {sx : List Bool} (h : SeenOk l i sx) (h0 : 0 ≤ i) (h1 : i < l.length) (hx0 : 0 ≤ rd l i) (hx1 : rd l i < l.length) (hs : rdOf false sx (rd l i) = true) : ¬ l.Nodup := by
  obtain ⟨hl, hn, hy⟩ := h
  have hm := (hy (rd l i) hx0 hx1).1 hs
  intro hd
  have h2 : (l.take (i + 1).toNat).Nodup := hd.sublist (List.take_sublist _ _)
  rw [take_rd h0 h1, List.nodup_append] at h2
  exact h2.2.2 _ hm _ (List.mem_singleton.2 rfl) rfl
theorem degree_ok (n : Int) (h1 : 1 ≤ n) (h2 : n ≤ 64) : perm_degree.f n = some 0 := by
  unfold perm_degree.f
  rw [if_neg (by omega), if_neg (by omega)]
theorem degree_bad (n : Int) (h : n < 1 ∨ 64 < n) : perm_degree.f n = some 4 := by
  unfold perm_degree.f
  by_cases h1 : n < 1
  · rw [if_pos h1]
  rw [if_neg h1, if_pos (by omega)]
theorem check_bad (A0 : Option Addr) (c0 : Nat) (l0 : List Int) (w : World) (hr0 : Kd.C (Kd.int .i64) w A0 l0.length l0) (hb : l0.length < 1 ∨ 64 < l0.length) :
    Calls Try.prog 16 #[.slice A0 l0.length c0] w fun e w' => e = .returned (.int .i64 4) ∧ Below w.heap.size w w' := by
  have hd := degree_bad l0.length (by omega)
  have HD := aM hd
  clear hd hb hr0
  go_enter Try.func16, Try.ntmps16
  go_wp2_with (first
   | ((with_reducible refine gate_dst (N := 1) rfl ?_); refine box_event ?hg (N := 1) ?hd (cs := #[.slice A0 l0.length c0]) (t := 22) ?hr ?_; (case hd => rfl); (case hg => rfl); (case hr => first | (go_simp; done) | (go_simp; rfl)); intro g hgr w3 hbox3 hb3; have hz : w3.cell? ⟨g, 0, none⟩ = some (.slice A0 l0.length c0) := (blk_cell hbox3 0).trans rfl; have HB3 := aM hb3; clear hgr hb3 hbox3)
   | (go_at_call 52; (with_reducible refine (perm_degree.calls l0.length 4 _ HD.out).mono ?_); rintro e w5 ⟨rfl, ⟨nd, rfl⟩⟩))
  go_ret
  exact ⟨rfl, pw_below_drewN HB3.out _⟩
theorem check_range (A0 : Option Addr) (c0 : Nat) (l0 : List Int) (w : World) (hr0 : Kd.C (Kd.int .i64) w A0 l0.length l0) (h1 : 1 ≤ l0.length) (h2 : l0.length ≤ 64) (ho : l0.any (outB l0.length) = true) :
    Calls Try.prog 16 #[.slice A0 l0.length c0] w fun e w' => e = .returned (.int .i64 6) ∧ Below w.heap.size w w' := by
  have HD := aM (degree_ok l0.length (by omega) (by omega))
  have HO := aM ho
  have HR := aM hr0
  clear ho hr0
  go_enter Try.func16, Try.ntmps16
  go_wp2_with (first
   | ((with_reducible refine gate_dst (N := 1) rfl ?_); refine box_event ?hg (N := 1) ?hd (cs := #[.slice A0 l0.length c0]) (t := 22) ?hr ?_; (case hd => rfl); (case hg => rfl); (case hr => first | (go_simp; done) | (go_simp; rfl)); intro g hgr w3 hbox3 hb3; have hz : w3.cell? ⟨g, 0, none⟩ = some (.slice A0 l0.length c0) := (blk_cell hbox3 0).trans rfl; have HZ := aM hz; have HB3 := aM hb3; clear hgr hb3 hbox3)
   | (go_at_call 52; (with_reducible refine (perm_degree.calls l0.length 0 _ HD.out).mono ?_); rintro e w5 ⟨rfl, ⟨nd, rfl⟩⟩)
   | (go_at_call 53; (with_reducible refine (cont53_calls _ _ l0 g l0.length c0 A0 _ ?s1 ?s2).mono ?_); (case s1 => exact Kd.C_drewN (Kd.C_below HR.out HB3.out) _); (case s2 => exact HZ.out); rintro e w6 ⟨rfl, hd6⟩; rw [HO.out]; have HB6 := aM (below_step (pw_below_drewN HB3.out nd) hd6.below); clear hd6))
  go_ret
  exact ⟨rfl, HB6.out⟩
theorem perm_Check.calls (A0 : Option Addr) (c0 : Nat) (l0 : List Int) (r : Int) (w : World) (hr0 : Kd.C (Kd.int .i64) w A0 l0.length l0) (hc0 : l0.length ≤ c0) (h : perm_Check.f l0 = some r) :
    Calls Try.prog 16 #[.slice A0 l0.length c0] w fun e w' => e = .returned (.int .i64 r) ∧ Below w.heap.size w w' := by
  unfold perm_Check.f at h
  obtain rfl := Option.some.inj h
  clear h
  unfold checkL
  by_cases hb : l0.length < 1 ∨ 64 < l0.length
  · rw [if_pos hb]
    exact check_bad A0 c0 l0 w hr0 hb
  rw [if_neg hb]
  have h1 : 1 ≤ l0.length := by omega
  have h2 : l0.length ≤ 64 := by omega
  clear hb
  cases ho : l0.any (outB l0.length) with
  | true =>
    rw [if_pos ((any_out l0).1 ho)]
    exact check_range A0 c0 l0 w hr0 h1 h2 ho
  | false =>
  have hno : ¬ ∃ x ∈ l0, x < 0 ∨ (l0.length : Int) ≤ x := fun h => by rw [(any_out l0).2 h] at ho; cases ho
  rw [if_neg hno]
  have HIN := aM (show ∀ i : Int, 0 ≤ i → i < l0.length → 0 ≤ rd l0 i ∧ rd l0 i < l0.length from fun i a b => by
    have hm := rd_mem a b
    refine ⟨?_, ?_⟩
    · apply Classical.byContradiction; intro hc; exact hno ⟨_, hm, .inl (by omega)⟩
    · apply Classical.byContradiction; intro hc; exact hno ⟨_, hm, .inr (by omega)⟩)
  have HD := aM (degree_ok l0.length (by omega) (by omega))
  have HO := aM ho
  have HR := aM hr0
  have HC := aM hc0
  have HST := aM (seen_start l0)
  clear ho hr0 hno hc0
  generalize hres : (if l0.Nodup then (0 : Int) else 18) = res
  have HRES := aM hres
  clear hres
  go_enter Try.func16, Try.ntmps16
  go_wp2_with (first
   | ((with_reducible refine gate_dst (N := 1) rfl ?_); refine box_event ?hg (N := 1) ?hd (cs := #[.slice A0 l0.length c0]) (t := 22) ?hr ?_; (case hd => rfl); (case hg => rfl); (case hr => first | (go_simp; done) | (go_simp; rfl)); intro g hgr w3 hbox3 hb3; have hz : w3.cell? ⟨g, 0, none⟩ = some (.slice A0 l0.length c0) := (blk_cell hbox3 0).trans rfl; have HZ := aM hz; have HB3 := aM hb3; clear hgr hb3 hbox3)
   | (go_at_call 52; (with_reducible refine (perm_degree.calls l0.length 0 _ HD.out).mono ?_); rintro e w5 ⟨rfl, ⟨nd, rfl⟩⟩)
   | (go_at_call 53; (with_reducible refine (cont53_calls _ _ l0 g l0.length c0 A0 _ ?s1 ?s2).mono ?_); (case s1 => exact Kd.C_drewN (Kd.C_below HR.out HB3.out) _); (case s2 => exact HZ.out); rintro e w6 ⟨rfl, ⟨nd6, rfl⟩⟩; rw [HO.out])
   | ((with_reducible refine gate_dst (N := 18) rfl ?_); refine Kd.R_make Kd.bool _ 4 rfl (N := 18) rfl 83 _ _ rfl (l0.length : Int) rfl rfl Try.underlying83 (.bool false) 1 info4 rfl (by decide) (by omega) false (ok := fun _ => True) (okp := fun _ => True) rfl (fun _ hk => hk) trivial (by omega) (by omega) (Below.refl _ _) (Nat.le_refl _) ?_; intro v7 w7 ho7 hb7 hg_ hnew_; clear hg_ hnew_; rw [Int.toNat_natCast] at ho7; have HO7 := aM (Kd.R_lower ho7 (show w.heap.size ≤ w3.heap.size from HB3.out.size)); have HB7 := aM (below_step (pw_below_drewN HB3.out _) hb7); have hz7 := (hb7.cell (World.block_lt_of_cell? _ _ HZ.out)).trans HZ.out; clear ho7 hb7))
  go_loopg [21] l0.length (fun kq v21 w' => ∃ (i : Int) (sx : List Bool), v21 = .int .i64 i ∧ Aside0 (0 ≤ i) ∧ Aside0 (i.toNat + kq = l0.length) ∧ Aside0 (SeenOk l0 i sx) ∧ Aside0 (Kd.R Kd.bool 4 w' w.heap.size (fun _ => True) v7 sx) ∧ Aside0 (Below w.heap.size w w'))
  case atStart => exact ⟨0, _, rfl, ⟨by omega⟩, ⟨by simp⟩, HST, HO7, HB7⟩
  case round =>
    clear HO7 HB7 hz7 hz; obtain ⟨i, sx, rfl, HI0, HI1, HS, HO7, HB7⟩ := hrel; have i0 := HI0.out
    by_cases d1 : i < (l0.length : Int)
    · have d1b : decide (i < (l0.length : Int)) = true := decide_eq_true d1; have q0 := eq_true i0; have q1 := eq_true d1; obtain ⟨ad, ea, hx1⟩ := Kd.at_int HR.out i i0 d1
      cases ea; replace hx1 := (HB7.out.cell (World.block_lt_of_cell? w _ hx1)).trans hx1; obtain ⟨x0, x1⟩ := HIN.out i i0 d1; have hsl := HS.out.1; have x2 : rd l0 i < (sx.length : Int) := by omega
      obtain ⟨go, co, eo, gb, gl, cl, HG⟩ := Kd.R_form HO7.out (by omega); subst eo; obtain ⟨hx2, hf2⟩ := Kd.R_celln false HO7.out (rd l0 i) x0 x2; have GB := aM gb; have HSL := aM hsl; have p0 := eq_true x0; have p2 := eq_true x2; clear gb gl HG hsl
      cases hb : rdOf false sx (rd l0 i) with
      | true =>
        rw [hb] at hx2; have HBo := aM hb; clear hb; go_wp2; go_ret
        exact ⟨by rw [← HRES.out, if_neg (seen_dup HS.out i0 d1 x0 x1 HBo.out)]; rfl, HB7.out⟩
      | false =>
        rw [hb] at hx2; have HBo := aM hb; clear hb; have HP14 := aM (Kd.R_putg HO7.out (rd l0 i) true); have HSn := aM (seen_next HS.out i0 d1 x0 x1 HBo.out); go_wp2; obtain ⟨k1, rfl⟩ : ∃ m, gk = m + 1 := ⟨gk - 1, by have := HI1.out; omega⟩
        go_roundg k1
        case measure => omega
        case rel => exact ⟨i + 1, _, rfl, ⟨by have := HI0.out; omega⟩, ⟨by have := HI1.out; have := HI0.out; omega⟩, HSn, ⟨HP14.out.1⟩, ⟨below_set HB7.out GB.out⟩⟩
    have d1b : decide (i < (l0.length : Int)) = false := decide_eq_false d1; have hn := HS.out.2.1; rw [List.take_of_length_le (by omega)] at hn; have HN := aM hn; clear hn; go_wp2; go_ret
    exact ⟨by rw [← HRES.out, if_pos HN.out]; rfl, HB7.out⟩
end
section
def lenB (n : Int) (p : List Int) : Bool := (p.length : Int) != n
def gensL (n : Int) (l : List (List Int)) : Int := if n < 1 ∨ 64 < n then 4 else match (l.map checkL).find? (fun e => e != 0) with
  | some e => e
  | none => if l.any (lenB n) then 10 else 0
def perm_generators.f (a0 : Int) (l1 : List (List Int)) : Option Int := some (gensL a0 l1)
theorem rdL1_mem {l : List (List Int)} {i : Int} (h0 : 0 ≤ i) (h1 : i < (l.length : Int)) : rd_L1 l i ∈ l := by
  unfold rd_L1
  rw [List.getD_eq_getElem?_getD, List.getElem?_eq_getElem (by omega)]
  exact List.getElem_mem _
theorem take_rdL1 {l : List (List Int)} {i : Int} (h0 : 0 ≤ i) (h1 : i < (l.length : Int)) : l.take (i + 1).toNat = l.take i.toNat ++ [rd_L1 l i] := by
  have e : (i + 1).toNat = i.toNat + 1 := by omega
  rw [e, List.take_succ_eq_append_getElem (by omega)]
  congr 2
  unfold rd_L1
  rw [List.getD_eq_getElem?_getD, List.getElem?_eq_getElem (by omega)]
  rfl
theorem gens1 (n : Int) (g c : Nat) (A : Option Addr) (p : List Int) (w : World) (hcell : w.cell? ⟨g, 0, none⟩ = some (.int .i64 n)) :
    Calls Try.prog 80 #[.slice A p.length c, .pointer (some ⟨g, 0, none⟩)] w fun e w' => e = .returned (.bool (lenB n p)) ∧ w = w' := by
  unfold lenB
  go_enter Try.func80, Try.ntmps80
  go_wp2
  go_ret
  exact ⟨rfl, rfl⟩
def IdxPost2 (p : List Int → Bool) (l : List (List Int)) (w : World) (e : Ending) (w' : World) : Prop := ∃ r : Int, e = .returned (.int .i64 r) ∧ decide (0 ≤ r) = l.any p ∧ Drawn0 w w'
theorem idx91_calls (A0 : Option Addr) (c0 : Nat) (l0 : List (List Int)) (g : Nat) (n : Int) (w : World) (hr0 : Kd.C (Kd.slice 3 (Kd.int .i64)) w A0 l0.length l0) (hcell : w.cell? ⟨g, 0, none⟩ = some (.int .i64 n)) :
    Calls Try.prog 91 #[.slice A0 l0.length c0, .func (Fn.func 80) #[] #[.pointer (some ⟨g, 0, none⟩)]] w (IdxPost2 (lenB n) l0 w) := by
  have HR := aM hr0
  have HC := aM hcell
  clear hr0 hcell
  go_enter Try.func91, Try.ntmps91
  go_wp2
  go_loopg [8] l0.length (fun kq v8 w' => ∃ i : Int, v8 = .int .i64 i ∧ Aside0 (0 ≤ i) ∧ Aside0 (i.toNat + kq = l0.length) ∧ Aside0 ((l0.take i.toNat).any (lenB n) = false) ∧ Aside0 (Drawn0 w w'))
  case atStart => exact ⟨0, rfl, ⟨by omega⟩, ⟨by simp⟩, ⟨by simp⟩, ⟨Drawn0.refl _⟩⟩
  case round =>
    obtain ⟨i, rfl, HI0, HI1, HA, HD⟩ := hrel; have i0 := HI0.out
    by_cases d1 : i < (l0.length : Int)
    · have d1b : decide (i < (l0.length : Int)) = true := decide_eq_true d1; have q0 := eq_true i0; have q1 := eq_true d1; have hmax : l0.length ≤ 9223372036854775807 := HR.out.2.1; obtain ⟨ad, A2, c2, ea, hx1, hl2, hC2⟩ := at_L1 HR.out i i0 d1
      cases ea; replace hx1 := (HD.out.below.cell (World.block_lt_of_cell? w _ hx1)).trans hx1; have hc1 := (HD.out.below.cell (World.block_lt_of_cell? w _ HC.out)).trans HC.out; have HC1 := aM hc1; clear hc1 hl2 hC2
      cases hb : lenB n (rd_L1 l0 i) with
      | true =>
        have HBo := aM hb; clear hb
        go_wp2_with (first
          | (go_at_call 80; (with_reducible refine (gens1 n g c2 A2 (rd_L1 l0 i) _ HC1.out).mono ?_); rintro e w5 ⟨rfl, rfl⟩; rw [HBo.out]))
        go_ret
        exact ⟨i, rfl, by rw [decide_eq_true HI0.out]; exact (List.any_eq_true.2 ⟨_, rdL1_mem HI0.out d1, HBo.out⟩).symm, HD.out⟩
      | false =>
        have HBo := aM hb; clear hb
        go_wp2_with (first
          | (go_at_call 80; (with_reducible refine (gens1 n g c2 A2 (rd_L1 l0 i) _ HC1.out).mono ?_); rintro e w5 ⟨rfl, rfl⟩; rw [HBo.out]))
        obtain ⟨k1, rfl⟩ : ∃ m, gk = m + 1 := ⟨gk - 1, by have := HI1.out; omega⟩
        go_roundg k1
        case measure => omega
        case rel => exact ⟨i + 1, rfl, ⟨by have := HI0.out; omega⟩, ⟨by have := HI1.out; have := HI0.out; omega⟩, ⟨by rw [take_rdL1 HI0.out d1, List.any_append, HA.out]; simp [HBo.out]⟩, HD⟩
    have d1b : decide (i < (l0.length : Int)) = false := decide_eq_false d1; have ha := HA.out; rw [List.take_of_length_le (by omega)] at ha; have HA2 := aM ha; clear ha; go_wp2; go_ret
    exact ⟨-1, rfl, by rw [HA2.out]; rfl, HD.out⟩
def ContPost2 (p : List Int → Bool) (l : List (List Int)) (w : World) (e : Ending) (w' : World) : Prop := e = .returned (.bool (l.any p)) ∧ Drawn0 w w'
theorem cont79_calls (A0 : Option Addr) (c0 : Nat) (l0 : List (List Int)) (g : Nat) (n : Int) (w : World) (hr0 : Kd.C (Kd.slice 3 (Kd.int .i64)) w A0 l0.length l0) (hcell : w.cell? ⟨g, 0, none⟩ = some (.int .i64 n)) :
    Calls Try.prog 79 #[.slice A0 l0.length c0, .func (Fn.func 80) #[] #[.pointer (some ⟨g, 0, none⟩)]] w (ContPost2 (lenB n) l0 w) := by
  have HR := aM hr0
  have HC := aM hcell
  clear hr0 hcell
  go_enter Try.func79, Try.ntmps79
  go_wp2_with (first
    | (go_at_call 91; (with_reducible refine (idx91_calls _ _ l0 g n _ HR.out HC.out).mono ?_); rintro e w5 ⟨r, rfl, hr, hd⟩; have HDr := aM (And.intro hr hd); clear hr hd))
  go_ret
  exact ⟨by rw [← HDr.out.1]; rfl, HDr.out.2⟩
theorem find_first {l : List (List Int)} {i : Int} (h0 : 0 ≤ i) (h1 : i < (l.length : Int)) (ha : (l.take i.toNat).all (fun p => checkL p == 0) = true) (hb : checkL (rd_L1 l i) ≠ 0) : (l.map checkL).find? (fun e => e != 0) = some (checkL (rd_L1 l i)) := by
  have e : l = l.take i.toNat ++ (rd_L1 l i :: l.drop (i.toNat + 1)) := by
    have h2 := take_rdL1 h0 h1; have h3 : (i + 1).toNat = i.toNat + 1 := by omega
    rw [h3] at h2
    calc l = l.take (i.toNat + 1) ++ l.drop (i.toNat + 1) := (List.take_append_drop _ _).symm
      _ = _ := by rw [h2, List.append_assoc]; rfl
  rw [e, List.map_append, List.find?_append]
  have hn : ((l.take i.toNat).map checkL).find? (fun e => e != 0) = none := by
    rw [List.find?_eq_none]; intro x hx; obtain ⟨p, hp, rfl⟩ := List.mem_map.1 hx; have := List.all_eq_true.1 ha p hp
    simpa using this
  rw [hn]
  have e2 : rd_L1 (l.take i.toNat ++ rd_L1 l i :: l.drop (i.toNat + 1)) i = rd_L1 l i := by rw [← e]
  rw [e2]
  simp [hb]
theorem find_none {l : List (List Int)} (ha : l.all (fun p => checkL p == 0) = true) : (l.map checkL).find? (fun e => e != 0) = none := by
  rw [List.find?_eq_none]
  intro x hx
  obtain ⟨p, hp, rfl⟩ := List.mem_map.1 hx
  have := List.all_eq_true.1 ha p hp
  simpa using this
def GensPost (r : Int) (w : World) (e : Ending) (w' : World) : Prop := e = .returned (.int .i64 r) ∧ Below w.heap.size w w'
theorem gens_post (a0 : Int) (A1 : Option Addr) (c1 : Nat) (l1 : List (List Int)) (w : World) (hr1 : Kd.C (Kd.slice 3 (Kd.int .i64)) w A1 l1.length l1) (hc1 : l1.length ≤ c1) :
    Calls Try.prog 57 #[.int .i64 a0, .slice A1 l1.length c1] w (GensPost (gensL a0 l1) w) := by
  have HR := aM hr1
  have HC := aM hc1
  clear hr1 hc1
  by_cases hb : a0 < 1 ∨ 64 < a0
  · have HRS := aM (show gensL a0 l1 = 4 by unfold gensL; rw [if_pos hb])
    have HD := aM (degree_bad a0 hb); clear hb
    go_enter Try.func57, Try.ntmps57
    go_wp2_with (first
     | ((with_reducible refine gate_dst (N := 2) rfl ?_); refine box_event ?hg (N := 2) ?hd (cs := #[.int .i64 a0]) (t := 3) ?hr ?_; (case hd => rfl); (case hg => rfl); (case hr => first | (go_simp; done) | (go_simp; rfl)); intro g hgr w3 hbox3 hb3; have hz : w3.cell? ⟨g, 0, none⟩ = some (.int .i64 a0) := (blk_cell hbox3 0).trans rfl; have HB3 := aM hb3; clear hgr hb3 hbox3)
     | (go_at_call 52; (with_reducible refine (perm_degree.calls a0 4 _ HD.out).mono ?_); rintro e w5 ⟨rfl, ⟨nd, rfl⟩⟩))
    go_ret
    exact ⟨by rw [HRS.out]; rfl, pw_below_drewN HB3.out _⟩
  have HD := aM (degree_ok a0 (by omega) (by omega))
  have hmax : l1.length ≤ 9223372036854775807 := HR.out.2.1
  have HNB := aM hb
  clear hb
  go_enter Try.func57, Try.ntmps57
  go_wp2_with (first
   | ((with_reducible refine gate_dst (N := 2) rfl ?_); refine box_event ?hg2 (N := 2) ?hd2 (cs := #[.int .i64 a0]) (t := 3) ?hr2 ?_; (case hd2 => rfl); (case hg2 => rfl); (case hr2 => first | (go_simp; done) | (go_simp; rfl)); intro g hgr w3 hbox3 hb3; have hz : w3.cell? ⟨g, 0, none⟩ = some (.int .i64 a0) := (blk_cell hbox3 0).trans rfl; have HZ := aM hz; have HB3 := aM hb3; clear hgr hb3 hbox3)
   | (go_at_call 52; (with_reducible refine (perm_degree.calls a0 0 _ HD.out).mono ?_); rintro e w5 ⟨rfl, ⟨nd, rfl⟩⟩))
  go_loopg [16] l1.length (fun kq v16 w' => ∃ i : Int, v16 = .int .i64 i ∧ Aside0 (0 ≤ i) ∧ Aside0 (i.toNat + kq = l1.length) ∧ Aside0 ((l1.take i.toNat).all (fun p => checkL p == 0) = true) ∧ Aside0 (Below w3.heap.size w3 w'))
  case atStart => exact ⟨0, rfl, ⟨by omega⟩, ⟨by simp⟩, ⟨by simp⟩, ⟨pw_below_drewN (Below.refl _ _) _⟩⟩
  case round =>
    clear hz; obtain ⟨i, rfl, HI0, HI1, HA, HBw⟩ := hrel; have i0 := HI0.out
    by_cases d1 : i < (l1.length : Int)
    · have d1b : decide (i < (l1.length : Int)) = true := decide_eq_true d1; have q0 := eq_true i0; have q1 := eq_true d1; have hb0 := below_then HB3.out HB3.out.size HBw.out; obtain ⟨ad, A2, c2, ea, hx1, hl2, hC2⟩ := at_L1 HR.out i i0 d1
      cases ea; replace hx1 := (hb0.cell (World.block_lt_of_cell? w _ hx1)).trans hx1; have HC2 := aM (Kd.C_below hC2 hb0); have HL2 := aM hl2; clear hb0 hC2 hl2
      by_cases hb : checkL (rd_L1 l1 i) = 0
      · have HBo := aM hb; clear hb
        go_wp2_with (first
          | (go_at_call 16; (with_reducible refine (perm_Check.calls A2 c2 (rd_L1 l1 i) 0 _ HC2.out HL2.out (by unfold perm_Check.f; rw [HBo.out])).mono ?_); rintro e w6 ⟨rfl, hb6⟩; have HB6 := aM (below_then HBw.out HBw.out.size hb6); clear hb6))
        obtain ⟨k1, rfl⟩ : ∃ m, gk = m + 1 := ⟨gk - 1, by have := HI1.out; omega⟩
        go_roundg k1
        case measure => omega
        case rel => exact ⟨i + 1, rfl, ⟨by have := HI0.out; omega⟩, ⟨by have := HI1.out; have := HI0.out; omega⟩, ⟨by rw [take_rdL1 HI0.out d1, List.all_append, HA.out]; simp [HBo.out]⟩, HB6⟩
      have HBo := aM hb; have hb1 : (checkL (rd_L1 l1 i) != 0) = true := bne_iff_ne.mpr hb; have HRS := aM (show gensL a0 l1 = checkL (rd_L1 l1 i) by unfold gensL; rw [if_neg HNB.out, find_first i0 d1 HA.out hb]); clear hb
      go_wp2_with (first
        | (go_at_call 16; (with_reducible refine (perm_Check.calls A2 c2 (rd_L1 l1 i) (checkL (rd_L1 l1 i)) _ HC2.out HL2.out rfl).mono ?_); rintro e w6 ⟨rfl, hb6⟩; have HB6 := aM (below_then HBw.out HBw.out.size hb6); clear hb6))
      go_ret
      exact ⟨by rw [HRS.out]; rfl, below_then HB3.out HB3.out.size HB6.out⟩
    have d1b : decide (i < (l1.length : Int)) = false := decide_eq_false d1; have ha := HA.out; rw [List.take_of_length_le (by omega)] at ha; have HA2 := aM ha; have hz1 := (HBw.out.cell (World.block_lt_of_cell? _ _ HZ.out)).trans HZ.out; have HZ1 := aM hz1; have HRw := aM (Kd.C_below HR.out (below_then HB3.out HB3.out.size HBw.out)); clear ha hz1
    cases hb : l1.any (lenB a0) with
    | true =>
      have HBo := aM hb; have HRS := aM (show gensL a0 l1 = 10 by unfold gensL; rw [if_neg HNB.out, find_none HA2.out]; simp [hb]); clear hb
      go_wp2_with (first
        | (go_at_call 79; (with_reducible refine (cont79_calls _ _ l1 g a0 _ HRw.out HZ1.out).mono ?_); rintro e w6 ⟨rfl, hd6⟩; rw [HBo.out]; have HB6 := aM hd6.below; clear hd6))
      go_ret
      exact ⟨by rw [HRS.out]; rfl, below_then HB3.out HB3.out.size (below_then HBw.out HBw.out.size HB6.out)⟩
    | false =>
      have HBo := aM hb; have HRS := aM (show gensL a0 l1 = 0 by unfold gensL; rw [if_neg HNB.out, find_none HA2.out]; simp [hb]); clear hb
      go_wp2_with (first
        | (go_at_call 79; (with_reducible refine (cont79_calls _ _ l1 g a0 _ HRw.out HZ1.out).mono ?_); rintro e w6 ⟨rfl, hd6⟩; rw [HBo.out]; have HB6 := aM hd6.below; clear hd6))
      go_ret
      exact ⟨by rw [HRS.out]; rfl, below_then HB3.out HB3.out.size (below_then HBw.out HBw.out.size HB6.out)⟩
theorem perm_generators.calls (a0 : Int) (A1 : Option Addr) (c1 : Nat) (l1 : List (List Int)) (r : Int) (w : World) (hr1 : Kd.C (Kd.slice 3 (Kd.int .i64)) w A1 l1.length l1) (hc1 : l1.length ≤ c1) (h : perm_generators.f a0 l1 = some r) :
    Calls Try.prog 57 #[.int .i64 a0, .slice A1 l1.length c1] w fun e w' => e = .returned (.int .i64 r) ∧ Below w.heap.size w w' := by
  obtain rfl := Option.some.inj h
  exact gens_post a0 A1 c1 l1 w hr1 hc1
end
section
def sortL (l : List Int) : List Int := l.mergeSort (fun a b => decide (a ≤ b))
theorem sortL_perm (l : List Int) : (sortL l).Perm l := List.mergeSort_perm _ _
theorem sortL_sorted (l : List Int) : (sortL l).Pairwise (· ≤ ·) := by
  have := List.pairwise_mergeSort (le := fun a b : Int => decide (a ≤ b)) (by intro a b c; simp; omega) (by intro a b; simp; omega) l
  exact this.imp (by intro a b h; simpa using h)
theorem sortL_unique {l r : List Int} (hp : r.Perm l) (hs : r.Pairwise (· ≤ ·)) : r = sortL l :=
  (hp.trans (sortL_perm l).symm).eq_of_pairwise (fun a b _ _ h1 h2 => by omega) hs (sortL_sorted l)
theorem sortL_eq_self {l : List Int} (hs : l.Pairwise (· ≤ ·)) : sortL l = l := (sortL_unique (List.Perm.refl l) hs).symm
def insOne (a : Int) : List Int → List Int
  | [] => [a]
  | b :: l => if a ≤ b then a :: b :: l else b :: insOne a l
def insL : List Int → List Int
  | [] => []
  | a :: l => insOne a (insL l)
theorem insOne_perm (a : Int) : ∀ l, (insOne a l).Perm (a :: l)
  | [] => List.Perm.refl _
  | b :: l => by
    unfold insOne
    split
    · exact List.Perm.refl _
    · exact ((insOne_perm a l).cons b).trans (List.Perm.swap a b l)
theorem insOne_sorted (a : Int) : ∀ {l : List Int}, l.Pairwise (· ≤ ·) → (insOne a l).Pairwise (· ≤ ·)
  | [], _ => by simp [insOne]
  | b :: l, h => by
    have h' := List.pairwise_cons.1 h; unfold insOne
    split
    · rename_i hab
      refine List.pairwise_cons.2 ⟨fun x hx => ?_, h⟩
      rcases List.mem_cons.1 hx with rfl | hx
      · exact hab
      · have := h'.1 x hx; omega
    · refine List.pairwise_cons.2 ⟨fun x hx => ?_, insOne_sorted a h'.2⟩
      rcases List.mem_cons.1 ((insOne_perm a l).mem_iff.1 hx) with rfl | hx
      · omega
      · exact h'.1 x hx
theorem insL_perm : ∀ l, (insL l).Perm l
  | [] => List.Perm.refl _
  | a :: l => (insOne_perm a _).trans ((insL_perm l).cons a)
theorem insL_sorted : ∀ l, (insL l).Pairwise (· ≤ ·)
  | [] => by simp [insL]
  | a :: l => insOne_sorted a (insL_sorted l)
theorem insL_eq (l : List Int) : insL l = sortL l := sortL_unique (insL_perm l) (insL_sorted l)
end
end Go.Proofs.Ytjjlhbgpdncpcaa.P
section
namespace Go.Proofs.Ytjjlhbgpdncpcaa.P
open Go.Shelf in
def sortRen : Ren where
  f := fun | 189 => 58 | 125 => 82 | 257 => 81 | 128 => 101 | 129 => 102 | 294 => 92 | 295 => 93 | 296 => 94 | 297 => 95 | 298 => 96 | 299 => 97 | 216 => 98 | 300 => 99 | 301 => 100 | 328 => 103 | 329 => 104 | 330 => 105 | 331 => 106 | 332 => 107 | 215 => 108 | 343 => 109 | n => n
  t := fun | 28 => 22 | 3 => 3 | 46 => 98 | 0 => 0 | 51 => 72 | 53 => 77 | 4 => 4 | 183 => 117 | 182 => 116 | 131 => 122 | 5 => 5 | 9 => 9 | 218 => 126 | 222 => 130 | 228 => 132 | 229 => 133 | n => n
  g := fun n => n
theorem sortLays : Lays.n189 Try.prog sortRen where
  mixed := by kernel_rfl
  f125 := Try.func82.trans (congrArg some (by kernel_rfl))
  f128 := Try.func101.trans (congrArg some (by kernel_rfl))
  f129 := Try.func102.trans (congrArg some (by kernel_rfl))
  f189 := Try.func58.trans (congrArg some (by kernel_rfl))
  f215 := Try.func108.trans (congrArg some (by kernel_rfl))
  f216 := Try.func98.trans (congrArg some (by kernel_rfl))
  f257 := Try.func81.trans (congrArg some (by kernel_rfl))
  f294 := Try.func92.trans (congrArg some (by kernel_rfl))
  f295 := Try.func93.trans (congrArg some (by kernel_rfl))
  f296 := Try.func94.trans (congrArg some (by kernel_rfl))
  f297 := Try.func95.trans (congrArg some (by kernel_rfl))
  f298 := Try.func96.trans (congrArg some (by kernel_rfl))
  f299 := Try.func97.trans (congrArg some (by kernel_rfl))
  f300 := Try.func99.trans (congrArg some (by kernel_rfl))
  f301 := Try.func100.trans (congrArg some (by kernel_rfl))
  f328 := Try.func103.trans (congrArg some (by kernel_rfl))
  f329 := Try.func104.trans (congrArg some (by kernel_rfl))
  f330 := Try.func105.trans (congrArg some (by kernel_rfl))
  f331 := Try.func106.trans (congrArg some (by kernel_rfl))
  f332 := Try.func107.trans (congrArg some (by kernel_rfl))
  f343 := Try.func109.trans (congrArg some (by kernel_rfl))
  t0 := Try.underlying0
  a0 := Try.isAgg0
  z0 := Try.sizeOf0
  v0 := Try.zeroValue0
  t3 := Try.underlying3
  a3 := Try.isAgg3
  z3 := Try.sizeOf3
  v3 := Try.zeroValue3
  t4 := Try.underlying4
  a4 := Try.isAgg4
  z4 := Try.sizeOf4
  v4 := Try.zeroValue4
  t5 := Try.underlying5
  a5 := Try.isAgg5
  z5 := Try.sizeOf5
  v5 := Try.zeroValue5
  t9 := Try.underlying9
  a9 := Try.isAgg9
  z9 := Try.sizeOf9
  v9 := Try.zeroValue9
  t28 := Try.underlying22
  a28 := Try.isAgg22
  z28 := Try.sizeOf22
  v28 := Try.zeroValue22
  t46 := Try.underlying98
  a46 := Try.isAgg98
  z46 := Try.sizeOf98
  v46 := Try.zeroValue98
  t51 := Try.underlying72
  a51 := Try.isAgg72
  z51 := Try.sizeOf72
  v51 := Try.zeroValue72
  t53 := Try.underlying77
  a53 := Try.isAgg77
  z53 := Try.sizeOf77
  v53 := Try.zeroValue77
  t131 := Try.underlying122
  a131 := Try.isAgg122
  z131 := Try.sizeOf122
  v131 := Try.zeroValue122
  t182 := Try.underlying116
  a182 := Try.isAgg116
  z182 := Try.sizeOf116
  v182 := Try.zeroValue116
  t183 := Try.underlying117
  a183 := Try.isAgg117
  z183 := Try.sizeOf117
  v183 := Try.zeroValue117
  t218 := Try.underlying126
  a218 := Try.isAgg126
  z218 := Try.sizeOf126
  v218 := Try.zeroValue126
  t222 := Try.underlying130
  a222 := Try.isAgg130
  z222 := Try.sizeOf130
  v222 := Try.zeroValue130
  t228 := Try.underlying132
  a228 := Try.isAgg132
  z228 := Try.sizeOf132
  v228 := Try.zeroValue132
  t229 := Try.underlying133
  a229 := Try.isAgg133
  z229 := Try.sizeOf133
  v229 := Try.zeroValue133
end Go.Proofs.Ytjjlhbgpdncpcaa.P
end
section
namespace Go.Proofs.Ytjjlhbgpdncpcaa.P
open Go.RowKit Go.Sort Go.Proofs.YtjjlhbgpdncpcaaW.PrintWords Go.Proofs.YtjjlhbgpdncpcaaW.PrintLast Go.Proofs.YtjjlhbgpdncpcaaW.PrintMore
set_option linter.unusedVariables false
set_option linter.unusedSimpArgs false
theorem sort_big (P0_ : Nat → Prop) (u : Value) (l0 : List Int) (w0 w : World) (hl : 0 < l0.length) (hsz : l0.length < 4611686018427387904) (hB : Below w0.heap.size w0 w) (ho0 : Kd.R (Kd.int .i64) 3 w w0.heap.size P0_ u l0) :
    Calls Try.prog 58 #[u] w fun e w' => e = .returned (.tuple #[]) ∧ Kd.R (Kd.int .i64) 3 w' w0.heap.size (fun k_ => (P0_ k_ ∨ w.heap.size ≤ k_)) u (sortL l0) ∧ Below w0.heap.size w0 w' ∧ Kept w w' (fun k_ => P0_ k_) := by
  have hP := ho0.1
  have ho := Kd.own_of_R ho0
  obtain ⟨hlen, h0 | ⟨g, cap, cur, rfl, hbg, hheap, hn, hcap, hsz', htake⟩⟩ := ho
  · omega
  have hH := Go.holds_of_blockI hheap (ss := l0) (by rw [Nat.mul_one] at htake; exact htake)
  have hlt : g < w.heap.size := (Array.getElem?_eq_some_iff.1 hheap).1
  refine (Any.slices_Sort_int sortLays g 0 cap l0 w hH hlt hsz).mono ?_
  rintro e w' ⟨rfl, n, os, rfl⟩
  have hln : (sortL l0).length = l0.length := (sortL_perm l0).length_eq
  have hown := Go.ownsRow_sortedI (n := n) (os := os) (ts := sortL l0) (ss := l0) hln hbg hheap hn hcap hsz'
  have hg := Go.grownBy_sortedI (w := w) (g := g) (n := n) (os := os) (sortL l0).toArray
  have hPg : P0_ g := hP g rfl
  refine ⟨rfl, Kd.R_of_own (by rw [hln]; exact hown) (fun k hk => .inl (hP k hk)), hB.grown hg hB.size (fun k hk => by injection hk with hk; omega), ⟨hg.size, fun i hi hs => hg.block i hi (fun e_ => hs (by injection e_ with e_; rw [e_]; exact hPg))⟩⟩
end Go.Proofs.Ytjjlhbgpdncpcaa.P
end
namespace Go.Proofs.Ytjjlhbgpdncpcaa.P
open Go.RowKit Go.Proofs.YtjjlhbgpdncpcaaW.PrintWords Go.Proofs.YtjjlhbgpdncpcaaW.PrintLast Go.Proofs.YtjjlhbgpdncpcaaW.PrintMore
set_option linter.unusedVariables false
set_option linter.unusedSimpArgs false
set_option maxHeartbeats 8000000
set_option maxRecDepth 100000
section
open Go.Shelf in
def lenRen : Ren where
  f := fun | 125 => 82 | 128 => 101 | 129 => 102 | n => n
  t := fun | 46 => 98 | 51 => 72 | 53 => 77 | n => n
  g := fun n => n
theorem lenLays : Lays.n125 Try.prog lenRen where
  mixed := by kernel_rfl
  f125 := Try.func82.trans (congrArg some (by kernel_rfl))
  f128 := Try.func101.trans (congrArg some (by kernel_rfl))
  f129 := Try.func102.trans (congrArg some (by kernel_rfl))
  t3 := Try.underlying3
  a3 := Try.isAgg3
  z3 := Try.sizeOf3
  v3 := Try.zeroValue3
  t4 := Try.underlying4
  a4 := Try.isAgg4
  z4 := Try.sizeOf4
  v4 := Try.zeroValue4
  t5 := Try.underlying5
  a5 := Try.isAgg5
  z5 := Try.sizeOf5
  v5 := Try.zeroValue5
  t9 := Try.underlying9
  a9 := Try.isAgg9
  z9 := Try.sizeOf9
  v9 := Try.zeroValue9
  t46 := Try.underlying98
  a46 := Try.isAgg98
  z46 := Try.sizeOf98
  v46 := Try.zeroValue98
  t51 := Try.underlying72
  a51 := Try.isAgg72
  z51 := Try.sizeOf72
  v51 := Try.zeroValue72
  t53 := Try.underlying77
  a53 := Try.isAgg77
  z53 := Try.sizeOf77
  v53 := Try.zeroValue77
theorem bits_Len.calls (x : Int) (w : World) (h0 : 0 ≤ x) (h1 : x ≤ 18446744073709551615) :
    Calls Try.prog 82 #[.int .u64 x] w fun e w' => e = .returned (.int .i64 (Lib.bitLen x.toNat)) ∧ w' = w := Any.bits_Len lenLays x w h0 h1
theorem ins0.calls (u : Value) (w : World) : Calls Try.prog 92 #[u, .int .i64 0, .int .i64 0] w fun e w' => e = .returned (.tuple #[]) ∧ w' = w := by
  go_enter Try.func92, Try.ntmps92
  go_wp2
  go_loopg [6] 1 (fun kq v6 w' => v6 = .int .i64 1 ∧ w' = w)
  case atStart => exact ⟨rfl, rfl⟩
  case round =>
    obtain ⟨rfl, rfl⟩ := hrel; go_wp2
    first | go_end0 | ((try simp only [Exit.inBlock, Exit.then]); refine bodyPost_ret (results_none rfl _ _ _) rfl ?_)
    exact ⟨rfl, rfl⟩
theorem pdq0.calls (u : Value) (lim : Int) (w : World) : Calls Try.prog 81 #[u, .int .i64 0, .int .i64 0, .int .i64 lim] w fun e w' => e = .returned (.tuple #[]) ∧ w' = w := by
  go_enter Try.func81, Try.ntmps81
  go_wp2
  go_loopg [1, 2, 3, 8, 9] 1 (fun kq v1 v2 v3 v8 v9 w' => v1 = .int .i64 0 ∧ v2 = .int .i64 0 ∧ v3 = .int .i64 lim ∧ v8 = .bool true ∧ v9 = .bool true ∧ w' = w)
  case atStart => exact ⟨rfl, rfl, rfl, rfl, rfl, rfl⟩
  case round =>
    obtain ⟨rfl, rfl, rfl, rfl, rfl, rfl⟩ := hrel
    go_wp2_with (first
      | (go_at_call 92; (with_reducible refine (ins0.calls u _).mono ?_); rintro e w1 ⟨rfl, rfl⟩))
    first | go_end0 | ((try simp only [Exit.inBlock, Exit.then]); refine bodyPost_ret (results_none rfl _ _ _) rfl ?_)
    exact ⟨rfl, rfl⟩
def slSort.f (l0 : List Int) : Option (List Int) := if l0.length < 4611686018427387904 then some (insL l0) else none
theorem slSort.calls (P0_ : Nat → Prop) (u9000_ : Value) (l0 : List Int) (r : List Int) (w0 w : World) (hB : Below w0.heap.size w0 w) (ho0 : Kd.R (Kd.int .i64) 3 w w0.heap.size P0_ u9000_ l0) (h : slSort.f l0 = some r) :
    Calls Try.prog 58 #[u9000_] w fun e w' => e = .returned (.tuple #[]) ∧ Kd.R (Kd.int .i64) 3 w' w0.heap.size (fun k_ => (P0_ k_ ∨ w.heap.size ≤ k_)) u9000_ r ∧ Below w0.heap.size w0 w' ∧ Kept w w' (fun k_ => P0_ k_) := by
  have hq : l0.length < 4611686018427387904 ∧ sortL l0 = r := by
    unfold slSort.f at h; rw [insL_eq] at h
    split at h
    · exact ⟨by assumption, Option.some.inj h⟩
    · cases h
  obtain ⟨hl', rfl⟩ := hq
  by_cases hz : 0 < l0.length
  · exact sort_big P0_ u9000_ l0 w0 w hz hl' hB ho0
  have h0 : l0 = [] := by cases l0 with
    | nil => rfl
    | cons a l => simp at hz
  subst h0
  have hK : Kd.R (Kd.int .i64) 3 w w0.heap.size (fun k_ => (P0_ k_ ∨ w.heap.size ≤ k_)) u9000_ (sortL []) := by
    rw [sortL_eq_self List.Pairwise.nil]
    exact Kd.R_mono ho0 (fun k hk => .inl hk)
  have HK := aM hK
  have HB := aM hB
  obtain ⟨A, c, rfl⟩ := Kd.R_slice ho0
  clear ho0 hB h hK hz hl'
  go_enter Try.func58, Try.ntmps58
  go_wp2_with (first
    | (go_at_call 82; (with_reducible refine (bits_Len.calls _ _ ?s1 ?s2).mono ?_); (case s1 => decide); (case s2 => decide); rintro e w1 ⟨rfl, rfl⟩)
    | (go_at_call 81; (with_reducible refine (pdq0.calls _ _ _).mono ?_); rintro e w1 ⟨rfl, rfl⟩))
  go_end0
  exact ⟨rfl, HK.out, HB.out, Kept.refl _ _⟩
end
section
attribute [local go_sem] max2_int min2_int max_two min_two max_three min_three max_four min_four
mutual
def perm_Orbits.l0 : Nat → List (List Int) → List Bool → List (List Int) → Int → Int → Option ((List (List Int)) × Int)
  | 0, _, _, _, _, _ => none
  | k + 1, x1, x7, x8, x23, x24 => if x24 < x23 then (if 0 ≤ x24 then (if x24 < (x7.length : Int) then (if rdOf false x7 x24 = true then (perm_Orbits.l0 k x1 x7 x8 x23 (wrap64 (x24 + 1))) else (perm_Orbits.l1 k x1 (x7.set (x24 : Int).toNat true) x8 (([x24] : List Int)) 0 x23 x24)) else (none)) else (none)) else (some (x8, 0))
def perm_Orbits.l1 : Nat → List (List Int) → List Bool → List (List Int) → List Int → Int → Int → Int → Option ((List (List Int)) × Int)
  | 0, _, _, _, _, _, _, _ => none
  | k + 1, x1, x7, x8, x10, x11, x23, x24 => if x11 < (x10.length : Int) then (perm_Orbits.l2 k x1 x7 x8 x10 x11 x23 x24 x1 (x1.length : Int) 0) else ((slSort.f x10).bind fun t172 => (if x8.length < 5864062014805 then (perm_Orbits.l0 k x1 x7 (x8 ++ [t172]) x23 (wrap64 (x24 + 1))) else (none)))
def perm_Orbits.l2 : Nat → List (List Int) → List Bool → List (List Int) → List Int → Int → Int → Int → List (List Int) → Int → Int → Option ((List (List Int)) × Int)
  | 0, _, _, _, _, _, _, _, _, _, _ => none
  | k + 1, x1, x7, x8, x10, x11, x23, x24, x42, x43, x44 => if x44 < x43 then (if 0 ≤ x44 then (if x44 < (x42.length : Int) then (if 0 ≤ x11 then (if x11 < (x10.length : Int) then (if 0 ≤ (rd x10 x11) then (if (rd x10 x11) < ((rd_L1 x42 x44).length : Int) then (if 0 ≤ (rd (rd_L1 x42 x44) (rd x10 x11)) then (if (rd (rd_L1 x42 x44) (rd x10 x11)) < (x7.length : Int) then (if (rdOf false x7 (rd (rd_L1 x42 x44) (rd x10 x11)) = true) then (perm_Orbits.l2 k x1 x7 x8 x10 x11 x23 x24 x42 x43 (wrap64 (x44 + 1))) else (if x10.length < 17592186044416 then (perm_Orbits.l2 k x1 (x7.set ((rd (rd_L1 x42 x44) (rd x10 x11)) : Int).toNat true) x8 (x10 ++ [rd (rd_L1 x42 x44) (rd x10 x11)]) x11 x23 x24 x42 x43 (wrap64 (x44 + 1))) else (none))) else (none)) else (none)) else (none)) else (none)) else (none)) else (none)) else (none)) else (none)) else (perm_Orbits.l1 k x1 x7 x8 x10 (wrap64 (x11 + 1)) x23 x24)
end
def perm_Orbits.f (k : Nat) (a0 : Int) (l1 : List (List Int)) : Option ((List (List Int)) × Int) := (perm_generators.f a0 l1).bind fun t163 => (if t163 = 0 then (if 0 ≤ a0 then (if (a0 : Int).toNat ≤ 281474976710656 then (perm_Orbits.l0 k l1 (List.replicate (a0 : Int).toNat false) ([] : List (List Int)) a0 0) else (none)) else (none)) else (some (([] : List (List Int)), t163)))
theorem perm_Orbits.calls (k : Nat) (a0 : Int) (A1 : Option Addr) (c1 : Nat) (l1 : List (List Int)) (r1 : List (List Int)) (r2 : Int) (w : World) (hr1 : Kd.C (Kd.slice 3 (Kd.int .i64)) w A1 l1.length l1) (hc1 : l1.length ≤ c1) (h : perm_Orbits.f k a0 l1 = some (r1, r2)) :
    Calls Try.prog 28 #[.int .i64 a0, .slice A1 l1.length c1] w fun e w' => ∃ v0_ : Value, e = .returned (.tuple #[v0_, .int .i64 r2]) ∧ Kd.S (Kd.slice 3 (Kd.int .i64)) 22 w' w.heap.size (fun _ => True) v0_ r1 ∧ Below w.heap.size w w' := by
  have HR1 := aM hr1
  have HC1 := aM hc1
  clear hr1 hc1
  have HB := aM (Below.refl w.heap.size w)
  have H : ((perm_generators.f a0 l1).bind fun t163 => (if t163 = 0 then (if 0 ≤ a0 then (if (a0 : Int).toNat ≤ 281474976710656 then (perm_Orbits.l0 k l1 (List.replicate (a0 : Int).toNat false) ([] : List (List Int)) a0 0) else (none)) else (none)) else (some (([] : List (List Int)), t163)))) = some (r1, r2) := h
  clear h
  replace H := Option.bind_eq_some_iff.mp H
  obtain ⟨t163, A30, H⟩ := H
  replace H : (if t163 = 0 then (if 0 ≤ a0 then (if (a0 : Int).toNat ≤ 281474976710656 then (perm_Orbits.l0 k l1 (List.replicate (a0 : Int).toNat false) ([] : List (List Int)) a0 0) else (none)) else (none)) else (some (([] : List (List Int)), t163))) = some (r1, r2) := H
  have A3 := aM A30
  clear A30
  by_cases c4 : t163 = 0
  · rw [if_pos c4] at H
    have c4b0 := beq_iff_eq.mpr c4; have c4b1 := bne_eq_false_iff_eq.mpr c4; clear c4
    by_cases c5 : 0 ≤ a0
    · rw [if_pos c5] at H; have c5b0 := eq_true c5; have c5b1 := decide_eq_true c5; clear c5
      by_cases c6 : (a0 : Int).toNat ≤ 281474976710656
      · rw [if_pos c6] at H; have c6b0 := eq_true c6; have c6b1 := decide_eq_true c6; clear c6; obtain ⟨y164, hy164⟩ : ∃ y_ : List Bool, y_ = (List.replicate (a0 : Int).toNat false) := ⟨_, rfl⟩; replace H : (perm_Orbits.l0 k l1 y164 ([] : List (List Int)) a0 0) = some (r1, r2) := by first | (rw [hy164]; with_reducible exact H) | (have H2_ := (Option.bind_some _ _).symm.trans H; rw [hy164]; with_reducible exact H2_) | (have H2_ := (Option.bind_some _ _).symm.trans H; with_reducible exact H2_) | with_reducible exact H | (rw [hy164]; exact H) | exact H
        have Ny164 := aM hy164; clear hy164; have H' := aM H; clear H
        go_enter Try.func28, Try.ntmps28
        go_wp2_with (first | ((with_reducible refine gate_callee (f := 57) rfl ?_); refine goesL_ (some 17) rfl rfl Try.func57 (by kernel_rfl) rfl #[.int .i64 a0, .slice A1 l1.length c1] rfl zz109 ?_; (with_reducible refine (perm_generators.calls a0 _ _ l1 t163 _ ?side1 ?side2 A3.out).mono ?_); (case side1 => repeat (first | exact HR1.out | (with_reducible refine Kd.C_alloc ?_ _) | (with_reducible refine Kd.C_drewN ?_ _) | (with_reducible refine Kd.C_drew ?_))); (case side2 => exact HC1.out); rintro e w7 ⟨rfl, hb⟩; refine ⟨_, rfl, ?_⟩; replace HB := aM (below_step zz110 hb); (try clear hb); (try clear hb2); (try clear hk); (try clear hi)) | ((with_reducible refine gate_dst (N := 22) rfl ?_); refine Kd.R_make Kd.bool _ 4 rfl (N := 22) rfl 83 _ _ rfl a0 rfl rfl Try.underlying83 (.bool false) 1 info4 rfl (by decide) (by omega) false (ok := fun _ => True) (okp := fun _ => True) rfl (fun _ hk => hk) trivial (of_decide_eq_true zz135) (Nat.le_trans (Nat.mul_le_mul_right _ (of_decide_eq_true zz135 : a0.toNat ≤ 281474976710656)) (by omega)) (Below.refl _ _) (Nat.le_refl _) ?_; intro v165 w8 ho9 hb hg_ hnew_; clear hg_ hnew_; (first | rw [← Ny164.out] at ho9 | (simp only [Int.reduceToNat] at ho9; rw [← Ny164.out] at ho9)); have HO166 := aM (Kd.R_lower ho9 (below_size zz110)); replace HB := aM (below_step zz110 hb); clear hb ho9))
        go_loopg [8, 24] k (fun kq v8 v24 w' => ∃ (x7_1 : List Bool) (x8_1 : List (List Int)) (x24_1 : Int), v24 = .int .i64 x24_1 ∧ Aside0 (perm_Orbits.l0 kq l1 x7_1 x8_1 a0 x24_1 = some (r1, r2)) ∧ Aside0 (kq ≤ k) ∧ Aside0 (Kd.R Kd.bool 4 w' w.heap.size (fun _ => True) v165 x7_1) ∧ Aside0 (Kd.S (Kd.slice 3 (Kd.int .i64)) 22 w' w.heap.size (fun _ => True) v8 x8_1) ∧ Aside0 (Below w.heap.size w w'))
        case atStart => exact ⟨(y164), (([] : List (List Int))), (0), zz136, H', ⟨Nat.le_refl _⟩, ⟨(zR HO166)⟩, ⟨zz108⟩, ⟨zz110⟩⟩
        case round =>
          clear H'; (try clear c1); (try clear c2); (try clear p2); (try clear c4); (try clear c4b0); (try clear c4b1); (try clear c5); (try clear c5b0); (try clear c5b1); (try clear c6); (try clear c6b0); (try clear c6b1); obtain ⟨x7_1, x8_1, x24_1, rfl, HA, HK1, HO_7, HO_8, HB⟩ := hrel
          cases gk with
          | zero => exact absurd HA.out (by simp [perm_Orbits.l0])
          | succ k1 =>
            have H := HA.out; clear HA; simp only [perm_Orbits.l0] at H
            by_cases c10 : x24_1 < a0
            · rw [if_pos c10] at H; have c10b0 := decide_eq_true c10; clear c10
              by_cases c11 : 0 ≤ x24_1
              · rw [if_pos c11] at H; have c11b0 := decide_eq_true c11; clear c11
                by_cases c12 : x24_1 < (x7_1.length : Int)
                · rw [if_pos c12] at H; have c12b0 := decide_eq_true c12; clear c12; obtain ⟨bq13, hbq13⟩ : ∃ b_ : Bool, b_ = (rdOf false x7_1 x24_1) := ⟨_, rfl⟩; replace H : (if bq13 = true then (perm_Orbits.l0 k1 l1 x7_1 x8_1 a0 (wrap64 (x24_1 + 1))) else (perm_Orbits.l1 k1 l1 (x7_1.set (x24_1 : Int).toNat true) x8_1 (([x24_1] : List Int)) 0 a0 x24_1)) = some (r1, r2) := by rw [← hbq13] at H; exact H
                  have Nbq13 := aM hbq13; clear hbq13
                  by_cases c14 : bq13 = true
                  · subst c14; have H1 : (perm_Orbits.l0 k1 l1 x7_1 x8_1 a0 (wrap64 (x24_1 + 1))) = some (r1, r2) := by rw [if_pos rfl] at H; exact H
                    clear H; have H := H1; clear H1; have H' := aM H; clear H; obtain ⟨Ao15, co15, eo15⟩ := Kd.R_slice HO_7.out; subst eo15; have p167 : 0 ≤ (x24_1 : Int) := of_decide_eq_true zz135; have q167 : x24_1 < (x7_1.length : Int) := of_decide_eq_true zz135; obtain ⟨ad167, e167, hx167_0⟩ := Kd.at_bool (Kd.R_reads' HO_7.out).2.2 x24_1 p167 q167
                    (try rw [← Nbq13.out] at hx167_0)
                    cases e167; replace p167 := eq_true p167; replace q167 := eq_true q167; go_wp2
                    go_roundg k1
                    case measure => have := HK1.out; omega
                    case rel => exact ⟨(x7_1), (x8_1), (wrap64 (x24_1 + 1)), zz136, H', ⟨zz143⟩, ⟨(zR HO_7)⟩, ⟨(zS HO_8)⟩, ⟨zz110⟩⟩
                  replace c14 := Bool.eq_false_iff.mpr c14; subst c14; have H1 : (perm_Orbits.l1 k1 l1 (x7_1.set (x24_1 : Int).toNat true) x8_1 (([x24_1] : List Int)) 0 a0 x24_1) = some (r1, r2) := by rw [if_neg (show ¬ (false = true) by decide)] at H; exact H
                  clear H; have H := H1; clear H1; obtain ⟨y168, hy168⟩ : ∃ y_ : List Bool, y_ = (x7_1.set (x24_1 : Int).toNat true) := ⟨_, rfl⟩; replace H : (perm_Orbits.l1 k1 l1 y168 x8_1 (([x24_1] : List Int)) 0 a0 x24_1) = some (r1, r2) := by first | (rw [hy168]; with_reducible exact H) | (have H2_ := (Option.bind_some _ _).symm.trans H; rw [hy168]; with_reducible exact H2_) | (have H2_ := (Option.bind_some _ _).symm.trans H; with_reducible exact H2_) | with_reducible exact H | (rw [hy168]; exact H) | exact H
                  have Ny168 := aM hy168; clear hy168; obtain ⟨y169, hy169⟩ : ∃ y_ : List Int, y_ = (([x24_1] : List Int)) := ⟨_, rfl⟩; replace H : (perm_Orbits.l1 k1 l1 y168 x8_1 y169 0 a0 x24_1) = some (r1, r2) := by first | (rw [hy169]; with_reducible exact H) | (have H2_ := (Option.bind_some _ _).symm.trans H; rw [hy169]; with_reducible exact H2_) | (have H2_ := (Option.bind_some _ _).symm.trans H; with_reducible exact H2_) | with_reducible exact H | (rw [hy169]; exact H) | exact H
                  have Ny169 := aM hy169; clear hy169; have H' := aM H; clear H; obtain ⟨Ao17, co17, eo17⟩ := Kd.R_slice HO_7.out; subst eo17; have p167 : 0 ≤ (x24_1 : Int) := of_decide_eq_true zz135; have q167 : x24_1 < (x7_1.length : Int) := of_decide_eq_true zz135; obtain ⟨ad167, e167, hx167_0⟩ := Kd.at_bool (Kd.R_reads' HO_7.out).2.2 x24_1 p167 q167
                  (try rw [← Nbq13.out] at hx167_0)
                  cases e167; replace p167 := eq_true p167; replace q167 := eq_true q167; have p16 : 0 ≤ (x24_1 : Int) := of_decide_eq_true zz135; have q16 : (x24_1 : Int) < ((x7_1.length : Int) : Int) := of_decide_eq_true zz135; obtain ⟨go16, co16, eo16, gb16, gl16, cl16, HG16⟩ := Kd.R_form HO_7.out (by omega)
                  (first | cases eo16 | (injection eo16 with ea_ en_ ec_; (first | subst ea_ | (injection ea_ with ea_; subst ea_)); subst ec_; clear en_))
                  have GB16 := aM gb16; have GG16 := aM HG16; clear gb16 gl16 HG16
                  (first | simp only [add_plain] at hx167_0 | skip)
                  obtain ⟨hx16_0, hf16_0⟩ := Kd.R_celln false HO_7.out (x24_1 : Int) p16 q16; replace p16 := eq_true p16; replace q16 := eq_true q16; have HP18 := Kd.R_putg HO_7.out (x24_1 : Int) true
                  go_wp2_with (first | ((with_reducible refine gate_store (t := 4) (p := 33) rfl ?_); refine store_event (t := 4) (p := 33) (v := ?vo_w19) (w1 := (wr.setCell ⟨go16, (x24_1 : Int).toNat, none⟩ (.bool true))) ?hg ?ho ?hn ?hr ?_; (case ho => rfl); (case hg => rfl); (case hn => rfl); (case hr => first | (go_simp; done) | (go_simp; rfl)); intro w19 hw; have hg : wr.grownBy w19 (some go16) := (by rw [hw]; exact HP18.2); have hp_ : Kd.R Kd.bool 4 w19 w.heap.size (fun _ => True) (.slice (some ⟨go16, 0, none⟩) x7_1.length co17) y168 := (by rw [hw, Ny168.out]; exact HP18.1); clear HP18; replace HO_8 := aM (Kd.S_over' (v := (.slice (some ⟨go16, 0, none⟩) x7_1.length co17)) (zS HO_8) (Kd.R_typed HO_7.out) (by decide) hg); replace HO_7 := aM (hp_); replace HB := aM ((by rw [hw]; exact below_set (HB.out) GB16.out : Below w.heap.size w w19)); clear hg hw hp_) | ((with_reducible refine gate_dst (N := 35) rfl ?_); refine Kd.R_lit (Kd.int .i64) _ 3 ?hg (N := 35) ?hd (xs := ([x24_1] : List Int)) (inner := [.int .i64 x24_1]) (ok := fun _ => True) (okp := fun _ => True) ?hr ?hp (fun _ hk => hk) trivial (Below.refl _ _) (Nat.le_refl _) (by simp) ?_; (case hd => rfl); (case hg => rfl); (case hr => first | (go_simp; done) | (go_simp; rfl)); (case hp => exact (Reps.one (show Kd.M (Kd.int .i64) _ _ _ x24_1 [.int .i64 x24_1] from rfl) (Reps.none _ _))); intro v170 w20 ho21 hb hg_ hnew_; clear hg_ hnew_; (first | rw [← Ny169.out] at ho21 | (simp only [Int.reduceToNat] at ho21; rw [← Ny169.out] at ho21)); replace HO_7 := aM (Kd.R_below (zR HO_7) hb); replace HO_8 := aM (Kd.S_elder' (zS HO_8) (Kd.R_base ho21) hb); have HO171 := aM (Kd.R_lower ho21 (below_size zz110)); replace HB := aM (below_step zz110 hb); clear hb ho21))
                  go_loopg [10, 11] k1 (fun kq v10 v11 w' => ∃ (x7_2 : List Bool) (x10_2 : List Int) (x11_2 : Int), v11 = .int .i64 x11_2 ∧ Aside0 (perm_Orbits.l1 kq l1 x7_2 x8_1 x10_2 x11_2 a0 x24_1 = some (r1, r2)) ∧ Aside0 (kq ≤ k1) ∧ Aside0 (Kd.R Kd.bool 4 w' w.heap.size (fun _ => True) (.slice (some ⟨go16, 0, none⟩) x7_1.length co17) x7_2) ∧ Aside0 (Kd.S (Kd.slice 3 (Kd.int .i64)) 22 w' w.heap.size (fun k_ => some k_ ≠ (v10 : Value).ownBlock) u8 x8_1) ∧ Aside0 (Kd.R (Kd.int .i64) 3 w' w.heap.size (fun _ => True) v10 x10_2) ∧ Aside0 (Below w.heap.size w w'))
                  case atStart => exact ⟨(y168), (y169), (0), zz136, H', ⟨Nat.le_refl _⟩, ⟨(zR HO_7)⟩, ⟨(by (with_reducible repeat (first | apply Kd.S_alloc | apply Kd.S_drewN | apply Kd.S_drew)); exact Kd.S_mono HO_8.out (fun _ hk => hk.2))⟩, ⟨(zR HO171)⟩, ⟨zz110⟩⟩
                  case round =>
                    clear H'; (try clear c1); (try clear p1); (try clear q1); (try clear hx1); (try clear c2); (try clear p2); (try clear c4); (try clear c4b0); (try clear c4b1); (try clear c5); (try clear c5b0); (try clear c5b1); (try clear c6); (try clear c6b0); (try clear c6b1); (try clear p6); (try clear c10); (try clear c10b0); (try clear c11); (try clear c11b0); (try clear c12); (try clear c12b0); (try clear q13); (try clear c14); (try clear p16); (try clear q16); (try clear hx16); (try clear hf16); (try clear hx167_0); (try clear hx16_0); (try clear p16); (try clear p167); (try clear p2); (try clear q16); (try clear q167); obtain ⟨x7_2, x10_2, x11_2, rfl, HA, HK2, HO_7, HO_8, HO_10, HB⟩ := hrel; have hl7_2 := (Kd.R_reads' HO_7.out).1; rw [hl7_2] at HO_7
                    (try simp only [hl7_2])
                    (try simp only [hl7_2] at HO_8)
                    (try simp only [hl7_2] at HO_10)
                    cases gk with
                    | zero => exact absurd HA.out (by simp [perm_Orbits.l1])
                    | succ k2 =>
                      have H := HA.out; clear HA; simp only [perm_Orbits.l1] at H
                      by_cases c22 : x11_2 < (x10_2.length : Int)
                      · rw [if_pos c22] at H; have c22b0 := decide_eq_true c22; clear c22; have H' := aM H; clear H; obtain ⟨Ao23, co23, eo23⟩ := Kd.R_slice HO_10.out; subst eo23; go_wp2
                        go_loopg [10, 44] k2 (fun kq v10 v44 w' => ∃ (x7_3 : List Bool) (x10_3 : List Int) (x44_3 : Int), v44 = .int .i64 x44_3 ∧ Aside0 (perm_Orbits.l2 kq l1 x7_3 x8_1 x10_3 x11_2 a0 x24_1 l1 (l1.length : Int) x44_3 = some (r1, r2)) ∧ Aside0 (kq ≤ k2) ∧ Aside0 (Kd.R Kd.bool 4 w' w.heap.size (fun _ => True) (.slice (some ⟨go16, 0, none⟩) x7_2.length co17) x7_3) ∧ Aside0 (Kd.S (Kd.slice 3 (Kd.int .i64)) 22 w' w.heap.size (fun k_ => some k_ ≠ (v10 : Value).ownBlock) u8 x8_1) ∧ Aside0 (Kd.R (Kd.int .i64) 3 w' w.heap.size (fun _ => True) v10 x10_3) ∧ Aside0 (Below w.heap.size w w'))
                        case atStart => exact ⟨(x7_2), (x10_2), (0), zz136, H', ⟨Nat.le_refl _⟩, ⟨zz111⟩, ⟨(by (try simp only [hl7_2]); (with_reducible repeat (first | apply Kd.S_alloc | apply Kd.S_drewN | apply Kd.S_drew)); exact HO_8.out)⟩, ⟨(by (try simp only [hl7_2]); (with_reducible repeat (first | apply Kd.R_alloc | apply Kd.R_drewN | apply Kd.R_drew)); exact HO_10.out)⟩, ⟨zz110⟩⟩
                        case round =>
                          clear H'; (try clear c1); (try clear p1); (try clear q1); (try clear hx1); (try clear c2); (try clear p2); (try clear c4); (try clear c4b0); (try clear c4b1); (try clear c5); (try clear c5b0); (try clear c5b1); (try clear c6); (try clear c6b0); (try clear c6b1); (try clear p6); (try clear c10); (try clear c10b0); (try clear c11); (try clear c11b0); (try clear c12); (try clear c12b0); (try clear q13); (try clear c14); (try clear p16); (try clear q16); (try clear hx16); (try clear hf16); (try clear c22); (try clear c22b0); (try clear hx167_0); (try clear hx16_0); (try clear p1); (try clear p16); (try clear p167); (try clear p2); (try clear p6); (try clear q1); (try clear q13); (try clear q16); (try clear q167); obtain ⟨x7_3, x10_3, x44_3, rfl, HA, HK3, HO_7, HO_8, HO_10, HB⟩ := hrel; have hl7_3 := (Kd.R_reads' HO_7.out).1; rw [hl7_3] at HO_7
                          (try simp only [hl7_3])
                          (try simp only [hl7_3] at HO_8)
                          (try simp only [hl7_3] at HO_10)
                          cases gk with
                          | zero => exact absurd HA.out (by simp [perm_Orbits.l2])
                          | succ k3 =>
                            have H := HA.out; clear HA; simp only [perm_Orbits.l2] at H
                            by_cases c24 : x44_3 < (l1.length : Int)
                            · rw [if_pos c24] at H; have c24b0 := decide_eq_true c24; clear c24
                              by_cases c25 : 0 ≤ x44_3
                              · rw [if_pos c25] at H; have c25b0 := decide_eq_true c25; clear c25
                                by_cases c26 : x44_3 < (l1.length : Int)
                                · rw [if_pos c26] at H; have c26b0 := decide_eq_true c26; clear c26
                                  by_cases c27 : 0 ≤ x11_2
                                  · rw [if_pos c27] at H; have c27b0 := decide_eq_true c27; clear c27
                                    by_cases c28 : x11_2 < (x10_3.length : Int)
                                    · rw [if_pos c28] at H; have c28b0 := decide_eq_true c28; clear c28
                                      by_cases c29 : 0 ≤ (rd x10_3 x11_2)
                                      · rw [if_pos c29] at H; have c29b0 := decide_eq_true c29; clear c29
                                        by_cases c30 : (rd x10_3 x11_2) < ((rd_L1 l1 x44_3).length : Int)
                                        · rw [if_pos c30] at H; have c30b0 := decide_eq_true c30; clear c30
                                          by_cases c31 : 0 ≤ (rd (rd_L1 l1 x44_3) (rd x10_3 x11_2))
                                          · rw [if_pos c31] at H; have c31b0 := decide_eq_true c31; clear c31
                                            by_cases c32 : (rd (rd_L1 l1 x44_3) (rd x10_3 x11_2)) < (x7_3.length : Int)
                                            · rw [if_pos c32] at H; have c32b0 := decide_eq_true c32; clear c32; obtain ⟨bq33, hbq33⟩ : ∃ b_ : Bool, b_ = (rdOf false x7_3 (rd (rd_L1 l1 x44_3) (rd x10_3 x11_2))) := ⟨_, rfl⟩; replace H : (if (bq33 = true) then (perm_Orbits.l2 k3 l1 x7_3 x8_1 x10_3 x11_2 a0 x24_1 l1 (l1.length : Int) (wrap64 (x44_3 + 1))) else (if x10_3.length < 17592186044416 then (perm_Orbits.l2 k3 l1 (x7_3.set ((rd (rd_L1 l1 x44_3) (rd x10_3 x11_2)) : Int).toNat true) x8_1 (x10_3 ++ [rd (rd_L1 l1 x44_3) (rd x10_3 x11_2)]) x11_2 a0 x24_1 l1 (l1.length : Int) (wrap64 (x44_3 + 1))) else (none))) = some (r1, r2) := by rw [← hbq33] at H; exact H
                                              have Nbq33 := aM hbq33; clear hbq33
                                              by_cases c34 : (bq33 = true)
                                              · subst c34; have H1 : (perm_Orbits.l2 k3 l1 x7_3 x8_1 x10_3 x11_2 a0 x24_1 l1 (l1.length : Int) (wrap64 (x44_3 + 1))) = some (r1, r2) := by rw [if_pos rfl] at H; exact H
                                                clear H; have H := H1; clear H1; have H' := aM H; clear H; have p176 : 0 ≤ (x44_3 : Int) := of_decide_eq_true zz135; have q176 : x44_3 < (l1.length : Int) := of_decide_eq_true zz135; obtain ⟨ad176, A176_0, c176_0, e176, hx176_0, hl176_0, hi176_0⟩ := at_L1 HR1.out x44_3 p176 q176
                                                cases e176; replace hx176_0 := (HB.out.cell (World.block_lt_of_cell? w _ hx176_0)).trans hx176_0; have HR176_0 := aM hi176_0; have HC176_0 := aM hl176_0; clear hi176_0 hl176_0; replace p176 := eq_true p176; replace q176 := eq_true q176; obtain ⟨Ao35, co35, eo35⟩ := Kd.R_slice HO_10.out; subst eo35; have p177 : 0 ≤ (x11_2 : Int) := of_decide_eq_true zz135; have q177 : x11_2 < (x10_3.length : Int) := of_decide_eq_true zz135; obtain ⟨ad177, e177, hx177_0⟩ := Kd.at_int (Kd.R_reads' HO_10.out).2.2 x11_2 p177 q177
                                                cases e177; replace p177 := eq_true p177; replace q177 := eq_true q177; have p178 : 0 ≤ ((rd x10_3 x11_2) : Int) := of_decide_eq_true zz135; have q178 : (rd x10_3 x11_2) < ((rd_L1 l1 x44_3).length : Int) := of_decide_eq_true zz135; obtain ⟨ad178, e178, hx178_0⟩ := Kd.at_int HR176_0.out (rd x10_3 x11_2) p178 q178
                                                cases e178; replace hx178_0 := (HB.out.cell (World.block_lt_of_cell? w _ hx178_0)).trans hx178_0; replace p178 := eq_true p178; replace q178 := eq_true q178; have p179 : 0 ≤ ((rd (rd_L1 l1 x44_3) (rd x10_3 x11_2)) : Int) := of_decide_eq_true zz135; have q179 : (rd (rd_L1 l1 x44_3) (rd x10_3 x11_2)) < (x7_3.length : Int) := of_decide_eq_true zz135; obtain ⟨ad179, e179, hx179_0⟩ := Kd.at_bool (Kd.R_reads' HO_7.out).2.2 (rd (rd_L1 l1 x44_3) (rd x10_3 x11_2)) p179 q179
                                                (try rw [← Nbq13.out] at hx179_0)
                                                (try rw [← Nbq33.out] at hx179_0)
                                                obtain rfl : (⟨go16, 0, none⟩ : Addr) = ad179 := (by injection e179)
                                                (first | simp only [add_plain] at hx179_0 | simp only [add_at] at hx179_0 | simp only [Addr.add, Nat.zero_add] at hx179_0 | skip)
                                                replace p179 := eq_true p179; replace q179 := eq_true q179; go_wp2
                                                (try simp only [← hl7_3])
                                                go_roundg k3
                                                case measure => have := HK1.out; have := HK2.out; have := HK3.out; omega
                                                case rel => exact ⟨(x7_3), (x10_3), (wrap64 (x44_3 + 1)), zz136, H', ⟨zz133⟩, ⟨zz101⟩, ⟨zz102⟩, ⟨zz100⟩, ⟨zz110⟩⟩
                                              replace c34 := Bool.eq_false_iff.mpr c34; subst c34; have H1 : (if x10_3.length < 17592186044416 then (perm_Orbits.l2 k3 l1 (x7_3.set ((rd (rd_L1 l1 x44_3) (rd x10_3 x11_2)) : Int).toNat true) x8_1 (x10_3 ++ [rd (rd_L1 l1 x44_3) (rd x10_3 x11_2)]) x11_2 a0 x24_1 l1 (l1.length : Int) (wrap64 (x44_3 + 1))) else (none)) = some (r1, r2) := by rw [if_neg (show ¬ (false = true) by decide)] at H; exact H
                                              clear H; have H := H1; clear H1; obtain ⟨y180, hy180⟩ : ∃ y_ : List Bool, y_ = (x7_3.set ((rd (rd_L1 l1 x44_3) (rd x10_3 x11_2)) : Int).toNat true) := ⟨_, rfl⟩; replace H : (if x10_3.length < 17592186044416 then (perm_Orbits.l2 k3 l1 y180 x8_1 (x10_3 ++ [rd (rd_L1 l1 x44_3) (rd x10_3 x11_2)]) x11_2 a0 x24_1 l1 (l1.length : Int) (wrap64 (x44_3 + 1))) else (none)) = some (r1, r2) := by first | (rw [hy180]; with_reducible exact H) | (have H2_ := (Option.bind_some _ _).symm.trans H; rw [hy180]; with_reducible exact H2_) | (have H2_ := (Option.bind_some _ _).symm.trans H; with_reducible exact H2_) | with_reducible exact H | (rw [hy180]; exact H) | exact H
                                              have Ny180 := aM hy180; clear hy180
                                              by_cases c37 : x10_3.length < 17592186044416
                                              · rw [if_pos c37] at H; have LMc37 := aM c37; clear c37; obtain ⟨y181, hy181⟩ : ∃ y_ : List Int, y_ = (x10_3 ++ [rd (rd_L1 l1 x44_3) (rd x10_3 x11_2)]) := ⟨_, rfl⟩; replace H : (perm_Orbits.l2 k3 l1 y180 x8_1 y181 x11_2 a0 x24_1 l1 (l1.length : Int) (wrap64 (x44_3 + 1))) = some (r1, r2) := by first | (rw [hy181]; with_reducible exact H) | (have H2_ := (Option.bind_some _ _).symm.trans H; rw [hy181]; with_reducible exact H2_) | (have H2_ := (Option.bind_some _ _).symm.trans H; with_reducible exact H2_) | with_reducible exact H | (rw [hy181]; exact H) | exact H
                                                have Ny181 := aM hy181; clear hy181; have H' := aM H; clear H; have p176 : 0 ≤ (x44_3 : Int) := of_decide_eq_true zz135; have q176 : x44_3 < (l1.length : Int) := of_decide_eq_true zz135; obtain ⟨ad176, A176_0, c176_0, e176, hx176_0, hl176_0, hi176_0⟩ := at_L1 HR1.out x44_3 p176 q176
                                                cases e176; replace hx176_0 := (HB.out.cell (World.block_lt_of_cell? w _ hx176_0)).trans hx176_0; have HR176_0 := aM hi176_0; have HC176_0 := aM hl176_0; clear hi176_0 hl176_0; replace p176 := eq_true p176; replace q176 := eq_true q176; obtain ⟨Ao38, co38, eo38⟩ := Kd.R_slice HO_10.out; subst eo38; have p177 : 0 ≤ (x11_2 : Int) := of_decide_eq_true zz135; have q177 : x11_2 < (x10_3.length : Int) := of_decide_eq_true zz135; obtain ⟨ad177, e177, hx177_0⟩ := Kd.at_int (Kd.R_reads' HO_10.out).2.2 x11_2 p177 q177
                                                cases e177; replace p177 := eq_true p177; replace q177 := eq_true q177; have p178 : 0 ≤ ((rd x10_3 x11_2) : Int) := of_decide_eq_true zz135; have q178 : (rd x10_3 x11_2) < ((rd_L1 l1 x44_3).length : Int) := of_decide_eq_true zz135; obtain ⟨ad178, e178, hx178_0⟩ := Kd.at_int HR176_0.out (rd x10_3 x11_2) p178 q178
                                                cases e178; replace hx178_0 := (HB.out.cell (World.block_lt_of_cell? w _ hx178_0)).trans hx178_0; replace p178 := eq_true p178; replace q178 := eq_true q178; have p179 : 0 ≤ ((rd (rd_L1 l1 x44_3) (rd x10_3 x11_2)) : Int) := of_decide_eq_true zz135; have q179 : (rd (rd_L1 l1 x44_3) (rd x10_3 x11_2)) < (x7_3.length : Int) := of_decide_eq_true zz135; obtain ⟨ad179, e179, hx179_0⟩ := Kd.at_bool (Kd.R_reads' HO_7.out).2.2 (rd (rd_L1 l1 x44_3) (rd x10_3 x11_2)) p179 q179
                                                (try rw [← Nbq13.out] at hx179_0)
                                                (try rw [← Nbq33.out] at hx179_0)
                                                obtain rfl : (⟨go16, 0, none⟩ : Addr) = ad179 := (by injection e179)
                                                (first | simp only [add_plain] at hx179_0 | simp only [add_at] at hx179_0 | simp only [Addr.add, Nat.zero_add] at hx179_0 | skip)
                                                replace p179 := eq_true p179; replace q179 := eq_true q179; have p36 : 0 ≤ ((rd (rd_L1 l1 x44_3) (rd x10_3 x11_2)) : Int) := of_decide_eq_true zz135; have q36 : ((rd (rd_L1 l1 x44_3) (rd x10_3 x11_2)) : Int) < ((x7_3.length : Int) : Int) := of_decide_eq_true zz135; obtain ⟨hx36_0, hf36_0⟩ := Kd.R_celln false HO_7.out ((rd (rd_L1 l1 x44_3) (rd x10_3 x11_2)) : Int) p36 q36; replace p36 := eq_true p36; replace q36 := eq_true q36; have HP39 := Kd.R_putg HO_7.out ((rd (rd_L1 l1 x44_3) (rd x10_3 x11_2)) : Int) true
                                                go_wp2_with (first | ((with_reducible refine gate_store (t := 4) (p := 62) rfl ?_); refine store_event (t := 4) (p := 62) (v := ?vo_w40) (w1 := (wr.setCell ⟨go16, ((rd (rd_L1 l1 x44_3) (rd x10_3 x11_2)) : Int).toNat, none⟩ (.bool true))) ?hg ?ho ?hn ?hr ?_; (case ho => rfl); (case hg => rfl); (case hn => rfl); (case hr => first | (go_simp; done) | (go_simp; rfl)); intro w40 hw; have hg : wr.grownBy w40 (some go16) := (by rw [hw]; exact HP39.2); have hp_ : Kd.R Kd.bool 4 w40 w.heap.size (fun _ => True) (.slice (some ⟨go16, 0, none⟩) x7_3.length co17) y180 := (by rw [hw, Ny180.out]; exact HP39.1); clear HP39; replace HO_8 := aM (Kd.S_over' (v := (.slice (some ⟨go16, 0, none⟩) x7_3.length co17)) (zS HO_8) (Kd.R_typed HO_7.out) (by decide) hg); replace HO_10 := aM (Kd.R_over' (v := (.slice (some ⟨go16, 0, none⟩) x7_3.length co17)) (zR HO_10) (Kd.R_typed HO_7.out) (by decide) hg); replace HO_7 := aM (hp_); replace HB := aM ((by rw [hw]; exact below_set (HB.out) GB16.out : Below w.heap.size w w40)); clear hg hw hp_) | ((with_reducible refine gate_builtin (b := .append) (xs := #[.tmp 63, .tmp 65]) rfl ?_); at_builtin; refine Kd.R_append (Kd.int .i64) (w0 := w) w.heap.size rfl (.tmp 63) (.tmp 65) 22 3 (.int .i64 0) 8 rfl Try.underlying22 info3 rfl (by decide) (by omega) (.slice (some ad177) x10_3.length co38) x10_3 (rd (rd_L1 l1 x44_3) (rd x10_3 x11_2)) [.int .i64 (rd (rd_L1 l1 x44_3) (rd x10_3 x11_2))] (fun _ => True) (fun _ => False) rfl rfl ?aP (fun _ hk => hk.elim) ?aF ?aO ?aB ?aS ?aL ?_; (case aP => exact rfl); (case aB => exact zz110); (case aF => exact (fun _ _ => trivial)); (case aO => exact (zR HO_10)); (case aS => exact (below_size zz110)); (case aL => have := LMc37.out; omega); intro v182 w41 ho hb hg hat; rw [← Ny181.out] at ho; replace HO_7 := aM (Kd.R_over' (zR HO_7) (Kd.R_typed (zR HO_10)) (by decide) hg); replace HO_8 := aM (Kd.S_after (ok := (fun _ => True)) (by (with_reducible repeat (first | apply Kd.S_alloc | apply Kd.S_drewN | apply Kd.S_drew)); exact Kd.S_mono HO_8.out (fun _ hk => ⟨trivial, hk⟩)) hg hat); replace HB := aM (hb); have HO183 := aM (ho); clear HO_10; clear ho hb hg hat))
                                                (try simp only [← hl7_3])
                                                go_roundg k3
                                                case measure => have := HK1.out; have := HK2.out; have := HK3.out; omega
                                                case rel => exact ⟨(y180), (y181), (wrap64 (x44_3 + 1)), zz136, H', ⟨zz133⟩, ⟨zz101⟩, ⟨(by (try simp only [hl7_2]); (try simp only [hl7_3]); (with_reducible repeat (first | apply Kd.S_alloc | apply Kd.S_drewN | apply Kd.S_drew)); exact Kd.S_mono HO_8.out (fun _ hk => hk.2))⟩, ⟨(by (try simp only [hl7_2]); (try simp only [hl7_3]); (with_reducible repeat (first | apply Kd.R_alloc | apply Kd.R_drewN | apply Kd.R_drew)); exact HO183.out)⟩, ⟨zz110⟩⟩
                                              rw [if_neg c37] at H
                                              exact absurd H (by simp)
                                            rw [if_neg c32] at H
                                            exact absurd H (by simp)
                                          rw [if_neg c31] at H
                                          exact absurd H (by simp)
                                        rw [if_neg c30] at H
                                        exact absurd H (by simp)
                                      rw [if_neg c29] at H
                                      exact absurd H (by simp)
                                    rw [if_neg c28] at H
                                    exact absurd H (by simp)
                                  rw [if_neg c27] at H
                                  exact absurd H (by simp)
                                rw [if_neg c26] at H
                                exact absurd H (by simp)
                              rw [if_neg c25] at H
                              exact absurd H (by simp)
                            rw [if_neg c24] at H; have c24b0 := decide_eq_false c24; clear c24; have H' := aM H; clear H; go_wp2
                            (try simp only [← hl7_2, ← hl7_3])
                            go_roundg k3
                            case measure => have := HK1.out; have := HK2.out; have := HK3.out; omega
                            case rel => exact ⟨(x7_3), (x10_3), (wrap64 (x11_2 + 1)), zz136, H', ⟨zz133⟩, ⟨zz101⟩, ⟨zz102⟩, ⟨zz100⟩, ⟨zz110⟩⟩
                      rw [if_neg c22] at H; have c22b0 := decide_eq_false c22; clear c22; replace H := Option.bind_eq_some_iff.mp H; obtain ⟨t172, A420, H⟩ := H; replace H : (if x8_1.length < 5864062014805 then (perm_Orbits.l0 k2 l1 x7_2 (x8_1 ++ [t172]) a0 (wrap64 (x24_1 + 1))) else (none)) = some (r1, r2) := H; have A42 := aM A420; clear A420
                      by_cases c43 : x8_1.length < 5864062014805
                      · rw [if_pos c43] at H; have LMc43 := aM c43; clear c43; obtain ⟨y173, hy173⟩ : ∃ y_ : List (List Int), y_ = (x8_1 ++ [t172]) := ⟨_, rfl⟩; replace H : (perm_Orbits.l0 k2 l1 x7_2 y173 a0 (wrap64 (x24_1 + 1))) = some (r1, r2) := by first | (rw [hy173]; with_reducible exact H) | (have H2_ := (Option.bind_some _ _).symm.trans H; rw [hy173]; with_reducible exact H2_) | (have H2_ := (Option.bind_some _ _).symm.trans H; with_reducible exact H2_) | with_reducible exact H | (rw [hy173]; exact H) | exact H
                        have Ny173 := aM hy173; clear hy173; have H' := aM H; clear H; obtain ⟨Ao44, co44, eo44⟩ := Kd.R_slice HO_10.out; subst eo44
                        go_wp2_with (first | ((with_reducible refine gate_callee (f := 58) rfl ?_); refine goesL_ (some 69) rfl rfl Try.func58 (by kernel_rfl) rfl #[.slice Ao44 x10_2.length co44] rfl zz109 ?_; (with_reducible refine (slSort.calls (fun k_ => some k_ = (.slice Ao44 x10_2.length co44 : Value).ownBlock) (.slice Ao44 x10_2.length co44) x10_2 t172 w _ ?side1 ?side2 A42.out).mono ?_); (case side1 => repeat (first | (with_reducible first | exact HB.out | apply below_alloc | apply pw_below_drewN | apply below_drew1) | exact HB.out)); (case side2 => exact Kd.R_tight rfl HO_10.out); rintro e w45 ⟨rfl, hy0, hb, hkp⟩; refine ⟨_, rfl, ?_⟩; replace HO_7 := aM (Kd.R_mono (ok' := fun k_ => True) (Kd.R_keptB ((Kd.R_apart' HO_7.out (Kd.R_typed HO_10.out) (by decide))) hkp (fun k_ hk_ hs_ => (hk_.2) hs_)) (fun k_ hk_ => trivial)); replace HO_8 := aM (Kd.S_mono (ok' := fun k_ => some k_ ≠ (.slice Ao44 x10_2.length co44 : Value).ownBlock) (Kd.S_keptB (HO_8.out) hkp (fun k_ hk_ hs_ => (hk_) hs_)) (fun k_ hk_ => hk_.1)); replace HO_10 := aM (Kd.R_reok rfl hy0 (fun k_ e_ => HO_10.out.1 k_ e_)); replace HB := aM (hb); (try clear hb); (try clear hkp); (try clear hy0)) | ((with_reducible refine gate_builtin (b := .append) (xs := #[.tmp 70, .tmp 72]) rfl ?_); at_builtin; refine Kd.S_append (Kd.slice 3 (Kd.int .i64)) (w0 := w) w.heap.size rfl (.tmp 70) (.tmp 72) 28 22 (.slice none 0 0) 24 rfl Try.underlying28 info22 rfl (by decide) (by omega) u8 x8_1 t172 [.slice Ao44 x10_2.length co44] (fun _ => True) (fun k_ => some k_ = (.slice Ao44 x10_2.length co44 : Value).ownBlock) rfl rfl ?aP (fun k_ hk_ => ((Kd.R_mono (ok' := fun k_ => ((fun _ => True)) k_ ∧ some k_ ≠ (u8 : Value).ownBlock) (Kd.R_apart' (HO_10.out) (Kd.S_typed HO_8.out) (by decide)) (fun k_ hk => ⟨trivial, hk.2⟩))).1 k_ hk_.symm) ?aF ?aO ?aB ?aS ?aL ?_; (case aP => exact Kd.M_row (Kd.R_mono (Kd.R_tight rfl (Kd.R_mono (ok' := fun k_ => ((fun _ => True)) k_ ∧ some k_ ≠ (u8 : Value).ownBlock) (Kd.R_apart' (HO_10.out) (Kd.S_typed HO_8.out) (by decide)) (fun k_ hk => ⟨trivial, hk.2⟩))) (fun _ h_ => h_))); (case aB => exact zz110); (case aF => exact (fun _ _ => trivial)); (case aO => exact (by (with_reducible repeat (first | apply Kd.S_alloc | apply Kd.S_drewN | apply Kd.S_drew)); exact Kd.S_mono HO_8.out (fun k_ hk => ⟨trivial, fun e_ => hk e_⟩))); (case aS => exact (below_size zz110)); (case aL => have := LMc43.out; omega); intro v174 w46 ho hb hg hat; rw [← Ny173.out] at ho; replace HO_7 := aM (Kd.R_over' (zR HO_7) (Kd.S_typed (zS HO_8)) (by decide) hg); replace HB := aM (hb); have HO175 := aM (ho); clear HO_8 HO_10; clear ho hb hg hat))
                        (try simp only [← hl7_2])
                        go_roundg k2
                        case measure => have := HK1.out; have := HK2.out; omega
                        case rel => exact ⟨(x7_2), (y173), (wrap64 (x24_1 + 1)), zz136, H', ⟨zz137⟩, ⟨zz111⟩, ⟨(by (try simp only [hl7_2]); (with_reducible repeat (first | apply Kd.S_alloc | apply Kd.S_drewN | apply Kd.S_drew)); exact HO175.out)⟩, ⟨zz110⟩⟩
                      rw [if_neg c43] at H
                      exact absurd H (by simp)
                rw [if_neg c12] at H
                exact absurd H (by simp)
              rw [if_neg c11] at H
              exact absurd H (by simp)
            rw [if_neg c10] at H; have c10b0 := decide_eq_false c10; clear c10; simp only [Option.some.injEq, Prod.mk.injEq] at H; obtain ⟨rfl, rfl⟩ := H; go_wp2
            go_ret2
            exact ⟨_, by first | rfl | (simp [errW_none, errW_some] <;> rfl) | (simp [*, errW_none, errW_some] <;> rfl), by (with_reducible repeat (first | apply Kd.S_alloc | apply Kd.S_drewN | apply Kd.S_drew)); exact HO_8.out, by repeat (first | (with_reducible first | exact HB.out | apply below_alloc | apply pw_below_drewN | apply below_drew1) | exact HB.out)⟩
      rw [if_neg c6] at H
      exact absurd H (by simp)
    rw [if_neg c5] at H
    exact absurd H (by simp)
  rw [if_neg c4] at H
  have c4b0 := beq_eq_false_iff_ne.mpr c4
  have c4b1 := bne_iff_ne.mpr c4
  simp only [Option.some.injEq, Prod.mk.injEq] at H
  obtain ⟨rfl, rfl⟩ := H
  go_enter Try.func28, Try.ntmps28
  go_wp2_with (first | ((with_reducible refine gate_callee (f := 57) rfl ?_); refine goesL_ (some 17) rfl rfl Try.func57 (by kernel_rfl) rfl #[.int .i64 a0, .slice A1 l1.length c1] rfl zz109 ?_; (with_reducible refine (perm_generators.calls a0 _ _ l1 t163 _ ?side1 ?side2 A3.out).mono ?_); (case side1 => repeat (first | exact HR1.out | (with_reducible refine Kd.C_alloc ?_ _) | (with_reducible refine Kd.C_drewN ?_ _) | (with_reducible refine Kd.C_drew ?_))); (case side2 => exact HC1.out); rintro e w47 ⟨rfl, hb⟩; refine ⟨_, rfl, ?_⟩; replace HB := aM (below_step zz110 hb); (try clear hb); (try clear hb2); (try clear hk); (try clear hi)))
  go_ret2
  exact ⟨_, by first | rfl | (simp [errW_none, errW_some] <;> rfl) | (simp [*, errW_none, errW_some] <;> rfl), by first | exact Kd.S_nil _ _ _ _ _ | exact Kd.N_nil _ _ _ _ _ | exact Kd.V_nil _ _ _ _ _ | exact Kd.Q_nil _ _ _ _ _ | exact Kd.R_nil _ _ _ _ _, by repeat (first | (with_reducible first | exact HB.out | apply below_alloc | apply pw_below_drewN | apply below_drew1) | exact HB.out)⟩
end
section
def shortL (l : List Int) : List Int := (l.reverse.dropWhile (fun x => x == 0)).reverse
def nat_short.f (l0 : List Int) : Option (List Int) := some (shortL l0)
theorem shortL_snoc0 (l : List Int) : shortL (l ++ [0]) = shortL l := by simp [shortL]
theorem shortL_snoc (l : List Int) {x : Int} (h : x ≠ 0) : shortL (l ++ [x]) = l ++ [x] := by simp [shortL, h]
theorem shortL_take0 (l : List Int) {n : Nat} (hn : n < l.length) (h : rd l (n : Int) = 0) : shortL (l.take (n + 1)) = shortL (l.take n) := by
  have h1 : l[n] = 0 := by simpa [rd, List.getD_eq_getElem?_getD, hn] using h
  rw [List.take_succ_eq_append_getElem hn, h1, shortL_snoc0]
theorem shortL_take (l : List Int) {n : Nat} (hn : n < l.length) (h : rd l (n : Int) ≠ 0) : shortL (l.take (n + 1)) = l.take (n + 1) := by
  have h1 : l[n] ≠ 0 := by simpa [rd, List.getD_eq_getElem?_getD, hn] using h
  rw [List.take_succ_eq_append_getElem hn, shortL_snoc _ h1]
theorem short_slice3 (t e : TypeId) (kl : IntKind) {i : TypeInfo} (ht : Try.prog.underlying t = some (.slice e)) (hi : Try.prog.info? e = some i) (hsz : i.size = 1) (A : Option Addr) (c len : Nat) (n : Nat) (hc : n ≤ c) :
    ∀ W : World, (Instr.slice t (.slice A len c) none (some (.int kl (n : Int))) (some (.int kl (n : Int)))).run Try.prog W = .ok (.slice A n n) W := by
  intro W
  have hel : Try.prog.elem t = e := by simp [Program.elem, ht]
  have hu : Try.prog.underlying t = some (.slice (Try.prog.elem t)) := by rw [hel]; exact ht
  have ha : (A.map fun x => x.add 0) = A := by cases A <;> simp [Addr.add]
  rw [run_slice_hm W t A len c hu kl kl n n (by omega) (by omega) (by omega), hel]
  simp [sizeOf, typeInfo, hi, hsz, sliced, Result.andThen, ha]
theorem nat_short.calls (P0_ : Nat → Prop) (A0 : Option Addr) (c0 : Nat) (l0 : List Int) (r : List Int) (w : World) (hs0 : Kd.V (Kd.int .u32) 72 w w.heap.size (fun k_ => P0_ k_) (.slice A0 l0.length c0) l0) (h : nat_short.f l0 = some r) :
    Calls Try.prog 73 #[.slice A0 l0.length c0] w fun e w' => ∃ v0_ : Value, e = .returned (v0_) ∧ Kd.V (Kd.int .u32) 72 w' w.heap.size (fun k_ => (P0_ k_ ∨ w.heap.size ≤ k_)) v0_ r ∧ Below w.heap.size w w' := by
  have HS := aM hs0
  obtain ⟨_, hc, hC⟩ := Kd.V_reads' hs0
  have hlen : l0.length ≤ 9223372036854775807 := by have := hC.2.1; omega
  have HR0 := aM hC
  have HC0 := aM hc
  have HB := aM (Below.refl w.heap.size w)
  have HQ : Aside0 (shortL (l0.take l0.length) = r) := ⟨by rw [List.take_length]; exact Option.some.inj h⟩
  have HN := aM hlen
  clear h hs0 hc hC hlen
  go_enter Try.func73, Try.ntmps73
  go_wp2
  go_loopg [3] (l0.length + 1) (fun kq v3 w' => ∃ x3 : Int, v3 = .int .i64 x3 ∧ Aside0 (0 ≤ x3 ∧ x3.toNat < kq ∧ x3 ≤ l0.length) ∧ Aside0 (shortL (l0.take x3.toNat) = r) ∧ Aside0 (Below w.heap.size w w'))
  case atStart => exact ⟨(l0.length : Int), rfl, ⟨by omega⟩, by simpa using HQ, HB⟩
  case round =>
    clear HQ; obtain ⟨x3, rfl, HK1, HQ, HB⟩ := hrel
    cases gk with
    | zero => exact absurd HK1.out.2.1 (by omega)
    | succ k1 =>
      have HF : Aside0 (shortL (l0.take x3.toNat) = l0.take x3.toNat → ∀ W, Below w.heap.size w W → Kd.V (Kd.int .u32) 72 W w.heap.size (fun k_ => (P0_ k_ ∨ w.heap.size ≤ k_)) (.slice A0 x3.toNat x3.toNat) r) := by
        refine ⟨?_⟩; intro hq W hW; have hl : (l0.take x3.toNat).length = x3.toNat := by rw [List.length_take]; have := HK1.out; omega
        have := Kd.V_mk (e := 72) (base := w.heap.size) (c := x3.toNat) (by omega) (Kd.F_take (Kd.V_F HS.out) (m := x3.toNat) zz143); rw [hl] at this; rw [← HQ.out, hq]
        exact Kd.V_below (Kd.V_mono this (fun _ hk => .inl hk)) hW
      have hs : ∀ W : World, (Instr.slice 53 (.slice A0 l0.length c0) none (some (.int .i64 x3)) (some (.int .i64 x3))).run Try.prog W = .ok (.slice A0 x3.toNat x3.toNat) W := by
        have h0 := short_slice3 53 72 .i64 Try.underlying53 (info_parts info72).choose_spec.1 (info_parts info72).choose_spec.2.2.1 A0 c0 l0.length x3.toNat (by have := HK1.out; have := HC0.out; omega); rw [show ((x3.toNat : Nat) : Int) = x3 from by have := HK1.out; omega] at h0
        exact h0
      by_cases c2 : x3 > 0
      · have c2b0 : decide (0 < x3) = true := decide_eq_true c2; obtain ⟨ji3, hji3⟩ : ∃ j_ : Int, (wrap64 (x3 - 1)) = j_ := ⟨_, rfl⟩; have hji3w : (IntKind.i64.wrap (x3 - 1)) = ji3 := (i64_w _).trans hji3
        have hj : ji3 = x3 - 1 := by
          rw [← hji3]; have := HN.out; have := HK1.out; unfold wrap64; omega
        have p0 : (0 : Int) ≤ ji3 := by omega
        have q0 : ji3 < (l0.length : Int) := by have := HK1.out; omega
        obtain ⟨ad, e1, hx⟩ := Kd.at_int HR0.out ji3 p0 q0
        cases e1; replace hx := (HB.out.cell (World.block_lt_of_cell? w _ hx)).trans hx; have HJ := aM hj; replace p0 := eq_true p0; replace q0 := eq_true q0; clear hj c2
        by_cases c6 : rd l0 ji3 = 0
        · have c6b0 : (rd l0 ji3 == 0) = true := beq_iff_eq.mpr c6; have HZ := aM c6; clear c6; go_wp2
          go_roundg k1
          case measure => have := HK1.out; omega
          case rel => 
            have p0' : (0:Int) ≤ ji3 := of_eq_true p0; have hjn : x3.toNat = ji3.toNat + 1 := by have := HJ.out; omega
            refine ⟨ji3, (by first | rfl | (simp only [← hji3] <;> (first | rfl | simp)) | (simp [*]; done)), ⟨by have := HK1.out; have := HJ.out; omega⟩, ⟨?_⟩, ⟨by first | exact HB.out | exact pw_below_drewN HB.out _⟩⟩; rw [← HQ.out, hjn]
            exact (shortL_take0 l0 zz143 (by rw [show ((ji3.toNat : Nat) : Int) = ji3 from by omega]; exact HZ.out)).symm
        have c6b0 : (rd l0 ji3 == 0) = false := beq_eq_false_iff_ne.mpr c6; have hjn : x3.toNat = ji3.toNat + 1 := by have := HJ.out; have := of_eq_true p0; omega
        have HE : Aside0 (shortL (l0.take x3.toNat) = l0.take x3.toNat) := ⟨by rw [hjn]; exact shortL_take l0 (by have := HK1.out; have := HJ.out; have := of_eq_true p0; omega) (by rw [show ((ji3.toNat : Nat) : Int) = ji3 from by have := of_eq_true p0; omega]; exact c6)⟩; clear c6 hjn; go_wp2; go_ret
        exact ⟨_, rfl, HF.out HE.out _ (by first | exact HB.out | exact pw_below_drewN HB.out _), by first | exact HB.out | exact pw_below_drewN HB.out _⟩
      have c2b0 : decide (0 < x3) = false := decide_eq_false c2; have HE : Aside0 (shortL (l0.take x3.toNat) = l0.take x3.toNat) := ⟨by rw [show x3.toNat = 0 from by omega]; simp [shortL]⟩; clear c2; go_wp2; go_ret
      exact ⟨_, rfl, HF.out HE.out _ (by first | exact HB.out | exact pw_below_drewN HB.out _), by first | exact HB.out | exact pw_below_drewN HB.out _⟩
end
section
attribute [local go_sem] max2_int min2_int max_two min_two max_three min_three max_four min_four
mutual
def nat_times.l0 : Nat → List Int → List Int → List Int → Int → Int → Option (List Int)
  | 0, _, _, _, _, _ => none
  | k + 1, x1, x5, x18, x19, x20 => if x20 < x19 then (if 0 ≤ x20 then (if x20 < (x18.length : Int) then (nat_times.l1 k x1 x5 x20 (rd x18 x20) 0 x18 x19 x20 x1 (x1.length : Int) 0) else (none)) else (none)) else ((nat_short.f x5).bind fun t225 => (some t225))
def nat_times.l1 : Nat → List Int → List Int → Int → Int → Int → List Int → Int → Int → List Int → Int → Int → Option (List Int)
  | 0, _, _, _, _, _, _, _, _, _, _, _ => none
  | k + 1, x1, x5, x6, x7, x8, x18, x19, x20, x25, x26, x27 => if x27 < x26 then (if 0 ≤ x27 then (if x27 < (x25.length : Int) then (if 0 ≤ (wrap64 (x6 + x27)) then (if (wrap64 (x6 + x27)) < (x5.length : Int) then (nat_times.l1 k x1 (x5.set ((wrap64 (x6 + x27)) : Int).toNat ((IntKind.u64.wrap ((IntKind.u64.wrap ((IntKind.u64.wrap ((IntKind.u64.wrap (x7)) * (IntKind.u64.wrap (rd x25 x27)))) + (IntKind.u64.wrap (rd x5 (wrap64 (x6 + x27)))))) + x8)) % 4294967296)) x6 x7 ((IntKind.u64.wrap ((IntKind.u64.wrap ((IntKind.u64.wrap ((IntKind.u64.wrap (x7)) * (IntKind.u64.wrap (rd x25 x27)))) + (IntKind.u64.wrap (rd x5 (wrap64 (x6 + x27)))))) + x8)) / 4294967296) x18 x19 x20 x25 x26 (wrap64 (x27 + 1))) else (none)) else (none)) else (none)) else (none)) else (if 0 ≤ (wrap64 (x6 + (x1.length : Int))) then (if (wrap64 (x6 + (x1.length : Int))) < (x5.length : Int) then (nat_times.l0 k x1 (x5.set ((wrap64 (x6 + (x1.length : Int))) : Int).toNat ((x8) % 4294967296)) x18 x19 (wrap64 (x20 + 1))) else (none)) else (none))
end
def nat_times.f (k : Nat) (l0 : List Int) (l1 : List Int) : Option (List Int) := if 0 ≤ (wrap64 ((l0.length : Int) + (l1.length : Int))) then (if (wrap64 ((l0.length : Int) + (l1.length : Int)) : Int).toNat ≤ 70368744177664 then (nat_times.l0 k l1 (List.replicate (wrap64 ((l0.length : Int) + (l1.length : Int)) : Int).toNat 0) l0 (l0.length : Int) 0) else (none)) else (none)
theorem nat_times.calls (k : Nat) (A0 : Option Addr) (c0 : Nat) (l0 : List Int) (A1 : Option Addr) (c1 : Nat) (l1 : List Int) (r : List Int) (w : World) (hr0 : Kd.C (Kd.int .u32) w A0 l0.length l0) (hc0 : l0.length ≤ c0) (hr1 : Kd.C (Kd.int .u32) w A1 l1.length l1) (hc1 : l1.length ≤ c1) (h : nat_times.f k l0 l1 = some r) :
    Calls Try.prog 72 #[.slice A0 l0.length c0, .slice A1 l1.length c1] w fun e w' => ∃ v0_ : Value, e = .returned (v0_) ∧ Kd.V (Kd.int .u32) 72 w' w.heap.size (fun k_ => (w.heap.size ≤ k_)) v0_ r ∧ Below w.heap.size w w' := by
  have HR0 := aM hr0
  have HC0 := aM hc0
  clear hr0 hc0
  have HR1 := aM hr1
  have HC1 := aM hc1
  clear hr1 hc1
  have HB := aM (Below.refl w.heap.size w)
  have H : (if 0 ≤ (wrap64 ((l0.length : Int) + (l1.length : Int))) then (if (wrap64 ((l0.length : Int) + (l1.length : Int)) : Int).toNat ≤ 70368744177664 then (nat_times.l0 k l1 (List.replicate (wrap64 ((l0.length : Int) + (l1.length : Int)) : Int).toNat 0) l0 (l0.length : Int) 0) else (none)) else (none)) = some r := h
  clear h
  obtain ⟨ji3, hji3⟩ : ∃ j_ : Int, (wrap64 ((l0.length : Int) + (l1.length : Int))) = j_ := ⟨_, rfl⟩
  replace H : (if 0 ≤ (ji3) then (if (ji3 : Int).toNat ≤ 70368744177664 then (nat_times.l0 k l1 (List.replicate (ji3 : Int).toNat 0) l0 (l0.length : Int) 0) else (none)) else (none)) = some r := by first | (rw [hji3] at H; exact H) | (simp only [hji3] at H ⊢; exact H)
  have hji3w : (IntKind.i64.wrap ((l0.length : Int) + (l1.length : Int))) = ji3 := (i64_w _).trans hji3
  by_cases c4 : 0 ≤ (ji3)
  · rw [if_pos c4] at H
    have c4b0 := eq_true c4; have c4b1 := decide_eq_true c4; clear c4
    by_cases c5 : (ji3 : Int).toNat ≤ 70368744177664
    · rw [if_pos c5] at H; have c5b0 := eq_true c5; have c5b1 := decide_eq_true c5; clear c5; obtain ⟨y222, hy222⟩ : ∃ y_ : List Int, y_ = (List.replicate (ji3 : Int).toNat 0) := ⟨_, rfl⟩; replace H : (nat_times.l0 k l1 y222 l0 (l0.length : Int) 0) = some r := by first | (rw [hy222]; with_reducible exact H) | (have H2_ := (Option.bind_some _ _).symm.trans H; rw [hy222]; with_reducible exact H2_) | (have H2_ := (Option.bind_some _ _).symm.trans H; with_reducible exact H2_) | with_reducible exact H | (rw [hy222]; exact H) | exact H
      have Ny222 := aM hy222; clear hy222; have H' := aM H; clear H
      go_enter Try.func72, Try.ntmps72
      go_wp2_with (first | ((with_reducible refine gate_dst (N := 17) rfl ?_); refine Kd.R_make (Kd.int .u32) _ 72 rfl (N := 17) rfl 53 _ _ rfl ji3 rfl rfl Try.underlying53 (.int .u32 0) 4 info72 rfl (by decide) (by omega) 0 (ok := fun _ => True) (okp := fun _ => True) rfl (fun _ hk => hk) trivial (of_decide_eq_true zz135) (Nat.le_trans (Nat.mul_le_mul_right _ (of_decide_eq_true zz135 : ji3.toNat ≤ 70368744177664)) (by omega)) (Below.refl _ _) (Nat.le_refl _) ?_; intro v223 w6 ho7 hb hg_ hnew_; clear hg_ hnew_; (first | rw [← Ny222.out] at ho7 | (simp only [Int.reduceToNat] at ho7; rw [← Ny222.out] at ho7)); have HO224 := aM (Kd.R_lower (Kd.R_newM (M := fun k_ => (w.heap.size ≤ k_)) ho7 (below_size zz110) (fun k_ h_ => h_)) (below_size zz110)); replace HB := aM (below_step zz110 hb); clear hb ho7))
      go_loopg [20] k (fun kq v20 w' => ∃ (x5_1 : List Int) (x20_1 : Int), v20 = .int .i64 x20_1 ∧ Aside0 (nat_times.l0 kq l1 x5_1 l0 (l0.length : Int) x20_1 = some r) ∧ Aside0 (kq ≤ k) ∧ Aside0 (Kd.R (Kd.int .u32) 72 w' w.heap.size (fun k_ => (w.heap.size ≤ k_)) v223 x5_1) ∧ Aside0 (Below w.heap.size w w'))
      case atStart => exact ⟨(y222), (0), zz136, H', ⟨Nat.le_refl _⟩, ⟨(by (with_reducible repeat (first | apply Kd.R_alloc | apply Kd.R_drewN | apply Kd.R_drew)); exact Kd.R_mono HO224.out (fun _ hk => hk.1))⟩, ⟨zz110⟩⟩
      case round =>
        clear H'; (try clear c1); (try clear p2); (try clear c4); (try clear c4b0); (try clear c4b1); (try clear c5); (try clear c5b0); (try clear c5b1); (try clear p6); (try clear c7); obtain ⟨x5_1, x20_1, rfl, HA, HK1, HO_5, HB⟩ := hrel
        cases gk with
        | zero => exact absurd HA.out (by simp [nat_times.l0])
        | succ k1 =>
          have H := HA.out; clear HA; simp only [nat_times.l0] at H
          by_cases c8 : x20_1 < (l0.length : Int)
          · rw [if_pos c8] at H; have c8b0 := decide_eq_true c8; clear c8
            by_cases c9 : 0 ≤ x20_1
            · rw [if_pos c9] at H; have c9b0 := decide_eq_true c9; clear c9
              by_cases c10 : x20_1 < (l0.length : Int)
              · rw [if_pos c10] at H; have c10b0 := decide_eq_true c10; clear c10; have H' := aM H; clear H; have p228 : 0 ≤ (x20_1 : Int) := of_decide_eq_true zz135; have q228 : x20_1 < (l0.length : Int) := of_decide_eq_true zz135; obtain ⟨ad228, e228, hx228_0⟩ := Kd.at_int HR0.out x20_1 p228 q228
                cases e228; replace hx228_0 := (HB.out.cell (World.block_lt_of_cell? w _ hx228_0)).trans hx228_0; replace p228 := eq_true p228; replace q228 := eq_true q228; go_wp2
                go_loopg [8, 27] k1 (fun kq v8 v27 w' => ∃ (x5_2 : List Int) (x8_2 : Int) (x27_2 : Int), v8 = .int .u64 x8_2 ∧ v27 = .int .i64 x27_2 ∧ Aside0 (nat_times.l1 kq l1 x5_2 x20_1 (rd l0 x20_1) x8_2 l0 (l0.length : Int) x20_1 l1 (l1.length : Int) x27_2 = some r) ∧ Aside0 (kq ≤ k1) ∧ Aside0 (Kd.R (Kd.int .u32) 72 w' w.heap.size (fun k_ => (w.heap.size ≤ k_)) v223 x5_2) ∧ Aside0 (Below w.heap.size w w'))
                case atStart => exact ⟨(x5_1), (0), (0), zz136, zz136, H', ⟨Nat.le_refl _⟩, ⟨(zR HO_5)⟩, ⟨zz110⟩⟩
                case round =>
                  clear H'; (try clear c1); (try clear p2); (try clear q2); (try clear hx2); (try clear c4); (try clear c4b0); (try clear c4b1); (try clear c5); (try clear c5b0); (try clear c5b1); (try clear p6); (try clear c7); (try clear c8); (try clear c8b0); (try clear c9); (try clear c9b0); (try clear c10); (try clear c10b0); (try clear hx228_0); (try clear p2); (try clear p228); (try clear p6); (try clear q228); obtain ⟨x5_2, x8_2, x27_2, rfl, rfl, HA, HK2, HO_5, HB⟩ := hrel
                  cases gk with
                  | zero => exact absurd HA.out (by simp [nat_times.l1])
                  | succ k2 =>
                    have H := HA.out; clear HA; simp only [nat_times.l1] at H
                    by_cases c11 : x27_2 < (l1.length : Int)
                    · rw [if_pos c11] at H; have c11b0 := decide_eq_true c11; clear c11
                      by_cases c12 : 0 ≤ x27_2
                      · rw [if_pos c12] at H; have c12b0 := decide_eq_true c12; clear c12
                        by_cases c13 : x27_2 < (l1.length : Int)
                        · rw [if_pos c13] at H; have c13b0 := decide_eq_true c13; clear c13; obtain ⟨ji14, hji14⟩ : ∃ j_ : Int, (wrap64 (x20_1 + x27_2)) = j_ := ⟨_, rfl⟩; replace H : (if 0 ≤ (ji14) then (if (ji14) < (x5_2.length : Int) then (nat_times.l1 k2 l1 (x5_2.set ((ji14) : Int).toNat ((IntKind.u64.wrap ((IntKind.u64.wrap ((IntKind.u64.wrap ((IntKind.u64.wrap ((rd l0 x20_1))) * (IntKind.u64.wrap (rd l1 x27_2)))) + (IntKind.u64.wrap (rd x5_2 (ji14))))) + x8_2)) % 4294967296)) x20_1 (rd l0 x20_1) ((IntKind.u64.wrap ((IntKind.u64.wrap ((IntKind.u64.wrap ((IntKind.u64.wrap ((rd l0 x20_1))) * (IntKind.u64.wrap (rd l1 x27_2)))) + (IntKind.u64.wrap (rd x5_2 (ji14))))) + x8_2)) / 4294967296) l0 (l0.length : Int) x20_1 l1 (l1.length : Int) (wrap64 (x27_2 + 1))) else (none)) else (none)) = some r := by first | (rw [hji14] at H; exact H) | (simp only [hji14] at H ⊢; exact H)
                          have hji14w : (IntKind.i64.wrap (x20_1 + x27_2)) = ji14 := (i64_w _).trans hji14
                          by_cases c15 : 0 ≤ (ji14)
                          · rw [if_pos c15] at H; have c15b0 := decide_eq_true c15; clear c15
                            by_cases c16 : (ji14) < (x5_2.length : Int)
                            · rw [if_pos c16] at H; have c16b0 := decide_eq_true c16; clear c16; obtain ⟨y231, hy231⟩ : ∃ y_ : List Int, y_ = (x5_2.set ((ji14) : Int).toNat ((IntKind.u64.wrap ((IntKind.u64.wrap ((IntKind.u64.wrap ((IntKind.u64.wrap ((rd l0 x20_1))) * (IntKind.u64.wrap (rd l1 x27_2)))) + (IntKind.u64.wrap (rd x5_2 (ji14))))) + x8_2)) % 4294967296)) := ⟨_, rfl⟩; replace H : (nat_times.l1 k2 l1 y231 x20_1 (rd l0 x20_1) ((IntKind.u64.wrap ((IntKind.u64.wrap ((IntKind.u64.wrap ((IntKind.u64.wrap ((rd l0 x20_1))) * (IntKind.u64.wrap (rd l1 x27_2)))) + (IntKind.u64.wrap (rd x5_2 (ji14))))) + x8_2)) / 4294967296) l0 (l0.length : Int) x20_1 l1 (l1.length : Int) (wrap64 (x27_2 + 1))) = some r := by first | (rw [hy231]; with_reducible exact H) | (have H2_ := (Option.bind_some _ _).symm.trans H; rw [hy231]; with_reducible exact H2_) | (have H2_ := (Option.bind_some _ _).symm.trans H; with_reducible exact H2_) | with_reducible exact H | (rw [hy231]; exact H) | exact H
                              have Ny231 := aM hy231; clear hy231; have H' := aM H; clear H; have p229 : 0 ≤ (x27_2 : Int) := of_decide_eq_true zz135; have q229 : x27_2 < (l1.length : Int) := of_decide_eq_true zz135; obtain ⟨ad229, e229, hx229_0⟩ := Kd.at_int HR1.out x27_2 p229 q229
                              cases e229; replace hx229_0 := (HB.out.cell (World.block_lt_of_cell? w _ hx229_0)).trans hx229_0; replace p229 := eq_true p229; replace q229 := eq_true q229; obtain ⟨Ao18, co18, eo18⟩ := Kd.R_slice HO_5.out; subst eo18; have p230 : 0 ≤ ((ji14) : Int) := of_decide_eq_true zz135; have q230 : (ji14) < (x5_2.length : Int) := of_decide_eq_true zz135; obtain ⟨ad230, e230, hx230_0⟩ := Kd.at_int (Kd.R_reads' HO_5.out).2.2 (ji14) p230 q230
                              cases e230; replace p230 := eq_true p230; replace q230 := eq_true q230; have p17 : 0 ≤ ((ji14) : Int) := of_decide_eq_true zz135; have q17 : ((ji14) : Int) < ((x5_2.length : Int) : Int) := of_decide_eq_true zz135; obtain ⟨go17, co17, eo17, gb17, gl17, cl17, HG17⟩ := Kd.R_form HO_5.out (by omega)
                              (first | cases eo17 | (injection eo17 with ea_ en_ ec_; (first | subst ea_ | (injection ea_ with ea_; subst ea_)); subst ec_; clear en_))
                              have GB17 := aM gb17; have GG17 := aM HG17; clear gb17 gl17 HG17
                              (first | simp only [add_plain] at hx230_0 | skip)
                              obtain ⟨hx17_0, hf17_0⟩ := Kd.R_celln 0 HO_5.out ((ji14) : Int) p17 q17; replace p17 := eq_true p17; replace q17 := eq_true q17; have HP19 := Kd.R_putg HO_5.out ((ji14) : Int) ((IntKind.u64.wrap ((IntKind.u64.wrap ((IntKind.u64.wrap ((IntKind.u64.wrap ((rd l0 x20_1))) * (IntKind.u64.wrap (rd l1 x27_2)))) + (IntKind.u64.wrap (rd x5_2 (ji14))))) + x8_2)) % 4294967296)
                              go_wp2_with (first | ((with_reducible refine gate_store (t := 72) (p := 53) rfl ?_); refine store_event (t := 72) (p := 53) (v := ?vo_w20) (w1 := (wr.setCell ⟨go17, ((ji14) : Int).toNat, none⟩ (.int .u32 ((IntKind.u64.wrap ((IntKind.u64.wrap ((IntKind.u64.wrap ((IntKind.u64.wrap ((rd l0 x20_1))) * (IntKind.u64.wrap (rd l1 x27_2)))) + (IntKind.u64.wrap (rd x5_2 (ji14))))) + x8_2)) % 4294967296)))) ?hg ?ho ?hn ?hr ?_; (case ho => rfl); (case hg => rfl); (case hn => rfl); (case hr => first | (go_simp; done) | (go_simp; rfl)); intro w20 hw; have hg : wr.grownBy w20 (some go17) := (by rw [hw]; exact HP19.2); have hp_ : Kd.R (Kd.int .u32) 72 w20 w.heap.size (fun k_ => (w.heap.size ≤ k_)) (.slice (some ⟨go17, 0, none⟩) x5_2.length co18) y231 := (by rw [hw, Ny231.out]; exact HP19.1); clear HP19; replace HO_5 := aM (hp_); replace HB := aM ((by rw [hw]; exact below_set (HB.out) GB17.out : Below w.heap.size w w20)); clear hg hw hp_))
                              go_roundg k2
                              case measure => have := HK1.out; have := HK2.out; omega
                              case rel => exact ⟨(y231), ((IntKind.u64.wrap ((IntKind.u64.wrap ((IntKind.u64.wrap ((IntKind.u64.wrap ((rd l0 x20_1))) * (IntKind.u64.wrap (rd l1 x27_2)))) + (IntKind.u64.wrap (rd x5_2 (ji14))))) + x8_2)) / 4294967296), (wrap64 (x27_2 + 1)), (by first | rfl | (simp; done) | (simp only [← hji14] <;> (first | rfl | simp)) | (simp [*]; done)), zz136, H', ⟨zz137⟩, ⟨(zR HO_5)⟩, ⟨zz110⟩⟩
                            rw [if_neg c16] at H
                            exact absurd H (by simp)
                          rw [if_neg c15] at H
                          exact absurd H (by simp)
                        rw [if_neg c13] at H
                        exact absurd H (by simp)
                      rw [if_neg c12] at H
                      exact absurd H (by simp)
                    rw [if_neg c11] at H; have c11b0 := decide_eq_false c11; clear c11; obtain ⟨ji21, hji21⟩ : ∃ j_ : Int, (wrap64 (x20_1 + (l1.length : Int))) = j_ := ⟨_, rfl⟩; replace H : (if 0 ≤ (ji21) then (if (ji21) < (x5_2.length : Int) then (nat_times.l0 k2 l1 (x5_2.set ((ji21) : Int).toNat ((x8_2) % 4294967296)) l0 (l0.length : Int) (wrap64 (x20_1 + 1))) else (none)) else (none)) = some r := by first | (rw [hji21] at H; exact H) | (simp only [hji21] at H ⊢; exact H)
                    have hji21w : (IntKind.i64.wrap (x20_1 + (l1.length : Int))) = ji21 := (i64_w _).trans hji21
                    by_cases c22 : 0 ≤ (ji21)
                    · rw [if_pos c22] at H; have c22b0 := decide_eq_true c22; clear c22
                      by_cases c23 : (ji21) < (x5_2.length : Int)
                      · rw [if_pos c23] at H; have c23b0 := decide_eq_true c23; clear c23; obtain ⟨y232, hy232⟩ : ∃ y_ : List Int, y_ = (x5_2.set ((ji21) : Int).toNat ((x8_2) % 4294967296)) := ⟨_, rfl⟩; replace H : (nat_times.l0 k2 l1 y232 l0 (l0.length : Int) (wrap64 (x20_1 + 1))) = some r := by first | (rw [hy232]; with_reducible exact H) | (have H2_ := (Option.bind_some _ _).symm.trans H; rw [hy232]; with_reducible exact H2_) | (have H2_ := (Option.bind_some _ _).symm.trans H; with_reducible exact H2_) | with_reducible exact H | (rw [hy232]; exact H) | exact H
                        have Ny232 := aM hy232; clear hy232; have H' := aM H; clear H; have p24 : 0 ≤ ((ji21) : Int) := of_decide_eq_true zz135; have q24 : ((ji21) : Int) < ((x5_2.length : Int) : Int) := of_decide_eq_true zz135; obtain ⟨go24, co24, eo24, gb24, gl24, cl24, HG24⟩ := Kd.R_form HO_5.out (by omega)
                        (first | cases eo24 | (injection eo24 with ea_ en_ ec_; (first | subst ea_ | (injection ea_ with ea_; subst ea_)); subst ec_; clear en_))
                        have GB24 := aM gb24; have GG24 := aM HG24; clear gb24 gl24 HG24; obtain ⟨hx24_0, hf24_0⟩ := Kd.R_celln 0 HO_5.out ((ji21) : Int) p24 q24; replace p24 := eq_true p24; replace q24 := eq_true q24; have HP25 := Kd.R_putg HO_5.out ((ji21) : Int) ((x8_2) % 4294967296)
                        go_wp2_with (first | ((with_reducible refine gate_store (t := 72) (p := 64) rfl ?_); refine store_event (t := 72) (p := 64) (v := ?vo_w26) (w1 := (wr.setCell ⟨go24, ((ji21) : Int).toNat, none⟩ (.int .u32 ((x8_2) % 4294967296)))) ?hg ?ho ?hn ?hr ?_; (case ho => rfl); (case hg => rfl); (case hn => rfl); (case hr => first | (go_simp; done) | (go_simp; rfl)); intro w26 hw; have hg : wr.grownBy w26 (some go24) := (by rw [hw]; exact HP25.2); have hp_ : Kd.R (Kd.int .u32) 72 w26 w.heap.size (fun k_ => (w.heap.size ≤ k_)) (.slice (some ⟨go24, 0, none⟩) x5_2.length co24) y232 := (by rw [hw, Ny232.out]; exact HP25.1); clear HP25; replace HO_5 := aM (hp_); replace HB := aM ((by rw [hw]; exact below_set (HB.out) GB24.out : Below w.heap.size w w26)); clear hg hw hp_))
                        go_roundg k2
                        case measure => have := HK1.out; have := HK2.out; omega
                        case rel => exact ⟨(y232), (wrap64 (x20_1 + 1)), zz136, H', ⟨zz137⟩, ⟨(zR HO_5)⟩, ⟨zz110⟩⟩
                      rw [if_neg c23] at H
                      exact absurd H (by simp)
                    rw [if_neg c22] at H
                    exact absurd H (by simp)
              rw [if_neg c10] at H
              exact absurd H (by simp)
            rw [if_neg c9] at H
            exact absurd H (by simp)
          rw [if_neg c8] at H; have c8b0 := decide_eq_false c8; clear c8; replace H := Option.bind_eq_some_iff.mp H; obtain ⟨t225, A270, H⟩ := H; replace H : (some t225) = some r := H; have A27 := aM A270; clear A270; obtain rfl := Option.some.inj H; obtain ⟨Ao28, co28, eo28⟩ := Kd.R_slice HO_5.out; subst eo28
          go_wp2_with (first | ((with_reducible refine gate_callee (f := 73) rfl ?_); refine goesL_ (some 67) rfl rfl Try.func73 (by kernel_rfl) rfl #[.slice Ao28 x5_1.length co28] rfl zz109 ?_; (with_reducible refine (nat_short.calls (fun k_ => some k_ = (.slice Ao28 x5_1.length co28 : Value).ownBlock) _ _ x5_1 t225 _ ?side1 A27.out).mono ?_); (case side1 => exact Kd.R_V (Kd.R_tight rfl (HO_5.out))); rintro e w29 ⟨v226, rfl, ho0, hb⟩; refine ⟨_, rfl, ?_⟩; have HO227 := aM (Kd.V_lower (Kd.V_mono (ok' := fun k_ => (w.heap.size ≤ k_)) ho0 (fun k_ hk_ => Or.elim hk_ (fun hs_ => ((HO_5.out).1 k_ hs_.symm)) (fun hn_ => (Nat.le_trans (below_size zz110) hn_)))) (below_size zz110)); replace HO_5 := aM (Kd.R_below (zR HO_5) hb); replace HB := aM (below_step zz110 hb); (try clear hb); (try clear hb2); (try clear hk); (try clear hi); (try clear ho0)))
          go_ret
          exact ⟨_, by first | rfl | (simp [errW_none, errW_some] <;> rfl) | (simp only [← hji3]; first | rfl | (simp [errW_none, errW_some] <;> rfl)) | (simp [*, errW_none, errW_some] <;> rfl), by (with_reducible repeat (first | apply Kd.V_alloc | apply Kd.V_drewN | apply Kd.V_drew)); exact HO227.out, by repeat (first | (with_reducible first | exact HB.out | apply below_alloc | apply pw_below_drewN | apply below_drew1) | exact HB.out)⟩
    rw [if_neg c5] at H
    exact absurd H (by simp)
  rw [if_neg c4] at H
  exact absurd H (by simp)
end
section
theorem shortL_length (l : List Int) : (shortL l).length ≤ l.length := by
  have := List.IsSuffix.length_le (List.dropWhile_suffix (fun x : Int => x == 0) (l := l.reverse))
  simpa [shortL] using this
def nat_Trim.f (l0 : List Int) : Option (List Int) := if l0.length ≤ 1000000000 then some (shortL l0) else none
theorem nat_Trim.calls (A0 : Option Addr) (c0 : Nat) (l0 : List Int) (r : List Int) (w : World) (hr0 : Kd.C (Kd.int .u32) w A0 l0.length l0) (hc0 : l0.length ≤ c0) (h : nat_Trim.f l0 = some r) :
    Calls Try.prog 74 #[.slice A0 l0.length c0] w fun e w' => ∃ v0_ : Value, e = .returned (v0_) ∧ Kd.R (Kd.int .u32) 72 w' w.heap.size (fun _ => True) v0_ r ∧ Below w.heap.size w w' := by
  have HR0 := aM hr0
  have HC0 := aM hc0
  have hq : l0.length ≤ 1000000000 ∧ shortL l0 = r := by
    unfold nat_Trim.f at h
    split at h
    · exact ⟨by assumption, Option.some.inj h⟩
    · cases h
  have HQ := aM hq
  clear hr0 hc0 hq h
  go_enter Try.func74, Try.ntmps74
  go_wp2_with (first
    | (go_at_call 73; (with_reducible refine (nat_short.calls (fun k_ => k_ < w.heap.size) _ _ l0 (shortL l0) _ ?s1 rfl).mono ?_); (case s1 => exact Kd.V_mk HC0.out (Kd.C_F (Kd.heap_int .u32) HR0.out)); rintro e w1 ⟨v1, rfl, ho1, hb1⟩; obtain ⟨A1, c1, rfl⟩ := Kd.V_slice ho1; have HV := aM ho1; have HB1 := aM hb1; clear ho1 hb1)
    | ((with_reducible refine gate_builtin (b := .append) (xs := #[.const (.slice none 0 0), .tmp 4]) rfl ?_); at_builtin; refine Kd.R_append_rows (Kd.int .u32) (w0 := w) w.heap.size rfl (.const (.slice none 0 0)) (.tmp 4) 53 72 (.int .u32 0) 4 rfl Try.underlying53 info72 rfl (by decide) (by omega) (.slice none 0 0) [] (shortL l0) _ _ _ (fun _ => True) (fun _ => False) rfl rfl ?aO ?aR (fun _ _ h => h) (fun _ h => h.elim) ?aF ?aB ?aS ?aL ?_; (case aR => exact (Kd.V_reads' HV.out).2.2); (case aB => exact HB1.out); (case aF => exact (fun _ _ => trivial)); (case aO => exact Kd.R_nil _ _ _ _ _); (case aS => exact HB1.out.size); (case aL => have := HQ.out.1; have := shortL_length l0; simp only [List.length_nil]; omega); intro v2 w2 ho2 hb2 hg2 hat2; have HO2 := aM ho2; have HB2 := aM hb2; clear ho2 hb2 hg2 hat2))
  go_ret
  have ho2 := HO2.out
  rw [List.nil_append, HQ.out.2] at ho2
  exact ⟨_, rfl, ho2, HB2.out⟩
end
section
attribute [local go_sem] max2_int min2_int max_two min_two max_three min_three max_four min_four
def nat_Mul.l0 : Nat → List Int → List (List Int) → Int → Int → Option (List Int)
  | 0, _, _, _, _ => none
  | k + 1, x3, x7, x8, x9 => if x9 < x8 then (if 0 ≤ x9 then (if x9 < (x7.length : Int) then ((nat_short.f (rd_L8 x7 x9)).bind fun t237 => ((nat_times.f k x3 t237).bind fun t240 => (nat_Mul.l0 k t240 x7 x8 (wrap64 (x9 + 1))))) else (none)) else (none)) else ((nat_Trim.f x3).bind fun t243 => (some t243))
def nat_Mul.f (k : Nat) (l0 : List (List Int)) : Option (List Int) := nat_Mul.l0 k (([1] : List Int)) l0 (l0.length : Int) 0
theorem nat_Mul.calls (k : Nat) (A0 : Option Addr) (c0 : Nat) (l0 : List (List Int)) (r : List Int) (w : World) (hr0 : Kd.C (Kd.slice 72 (Kd.int .u32)) w A0 l0.length l0) (hc0 : l0.length ≤ c0) (h : nat_Mul.f k l0 = some r) :
    Calls Try.prog 47 #[.slice A0 l0.length c0] w fun e w' => ∃ v0_ : Value, e = .returned (v0_) ∧ Kd.R (Kd.int .u32) 72 w' w.heap.size (fun _ => True) v0_ r ∧ Below w.heap.size w w' := by
  have HR0 := aM hr0
  have HC0 := aM hc0
  clear hr0 hc0
  have HB := aM (Below.refl w.heap.size w)
  have H : (nat_Mul.l0 k (([1] : List Int)) l0 (l0.length : Int) 0) = some r := h
  clear h
  obtain ⟨y233, hy233⟩ : ∃ y_ : List Int, y_ = (([1] : List Int)) := ⟨_, rfl⟩
  replace H : (nat_Mul.l0 k y233 l0 (l0.length : Int) 0) = some r := by first | (rw [hy233]; with_reducible exact H) | (have H2_ := (Option.bind_some _ _).symm.trans H; rw [hy233]; with_reducible exact H2_) | (have H2_ := (Option.bind_some _ _).symm.trans H; with_reducible exact H2_) | with_reducible exact H | (rw [hy233]; exact H) | exact H
  have Ny233 := aM hy233
  clear hy233
  have H' := aM H
  clear H
  go_enter Try.func47, Try.ntmps47
  go_wp2_with (first | ((with_reducible refine gate_dst (N := 6) rfl ?_); refine Kd.R_lit (Kd.int .u32) _ 72 ?hg (N := 6) ?hd (xs := ([1] : List Int)) (inner := [.int .u32 1]) (ok := fun _ => True) (okp := fun _ => True) ?hr ?hp (fun _ hk => hk) trivial (Below.refl _ _) (Nat.le_refl _) (by simp) ?_; (case hd => rfl); (case hg => rfl); (case hr => first | (go_simp; done) | (go_simp; rfl)); (case hp => exact (Reps.one (show Kd.M (Kd.int .u32) _ _ _ 1 [.int .u32 1] from rfl) (Reps.none _ _))); intro v234 w2 ho3 hb hg_ hnew_; clear hg_ hnew_; (first | rw [← Ny233.out] at ho3 | (simp only [Int.reduceToNat] at ho3; rw [← Ny233.out] at ho3)); have HO235 := aM (Kd.R_lower ho3 (below_size zz110)); replace HB := aM (below_step zz110 hb); clear hb ho3))
  go_loopg [3, 9] k (fun kq v3 v9 w' => ∃ (x3_1 : List Int) (x9_1 : Int), v9 = .int .i64 x9_1 ∧ Aside0 (nat_Mul.l0 kq x3_1 l0 (l0.length : Int) x9_1 = some r) ∧ Aside0 (kq ≤ k) ∧ Aside0 (Kd.V (Kd.int .u32) 72 w' w.heap.size (fun _ => True) v3 x3_1) ∧ Aside0 (Below w.heap.size w w'))
  case atStart => exact ⟨(y233), (0), zz136, H', ⟨Nat.le_refl _⟩, ⟨Kd.R_V (zR HO235)⟩, ⟨zz110⟩⟩
  case round =>
    clear H'; (try clear p2); obtain ⟨x3_1, x9_1, rfl, HA, HK1, HO_3, HB⟩ := hrel
    cases gk with
    | zero => exact absurd HA.out (by simp [nat_Mul.l0])
    | succ k1 =>
      have H := HA.out; clear HA; simp only [nat_Mul.l0] at H
      by_cases c4 : x9_1 < (l0.length : Int)
      · rw [if_pos c4] at H; have c4b0 := decide_eq_true c4; clear c4
        by_cases c5 : 0 ≤ x9_1
        · rw [if_pos c5] at H; have c5b0 := decide_eq_true c5; clear c5
          by_cases c6 : x9_1 < (l0.length : Int)
          · rw [if_pos c6] at H; have c6b0 := decide_eq_true c6; clear c6; replace H := Option.bind_eq_some_iff.mp H; obtain ⟨t237, A70, H⟩ := H; replace H : ((nat_times.f k1 x3_1 t237).bind fun t240 => (nat_Mul.l0 k1 t240 l0 (l0.length : Int) (wrap64 (x9_1 + 1)))) = some r := H; have A7 := aM A70; clear A70; replace H := Option.bind_eq_some_iff.mp H; obtain ⟨t240, A80, H⟩ := H; replace H : (nat_Mul.l0 k1 t240 l0 (l0.length : Int) (wrap64 (x9_1 + 1))) = some r := H; have A8 := aM A80; clear A80; have H' := aM H; clear H; have p236 : 0 ≤ (x9_1 : Int) := of_decide_eq_true zz135; have q236 : x9_1 < (l0.length : Int) := of_decide_eq_true zz135; obtain ⟨ad236, A236_0, c236_0, e236, hx236_0, hl236_0, hi236_0⟩ := at_L8 HR0.out x9_1 p236 q236
            cases e236; replace hx236_0 := (HB.out.cell (World.block_lt_of_cell? w _ hx236_0)).trans hx236_0; have HR236_0 := aM hi236_0; have HC236_0 := aM hl236_0; clear hi236_0 hl236_0; replace p236 := eq_true p236; replace q236 := eq_true q236
            go_wp2_with (first | ((with_reducible refine gate_callee (f := 73) rfl ?_); refine goesL_ (some 15) rfl rfl Try.func73 (by kernel_rfl) rfl #[.slice A236_0 (rd_L8 l0 x9_1).length c236_0] rfl zz109 ?_; (with_reducible refine (nat_short.calls (fun k_ => k_ < w.heap.size) _ _ (rd_L8 l0 x9_1) t237 _ ?side1 A7.out).mono ?_); (case side1 => exact Kd.V_mk HC236_0.out (Kd.F_below (Kd.C_F (Kd.heap_int .u32) HR236_0.out) zz110)); rintro e w9 ⟨v238, rfl, ho0, hb⟩; refine ⟨_, rfl, ?_⟩; replace HO_3 := aM (Kd.V_below (zV HO_3) hb); have HO239 := aM (Kd.V_lower (Kd.V_mono (ok' := fun k_ => True) ho0 (fun k_ hk_ => trivial)) (below_size zz110)); replace HB := aM (below_step zz110 hb); (try clear hb); (try clear hb2); (try clear hk); (try clear hi); (try clear ho0); obtain ⟨Ao10, co10, eo10⟩ := Kd.V_slice HO_3.out; subst eo10; obtain ⟨Ao11, co11, eo11⟩ := Kd.V_slice HO239.out; subst eo11) | ((with_reducible refine gate_callee (f := 72) rfl ?_); refine goesL_ (some 16) rfl rfl Try.func72 (by kernel_rfl) rfl #[.slice Ao10 x3_1.length co10, .slice Ao11 t237.length co11] rfl zz109 ?_; (with_reducible refine (nat_times.calls k1 _ _ x3_1 _ _ t237 t240 _ ?side1 ?side2 ?side3 ?side4 A8.out).mono ?_); (case side1 => repeat (first | exact (Kd.V_reads' HO_3.out).2.2 | (with_reducible refine Kd.C_alloc ?_ _) | (with_reducible refine Kd.C_drewN ?_ _) | (with_reducible refine Kd.C_drew ?_))); (case side2 => exact (Kd.V_reads' HO_3.out).2.1); (case side3 => repeat (first | exact (Kd.V_reads' HO239.out).2.2 | (with_reducible refine Kd.C_alloc ?_ _) | (with_reducible refine Kd.C_drewN ?_ _) | (with_reducible refine Kd.C_drew ?_))); (case side4 => exact (Kd.V_reads' HO239.out).2.1); rintro e w12 ⟨v241, rfl, ho0, hb⟩; refine ⟨_, rfl, ?_⟩; replace HO_3 := aM (Kd.V_below (zV HO_3) hb); replace HO239 := aM (Kd.V_below (zV HO239) hb); have HO242 := aM (Kd.V_lower (Kd.V_mono (ok' := fun k_ => True) ho0 (fun k_ hk_ => trivial)) (below_size zz110)); replace HB := aM (below_step zz110 hb); (try clear hb); (try clear hb2); (try clear hk); (try clear hi); (try clear ho0)))
            go_roundg k1
            case measure => have := HK1.out; omega
            case rel => exact ⟨(t240), (wrap64 (x9_1 + 1)), zz136, H', ⟨zz143⟩, ⟨(zV HO242)⟩, ⟨zz110⟩⟩
          rw [if_neg c6] at H
          exact absurd H (by simp)
        rw [if_neg c5] at H
        exact absurd H (by simp)
      rw [if_neg c4] at H; have c4b0 := decide_eq_false c4; clear c4; replace H := Option.bind_eq_some_iff.mp H; obtain ⟨t243, A130, H⟩ := H; replace H : (some t243) = some r := H; have A13 := aM A130; clear A130; obtain rfl := Option.some.inj H; obtain ⟨Ao14, co14, eo14⟩ := Kd.V_slice HO_3.out; subst eo14
      go_wp2_with (first | ((with_reducible refine gate_callee (f := 74) rfl ?_); refine goesL_ (some 19) rfl rfl Try.func74 (by kernel_rfl) rfl #[.slice Ao14 x3_1.length co14] rfl zz109 ?_; (with_reducible refine (nat_Trim.calls _ _ x3_1 t243 _ ?side1 ?side2 A13.out).mono ?_); (case side1 => repeat (first | exact (Kd.V_reads' HO_3.out).2.2 | (with_reducible refine Kd.C_alloc ?_ _) | (with_reducible refine Kd.C_drewN ?_ _) | (with_reducible refine Kd.C_drew ?_))); (case side2 => exact (Kd.V_reads' HO_3.out).2.1); rintro e w15 ⟨v244, rfl, ho0, hb⟩; refine ⟨_, rfl, ?_⟩; replace HO_3 := aM (Kd.V_elder' (zV HO_3) (Kd.R_base ho0) hb); have HO245 := aM (Kd.R_lower ho0 (below_size zz110)); replace HB := aM (below_step zz110 hb); (try clear hb); (try clear hb2); (try clear hk); (try clear hi); (try clear ho0)))
      go_ret
      exact ⟨_, by first | rfl | (simp [errW_none, errW_some] <;> rfl) | (simp [*, errW_none, errW_some] <;> rfl), by (with_reducible repeat (first | apply Kd.R_alloc | apply Kd.R_drewN | apply Kd.R_drew)); exact HO245.out, by repeat (first | (with_reducible first | exact HB.out | apply below_alloc | apply pw_below_drewN | apply below_drew1) | exact HB.out)⟩
end
section
attribute [local go_sem] max2_int min2_int max_two min_two max_three min_three max_four min_four
def nat_Of.f (a0 : Int) : Option (List Int) := (nat_Trim.f (([(a0) % 4294967296, (a0 / 4294967296) % 4294967296] : List Int))).bind fun t249 => (some t249)
theorem nat_Of.calls (a0 : Int) (r : List Int) (w : World) (h : nat_Of.f a0 = some r) :
    Calls Try.prog 48 #[.int .u64 a0] w fun e w' => ∃ v0_ : Value, e = .returned (v0_) ∧ Kd.R (Kd.int .u32) 72 w' w.heap.size (fun _ => True) v0_ r ∧ Below w.heap.size w w' := by
  have HB := aM (Below.refl w.heap.size w)
  have H : ((nat_Trim.f (([(a0) % 4294967296, (a0 / 4294967296) % 4294967296] : List Int))).bind fun t249 => (some t249)) = some r := h
  clear h
  obtain ⟨y246, hy246⟩ : ∃ y_ : List Int, y_ = (([(a0) % 4294967296, (a0 / 4294967296) % 4294967296] : List Int)) := ⟨_, rfl⟩
  replace H : ((nat_Trim.f y246).bind fun t249 => (some t249)) = some r := by first | (rw [hy246]; with_reducible exact H) | (have H2_ := (Option.bind_some _ _).symm.trans H; rw [hy246]; with_reducible exact H2_) | (have H2_ := (Option.bind_some _ _).symm.trans H; with_reducible exact H2_) | with_reducible exact H | (rw [hy246]; exact H) | exact H
  have Ny246 := aM hy246
  clear hy246
  replace H := Option.bind_eq_some_iff.mp H
  obtain ⟨t249, A20, H⟩ := H
  replace H : (some t249) = some r := H
  have A2 := aM A20
  clear A20
  obtain rfl := Option.some.inj H
  go_enter Try.func48, Try.ntmps48
  go_wp2_with (first | ((with_reducible refine gate_dst (N := 8) rfl ?_); refine Kd.R_lit (Kd.int .u32) _ 72 ?hg (N := 8) ?hd (xs := ([(a0) % 4294967296, (a0 / 4294967296) % 4294967296] : List Int)) (inner := [.int .u32 ((a0) % 4294967296), .int .u32 ((a0 / 4294967296) % 4294967296)]) (ok := fun _ => True) (okp := fun _ => True) ?hr ?hp (fun _ hk => hk) trivial (Below.refl _ _) (Nat.le_refl _) (by simp) ?_; (case hd => rfl); (case hg => rfl); (case hr => first | (go_simp; done) | (go_simp; rfl)); (case hp => exact (Reps.one (show Kd.M (Kd.int .u32) _ _ _ ((a0) % 4294967296) [.int .u32 ((a0) % 4294967296)] from rfl) (Reps.one (show Kd.M (Kd.int .u32) _ _ _ ((a0 / 4294967296) % 4294967296) [.int .u32 ((a0 / 4294967296) % 4294967296)] from rfl) (Reps.none _ _)))); intro v247 w3 ho4 hb hg_ hnew_; clear hg_ hnew_; (first | rw [← Ny246.out] at ho4 | (simp only [Int.reduceToNat] at ho4; rw [← Ny246.out] at ho4)); have HO248 := aM (Kd.R_lower ho4 (below_size zz110)); replace HB := aM (below_step zz110 hb); clear hb ho4; obtain ⟨Ao5, co5, eo5⟩ := Kd.R_slice HO248.out; subst eo5) | ((with_reducible refine gate_callee (f := 74) rfl ?_); refine goesL_ (some 9) rfl rfl Try.func74 (by kernel_rfl) rfl #[.slice Ao5 y246.length co5] rfl zz109 ?_; (with_reducible refine (nat_Trim.calls _ _ y246 t249 _ ?side1 ?side2 A2.out).mono ?_); (case side1 => repeat (first | exact (Kd.R_reads' HO248.out).2.2 | (with_reducible refine Kd.C_alloc ?_ _) | (with_reducible refine Kd.C_drewN ?_ _) | (with_reducible refine Kd.C_drew ?_))); (case side2 => exact (Kd.R_reads' HO248.out).2.1); rintro e w6 ⟨v250, rfl, ho0, hb⟩; refine ⟨_, rfl, ?_⟩; have HO251 := aM (Kd.R_lower (Kd.R_new' ho0 (Kd.R_lt (zR HO248))) (below_size zz110)); replace HO248 := aM (Kd.R_elder' (zR HO248) (Kd.R_base ho0) hb); replace HB := aM (below_step zz110 hb); (try clear hb); (try clear hb2); (try clear hk); (try clear hi); (try clear ho0)))
  go_ret
  exact ⟨_, by first | rfl | (simp [errW_none, errW_some] <;> rfl) | (simp [*, errW_none, errW_some] <;> rfl), by (with_reducible repeat (first | apply Kd.R_alloc | apply Kd.R_drewN | apply Kd.R_drew)); exact Kd.R_mono HO251.out (fun _ hk => trivial), by repeat (first | (with_reducible first | exact HB.out | apply below_alloc | apply pw_below_drewN | apply below_drew1) | exact HB.out)⟩
end
section
attribute [local go_sem] max2_int min2_int max_two min_two max_three min_three max_four min_four
def slEq.l0 : Nat → List Int → List Int → Int → Int → Option (Bool)
  | 0, _, _, _, _ => none
  | k + 1, x0, x1, x12, x13 => if x13 < x12 then (if 0 ≤ x13 then (if x13 < (x0.length : Int) then (if x13 < (x1.length : Int) then (if (rd x0 x13) = (rd x1 x13) then (slEq.l0 k x0 x1 x12 (wrap64 (x13 + 1))) else (some false)) else (none)) else (none)) else (none)) else (some true)
def slEq.f (k : Nat) (l0 : List Int) (l1 : List Int) : Option (Bool) := if (l0.length : Int) = (l1.length : Int) then (slEq.l0 k l0 l1 (l0.length : Int) 0) else (some false)
theorem slEq.mono_l : ∀ k, (∀ y0 y1 y2 y3, LeO (slEq.l0 k y0 y1 y2 y3) (slEq.l0 (k + 1) y0 y1 y2 y3))
  | 0 => fun _ _ _ _ r h => by simp [slEq.l0] at h
  | k + 1 => by
    have ih0 := slEq.mono_l k
    · intro y0 y1 y2 y3; unfold slEq.l0
      repeat' first
      | (with_reducible exact ih0 _ _ _ _)
      | (with_reducible exact LeO.refl _)
      | (with_reducible exact LeO.none _)
      | (with_reducible refine LeO.ite ?_ ?_)
      | (with_reducible refine LeO.bind ?_ (fun _ => ?_))
theorem slEq.mono : ∀ a0 a1 k, LeO (slEq.f k a0 a1) (slEq.f (k + 1) a0 a1) := by
  intro a0 a1 k
  have ih0 := slEq.mono_l k
  unfold slEq.f
  repeat' first
      | (with_reducible exact ih0 _ _ _ _)
      | (with_reducible exact LeO.refl _)
      | (with_reducible exact LeO.none _)
      | (with_reducible refine LeO.ite ?_ ?_)
      | (with_reducible refine LeO.bind ?_ (fun _ => ?_))
theorem slEq.calls (k : Nat) (A0 : Option Addr) (c0 : Nat) (l0 : List Int) (A1 : Option Addr) (c1 : Nat) (l1 : List Int) (r : Bool) (w : World) (hr0 : Kd.C (Kd.int .i64) w A0 l0.length l0) (hc0 : l0.length ≤ c0) (hr1 : Kd.C (Kd.int .i64) w A1 l1.length l1) (hc1 : l1.length ≤ c1) (h : slEq.f k l0 l1 = some r) :
    Calls Try.prog 65 #[.slice A0 l0.length c0, .slice A1 l1.length c1] w fun e w' => e = .returned (.bool r) ∧ Drawn0 w w' := by
  have HR0 := aM hr0
  have HC0 := aM hc0
  clear hr0 hc0
  have HR1 := aM hr1
  have HC1 := aM hc1
  clear hr1 hc1
  have H : (if (l0.length : Int) = (l1.length : Int) then (slEq.l0 k l0 l1 (l0.length : Int) 0) else (some false)) = some r := h
  clear h
  by_cases c3 : (l0.length : Int) = (l1.length : Int)
  · rw [if_pos c3] at H
    have c3b0 := beq_iff_eq.mpr c3; have c3b1 := bne_eq_false_iff_eq.mpr c3; have c3b2 : (l0.length == l1.length) = true := by first | simpa using c3 | (simp at c3 ⊢; omega)
    clear c3; have H' := aM H; clear H
    go_enter Try.func65, Try.ntmps65
    go_wp2
    repeat (go_quiet (fail); try go_wp2)
    go_loopg [13] k (fun kq v13 w' => ∃ (x13_1 : Int), v13 = .int .i64 x13_1 ∧ Aside0 (slEq.l0 kq l0 l1 (l0.length : Int) x13_1 = some r) ∧ Aside0 (kq ≤ k) ∧ Drawn0 w w')
    case atStart => exact ⟨(0), zz136, H', ⟨Nat.le_refl _⟩, by repeat (first | exact Drawn0.refl _ | apply Drawn0.step)⟩
    case round =>
      clear H'; (try clear c1); (try clear p2); (try clear c3); (try clear c3b0); (try clear c3b1); (try clear c3b2); obtain ⟨x13_1, rfl, HA, HK1, ⟨m1, rfl⟩⟩ := hrel
      cases gk with
      | zero => exact absurd HA.out (by simp [slEq.l0])
      | succ k1 =>
        have H := HA.out; clear HA; simp only [slEq.l0] at H
        by_cases c4 : x13_1 < (l0.length : Int)
        · rw [if_pos c4] at H; have c4b0 := decide_eq_true c4; clear c4
          by_cases c5 : 0 ≤ x13_1
          · rw [if_pos c5] at H; have c5b0 := decide_eq_true c5; clear c5
            by_cases c6 : x13_1 < (l0.length : Int)
            · rw [if_pos c6] at H; have c6b0 := decide_eq_true c6; clear c6
              by_cases c7 : x13_1 < (l1.length : Int)
              · rw [if_pos c7] at H; have c7b0 := decide_eq_true c7; clear c7
                by_cases c8 : (rd l0 x13_1) = (rd l1 x13_1)
                · rw [if_pos c8] at H; have c8b0 := beq_iff_eq.mpr c8; have c8b1 := bne_eq_false_iff_eq.mpr c8; clear c8; have H' := aM H; clear H; have p220 : 0 ≤ (x13_1 : Int) := of_decide_eq_true zz135; have q220 : x13_1 < (l0.length : Int) := of_decide_eq_true zz135; obtain ⟨ad220, e220, hx220_0⟩ := Kd.at_int HR0.out x13_1 p220 q220
                  cases e220; replace p220 := eq_true p220; replace q220 := eq_true q220; have p221 : 0 ≤ (x13_1 : Int) := of_decide_eq_true zz135; have q221 : x13_1 < (l1.length : Int) := of_decide_eq_true zz135; obtain ⟨ad221, e221, hx221_0⟩ := Kd.at_int HR1.out x13_1 p221 q221
                  cases e221; replace p221 := eq_true p221; replace q221 := eq_true q221; go_wp2
                  repeat (go_quiet (fail); try go_wp2)
                  go_roundg k1
                  case measure => have := HK1.out; omega
                  case rel => exact ⟨(wrap64 (x13_1 + 1)), zz136, H', ⟨zz143⟩, by repeat (first | exact Drawn0.refl _ | apply Drawn0.step)⟩
                rw [if_neg c8] at H; have c8b0 := beq_eq_false_iff_ne.mpr c8; have c8b1 := bne_iff_ne.mpr c8; obtain rfl := Option.some.inj H; have p220 : 0 ≤ (x13_1 : Int) := of_decide_eq_true zz135; have q220 : x13_1 < (l0.length : Int) := of_decide_eq_true zz135; obtain ⟨ad220, e220, hx220_0⟩ := Kd.at_int HR0.out x13_1 p220 q220
                cases e220; replace p220 := eq_true p220; replace q220 := eq_true q220; have p221 : 0 ≤ (x13_1 : Int) := of_decide_eq_true zz135; have q221 : x13_1 < (l1.length : Int) := of_decide_eq_true zz135; obtain ⟨ad221, e221, hx221_0⟩ := Kd.at_int HR1.out x13_1 p221 q221
                cases e221; replace p221 := eq_true p221; replace q221 := eq_true q221; go_wp2
                repeat (go_quiet (fail); try go_wp2)
                go_ret
                exact ⟨by first | rfl | (simp; done) | (simp [*]; done), by repeat (first | exact Drawn0.refl _ | apply Drawn0.step)⟩
              rw [if_neg c7] at H
              exact absurd H (by simp)
            rw [if_neg c6] at H
            exact absurd H (by simp)
          rw [if_neg c5] at H
          exact absurd H (by simp)
        rw [if_neg c4] at H; have c4b0 := decide_eq_false c4; clear c4; obtain rfl := Option.some.inj H; go_wp2
        repeat (go_quiet (fail); try go_wp2)
        go_ret
        exact ⟨by first | rfl | (simp; done) | (simp [*]; done), by repeat (first | exact Drawn0.refl _ | apply Drawn0.step)⟩
  rw [if_neg c3] at H
  have c3b0 := beq_eq_false_iff_ne.mpr c3
  have c3b1 := bne_iff_ne.mpr c3
  have c3b2 : (l0.length == l1.length) = false := by first | simpa using c3 | (simp at c3 ⊢; omega)
  obtain rfl := Option.some.inj H
  go_enter Try.func65, Try.ntmps65
  go_wp2
  repeat (go_quiet (fail); try go_wp2)
  go_ret
  exact ⟨by first | rfl | (simp; done) | (simp [*]; done), by repeat (first | exact Drawn0.refl _ | apply Drawn0.step)⟩
end
section
attribute [local go_sem] max2_int min2_int max_two min_two max_three min_three max_four min_four
def perm_then.l0 : Nat → List Int → List Int → List Int → Int → Int → Option (List Int)
  | 0, _, _, _, _, _ => none
  | k + 1, x1, x5, x11, x12, x13 => if x13 < x12 then (if 0 ≤ x13 then (if x13 < (x11.length : Int) then (if 0 ≤ (rd x11 x13) then (if (rd x11 x13) < (x1.length : Int) then (if x13 < (x5.length : Int) then (perm_then.l0 k x1 (x5.set (x13 : Int).toNat (rd x1 (rd x11 x13))) x11 x12 (wrap64 (x13 + 1))) else (none)) else (none)) else (none)) else (none)) else (none)) else (some x5)
def perm_then.f (k : Nat) (l0 : List Int) (l1 : List Int) : Option (List Int) := if 0 ≤ (l0.length : Int) then (if ((l0.length : Int) : Int).toNat ≤ 35184372088832 then (perm_then.l0 k l1 (List.replicate ((l0.length : Int) : Int).toNat 0) l0 (l0.length : Int) 0) else (none)) else (none)
theorem perm_then.mono_l : ∀ k, (∀ y0 y1 y2 y3 y4, LeO (perm_then.l0 k y0 y1 y2 y3 y4) (perm_then.l0 (k + 1) y0 y1 y2 y3 y4))
  | 0 => fun _ _ _ _ _ r h => by simp [perm_then.l0] at h
  | k + 1 => by
    have ih0 := perm_then.mono_l k
    · intro y0 y1 y2 y3 y4; unfold perm_then.l0
      repeat' first
      | (with_reducible exact ih0 _ _ _ _ _)
      | (with_reducible exact LeO.refl _)
      | (with_reducible exact LeO.none _)
      | (with_reducible refine LeO.ite ?_ ?_)
      | (with_reducible refine LeO.bind ?_ (fun _ => ?_))
theorem perm_then.mono : ∀ a0 a1 k, LeO (perm_then.f k a0 a1) (perm_then.f (k + 1) a0 a1) := by
  intro a0 a1 k
  have ih0 := perm_then.mono_l k
  unfold perm_then.f
  repeat' first
      | (with_reducible exact ih0 _ _ _ _ _)
      | (with_reducible exact LeO.refl _)
      | (with_reducible exact LeO.none _)
      | (with_reducible refine LeO.ite ?_ ?_)
      | (with_reducible refine LeO.bind ?_ (fun _ => ?_))
theorem perm_then.calls (k : Nat) (A0 : Option Addr) (c0 : Nat) (l0 : List Int) (A1 : Option Addr) (c1 : Nat) (l1 : List Int) (r : List Int) (w : World) (hr0 : Kd.C (Kd.int .i64) w A0 l0.length l0) (hc0 : l0.length ≤ c0) (hr1 : Kd.C (Kd.int .i64) w A1 l1.length l1) (hc1 : l1.length ≤ c1) (h : perm_then.f k l0 l1 = some r) :
    Calls Try.prog 50 #[.slice A0 l0.length c0, .slice A1 l1.length c1] w fun e w' => ∃ v0_ : Value, e = .returned (v0_) ∧ Kd.R (Kd.int .i64) 3 w' w.heap.size (fun _ => True) v0_ r ∧ Below w.heap.size w w' := by
  have HR0 := aM hr0
  have HC0 := aM hc0
  clear hr0 hc0
  have HR1 := aM hr1
  have HC1 := aM hc1
  clear hr1 hc1
  have HB := aM (Below.refl w.heap.size w)
  have H : (if 0 ≤ (l0.length : Int) then (if ((l0.length : Int) : Int).toNat ≤ 35184372088832 then (perm_then.l0 k l1 (List.replicate ((l0.length : Int) : Int).toNat 0) l0 (l0.length : Int) 0) else (none)) else (none)) = some r := h
  clear h
  by_cases c3 : 0 ≤ (l0.length : Int)
  · rw [if_pos c3] at H
    have c3b0 := eq_true c3; have c3b1 := decide_eq_true c3; clear c3
    by_cases c4 : ((l0.length : Int) : Int).toNat ≤ 35184372088832
    · rw [if_pos c4] at H; have c4b0 := eq_true c4; have c4b1 := decide_eq_true c4; clear c4; obtain ⟨y105, hy105⟩ : ∃ y_ : List Int, y_ = (List.replicate ((l0.length : Int) : Int).toNat 0) := ⟨_, rfl⟩; replace H : (perm_then.l0 k l1 y105 l0 (l0.length : Int) 0) = some r := by first | (rw [hy105]; with_reducible exact H) | (have H2_ := (Option.bind_some _ _).symm.trans H; rw [hy105]; with_reducible exact H2_) | (have H2_ := (Option.bind_some _ _).symm.trans H; with_reducible exact H2_) | with_reducible exact H | (rw [hy105]; exact H) | exact H
      have Ny105 := aM hy105; clear hy105; have H' := aM H; clear H
      go_enter Try.func50, Try.ntmps50
      go_wp2_with (first | ((with_reducible refine gate_dst (N := 10) rfl ?_); refine Kd.R_make (Kd.int .i64) _ 3 rfl (N := 10) rfl 22 _ _ rfl (l0.length : Int) rfl rfl Try.underlying22 (.int .i64 0) 8 info3 rfl (by decide) (by omega) 0 (ok := fun _ => True) (okp := fun _ => True) rfl (fun _ hk => hk) trivial (of_decide_eq_true zz135) (Nat.le_trans (Nat.mul_le_mul_right _ (of_decide_eq_true zz135 : (l0.length : Int).toNat ≤ 35184372088832)) (by omega)) (Below.refl _ _) (Nat.le_refl _) ?_; intro v106 w5 ho6 hb hg_ hnew_; clear hg_ hnew_; (first | rw [← Ny105.out] at ho6 | (simp only [Int.reduceToNat] at ho6; rw [← Ny105.out] at ho6)); have HO107 := aM (Kd.R_lower ho6 (below_size zz110)); replace HB := aM (below_step zz110 hb); clear hb ho6))
      go_loopg [13] k (fun kq v13 w' => ∃ (x5_1 : List Int) (x13_1 : Int), v13 = .int .i64 x13_1 ∧ Aside0 (perm_then.l0 kq l1 x5_1 l0 (l0.length : Int) x13_1 = some r) ∧ Aside0 (kq ≤ k) ∧ Aside0 (Kd.R (Kd.int .i64) 3 w' w.heap.size (fun _ => True) v106 x5_1) ∧ Aside0 (Below w.heap.size w w'))
      case atStart => exact ⟨(y105), (0), zz136, H', ⟨Nat.le_refl _⟩, ⟨(zR HO107)⟩, ⟨zz110⟩⟩
      case round =>
        clear H'; (try clear c1); (try clear p2); (try clear c3); (try clear c3b0); (try clear c3b1); (try clear c4); (try clear c4b0); (try clear c4b1); (try clear c5); obtain ⟨x5_1, x13_1, rfl, HA, HK1, HO_5, HB⟩ := hrel
        cases gk with
        | zero => exact absurd HA.out (by simp [perm_then.l0])
        | succ k1 =>
          have H := HA.out; clear HA; simp only [perm_then.l0] at H
          by_cases c7 : x13_1 < (l0.length : Int)
          · rw [if_pos c7] at H; have c7b0 := decide_eq_true c7; clear c7
            by_cases c8 : 0 ≤ x13_1
            · rw [if_pos c8] at H; have c8b0 := decide_eq_true c8; clear c8
              by_cases c9 : x13_1 < (l0.length : Int)
              · rw [if_pos c9] at H; have c9b0 := decide_eq_true c9; clear c9
                by_cases c10 : 0 ≤ (rd l0 x13_1)
                · rw [if_pos c10] at H; have c10b0 := decide_eq_true c10; clear c10
                  by_cases c11 : (rd l0 x13_1) < (l1.length : Int)
                  · rw [if_pos c11] at H; have c11b0 := decide_eq_true c11; clear c11
                    by_cases c12 : x13_1 < (x5_1.length : Int)
                    · rw [if_pos c12] at H; have c12b0 := decide_eq_true c12; clear c12; obtain ⟨y110, hy110⟩ : ∃ y_ : List Int, y_ = (x5_1.set (x13_1 : Int).toNat (rd l1 (rd l0 x13_1))) := ⟨_, rfl⟩; replace H : (perm_then.l0 k1 l1 y110 l0 (l0.length : Int) (wrap64 (x13_1 + 1))) = some r := by first | (rw [hy110]; with_reducible exact H) | (have H2_ := (Option.bind_some _ _).symm.trans H; rw [hy110]; with_reducible exact H2_) | (have H2_ := (Option.bind_some _ _).symm.trans H; with_reducible exact H2_) | with_reducible exact H | (rw [hy110]; exact H) | exact H
                      have Ny110 := aM hy110; clear hy110; have H' := aM H; clear H; have p108 : 0 ≤ (x13_1 : Int) := of_decide_eq_true zz135; have q108 : x13_1 < (l0.length : Int) := of_decide_eq_true zz135; obtain ⟨ad108, e108, hx108_0⟩ := Kd.at_int HR0.out x13_1 p108 q108
                      cases e108; replace hx108_0 := (HB.out.cell (World.block_lt_of_cell? w _ hx108_0)).trans hx108_0; replace p108 := eq_true p108; replace q108 := eq_true q108; have p109 : 0 ≤ ((rd l0 x13_1) : Int) := of_decide_eq_true zz135; have q109 : (rd l0 x13_1) < (l1.length : Int) := of_decide_eq_true zz135; obtain ⟨ad109, e109, hx109_0⟩ := Kd.at_int HR1.out (rd l0 x13_1) p109 q109
                      cases e109; replace hx109_0 := (HB.out.cell (World.block_lt_of_cell? w _ hx109_0)).trans hx109_0; replace p109 := eq_true p109; replace q109 := eq_true q109; have p13 : 0 ≤ (x13_1 : Int) := of_decide_eq_true zz135; have q13 : (x13_1 : Int) < ((x5_1.length : Int) : Int) := of_decide_eq_true zz135; obtain ⟨go13, co13, eo13, gb13, gl13, cl13, HG13⟩ := Kd.R_form HO_5.out (by omega)
                      (first | cases eo13 | (injection eo13 with ea_ en_ ec_; (first | subst ea_ | (injection ea_ with ea_; subst ea_)); subst ec_; clear en_))
                      have GB13 := aM gb13; have GG13 := aM HG13; clear gb13 gl13 HG13; obtain ⟨hx13_0, hf13_0⟩ := Kd.R_celln 0 HO_5.out (x13_1 : Int) p13 q13; replace p13 := eq_true p13; replace q13 := eq_true q13; have HP14 := Kd.R_putg HO_5.out (x13_1 : Int) (rd l1 (rd l0 x13_1))
                      go_wp2_with (first | ((with_reducible refine gate_store (t := 3) (p := 24) rfl ?_); refine store_event (t := 3) (p := 24) (v := ?vo_w15) (w1 := (wr.setCell ⟨go13, (x13_1 : Int).toNat, none⟩ (.int .i64 (rd l1 (rd l0 x13_1))))) ?hg ?ho ?hn ?hr ?_; (case ho => rfl); (case hg => rfl); (case hn => rfl); (case hr => first | (go_simp; done) | (go_simp; rfl)); intro w15 hw; have hg : wr.grownBy w15 (some go13) := (by rw [hw]; exact HP14.2); have hp_ : Kd.R (Kd.int .i64) 3 w15 w.heap.size (fun _ => True) (.slice (some ⟨go13, 0, none⟩) x5_1.length co13) y110 := (by rw [hw, Ny110.out]; exact HP14.1); clear HP14; replace HO_5 := aM (hp_); replace HB := aM ((by rw [hw]; exact below_set (HB.out) GB13.out : Below w.heap.size w w15)); clear hg hw hp_))
                      go_roundg k1
                      case measure => have := HK1.out; omega
                      case rel => exact ⟨(y110), (wrap64 (x13_1 + 1)), zz136, H', ⟨zz143⟩, ⟨(zR HO_5)⟩, ⟨zz110⟩⟩
                    rw [if_neg c12] at H
                    exact absurd H (by simp)
                  rw [if_neg c11] at H
                  exact absurd H (by simp)
                rw [if_neg c10] at H
                exact absurd H (by simp)
              rw [if_neg c9] at H
              exact absurd H (by simp)
            rw [if_neg c8] at H
            exact absurd H (by simp)
          rw [if_neg c7] at H; have c7b0 := decide_eq_false c7; clear c7; obtain rfl := Option.some.inj H; go_wp2; go_ret
          exact ⟨_, by first | rfl | (simp [errW_none, errW_some] <;> rfl) | (simp [*, errW_none, errW_some] <;> rfl), by (with_reducible repeat (first | apply Kd.R_alloc | apply Kd.R_drewN | apply Kd.R_drew)); exact HO_5.out, by repeat (first | (with_reducible first | exact HB.out | apply below_alloc | apply pw_below_drewN | apply below_drew1) | exact HB.out)⟩
    rw [if_neg c4] at H
    exact absurd H (by simp)
  rw [if_neg c3] at H
  exact absurd H (by simp)
end
section
attribute [local go_sem] max2_int min2_int max_two min_two max_three min_three max_four min_four
def perm_inverse.l0 : Nat → List Int → List Int → Int → Int → Option (List Int)
  | 0, _, _, _, _ => none
  | k + 1, x3, x9, x10, x11 => if x11 < x10 then (if 0 ≤ x11 then (if x11 < (x9.length : Int) then (if 0 ≤ (rd x9 x11) then (if (rd x9 x11) < (x3.length : Int) then (perm_inverse.l0 k (x3.set ((rd x9 x11) : Int).toNat x11) x9 x10 (wrap64 (x11 + 1))) else (none)) else (none)) else (none)) else (none)) else (some x3)
def perm_inverse.f (k : Nat) (l0 : List Int) : Option (List Int) := if 0 ≤ (l0.length : Int) then (if ((l0.length : Int) : Int).toNat ≤ 35184372088832 then (perm_inverse.l0 k (List.replicate ((l0.length : Int) : Int).toNat 0) l0 (l0.length : Int) 0) else (none)) else (none)
theorem perm_inverse.mono_l : ∀ k, (∀ y0 y1 y2 y3, LeO (perm_inverse.l0 k y0 y1 y2 y3) (perm_inverse.l0 (k + 1) y0 y1 y2 y3))
  | 0 => fun _ _ _ _ r h => by simp [perm_inverse.l0] at h
  | k + 1 => by
    have ih0 := perm_inverse.mono_l k
    · intro y0 y1 y2 y3; unfold perm_inverse.l0
      repeat' first
      | (with_reducible exact ih0 _ _ _ _)
      | (with_reducible exact LeO.refl _)
      | (with_reducible exact LeO.none _)
      | (with_reducible refine LeO.ite ?_ ?_)
      | (with_reducible refine LeO.bind ?_ (fun _ => ?_))
theorem perm_inverse.mono : ∀ a0 k, LeO (perm_inverse.f k a0) (perm_inverse.f (k + 1) a0) := by
  intro a0 k
  have ih0 := perm_inverse.mono_l k
  unfold perm_inverse.f
  repeat' first
      | (with_reducible exact ih0 _ _ _ _)
      | (with_reducible exact LeO.refl _)
      | (with_reducible exact LeO.none _)
      | (with_reducible refine LeO.ite ?_ ?_)
      | (with_reducible refine LeO.bind ?_ (fun _ => ?_))
theorem perm_inverse.calls (k : Nat) (A0 : Option Addr) (c0 : Nat) (l0 : List Int) (r : List Int) (w : World) (hr0 : Kd.C (Kd.int .i64) w A0 l0.length l0) (hc0 : l0.length ≤ c0) (h : perm_inverse.f k l0 = some r) :
    Calls Try.prog 55 #[.slice A0 l0.length c0] w fun e w' => ∃ v0_ : Value, e = .returned (v0_) ∧ Kd.R (Kd.int .i64) 3 w' w.heap.size (fun _ => True) v0_ r ∧ Below w.heap.size w w' := by
  have HR0 := aM hr0
  have HC0 := aM hc0
  clear hr0 hc0
  have HB := aM (Below.refl w.heap.size w)
  have H : (if 0 ≤ (l0.length : Int) then (if ((l0.length : Int) : Int).toNat ≤ 35184372088832 then (perm_inverse.l0 k (List.replicate ((l0.length : Int) : Int).toNat 0) l0 (l0.length : Int) 0) else (none)) else (none)) = some r := h
  clear h
  by_cases c2 : 0 ≤ (l0.length : Int)
  · rw [if_pos c2] at H
    have c2b0 := eq_true c2; have c2b1 := decide_eq_true c2; clear c2
    by_cases c3 : ((l0.length : Int) : Int).toNat ≤ 35184372088832
    · rw [if_pos c3] at H; have c3b0 := eq_true c3; have c3b1 := decide_eq_true c3; clear c3; obtain ⟨y123, hy123⟩ : ∃ y_ : List Int, y_ = (List.replicate ((l0.length : Int) : Int).toNat 0) := ⟨_, rfl⟩; replace H : (perm_inverse.l0 k y123 l0 (l0.length : Int) 0) = some r := by first | (rw [hy123]; with_reducible exact H) | (have H2_ := (Option.bind_some _ _).symm.trans H; rw [hy123]; with_reducible exact H2_) | (have H2_ := (Option.bind_some _ _).symm.trans H; with_reducible exact H2_) | with_reducible exact H | (rw [hy123]; exact H) | exact H
      have Ny123 := aM hy123; clear hy123; have H' := aM H; clear H
      go_enter Try.func55, Try.ntmps55
      go_wp2_with (first | ((with_reducible refine gate_dst (N := 8) rfl ?_); refine Kd.R_make (Kd.int .i64) _ 3 rfl (N := 8) rfl 22 _ _ rfl (l0.length : Int) rfl rfl Try.underlying22 (.int .i64 0) 8 info3 rfl (by decide) (by omega) 0 (ok := fun _ => True) (okp := fun _ => True) rfl (fun _ hk => hk) trivial (of_decide_eq_true zz135) (Nat.le_trans (Nat.mul_le_mul_right _ (of_decide_eq_true zz135 : (l0.length : Int).toNat ≤ 35184372088832)) (by omega)) (Below.refl _ _) (Nat.le_refl _) ?_; intro v124 w4 ho5 hb hg_ hnew_; clear hg_ hnew_; (first | rw [← Ny123.out] at ho5 | (simp only [Int.reduceToNat] at ho5; rw [← Ny123.out] at ho5)); have HO125 := aM (Kd.R_lower ho5 (below_size zz110)); replace HB := aM (below_step zz110 hb); clear hb ho5))
      go_loopg [11] k (fun kq v11 w' => ∃ (x3_1 : List Int) (x11_1 : Int), v11 = .int .i64 x11_1 ∧ Aside0 (perm_inverse.l0 kq x3_1 l0 (l0.length : Int) x11_1 = some r) ∧ Aside0 (kq ≤ k) ∧ Aside0 (Kd.R (Kd.int .i64) 3 w' w.heap.size (fun _ => True) v124 x3_1) ∧ Aside0 (Below w.heap.size w w'))
      case atStart => exact ⟨(y123), (0), zz136, H', ⟨Nat.le_refl _⟩, ⟨(zR HO125)⟩, ⟨zz110⟩⟩
      case round =>
        clear H'; (try clear c2); (try clear c2b0); (try clear c2b1); (try clear p2); (try clear c3); (try clear c3b0); (try clear c3b1); (try clear c5); obtain ⟨x3_1, x11_1, rfl, HA, HK1, HO_3, HB⟩ := hrel
        cases gk with
        | zero => exact absurd HA.out (by simp [perm_inverse.l0])
        | succ k1 =>
          have H := HA.out; clear HA; simp only [perm_inverse.l0] at H
          by_cases c6 : x11_1 < (l0.length : Int)
          · rw [if_pos c6] at H; have c6b0 := decide_eq_true c6; clear c6
            by_cases c7 : 0 ≤ x11_1
            · rw [if_pos c7] at H; have c7b0 := decide_eq_true c7; clear c7
              by_cases c8 : x11_1 < (l0.length : Int)
              · rw [if_pos c8] at H; have c8b0 := decide_eq_true c8; clear c8
                by_cases c9 : 0 ≤ (rd l0 x11_1)
                · rw [if_pos c9] at H; have c9b0 := decide_eq_true c9; clear c9
                  by_cases c10 : (rd l0 x11_1) < (x3_1.length : Int)
                  · rw [if_pos c10] at H; have c10b0 := decide_eq_true c10; clear c10; obtain ⟨y127, hy127⟩ : ∃ y_ : List Int, y_ = (x3_1.set ((rd l0 x11_1) : Int).toNat x11_1) := ⟨_, rfl⟩; replace H : (perm_inverse.l0 k1 y127 l0 (l0.length : Int) (wrap64 (x11_1 + 1))) = some r := by first | (rw [hy127]; with_reducible exact H) | (have H2_ := (Option.bind_some _ _).symm.trans H; rw [hy127]; with_reducible exact H2_) | (have H2_ := (Option.bind_some _ _).symm.trans H; with_reducible exact H2_) | with_reducible exact H | (rw [hy127]; exact H) | exact H
                    have Ny127 := aM hy127; clear hy127; have H' := aM H; clear H; have p126 : 0 ≤ (x11_1 : Int) := of_decide_eq_true zz135; have q126 : x11_1 < (l0.length : Int) := of_decide_eq_true zz135; obtain ⟨ad126, e126, hx126_0⟩ := Kd.at_int HR0.out x11_1 p126 q126
                    cases e126; replace hx126_0 := (HB.out.cell (World.block_lt_of_cell? w _ hx126_0)).trans hx126_0; replace p126 := eq_true p126; replace q126 := eq_true q126; have p11 : 0 ≤ ((rd l0 x11_1) : Int) := of_decide_eq_true zz135; have q11 : ((rd l0 x11_1) : Int) < ((x3_1.length : Int) : Int) := of_decide_eq_true zz135; obtain ⟨go11, co11, eo11, gb11, gl11, cl11, HG11⟩ := Kd.R_form HO_3.out (by omega)
                    (first | cases eo11 | (injection eo11 with ea_ en_ ec_; (first | subst ea_ | (injection ea_ with ea_; subst ea_)); subst ec_; clear en_))
                    have GB11 := aM gb11; have GG11 := aM HG11; clear gb11 gl11 HG11; obtain ⟨hx11_0, hf11_0⟩ := Kd.R_celln 0 HO_3.out ((rd l0 x11_1) : Int) p11 q11; replace p11 := eq_true p11; replace q11 := eq_true q11; have HP12 := Kd.R_putg HO_3.out ((rd l0 x11_1) : Int) x11_1
                    go_wp2_with (first | ((with_reducible refine gate_store (t := 3) (p := 19) rfl ?_); refine store_event (t := 3) (p := 19) (v := ?vo_w13) (w1 := (wr.setCell ⟨go11, ((rd l0 x11_1) : Int).toNat, none⟩ (.int .i64 x11_1))) ?hg ?ho ?hn ?hr ?_; (case ho => rfl); (case hg => rfl); (case hn => rfl); (case hr => first | (go_simp; done) | (go_simp; rfl)); intro w13 hw; have hg : wr.grownBy w13 (some go11) := (by rw [hw]; exact HP12.2); have hp_ : Kd.R (Kd.int .i64) 3 w13 w.heap.size (fun _ => True) (.slice (some ⟨go11, 0, none⟩) x3_1.length co11) y127 := (by rw [hw, Ny127.out]; exact HP12.1); clear HP12; replace HO_3 := aM (hp_); replace HB := aM ((by rw [hw]; exact below_set (HB.out) GB11.out : Below w.heap.size w w13)); clear hg hw hp_))
                    go_roundg k1
                    case measure => have := HK1.out; omega
                    case rel => exact ⟨(y127), (wrap64 (x11_1 + 1)), zz136, H', ⟨zz143⟩, ⟨(zR HO_3)⟩, ⟨zz110⟩⟩
                  rw [if_neg c10] at H
                  exact absurd H (by simp)
                rw [if_neg c9] at H
                exact absurd H (by simp)
              rw [if_neg c8] at H
              exact absurd H (by simp)
            rw [if_neg c7] at H
            exact absurd H (by simp)
          rw [if_neg c6] at H; have c6b0 := decide_eq_false c6; clear c6; obtain rfl := Option.some.inj H; go_wp2; go_ret
          exact ⟨_, by first | rfl | (simp [errW_none, errW_some] <;> rfl) | (simp [*, errW_none, errW_some] <;> rfl), by (with_reducible repeat (first | apply Kd.R_alloc | apply Kd.R_drewN | apply Kd.R_drew)); exact HO_3.out, by repeat (first | (with_reducible first | exact HB.out | apply below_alloc | apply pw_below_drewN | apply below_drew1) | exact HB.out)⟩
    rw [if_neg c3] at H
    exact absurd H (by simp)
  rw [if_neg c2] at H
  exact absurd H (by simp)
end
section
structure Tw where
  n : Nat
  reps : List (List (List Int))
  gens : List (List (List Int))
def Tw.row (T : Tw) (b : Int) : List (List Int) := T.reps.getD b.toNat []
def Tw.rep (T : Tw) (b x : Int) : List Int := (T.row b).getD x.toNat []
def Tw.gen (T : Tw) (b : Int) : List (List Int) := T.gens.getD b.toNat []
def Lok (base : Nat) (w : World) (k : Nat) : Prop := k < base ∨ ∃ cs fr, w.heap[k]? = some (.cells cs 3 fr)
def Leaf (base : Nat) (w : World) (v : Value) (l : List Int) : Prop :=
  ∃ A c, v = .slice A l.length c ∧ l.length ≤ c ∧ Kd.F (Kd.int .i64) w (Lok base w) A l.length l ∧ (l = [] → v = .slice none 0 0)
structure Keep (base : Nat) (w w1 : World) : Prop where
  below : Below base w w1
  ints : ∀ (k : Nat) (cs : Array Value) (fr : Nat × Nat), w.heap[k]? = some (Obj.cells cs 3 fr) → w1.heap[k]? = w.heap[k]?
theorem Keep.refl (base : Nat) (w : World) : Keep base w w := ⟨Below.refl _ _, fun _ _ _ _ => rfl⟩
theorem Keep.trans {base : Nat} {w w1 w2 : World} (h : Keep base w w1) (k : Keep base w1 w2) : Keep base w w2 :=
  ⟨h.below.trans k.below, fun i cs fr hi => by
    have h1 := h.ints i cs fr hi; rw [k.ints i cs fr (h1.trans hi), h1]⟩
theorem lt_of_some {w : World} {k : Nat} {o : Obj} (h : w.heap[k]? = some o) : k < w.heap.size := (Array.getElem?_eq_some_iff.1 h).1
theorem Keep.of_below {base : Nat} {w w1 : World} (hb : base ≤ w.heap.size) (h : Below w.heap.size w w1) : Keep base w w1 :=
  ⟨⟨h.os, h.tape, h.output, h.size, fun i hi => h.block i (Nat.lt_of_lt_of_le hi hb)⟩, fun k _ _ hk => h.block k (lt_of_some hk)⟩
theorem Keep.lok {base : Nat} {w w1 : World} (h : Keep base w w1) {k : Nat} (hk : Lok base w k) : Lok base w1 k := by
  rcases hk with hk | ⟨cs, fr, hk⟩
  · exact .inl hk
  · exact .inr ⟨cs, fr, (h.ints k cs fr hk).trans hk⟩
theorem Leaf.keep {base : Nat} {w w1 : World} {v : Value} {l : List Int} (h : Leaf base w v l) (hk : Keep base w w1) : Leaf base w1 v l := by
  obtain ⟨A, c, rfl, hl, hf, hn⟩ := h
  refine ⟨A, c, rfl, hl, ?_, hn⟩
  refine Kd.F_mono (Kd.F_step hf (fun k hk' hlt => ?_)) (fun k hk' => hk.lok hk')
  rcases hk' with hk' | ⟨cs, fr, hk'⟩
  · exact hk.below.block k hk'
  · exact hk.ints k cs fr hk'
theorem Leaf.reads {base : Nat} {w : World} {v : Value} {l : List Int} (h : Leaf base w v l) : ∃ A c, v = .slice A l.length c ∧ l.length ≤ c ∧ (Kd.int .i64).C w A l.length l := by
  obtain ⟨A, c, rfl, hl, hf, _⟩ := h
  exact ⟨A, c, rfl, hl, Kd.F_now hf⟩
theorem Leaf.of_R {base b : Nat} {w : World} {ok : Nat → Prop} {v : Value} {l : List Int} (h : (Kd.int .i64).R 3 w b ok v l) (hl : l ≠ []) : Leaf base w v l := by
  obtain ⟨A, c, rfl, hc, hr⟩ := Kd.R_reads h
  refine ⟨A, c, rfl, hc, Kd.F_mono (Kd.R_F (Kd.R_bound h)) (fun k hk => ?_), fun h0 => absurd h0 hl⟩
  obtain ⟨_, _, _, q, hq, cells, hcell⟩ := hk
  have : q = 3 := by
    rcases List.mem_cons.1 hq with h1 | h1
    · exact h1
    · exact absurd h1 zz142
  subst this
  exact .inr ⟨cells, _, hcell⟩
def LeafN (base : Nat) (w : World) (v : Value) (l : List Int) : Prop :=
  ∃ A c, v = .slice A l.length c ∧ l.length ≤ c ∧ Kd.F (Kd.int .i64) w (fun k => base ≤ k ∧ ∃ cs fr, w.heap[k]? = some (Obj.cells cs 3 fr)) A l.length l ∧ (l = [] → v = .slice none 0 0)
theorem LeafN.leaf {base : Nat} {w : World} {v : Value} {l : List Int} (h : LeafN base w v l) : Leaf base w v l := by
  obtain ⟨A, c, rfl, hl, hf, hn⟩ := h
  exact ⟨A, c, rfl, hl, Kd.F_mono hf (fun k hk => .inr hk.2), hn⟩
theorem LeafN.keep {base : Nat} {w w1 : World} {v : Value} {l : List Int} (h : LeafN base w v l) (hk : Keep base w w1) : LeafN base w1 v l := by
  obtain ⟨A, c, rfl, hl, hf, hn⟩ := h
  refine ⟨A, c, rfl, hl, ?_, hn⟩
  refine Kd.F_mono (Kd.F_step hf (fun k hk' hlt => ?_)) (fun k hk' => ⟨hk'.1, ?_⟩)
  · obtain ⟨_, cs, fr, hk'⟩ := hk'
    exact hk.ints k cs fr hk'
  · obtain ⟨_, cs, fr, hk'⟩ := hk'
    exact ⟨cs, fr, (hk.ints k cs fr hk').trans hk'⟩
theorem LeafN.of_R {base b : Nat} {w : World} {ok : Nat → Prop} {v : Value} {l : List Int} (h : (Kd.int .i64).R 3 w b ok v l) (hb : base ≤ b) (hl : l ≠ []) : LeafN base w v l := by
  obtain ⟨A, c, rfl, hc, hr⟩ := Kd.R_reads h
  refine ⟨A, c, rfl, hc, Kd.F_mono (Kd.R_F (Kd.R_bound h)) (fun k hk => ?_), fun h0 => absurd h0 hl⟩
  obtain ⟨_, h2, _, q, hq, cells, hcell⟩ := hk
  have : q = 3 := by
    rcases List.mem_cons.1 hq with h1 | h1
    · exact h1
    · exact absurd h1 zz142
  subst this
  exact ⟨Nat.le_trans hb h2, cells, _, hcell⟩
theorem LeafN.none_ (base : Nat) (w : World) : LeafN base w (.slice none 0 0) [] := ⟨none, 0, rfl, Nat.le_refl _, Kd.F_nil _ _ _, fun _ => rfl⟩
theorem Leaf.C {base : Nat} {w : World} {A : Option Addr} {c : Nat} {l : List Int} (h : Leaf base w (.slice A l.length c) l) : (Kd.int .i64).C w A l.length l ∧ l.length ≤ c := by
  obtain ⟨A', c', e, hl, hr⟩ := h.reads
  injection e with ea eb ec
  subst ea ec
  exact ⟨hr, hl⟩
structure TwAt (base : Nat) (w : World) (bt bR bG : Nat) (rb : Nat → Nat) (vr : Nat → Nat → Value) (vg : Nat → Value) (T : Tw) : Prop where
  n1 : 1 ≤ T.n
  n64 : T.n ≤ 64
  lr : T.reps.length = T.n
  lrr : ∀ i, i < T.n → (T.reps.getD i []).length = T.n
  lg : T.gens.length = T.n
  gt : base ≤ bt
  gR : base ≤ bR
  gG : base ≤ bG
  grb : ∀ i, i < T.n → base ≤ rb i
  ht : w.heap[bt]? = some (.cells #[.int .i64 T.n, .slice (some ⟨bR, 0, none⟩) T.n T.n, .slice (some ⟨bG, 0, none⟩) T.n T.n] 108 (0, 0))
  hR : w.heap[bR]? = some (.cells ((List.range T.n).map (fun i => Value.slice (some ⟨rb i, 0, none⟩) T.n T.n)).toArray 28 (0, 0))
  hr : ∀ i, i < T.n → w.heap[rb i]? = some (.cells ((List.range T.n).map (vr i)).toArray 22 (0, 0))
  hG : w.heap[bG]? = some (.cells ((List.range T.n).map vg).toArray 28 (0, 0))
  hg : ∀ i, i < T.n → ∃ inner, w.ownsRow base 22 1 (vg i) (T.gens.getD i []).length inner ∧ ∀ (j : Nat) (l : List Int), (T.gens.getD i [])[j]? = some l → ∃ v, inner[j]? = some v ∧ Leaf base w v l
  leaf : ∀ i x, i < T.n → x < T.n → LeafN base w (vr i x) ((T.reps.getD i []).getD x [])
  dRG : bR ≠ bG
  drb : ∀ i j, i < T.n → j < T.n → rb i = rb j → i = j
  drg : ∀ i j, i < T.n → j < T.n → (vg j).ownBlock ≠ some (rb i)
  dgg : ∀ i j, i < T.n → j < T.n → i ≠ j → (vg i).ownBlock = none ∨ (vg i).ownBlock ≠ (vg j).ownBlock
section
variable {base : Nat} {w w1 : World} {bt bR bG : Nat} {rb : Nat → Nat} {vr : Nat → Nat → Value} {vg : Nat → Value} {T : Tw}
theorem range_map_get {n i : Nat} (f : Nat → Value) (h : i < n) : ((List.range n).map f).toArray[i]? = some (f i) := by simp [h]
theorem TwAt.cell0 (h : TwAt base w bt bR bG rb vr vg T) : w.cell? ⟨bt, 0, none⟩ = some (.int .i64 T.n) := (blk_cell h.ht 0).trans rfl
theorem TwAt.cell1 (h : TwAt base w bt bR bG rb vr vg T) : w.cell? ⟨bt, 1, none⟩ = some (.slice (some ⟨bR, 0, none⟩) T.n T.n) := (blk_cell h.ht 1).trans rfl
theorem TwAt.cell2 (h : TwAt base w bt bR bG rb vr vg T) : w.cell? ⟨bt, 2, none⟩ = some (.slice (some ⟨bG, 0, none⟩) T.n T.n) := (blk_cell h.ht 2).trans rfl
theorem TwAt.cellR (h : TwAt base w bt bR bG rb vr vg T) {b : Int} (h0 : 0 ≤ b) (h1 : b < T.n) : w.cell? ⟨bR, b.toNat, none⟩ = some (.slice (some ⟨rb b.toNat, 0, none⟩) T.n T.n) :=
  (blk_cell h.hR b.toNat).trans (range_map_get _ (by omega))
theorem TwAt.cellG (h : TwAt base w bt bR bG rb vr vg T) {b : Int} (h0 : 0 ≤ b) (h1 : b < T.n) : w.cell? ⟨bG, b.toNat, none⟩ = some (vg b.toNat) :=
  (blk_cell h.hG b.toNat).trans (range_map_get _ (by omega))
theorem TwAt.cellr (h : TwAt base w bt bR bG rb vr vg T) {b x : Int} (h0 : 0 ≤ b) (h1 : b < T.n) (h2 : 0 ≤ x) (h3 : x < T.n) : w.cell? ⟨rb b.toNat, x.toNat, none⟩ = some (vr b.toNat x.toNat) :=
  (blk_cell (h.hr b.toNat (by omega)) x.toNat).trans (range_map_get _ (by omega))
theorem TwAt.leafr (h : TwAt base w bt bR bG rb vr vg T) {b x : Int} (h0 : 0 ≤ b) (h1 : b < T.n) (h2 : 0 ≤ x) (h3 : x < T.n) : Leaf base w (vr b.toNat x.toNat) (T.rep b x) :=
  (h.leaf b.toNat x.toNat (by omega) (by omega)).leaf
theorem TwAt.base_le (h : TwAt base w bt bR bG rb vr vg T) : base ≤ w.heap.size := Nat.le_trans h.gt (Nat.le_of_lt (lt_of_some h.ht))
theorem TwAt.below (h : TwAt base w bt bR bG rb vr vg T) (hb : Below w.heap.size w w1) : TwAt base w1 bt bR bG rb vr vg T := by
  have hk := Keep.of_below h.base_le hb
  exact { h with
    ht := (hb.block _ (lt_of_some h.ht)).trans h.ht
    hR := (hb.block _ (lt_of_some h.hR)).trans h.hR
    hr := fun i hi => (hb.block _ (lt_of_some (h.hr i hi))).trans (h.hr i hi)
    hG := (hb.block _ (lt_of_some h.hG)).trans h.hG
    hg := fun i hi => by
      obtain ⟨inner, ho, hl⟩ := h.hg i hi
      exact ⟨inner, pw_own_below ho hb, fun j l hj => by obtain ⟨v, hv, hf⟩ := hl j l hj; exact ⟨v, hv, hf.keep hk⟩⟩
    leaf := fun i x hi hx => (h.leaf i x hi hx).keep hk }
end
end
section
def stripL : Nat → Tw → List Int → Int → Option Int
  | 0, _, _, _ => none
  | k + 1, T, p, b =>
    if b < T.n then (if 0 ≤ b then (if b < (p.length : Int) then (if 0 ≤ rd p b then (if rd p b < T.n then (
      if T.rep b (rd p b) = [] then some b else (perm_inverse.f k (T.rep b (rd p b))).bind fun i => (perm_then.f k p i).bind fun q => stripL k T q (b + 1))
      else none) else none) else none) else none) else some T.n
theorem run_eql_nil (w : World) (a : Option Addr) (n c : Nat) : (binOp .eql 22 (.slice a n c) (.slice none 0 0)).run Try.prog w = .ok (.bool a.isNone) w := Lib.run_eql_slice_nil w 22 3 a n c 0 0 Try.underlying22
theorem run_neq_nil (w : World) (a : Option Addr) (n c : Nat) : (binOp .neq 22 (.slice a n c) (.slice none 0 0)).run Try.prog w = .ok (.bool (!a.isNone)) w := run_neq_slice_nil_any w 22 3 a n c 0 0 Try.underlying22
theorem C_some {w : World} {A : Option Addr} {l : List Int} (h : Kd.C (Kd.int .i64) w A l.length l) (hl : l ≠ []) : ∃ ad, A = some ad := by
  have h0 : 0 < l.length := List.length_pos_iff.2 hl
  obtain ⟨ad, e, _⟩ := Kd.at_int h 0 (by omega) (by omega)
  exact ⟨ad, e⟩
theorem strip_calls {base : Nat} {bt bR bG : Nat} {rb : Nat → Nat} {vr : Nat → Nat → Value} {vg : Nat → Value} {T : Tw} (k : Nat) (A0 : Option Addr) (c0 : Nat) (p : List Int) (b : Int) (r : Int) (w : World)
    (hT : TwAt base w bt bR bG rb vr vg T) (hr0 : Kd.C (Kd.int .i64) w A0 p.length p) (hc0 : p.length ≤ c0) (h : stripL k T p b = some r) :
    Calls Try.prog 83 #[.pointer (some ⟨bt, 0, none⟩), .slice A0 p.length c0, .int .i64 b] w fun e w' => ∃ v0_ : Value, e = .returned (.tuple #[v0_, .int .i64 r]) ∧ Below w.heap.size w w' := by
  have HT := aM hT
  have HR0 := aM hr0
  have HC0 := aM hc0
  have HB := aM (Below.refl w.heap.size w)
  have H' := aM h
  clear hT hr0 hc0 h
  go_enter Try.func83, Try.ntmps83
  go_wp2
  go_loopg [1, 2] k (fun kq v1 v2 w' => ∃ (q : List Int) (A1 : Option Addr) (c1 : Nat) (b1 : Int), v1 = .slice A1 q.length c1 ∧ v2 = .int .i64 b1 ∧ Aside0 (stripL kq T q b1 = some r) ∧ Aside0 (kq ≤ k) ∧ Aside0 (Kd.C (Kd.int .i64) w' A1 q.length q) ∧ Aside0 (q.length ≤ c1) ∧ Aside0 (Below w.heap.size w w'))
  case atStart => exact ⟨p, A0, c0, b, rfl, rfl, H', ⟨Nat.le_refl _⟩, HR0, HC0, HB⟩
  case round =>
    clear H' HB HR0 HC0; obtain ⟨q, A1, c1, b1, rfl, rfl, HA, HK1, HR, HC, HB⟩ := hrel
    cases gk with
    | zero => exact absurd HA.out (by simp [stripL])
    | succ k1 =>
      have H := HA.out; clear HA; simp only [stripL] at H; have hn64 := HT.out.n64; have HTr := aM (HT.out.below HB.out); have hx0 := HTr.out.cell0
      by_cases c7 : b1 < (T.n : Int)
      · rw [if_pos c7] at H; have c7b : decide (b1 < (T.n : Int)) = true := decide_eq_true c7; have hx1 := HTr.out.cell1
        by_cases c8 : 0 ≤ b1
        · rw [if_pos c8] at H
          by_cases c9 : b1 < (q.length : Int)
          · rw [if_pos c9] at H
            by_cases c10 : 0 ≤ rd q b1
            · rw [if_pos c10] at H
              by_cases c11 : rd q b1 < (T.n : Int)
              · rw [if_pos c11] at H; have hx2 := HTr.out.cellR c8 c7; have hx3 := HTr.out.cellr c8 c7 c10 c11; obtain ⟨ad, e1, hx4⟩ := Kd.at_int HR.out b1 c8 c9
                cases e1; have hL := HTr.out.leafr c8 c7 c10 c11; have p8 := eq_true c8; have p9 := eq_true c9; have p7 := eq_true c7; have p10 := eq_true c10; have p11 := eq_true c11
                by_cases c12 : T.rep b1 (rd q b1) = []
                · rw [if_pos c12] at H; obtain rfl := Option.some.inj H; obtain ⟨A2, c2, hv, hl2, hf2, hnil⟩ := hL; have hv0 := hnil c12; rw [hv0] at hx3; have hq := fun W => run_eql_nil W none 0 0
                  clear hv hv0 hnil hf2 hl2 c12 H; go_wp2
                  go_quiet (fail)
                  go_wp2
                  go_ret2
                  exact ⟨_, rfl, pw_below_drewN HB.out _⟩
                · rw [if_neg c12] at H; replace H := Option.bind_eq_some_iff.mp H; obtain ⟨i, hi, H⟩ := H; replace H := Option.bind_eq_some_iff.mp H; obtain ⟨q2, hq2, H⟩ := H; obtain ⟨A2, c2, hv, hl2, hC2⟩ := hL.reads; obtain ⟨ad2, rfl⟩ := C_some hC2 c12; rw [hv] at hx3; have hq := fun W => run_eql_nil W (some ad2) (T.rep b1 (rd q b1)).length c2
                  have Hi := aM hi; have Hq2 := aM hq2; have H' := aM H; have HC2 := aM hC2; have HL2 := aM hl2; clear hv c12 H hi hq2 hC2 hl2 hL; go_wp2
                  go_quiet (fail)
                  have HCr := aM (Kd.C_below HC2.out (Below.refl _ _))
                  go_wp2_with (first
                    | (go_at_call 55; (with_reducible refine (perm_inverse.calls k1 _ _ (T.rep b1 (rd q b1)) i _ ?s1 ?s2 Hi.out).mono ?_); (case s1 => exact Kd.C_drewN HC2.out _); (case s2 => exact HL2.out); rintro e w3 ⟨v3, rfl, ho3, hb3⟩; obtain ⟨A3, c3, rfl, hl3, hr3⟩ := Kd.R_reads ho3; have HR3 := aM hr3; have HL3 := aM hl3; have HB3 := aM (below_step (pw_below_drewN HB.out nq) hb3); have HQ3 := aM (Kd.C_below (Kd.C_drewN HR.out nq) hb3); clear ho3 hb3 hr3 hl3)
                    | (go_at_call 50; (with_reducible refine (perm_then.calls k1 _ _ q _ _ i q2 _ ?s1 ?s2 ?s3 ?s4 Hq2.out).mono ?_); (case s1 => exact HQ3.out); (case s2 => exact HC.out); (case s3 => exact HR3.out); (case s4 => exact HL3.out); rintro e w4 ⟨v4, rfl, ho4, hb4⟩; obtain ⟨A4, c4, rfl, hl4, hr4⟩ := Kd.R_reads ho4; have HR4 := aM hr4; have HL4 := aM hl4; have HB4 := aM (below_step HB3.out hb4); clear ho4 hb4 hr4 hl4))
                  go_roundg k1
                  case measure => have := HK1.out; omega
                  case rel => exact ⟨q2, A4, c4, b1 + 1, rfl, rfl, H', ⟨by have := HK1.out; omega⟩, HR4, HL4, HB4⟩
              · rw [if_neg c11] at H
                cases H
            · rw [if_neg c10] at H
              cases H
          · rw [if_neg c9] at H
            cases H
        · rw [if_neg c8] at H
          cases H
      · rw [if_neg c7] at H; obtain rfl := Option.some.inj H; have c7b : decide (b1 < (T.n : Int)) = false := decide_eq_false c7; go_wp2
        go_quiet (fail)
        go_wp2
        go_ret2
        exact ⟨_, rfl, pw_below_drewN HB.out _⟩
end
section
theorem run_eql_nil28 (w : World) (a : Option Addr) (n c : Nat) : (binOp .eql 28 (.slice a n c) (.slice none 0 0)).run Try.prog w = .ok (.bool a.isNone) w := Lib.run_eql_slice_nil w 28 22 a n c 0 0 Try.underlying28
theorem raw_reads {w : World} {g n : Nat} {vals : List Value} (hl : vals.length = n) (hn : n ≤ 64) (hone : ∀ v ∈ vals, v.oneCell' = true) (hc : ∀ (j : Nat) (u : Value), vals[j]? = some u → w.cell? ⟨g, j, none⟩ = some u) :
    ReadsRow (fun x cs => cs = x ∧ cs.length = 1 ∧ ∀ u ∈ cs, u.oneCell' = true) 1 w (some ⟨g, 0, none⟩) n (vals.map (fun v => [v])) := by
  refine ⟨by simpa using hl, by omega, fun h0 => ⟨_, rfl, fun j p hj => ?_⟩⟩
  rw [List.getElem?_map] at hj
  obtain ⟨v, hv, rfl⟩ := Option.map_eq_some_iff.1 hj
  refine ⟨[v], rfl, ⟨rfl, rfl, fun u hu => ?_⟩, fun i u hu => ?_⟩
  · rw [List.mem_singleton.1 hu]; exact hone v (List.mem_of_getElem? hv)
  · match i, hu with
    | 0, hu =>
      obtain rfl := Option.some.inj hu; rw [add_plain, Nat.mul_one, Nat.add_zero]
      exact hc j v hv
theorem raw_cells {w : World} {b e : Nat} {ok : Nat → Prop} {v : Value} {vals : List Value} (h : (Kd.raw 1).R e w b ok v (vals.map (fun v => [v]))) (h0 : 0 < vals.length) :
    ∃ g c, v = .slice (some ⟨g, 0, none⟩) vals.length c ∧ b ≤ g ∧ g < w.heap.size ∧ ∀ (j : Nat) (u : Value), vals[j]? = some u → w.cell? ⟨g, j, none⟩ = some u := by
  obtain ⟨_, inner, ho, hr⟩ := h
  rw [List.length_map] at ho
  obtain ⟨g, cap, he, hbg, hlg⟩ := ho.form h0
  subst he
  refine ⟨g, cap, rfl, hbg, hlg, fun j u hu => ?_⟩
  have h1 := hr.2 j [u] (by rw [List.getElem?_map, hu]; rfl)
  have h2 : ((inner.drop (j * 1)).take 1) = [u] := h1.1
  have h3 : inner[j]? = some u := by
    have := congrArg List.head? h2; rw [Nat.mul_one] at this
    simpa [List.head?_take, List.head?_drop] using this
  have h4 := ho.cells (g := g) rfl j u h3
  rwa [add_plain] at h4
theorem clone84_calls (g n : Nat) (vals : List Value) (w : World) (hl : vals.length = n) (h1 : 1 ≤ n) (hn : n ≤ 64) (hone : ∀ v ∈ vals, v.oneCell' = true) (hc : ∀ (j : Nat) (u : Value), vals[j]? = some u → w.cell? ⟨g, j, none⟩ = some u) :
    Calls Try.prog 84 #[.slice (some ⟨g, 0, none⟩) n n] w fun e w' => ∃ g' c, e = .returned (.slice (some ⟨g', 0, none⟩) n c) ∧ w.heap.size ≤ g' ∧ g' < w'.heap.size ∧ (∀ (j : Nat) (u : Value), vals[j]? = some u → w'.cell? ⟨g', j, none⟩ = some u) ∧ Below w.heap.size w w' := by
  have HRR := aM (raw_reads hl hn hone hc)
  have HL := aM hl
  have HB := aM (Below.refl w.heap.size w)
  have hq := fun W => run_eql_nil28 W (some ⟨g, 0, none⟩) n n
  clear hl hone hc
  go_enter Try.func84, Try.ntmps84
  go_wp2_with (first
    | ((with_reducible refine gate_dst (N := 5) rfl ?_); refine Kd.R_lit (Kd.raw 1) _ 22 ?hg (N := 5) ?hd (xs := ([] : List (List Value))) (inner := []) (ok := fun _ => True) (okp := fun _ => True) ?hr ?hp (fun _ hk => hk) trivial (Below.refl _ _) (Nat.le_refl _) (by simp) ?_; (case hd => rfl); (case hg => rfl); (case hr => first | (go_simp; done) | (go_simp; rfl)); (case hp => exact (Reps.none _ _)); intro v1 w1 ho1 hb1 hg_ hnew_; clear hg_ hnew_; have HO1 := aM ho1; have HB1 := aM hb1; clear ho1 hb1)
    | ((with_reducible refine gate_builtin (b := .append) (xs := #[.tmp 5, .tmp 6]) rfl ?_); at_builtin; refine Kd.R_append_rows (Kd.raw 1) (w0 := w) w.heap.size rfl (.tmp 5) (.tmp 6) 28 22 (.slice none 0 0) 24 rfl Try.underlying28 info22 rfl (by decide) (by omega) v1 [] (vals.map (fun v => [v])) _ _ _ (fun _ => True) (fun _ => False) rfl rfl ?aO ?aR (fun _ _ h => h) (fun _ h => h.elim) ?aF ?aB ?aS ?aL ?_; (case aR => exact HRR.out.imp_ (HB1.out) (fun _ _ h => h)); (case aB => exact HB1.out); (case aF => exact (fun _ _ => trivial)); (case aO => exact HO1.out); (case aS => exact HB1.out.size); (case aL => simp only [List.length_nil]; omega); intro v2 w2 ho2 hb2 hg2 hat2; have HO2 := aM ho2; have HB2 := aM hb2; clear ho2 hb2 hg2 hat2))
  go_ret
  have ho2 := HO2.out
  rw [List.nil_append] at ho2
  obtain ⟨g', c, hv, hbg, hlg, hcc⟩ := raw_cells ho2 (by rw [HL.out]; omega)
  rw [HL.out] at hv
  exact ⟨g', c, by rw [← hv]; rfl, hbg, hlg, hcc, HB2.out⟩
end
section
def Tw.setRep (T : Tw) (b x : Int) (p : List Int) : Tw := { T with reps := T.reps.set b.toNat ((T.row b).set x.toNat p) }
def Tw.addGen (T : Tw) (b : Int) (p : List Int) : Tw := { T with gens := T.gens.set b.toNat (T.gen b ++ [p]) }
theorem range_set {n x : Nat} (f : Nat → Value) (v : Value) : ((List.range n).map f).toArray.setIfInBounds x v = ((List.range n).map (fun y => if y = x then v else f y)).toArray := by
  apply Array.ext
  · simp
  · intro i h1 h2
    simp only [List.setIfInBounds_toArray, List.getElem_toArray, List.getElem_set, List.getElem_map, List.getElem_range]
    by_cases h : x = i
    · simp [h]
    rw [if_neg h, if_neg (fun e => h e.symm)]
theorem getD_set_same {α : Type} {l : List α} {i : Nat} {a d : α} (h : i < l.length) : (l.set i a).getD i d = a := by simp [List.getD_eq_getElem?_getD, h]
theorem getD_set_ne {α : Type} {l : List α} {i j : Nat} {a d : α} (h : i ≠ j) : (l.set i a).getD j d = l.getD j d := by simp [List.getD_eq_getElem?_getD, List.getElem?_set_ne h]
theorem ne_of_types {w : World} {g g' t t' : Nat} {cs cs' : Array Value} {fr fr' : Nat × Nat} (h : w.heap[g]? = some (Obj.cells cs t fr)) (h' : w.heap[g']? = some (Obj.cells cs' t' fr')) (ht : t ≠ t') : g ≠ g' := by
  rintro rfl
  rw [h] at h'
  injection h' with h'
  injection h' with _ h2
  exact ht h2
theorem Keep.set_ {base : Nat} {w : World} {g x t : Nat} {cs : Array Value} {fr : Nat × Nat} (hg : base ≤ g) (hb : w.heap[g]? = some (Obj.cells cs t fr)) (ht : t ≠ 3) (v : Value) : Keep base w (w.setCell ⟨g, x, none⟩ v) :=
  ⟨(Below.refl base w).setCell hg v, fun k cs' fr' hk => Below.heap_setCell w ⟨g, x, none⟩ v k (fun e => ne_of_types hk hb (Ne.symm ht) e)⟩
def Own (n : Nat) (rb : Nat → Nat) (bG : Nat) (vg : Nat → Value) (k : Nat) : Prop := (∃ i, i < n ∧ k = rb i) ∨ k = bG ∨ ∃ i, i < n ∧ (vg i).ownBlock = some k
structure TwFr (n : Nat) (rb : Nat → Nat) (bG : Nat) (vg : Nat → Value) (w : World) (vg' : Nat → Value) (w' : World) : Prop where
  size : w.heap.size ≤ w'.heap.size
  same : ∀ k, k < w.heap.size → ¬ Own n rb bG vg k → w'.heap[k]? = w.heap[k]?
  own : ∀ k, k < w.heap.size → Own n rb bG vg' k → Own n rb bG vg k
theorem TwFr.of_below {n : Nat} {rb : Nat → Nat} {bG : Nat} {vg : Nat → Value} {w w' : World} (h : Below w.heap.size w w') : TwFr n rb bG vg w vg w' := ⟨h.size, fun k hk _ => h.block k hk, fun _ _ h => h⟩
theorem TwFr.refl {n : Nat} {rb : Nat → Nat} {bG : Nat} {vg : Nat → Value} {w : World} : TwFr n rb bG vg w vg w := ⟨Nat.le_refl _, fun _ _ _ => rfl, fun _ _ h => h⟩
theorem TwFr.trans {n : Nat} {rb : Nat → Nat} {bG : Nat} {vg vg1 vg2 : Nat → Value} {w w1 w2 : World} (h : TwFr n rb bG vg w vg1 w1) (k : TwFr n rb bG vg1 w1 vg2 w2) : TwFr n rb bG vg w vg2 w2 :=
  ⟨Nat.le_trans h.size k.size, fun i hi hn => (k.same i (Nat.lt_of_lt_of_le hi h.size) (fun ho => hn (h.own i hi ho))).trans (h.same i hi hn), fun i hi ho => h.own i hi (k.own i (Nat.lt_of_lt_of_le hi h.size) ho)⟩
section
variable {base : Nat} {w w1 : World} {bt bR bG : Nat} {rb : Nat → Nat} {vr : Nat → Nat → Value} {vg : Nat → Value} {T : Tw}
theorem TwAt.set_rep (h : TwAt base w bt bR bG rb vr vg T) {b x : Int} (h0 : 0 ≤ b) (h1 : b < T.n) (h2 : 0 ≤ x) (h3 : x < T.n) {v : Value} {p : List Int} (hv : LeafN base w v p) :
    TwAt base (w.setCell ⟨rb b.toNat, x.toNat, none⟩ v) bt bR bG rb (fun i y => if i = b.toNat ∧ y = x.toNat then v else vr i y) vg (T.setRep b x p) ∧ Keep base w (w.setCell ⟨rb b.toNat, x.toNat, none⟩ v) ∧ TwFr T.n rb bG vg w vg (w.setCell ⟨rb b.toNat, x.toNat, none⟩ v) := by
  have hbn : b.toNat < T.n := by omega
  have hk : Keep base w (w.setCell ⟨rb b.toNat, x.toNat, none⟩ v) := Keep.set_ (h.grb _ hbn) (h.hr _ hbn) (by decide) v
  have hrow : T.row b = T.reps.getD b.toNat [] := rfl
  refine ⟨{ h with lr := ?_, lrr := ?_, ht := ?_, hR := ?_, hr := ?_, hG := ?_, hg := ?_, leaf := ?_ }, hk, ⟨by simp [World.setCell], fun k hk2 hn => Below.heap_setCell w ⟨rb b.toNat, x.toNat, none⟩ v k (fun e => hn (.inl ⟨b.toNat, hbn, e⟩)), fun _ _ h => h⟩⟩
  · simp [Tw.setRep, h.lr]
  · intro i hi
    by_cases e : b.toNat = i
    · subst e; simp only [Tw.setRep]; rw [getD_set_same (by rw [h.lr]; exact hbn), List.length_set, hrow]
      exact h.lrr _ hbn
    simp only [Tw.setRep]; rw [getD_set_ne e]
    exact h.lrr i hi
  · exact (Below.heap_setCell w _ v bt (ne_of_types h.ht (h.hr _ hbn) (by decide))).trans h.ht
  · exact (Below.heap_setCell w _ v bR (ne_of_types h.hR (h.hr _ hbn) (by decide))).trans h.hR
  · intro i hi
    by_cases e : b.toNat = i
    · subst e; have := blk_set (h.hr _ hbn) x.toNat v; rw [range_set] at this
      simpa [Tw.setRep] using this
    have := (Below.heap_setCell w ⟨rb b.toNat, x.toNat, none⟩ v (rb i) (fun e2 => e (h.drb _ _ hbn hi e2.symm))).trans (h.hr i hi); rw [this]; have e' : ¬ i = b.toNat := fun z => e z.symm
    simp [e', Tw.setRep]
  · exact (Below.heap_setCell w _ v bG (ne_of_types h.hG (h.hr _ hbn) (by decide))).trans h.hG
  · intro i hi
    obtain ⟨inner, ho, hl⟩ := h.hg i hi
    refine ⟨inner, own_move ho (fun k hk' => Below.heap_setCell w ⟨rb b.toNat, x.toNat, none⟩ v k (fun e => ?_)), fun j l hj => ?_⟩
    · subst e
      exact h.drg b.toNat i hbn hi hk'
    · obtain ⟨u, hu, hf⟩ := hl j l hj
      exact ⟨u, hu, hf.keep hk⟩
  · intro i y hi hy
    by_cases e : b.toNat = i
    · subst e
      have hl : (T.setRep b x p).reps.getD b.toNat [] = (T.row b).set x.toNat p := by
        simp only [Tw.setRep]; rw [getD_set_same (by rw [h.lr]; exact hbn)]
      rw [hl]
      by_cases e2 : x.toNat = y
      · subst e2; rw [getD_set_same (by rw [hrow, h.lrr _ hbn]; omega), if_pos ⟨rfl, rfl⟩]
        exact hv.keep hk
      rw [getD_set_ne e2, if_neg (fun z => e2 z.2.symm)]
      exact (h.leaf _ y hi hy).keep hk
    have hl : (T.setRep b x p).reps.getD i [] = T.reps.getD i [] := by
      simp only [Tw.setRep]; rw [getD_set_ne e]
    rw [hl, if_neg (fun z => e z.1.symm)]
    exact (h.leaf i y hi hy).keep hk
theorem TwAt.add_gen (h : TwAt base w bt bR bG rb vr vg T) {b : Int} (h0 : 0 ≤ b) (h1 : b < T.n) {v v1 : Value} {p : List Int} {inner : List Value} (hv : Leaf base w v p)
    (hin : ∀ (j : Nat) (l : List Int), (T.gen b)[j]? = some l → ∃ u, inner[j]? = some u ∧ Leaf base w u l) (hl : inner.length = (T.gen b).length)
    (hown : w1.ownsRow base 22 1 v1 ((T.gen b).length + 1) (inner ++ [v])) (hg : w.grownBy w1 (vg b.toNat).ownBlock) (hat : v1.ownBlock = (vg b.toNat).ownBlock ∨ ∃ g, v1.ownBlock = some g ∧ w.heap.size ≤ g) :
    TwAt base (w1.setCell ⟨bG, b.toNat, none⟩ v1) bt bR bG rb vr (fun i => if i = b.toNat then v1 else vg i) (T.addGen b p) ∧ Keep base w (w1.setCell ⟨bG, b.toNat, none⟩ v1) ∧ TwFr T.n rb bG vg w (fun i => if i = b.toNat then v1 else vg i) (w1.setCell ⟨bG, b.toNat, none⟩ v1) := by
  have hbn : b.toNat < T.n := by omega
  obtain ⟨inner0, ho0, hl0⟩ := h.hg _ hbn
  -- the blocks that the append may have written are of type 22, from base on
  have hob : ∀ k, (vg b.toNat).ownBlock = some k → base ≤ k ∧ ∃ cs, w.heap[k]? = some (Obj.cells cs 22 (0, 0)) := fun k hk => ⟨own_base ho0 k hk, own_typed ho0 k hk⟩
  have hsame : ∀ (k t : Nat) (cs : Array Value) (fr : Nat × Nat), w.heap[k]? = some (Obj.cells cs t fr) → t ≠ 22 → w1.heap[k]? = w.heap[k]? := fun k t cs fr hk ht =>
    hg.block k (lt_of_some hk) (fun e => by
      obtain ⟨_, cs', hc⟩ := hob k e.symm
      exact ne_of_types hk hc ht rfl)
  have hk1 : Keep base w w1 := ⟨(Below.refl base w).grown hg h.base_le (fun k hk => (hob k hk).1), fun k cs fr hk => hsame k 3 cs fr hk (by decide)⟩
  have hG1 : w1.heap[bG]? = some (.cells ((List.range T.n).map vg).toArray 28 (0, 0)) := (hsame bG 28 _ _ h.hG (by decide)).trans h.hG
  have hk2 : Keep base w1 (w1.setCell ⟨bG, b.toNat, none⟩ v1) := Keep.set_ h.gG hG1 (by decide) v1
  have hk := hk1.trans hk2
  have far : ∀ (k t : Nat) (cs : Array Value) (fr : Nat × Nat), w.heap[k]? = some (Obj.cells cs t fr) → t ≠ 22 → t ≠ 28 → (w1.setCell ⟨bG, b.toNat, none⟩ v1).heap[k]? = w.heap[k]? := fun k t cs fr hk ht ht2 =>
    (Below.heap_setCell w1 ⟨bG, b.toNat, none⟩ v1 k (ne_of_types ((hsame k t cs fr hk ht).trans hk) hG1 ht2)).trans (hsame k t cs fr hk ht)
  have hrb : ∀ i, i < T.n → (w1.setCell ⟨bG, b.toNat, none⟩ v1).heap[rb i]? = w.heap[rb i]? := fun i hi => by
    have e1 : w1.heap[rb i]? = w.heap[rb i]? := hg.block _ (lt_of_some (h.hr i hi)) (fun e => h.drg i b.toNat hi hbn e.symm)
    exact (Below.heap_setCell w1 ⟨bG, b.toNat, none⟩ v1 (rb i) (ne_of_types (e1.trans (h.hr i hi)) hG1 (by decide))).trans e1
  have hgen : T.gen b = T.gens.getD b.toNat [] := rfl
  have hsz : ∀ i, i < T.n → rb i < w.heap.size := fun i hi => lt_of_some (h.hr i hi)
  refine ⟨{ h with lg := ?_, ht := ?_, hR := ?_, hr := ?_, hG := ?_, hg := ?_, leaf := ?_, drg := ?_, dgg := ?_ }, hk, ⟨?_, ?_, ?_⟩⟩
  · simp [Tw.addGen, h.lg]
  · exact (far bt 108 _ _ h.ht (by decide) (by decide)).trans h.ht
  · have e1 := hsame bR 28 _ _ h.hR (by decide)
    exact (Below.heap_setCell w1 ⟨bG, b.toNat, none⟩ v1 bR h.dRG).trans (e1.trans h.hR)
  · exact fun i hi => (hrb i hi).trans (h.hr i hi)
  · have := blk_set hG1 b.toNat v1
    rw [range_set] at this
    exact this
  · intro i hi
    by_cases e : b.toNat = i
    · subst e
      have hl2 : (T.addGen b p).gens.getD b.toNat [] = T.gen b ++ [p] := by
        simp only [Tw.addGen]; rw [getD_set_same (by rw [h.lg]; exact hbn)]
      rw [hl2, if_pos rfl]
      refine ⟨inner ++ [v], ?_, fun j l hj => ?_⟩
      · rw [List.length_append, List.length_singleton]
        refine own_move hown (fun k hk' => Below.heap_setCell w1 ⟨bG, b.toNat, none⟩ v1 k ?_); obtain ⟨cs, hc⟩ := own_typed hown k hk'
        exact ne_of_types hc hG1 (by decide)
      · rcases Nat.lt_or_ge j (T.gen b).length with hj2 | hj2
        · rw [List.getElem?_append_left hj2] at hj; obtain ⟨u, hu, hf⟩ := hin j l hj
          exact ⟨u, by rw [List.getElem?_append_left (by omega)]; exact hu, hf.keep hk⟩
        · rw [List.getElem?_append_right hj2] at hj
          have hj3 : j = (T.gen b).length := by
            have := (List.getElem?_eq_some_iff.1 hj).1; simp at this; omega
          subst hj3; simp at hj; subst hj
          exact ⟨v, by rw [← hl]; simp, hv.keep hk⟩
    · have hl2 : (T.addGen b p).gens.getD i [] = T.gens.getD i [] := by
        simp only [Tw.addGen]; rw [getD_set_ne e]
      rw [hl2, if_neg (fun z => e z.symm)]; obtain ⟨inn, ho, hl3⟩ := h.hg i hi
      refine ⟨inn, own_move ho (fun k hk' => ?_), fun j l hj => ?_⟩
      · have hlt := own_lt ho k hk'
        have e1 : w1.heap[k]? = w.heap[k]? := hg.block k hlt (fun e2 => by
          rcases h.dgg i b.toNat hi hbn (fun z => e z.symm) with h5 | h5
          · rw [hk'] at h5; cases h5
          · exact h5 (hk'.trans e2))
        obtain ⟨cs, hc⟩ := own_typed ho k hk'
        exact (Below.heap_setCell w1 ⟨bG, b.toNat, none⟩ v1 k (ne_of_types (e1.trans hc) hG1 (by decide))).trans e1
      · obtain ⟨u, hu, hf⟩ := hl3 j l hj
        exact ⟨u, hu, hf.keep hk⟩
  · exact fun i x hi hx => (h.leaf i x hi hx).keep hk
  · intro i j hi hj
    by_cases e : j = b.toNat
    · rw [if_pos e]
      rcases hat with hat | ⟨g, hg2, hle⟩
      · rw [hat]; exact h.drg i b.toNat hi hbn
      · rw [hg2]; intro e2; injection e2 with e2
        have := hsz i hi; omega
    · rw [if_neg e]
      exact h.drg i j hi hj
  · intro i j hi hj hne
    have hlt : ∀ i, i < T.n → ∀ k, (vg i).ownBlock = some k → k < w.heap.size := fun i hi k hk => by
      obtain ⟨inn, ho, _⟩ := h.hg i hi
      exact own_lt ho k hk
    by_cases e : i = b.toNat
    · have e' : ¬ j = b.toNat := fun z => hne (e.trans z.symm)
      rw [if_pos e, if_neg e']
      rcases hat with hat | ⟨g, hg2, hle⟩
      · rw [hat, ← e]; exact h.dgg i j hi hj hne
      · refine .inr (fun e2 => ?_); rw [hg2] at e2; have := hlt j hj g e2.symm; omega
    · rw [if_neg e]
      by_cases e' : j = b.toNat
      · rw [if_pos e']
        rcases hat with hat | ⟨g, hg2, hle⟩
        · rw [hat, ← e']; exact h.dgg i j hi hj hne
        · refine .inr (fun e2 => ?_); rw [hg2] at e2; have := hlt i hi g e2; omega
      · rw [if_neg e']
        exact h.dgg i j hi hj hne
  · have := hg.size
    simpa [World.setCell] using this
  · intro k hk2 hn
    have e1 : w1.heap[k]? = w.heap[k]? := hg.block k hk2 (fun e => hn (.inr (.inr ⟨b.toNat, hbn, e.symm⟩)))
    exact (Below.heap_setCell w1 ⟨bG, b.toNat, none⟩ v1 k (fun e => hn (.inr (.inl e)))).trans e1
  · intro k hk2 ho
    rcases ho with ho | ho | ⟨i, hi, ho⟩
    · exact .inl ho
    · exact .inr (.inl ho)
    · dsimp only at ho
      by_cases e : i = b.toNat
      · rw [if_pos e] at ho
        rcases hat with hat | ⟨g, hg2, hle⟩
        · exact .inr (.inr ⟨b.toNat, hbn, hat ▸ ho⟩)
        · rw [hg2] at ho; injection ho with ho
          omega
      · rw [if_neg e] at ho
        exact .inr (.inr ⟨i, hi, ho⟩)
end
end
section
mutual
def visitL : Nat → Tw → List Int → Int → Option Tw
  | 0, _, _, _ => none
  | k + 1, T, p, b => if 0 ≤ b then (if b < (p.length : Int) then (if 0 ≤ rd p b then (if rd p b < T.n then (if b < T.n then (
      if T.rep b (rd p b) = [] then visitLoop k (T.setRep b (rd p b) p) p b 0
      else (perm_inverse.f k (T.rep b (rd p b))).bind fun i => (perm_then.f k p i).bind fun q => insertL k T q (b + 1))
      else none) else none) else none) else none) else none
def visitLoop : Nat → Tw → List Int → Int → Int → Option Tw
  | 0, _, _, _, _ => none
  | k + 1, T, p, b, j => if b < T.n then (if j < ((T.gen b).length : Int) then (perm_then.f k p (rd_L1 (T.gen b) j)).bind fun q => (visitL k T q b).bind fun T' => visitLoop k T' p b (j + 1) else some T) else none
def insertL : Nat → Tw → List Int → Int → Option Tw
  | 0, _, _, _ => none
  | k + 1, T, p, b => (stripL k T p b).bind fun e => if e = T.n then some T else (if 0 ≤ b then (if b < T.n then (if (T.gen b).length < 1000000 then insertLoop k (T.addGen b p) (T.row b) p b 0 else none) else none) else none)
def insertLoop : Nat → Tw → List (List Int) → List Int → Int → Int → Option Tw
  | 0, _, _, _, _, _ => none
  | k + 1, T, rs, p, b, i => if i < (rs.length : Int) then (if rd_L1 rs i = [] then insertLoop k T rs p b (i + 1) else (perm_then.f k (rd_L1 rs i) p).bind fun q => (visitL k T q b).bind fun T' => insertLoop k T' rs p b (i + 1)) else some T
end
theorem own_max {w : World} {base : Nat} {e : TypeId} {n : Nat} {v : Value} {xs : List Value} (h : w.ownsRow base e 1 v n xs) : n ≤ 9223372036854775807 := by
  rcases h.2 with ⟨_, h1⟩ | ⟨g', cap', cur, he, _, _, h1, h2, _⟩
  · have := h.1
    rw [h1] at this; simp at this; omega
  · simp only [maxLen] at h2
    omega
theorem then_len0 : ∀ (k : Nat) (l1 x5 l0 : List Int) (n j : Int) (r : List Int), perm_then.l0 k l1 x5 l0 n j = some r → r.length = x5.length := by
  intro k
  induction k with
  | zero => intro l1 x5 l0 n j r h; simp [perm_then.l0] at h
  | succ k ih =>
    intro l1 x5 l0 n j r h; simp only [perm_then.l0] at h
    repeat' split at h
    all_goals first
      | (cases h; done)
      | (have := ih _ _ _ _ _ _ h; simpa using this)
      | (obtain rfl := Option.some.inj h; rfl)
theorem then_len {k : Nat} {p q r : List Int} (h : perm_then.f k p q = some r) : r.length = p.length := by
  unfold perm_then.f at h
  repeat' split at h
  all_goals first
    | (cases h; done)
    | (have := then_len0 _ _ _ _ _ _ _ h; simpa using this)
def TwPost (base : Nat) (w : World) (bt bR bG : Nat) (rb : Nat → Nat) (n : Nat) (vg : Nat → Value) (T' : Tw) (e : Ending) (w' : World) : Prop := e = .returned (.tuple #[]) ∧ ∃ vr' vg', TwAt base w' bt bR bG rb vr' vg' T' ∧ Keep base w w' ∧ TwFr n rb bG vg w vg' w' ∧ T'.n = n
abbrev VisitOk (k : Nat) : Prop := ∀ {base bt bR bG : Nat} {rb : Nat → Nat} {vr : Nat → Nat → Value} {vg : Nat → Value} {T : Tw} (A0 : Option Addr) (c0 : Nat) (p : List Int) (b : Int) (T' : Tw) (w : World),
    TwAt base w bt bR bG rb vr vg T → LeafN base w (.slice A0 p.length c0) p → visitL k T p b = some T' →
    Calls Try.prog 85 #[.pointer (some ⟨bt, 0, none⟩), .slice A0 p.length c0, .int .i64 b] w (TwPost base w bt bR bG rb T.n vg T')
abbrev InsertOk (k : Nat) : Prop := ∀ {base bt bR bG : Nat} {rb : Nat → Nat} {vr : Nat → Nat → Value} {vg : Nat → Value} {T : Tw} (A0 : Option Addr) (c0 : Nat) (p : List Int) (b : Int) (T' : Tw) (w : World),
    TwAt base w bt bR bG rb vr vg T → Leaf base w (.slice A0 p.length c0) p → insertL k T p b = some T' →
    Calls Try.prog 61 #[.pointer (some ⟨bt, 0, none⟩), .slice A0 p.length c0, .int .i64 b] w (TwPost base w bt bR bG rb T.n vg T')
theorem visit_step (k : Nat) (ihv : ∀ m, m ≤ k → VisitOk m) (ihi : ∀ m, m ≤ k → InsertOk m) : VisitOk (k + 1) := by
  intro base bt bR bG rb vr vg T A0 c0 p b T' w hT hp h
  have HT := aM hT
  have HP := aM hp
  have IHV := aM ihv
  have IHI := aM ihi
  clear hT ihv ihi
  obtain ⟨A0', c0', he0, hl0, hr0⟩ := hp.leaf.reads
  injection he0 with ea eb ec
  subst ea ec
  have HR := aM hr0
  have HC := aM hl0
  clear hr0 hl0 hp eb
  simp only [visitL] at h
  by_cases c1 : 0 ≤ b
  · rw [if_pos c1] at h
    by_cases c2 : b < (p.length : Int)
    · rw [if_pos c2] at h
      by_cases c3 : 0 ≤ rd p b
      · rw [if_pos c3] at h
        by_cases c4 : rd p b < (T.n : Int)
        · rw [if_pos c4] at h
          by_cases c5 : b < (T.n : Int)
          · rw [if_pos c5] at h; obtain ⟨ad, e1, hx4⟩ := Kd.at_int HR.out b c1 c2
            cases e1; have hx1 := HT.out.cell1; have hx2 := HT.out.cellR c1 c5; have hx3 := HT.out.cellr c1 c5 c3 c4; have hL := HT.out.leafr c1 c5 c3 c4; have hn64 := HT.out.n64; have p1 := eq_true c1; have p2 := eq_true c2; have p3 := eq_true c3; have p4 := eq_true c4; have p5 := eq_true c5
            by_cases c6 : T.rep b (rd p b) = []
            · rw [if_pos c6] at h; obtain ⟨A2, c2', hv, hl2, hf2, hnil⟩ := hL; have hv0 := hnil c6; rw [hv0] at hx3; have hq := fun W => run_neq_nil W none 0 0
              clear hv hv0 hnil hf2 hl2 c6; have H' := aM h; clear h; have hfz : w.frozen? ⟨rb b.toNat, (rd p b).toNat, none⟩ = false := blk_frozen (HT.out.hr b.toNat (by omega)) _
              go_enter Try.func85, Try.ntmps85
              go_wp2_with (fail)
              have hS := HT.out.set_rep c1 c5 c3 c4 HP.out; generalize hwq : w.setCell ⟨rb b.toNat, (rd p b).toNat, none⟩ (Value.slice (some ad) p.length c0) = wq at hS ⊢; clear hwq; have HTq := aM hS.1; have HKq := aM hS.2.1; have HFq := aM hS.2.2; clear hS hx1 hx2 hx3 hfz hq
              go_loopg [7] k (fun kq v7 w' => ∃ (T1 : Tw) (j : Int) (vr1 : Nat → Nat → Value) (vg1 : Nat → Value), v7 = .int .i64 j ∧ Aside0 (0 ≤ j) ∧ Aside0 (visitLoop kq T1 p b j = some T') ∧ Aside0 (kq ≤ k) ∧ Aside0 (TwAt base w' bt bR bG rb vr1 vg1 T1) ∧ Aside0 (Keep base w w') ∧ Aside0 (TwFr T.n rb bG vg w vg1 w') ∧ Aside0 (T1.n = T.n))
              case atStart => exact ⟨_, 0, _, _, rfl, ⟨by omega⟩, H', ⟨Nat.le_refl _⟩, HTq, HKq, HFq, ⟨rfl⟩⟩
              case round =>
                clear H' HTq HKq HFq; obtain ⟨T1, j, vr1, vg1, rfl, HJ0, HA, HK1, HT1, HKe, HFe, HN1⟩ := hrel
                cases gk with
                | zero => exact absurd HA.out (by simp [visitLoop])
                | succ k1 =>
                  have H := HA.out; clear HA; simp only [visitLoop] at H; have j0 := HJ0.out; have hy1 := HT1.out.cell2
                  by_cases d1 : b < (T1.n : Int)
                  · rw [if_pos d1] at H; have hy2 := HT1.out.cellG c1 d1; have q1 := eq_true d1; obtain ⟨inner, ho, hin⟩ := HT1.out.hg b.toNat (by omega); have hgen : T1.gens.getD b.toNat [] = T1.gen b := rfl; rw [hgen] at ho hin; clear hgen
                    by_cases d2 : j < ((T1.gen b).length : Int)
                    · rw [if_pos d2] at H; have q0 := eq_true j0; have q2 := eq_true d2; have q2b : decide (j < ((T1.gen b).length : Int)) = true := decide_eq_true d2; obtain ⟨g, cap, hvg, hgb, hgl⟩ := ho.form (show 0 < (T1.gen b).length by omega); have hmax : (T1.gen b).length ≤ 9223372036854775807 := own_max ho; obtain ⟨u, hu, hfu⟩ := hin j.toNat (rd_L1 (T1.gen b) j) (by simp [rd_L1, List.getD_eq_getElem?_getD, List.getElem?_eq_getElem (show j.toNat < (T1.gen b).length by omega)]); have hy3 := ho.cells (g := g) (by rw [hvg]; rfl) j.toNat u hu; rw [add_plain] at hy3; obtain ⟨Au, cu, rfl, hlu, hru⟩ := hfu.reads; have hvg' : vg1 b.toNat = .slice (some ⟨g, 0, none⟩) (T1.gen b).length cap := hvg; rw [hvg'] at hy2; have HRu := aM hru; have HLu := aM hlu; clear hvg hvg' hru hlu hfu hu hin ho hgb hgl; replace H := Option.bind_eq_some_iff.mp H; obtain ⟨q, hq1, H⟩ := H; replace H := Option.bind_eq_some_iff.mp H; obtain ⟨T2, hq2, H⟩ := H; have H' := aM H; have Hq1 := aM hq1; have Hq2 := aM hq2; clear H hq1 hq2
                      go_wp2_with (first
                        | (go_at_call 50; (with_reducible refine (perm_then.calls k1 _ _ p _ _ (rd_L1 (T1.gen b) j) q _ ?s1 ?s2 ?s3 ?s4 Hq1.out).mono ?_); (case s1 => exact (HP.out.keep HKe.out).leaf.C.1); (case s2 => exact HC.out); (case s3 => exact HRu.out); (case s4 => exact HLu.out); rintro e w4 ⟨v4, rfl, ho4, hb4⟩; have HLf := aM (LeafN.of_R (base := base) ho4 HT1.out.base_le (by rw [← List.length_pos_iff, then_len Hq1.out]; omega)); obtain ⟨A4, c4, rfl, hl4, hr4⟩ := Kd.R_reads ho4; have HT4 := aM (HT1.out.below hb4); have HK4 := aM (HKe.out.trans (Keep.of_below HT1.out.base_le hb4)); have HF4 := aM (HFe.out.trans (TwFr.of_below hb4)); clear ho4 hb4 hr4 hl4)
                        | (go_at_call 85; (with_reducible refine (IHV.out k1 zz143 A4 c4 q b T2 _ HT4.out HLf.out Hq2.out).mono ?_); rintro e w5 ⟨rfl, vr5, vg5, hT5, hK5, hF5, hn5⟩; have HT5 := aM hT5; have HK5 := aM (HK4.out.trans hK5); have HF5 := aM (HF4.out.trans (HN1.out ▸ hF5)); have HN5 := aM (hn5.trans HN1.out); clear hT5 hK5 hF5 hn5))
                      go_roundg k1
                      case measure => have := HK1.out; omega
                      case rel => exact ⟨T2, j + 1, vr5, vg5, rfl, ⟨by have := HJ0.out; omega⟩, H', ⟨by have := HK1.out; omega⟩, HT5, HK5, HF5, HN5⟩
                    rw [if_neg d2] at H; obtain rfl := Option.some.inj H; have q2b : decide (j < ((T1.gen b).length : Int)) = false := decide_eq_false d2; obtain ⟨Ag, cg, hvg⟩ := own_slice ho; rw [hvg] at hy2; have q0 := eq_true j0; clear hvg; go_wp2
                    go_end0
                    exact ⟨rfl, vr1, vg1, HT1.out, HKe.out, HFe.out, HN1.out⟩
                  rw [if_neg d1] at H; cases H
            rw [if_neg c6] at h; replace h := Option.bind_eq_some_iff.mp h; obtain ⟨i1, hi1, h⟩ := h; replace h := Option.bind_eq_some_iff.mp h; obtain ⟨q, hq1, h⟩ := h; obtain ⟨A2, c2', hv, hl2, hC2⟩ := hL.reads; obtain ⟨ad2, rfl⟩ := C_some hC2 c6; rw [hv] at hx3; have hq := fun W => run_neq_nil W (some ad2) (T.rep b (rd p b)).length c2'
            have Hi := aM hi1; have Hq1 := aM hq1; have H' := aM h; have HC2 := aM hC2; have HL2 := aM hl2; clear hv c6 h hi1 hq1 hC2 hl2 hL
            go_enter Try.func85, Try.ntmps85
            go_wp2_with (first
              | (go_at_call 55; (with_reducible refine (perm_inverse.calls k _ _ (T.rep b (rd p b)) i1 _ ?s1 ?s2 Hi.out).mono ?_); (case s1 => exact HC2.out); (case s2 => exact HL2.out); rintro e w3 ⟨v3, rfl, ho3, hb3⟩; obtain ⟨A3, c3', rfl, hl3, hr3⟩ := Kd.R_reads ho3; have HR3 := aM hr3; have HL3 := aM hl3; have HB3 := aM hb3; have HQ3 := aM (Kd.C_below HR.out hb3); clear ho3 hb3 hr3 hl3)
              | (go_at_call 50; (with_reducible refine (perm_then.calls k _ _ p _ _ i1 q _ ?s1 ?s2 ?s3 ?s4 Hq1.out).mono ?_); (case s1 => exact HQ3.out); (case s2 => exact HC.out); (case s3 => exact HR3.out); (case s4 => exact HL3.out); rintro e w4 ⟨v4, rfl, ho4, hb4⟩; have HLf := aM (Leaf.of_R (base := base) ho4 (by rw [← List.length_pos_iff, then_len Hq1.out]; omega)); obtain ⟨A4, c4', rfl, hl4, hr4⟩ := Kd.R_reads ho4; have HB4 := aM (below_step HB3.out hb4); have HT4 := aM (HT.out.below HB4.out); have HK4 := aM (Keep.of_below HT.out.base_le HB4.out); have HF4 := aM (TwFr.of_below (n := T.n) (rb := rb) (bG := bG) (vg := vg) HB4.out); clear ho4 hb4 hr4 hl4)
              | (go_at_call 61; (with_reducible refine (IHI.out k (Nat.le_refl _) A4 c4' q (b + 1) T' _ HT4.out HLf.out H'.out).mono ?_); rintro e w5 ⟨rfl, vr5, vg5, hT5, hK5, hF5, hn5⟩; have HT5 := aM hT5; have HK5 := aM (HK4.out.trans hK5); have HF5 := aM (HF4.out.trans hF5); have HN5 := aM hn5; clear hT5 hK5 hF5 hn5))
            go_end0
            exact ⟨rfl, vr5, vg5, HT5.out, HK5.out, HF5.out, HN5.out⟩
          rw [if_neg c5] at h; cases h
        rw [if_neg c4] at h; cases h
      rw [if_neg c3] at h; cases h
    rw [if_neg c2] at h; cases h
  rw [if_neg c1] at h; cases h
end
section
def bestL : Nat → Tw → Int → List Int → Int → Int → Option Int
  | 0, _, _, _, _, _ => none
  | k + 1, T, c, p, x, best => if x < T.n then (if T.rep c x = [] then bestL k T c p (x + 1) best else (if x < (p.length : Int) then (if 0 ≤ best then (if best < (p.length : Int) then (if rd p x < rd p best then bestL k T c p (x + 1) x else bestL k T c p (x + 1) best) else none) else none) else none)) else some best
def canonL : Nat → Tw → List Int → Int → Option (List Int)
  | 0, _, _, _ => none
  | k + 1, T, p, c => if c < T.n then (if 0 ≤ c then ((bestL k T c p 0 c).bind fun best => if 0 ≤ best then (if best < T.n then ((perm_then.f k (T.rep c best) p).bind fun q => canonL k T q (c + 1)) else none) else none) else none) else some p
def LeafOk (ok : Nat → Prop) (w : World) (v : Value) (l : List Int) : Prop := ∃ A c, v = .slice A l.length c ∧ l.length ≤ c ∧ Kd.F (Kd.int .i64) w ok A l.length l
theorem LeafOk.below {ok : Nat → Prop} {w w1 : World} {v : Value} {l : List Int} (h : LeafOk ok w v l) (hb : Below w.heap.size w w1) : LeafOk ok w1 v l := by
  obtain ⟨A, c, rfl, hl, hf⟩ := h
  exact ⟨A, c, rfl, hl, Kd.F_below hf hb⟩
theorem LeafOk.mono {ok ok' : Nat → Prop} {w : World} {v : Value} {l : List Int} (h : LeafOk ok w v l) (hk : ∀ k, ok k → ok' k) : LeafOk ok' w v l := by
  obtain ⟨A, c, rfl, hl, hf⟩ := h
  exact ⟨A, c, rfl, hl, Kd.F_mono hf hk⟩
theorem LeafOk.C {ok : Nat → Prop} {w : World} {A : Option Addr} {c : Nat} {l : List Int} (h : LeafOk ok w (.slice A l.length c) l) : (Kd.int .i64).C w A l.length l ∧ l.length ≤ c := by
  obtain ⟨A', c', e, hl, hr⟩ := h
  injection e with ea eb ec
  subst ea ec
  exact ⟨Kd.F_now hr, hl⟩
theorem LeafOk.of_R {b : Nat} {w : World} {ok : Nat → Prop} {v : Value} {l : List Int} (h : (Kd.int .i64).R 3 w b ok v l) : LeafOk (fun k => b ≤ k) w v l := by
  obtain ⟨A, c, rfl, hc, hr⟩ := Kd.R_reads h
  exact ⟨A, c, rfl, hc, Kd.F_mono (Kd.R_F (Kd.R_bound h)) (fun k hk => hk.2.1)⟩
theorem LeafN.ok {base : Nat} {w : World} {v : Value} {l : List Int} (h : LeafN base w v l) : LeafOk (fun k => base ≤ k ∧ k < w.heap.size) w v l := by
  obtain ⟨A, c, rfl, hl, hf, _⟩ := h
  exact ⟨A, c, rfl, hl, Kd.F_mono (Kd.F_bound hf) (fun k hk => ⟨hk.1.1, hk.2⟩)⟩
def CanonPost (okp : Nat → Prop) (w : World) (r : List Int) (e : Ending) (w' : World) : Prop := ∃ v, e = .returned v ∧ LeafOk (fun k => okp k ∨ w.heap.size ≤ k) w' v r ∧ Below w.heap.size w w'
theorem canon_calls {base : Nat} {bt bR bG : Nat} {rb : Nat → Nat} {vr : Nat → Nat → Value} {vg : Nat → Value} {T : Tw} (k : Nat) (A0 : Option Addr) (c0 : Nat) (p : List Int) (b : Int) (r : List Int) (w : World)
    (okp : Nat → Prop) (hT : TwAt base w bt bR bG rb vr vg T) (hp : LeafOk okp w (.slice A0 p.length c0) p) (hb0 : 0 ≤ b) (hb1 : b < T.n) (h : canonL k T p (b + 1) = some r) :
    Calls Try.prog 86 #[.pointer (some ⟨bt, 0, none⟩), .slice A0 p.length c0, .int .i64 b] w (CanonPost okp w r) := by
  have HT := aM hT
  have HP := aM (hp.mono (ok' := fun k => okp k ∨ w.heap.size ≤ k) (fun k hk => .inl hk))
  have H' := aM h
  have HB := aM (Below.refl w.heap.size w)
  have hn64 := hT.n64
  clear hT hp h
  go_enter Try.func86, Try.ntmps86
  go_wp2
  go_loopg [1, 7] k (fun kq v1 v7 w' => ∃ (q : List Int) (A1 : Option Addr) (c1 : Nat) (c : Int), v1 = .slice A1 q.length c1 ∧ v7 = .int .i64 c ∧ Aside0 (0 ≤ c) ∧ Aside0 (canonL kq T q c = some r) ∧ Aside0 (kq ≤ k) ∧ Aside0 (LeafOk (fun k => okp k ∨ w.heap.size ≤ k) w' (.slice A1 q.length c1) q) ∧ Aside0 (Below w.heap.size w w'))
  case atStart => exact ⟨p, A0, c0, b + 1, rfl, rfl, ⟨by omega⟩, H', ⟨Nat.le_refl _⟩, HP, HB⟩
  case round =>
    clear H' HB HP hb0 hb1; obtain ⟨q, A1, c1, c, rfl, rfl, HC0, HA, HK1, HP, HB⟩ := hrel; obtain ⟨wo, rfl⟩ : ∃ wo : World, wo = wr := ⟨_, rfl⟩
    cases gk with
    | zero => exact absurd HA.out (by simp [canonL])
    | succ k1 =>
      have H := HA.out; clear HA; simp only [canonL] at H; have HTr := aM (HT.out.below HB.out); have hx0 := HTr.out.cell0; have c0' := HC0.out; have HR := aM HP.out.C.1; have HC := aM HP.out.C.2
      by_cases d1 : c < (T.n : Int)
      · rw [if_pos d1, if_pos c0'] at H; have d1b : decide (c < (T.n : Int)) = true := decide_eq_true d1; have p0 := eq_true c0'; have p1 := eq_true d1; replace H := Option.bind_eq_some_iff.mp H; obtain ⟨best, hbest, H⟩ := H; have HH := aM H; have HBE := aM hbest; have hx1 := HTr.out.cell1; have hx2 := HTr.out.cellR c0' d1; have hn1 := HTr.out.n1; clear H hbest; go_wp2
        go_loopg [8, 30] k1 (fun kq v8 v30 w' => ∃ (x be : Int), v8 = .int .i64 be ∧ v30 = .int .i64 x ∧ Aside0 (0 ≤ x) ∧ Aside0 (bestL kq T c q x be = some best) ∧ Aside0 (kq ≤ k1) ∧ Aside0 (Drawn0 wo w'))
        case atStart => exact ⟨0, c, rfl, rfl, ⟨by omega⟩, HBE, ⟨Nat.le_refl _⟩, ⟨Drawn0.refl _⟩⟩
        case round =>
          clear HBE hx0 hx1 hx2; obtain ⟨x, be, rfl, rfl, HX0, HA, HK2, HD⟩ := hrel
          cases gk with
          | zero => exact absurd HA.out (by simp [bestL])
          | succ k2 =>
            have H := HA.out; clear HA; simp only [bestL] at H; have x0 := HX0.out; have HTw := aM (HTr.out.below HD.out.below); have HRw := aM (Kd.C_below HR.out HD.out.below)
            by_cases e1 : x < (T.n : Int)
            · rw [if_pos e1] at H; have e1b : decide (x < (T.n : Int)) = true := decide_eq_true e1; have q0 := eq_true x0; have q1 := eq_true e1; have hy3 := HTw.out.cellr c0' d1 x0 e1; have hL := HTw.out.leafr c0' d1 x0 e1
              by_cases e2 : T.rep c x = []
              · rw [if_pos e2] at H; obtain ⟨A2, c2', hv, hl2, hf2, hnil⟩ := hL; have hv0 := hnil e2; rw [hv0] at hy3; have hq := fun W => run_neq_nil W none 0 0
                have H' := aM H; clear hv hv0 hnil hf2 hl2 e2 H; go_wp2
                go_quiet (fail)
                go_wp2
                go_roundg k2
                case measure => omega
                case rel => exact ⟨x + 1, be, rfl, rfl, ⟨by have := HX0.out; omega⟩, H', ⟨by have := HK2.out; omega⟩, ⟨HD.out.step _⟩⟩
              · rw [if_neg e2] at H; obtain ⟨A2, c2', hv, hl2, hC2⟩ := hL.reads; obtain ⟨ad2, rfl⟩ := C_some hC2 e2; rw [hv] at hy3; have hq := fun W => run_neq_nil W (some ad2) (T.rep c x).length c2'
                clear hv hl2 hC2 e2 hL
                by_cases e3 : x < (q.length : Int)
                · rw [if_pos e3] at H
                  by_cases e4 : 0 ≤ be
                  · rw [if_pos e4] at H
                    by_cases e5 : be < (q.length : Int)
                    · rw [if_pos e5] at H; obtain ⟨ad, ea, hz1⟩ := Kd.at_int HRw.out x x0 e3
                      cases ea; obtain ⟨ad', ea, hz2⟩ := Kd.at_int HRw.out be e4 e5; injection ea with ea
                      subst ea; have q3 := eq_true e3; have q4 := eq_true e4; have q5 := eq_true e5
                      by_cases e6 : rd q x < rd q be
                      · rw [if_pos e6] at H; have e6b : decide (rd q x < rd q be) = true := decide_eq_true e6; have H' := aM H; clear H e6; go_wp2
                        go_quiet (fail)
                        go_wp2
                        go_roundg k2
                        case measure => omega
                        case rel => exact ⟨x + 1, x, rfl, rfl, ⟨by have := HX0.out; omega⟩, H', ⟨by have := HK2.out; omega⟩, ⟨HD.out.step _⟩⟩
                      · rw [if_neg e6] at H; have e6b : decide (rd q x < rd q be) = false := decide_eq_false e6; have H' := aM H; clear H e6; go_wp2
                        go_quiet (fail)
                        go_wp2
                        go_roundg k2
                        case measure => omega
                        case rel => exact ⟨x + 1, be, rfl, rfl, ⟨by have := HX0.out; omega⟩, H', ⟨by have := HK2.out; omega⟩, ⟨HD.out.step _⟩⟩
                    · rw [if_neg e5] at H; cases H
                  · rw [if_neg e4] at H; cases H
                · rw [if_neg e3] at H; cases H
            · rw [if_neg e1] at H; obtain rfl := Option.some.inj H; have e1b : decide (x < (T.n : Int)) = false := decide_eq_false e1; have H := HH.out
              by_cases f1 : 0 ≤ be
              · rw [if_pos f1] at H
                by_cases f2 : be < (T.n : Int)
                · rw [if_pos f2] at H; replace H := Option.bind_eq_some_iff.mp H; obtain ⟨q2, hq2, H⟩ := H
                  ·
                    have H' := aM H; have Hq2 := aM hq2; have hx1 := HTw.out.cell1; have hx2 := HTw.out.cellR c0' d1; have hx3 := HTw.out.cellr c0' d1 f1 f2; obtain ⟨A2, c2', hv, hl2, hC2⟩ := (HTw.out.leafr c0' d1 f1 f2).reads; rw [hv] at hx3; have HC2 := aM hC2; have HL2 := aM hl2; have q1 := eq_true f1; have q2' := eq_true f2; clear H hq2 hv hC2 hl2
                    go_wp2_with (first
                      | (go_at_call 50; (with_reducible refine (perm_then.calls k1 _ _ (T.rep c be) _ _ q q2 _ ?s1 ?s2 ?s3 ?s4 Hq2.out).mono ?_); (case s1 => exact HC2.out); (case s2 => exact HL2.out); (case s3 => exact HRw.out); (case s4 => exact HC.out); rintro e w7 ⟨v7, rfl, ho7, hb7⟩; have HLf := aM ((LeafOk.of_R ho7).mono (ok' := fun k => okp k ∨ w.heap.size ≤ k) (fun k hk => .inr (Nat.le_trans (Nat.le_trans HB.out.size HD.out.below.size) hk))); obtain ⟨A7, c7, rfl, hl7, hr7⟩ := Kd.R_reads ho7; have HB7 := aM (below_step (below_then HB.out HB.out.size HD.out.below) hb7); clear ho7 hb7 hr7 hl7))
                    go_roundg k1
                    case measure => omega
                    case rel => exact ⟨q2, A7, c7, c + 1, rfl, rfl, ⟨by have := HC0.out; omega⟩, H', ⟨by have := HK1.out; omega⟩, HLf, HB7⟩
                · rw [if_neg f2] at H; cases H
              · rw [if_neg f1] at H; cases H
      · rw [if_neg d1] at H; obtain rfl := Option.some.inj H; have d1b : decide (c < (T.n : Int)) = false := decide_eq_false d1; go_wp2; go_ret
        exact ⟨_, rfl, HP.out, HB.out⟩
end
end Go.Proofs.Ytjjlhbgpdncpcaa.P
