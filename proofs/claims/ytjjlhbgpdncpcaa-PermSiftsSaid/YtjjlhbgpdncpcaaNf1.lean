/- What the claim's theorem is built on, part 1: words, walks of the code, and what they tell. -/
import Derived.Test.YtjjlhbgpdncpcaaProg
import Derived.Below
import Derived.Deep.Draws
import Derived.Deep.AppendLies
import Derived.Maps.AppendAt
import Derived.OwnWalk
import Derived.Laws.BytesArg
import Derived.Laws.MakeOwn
import Derived.Laws.OwnMore
import Derived.Deep.OwnRows
import Derived.Tactics
import Derived.Lib.ConvBytes
import Derived.Laws.Slices
import Derived.WalkKit
import Derived.KernelRfl
import Derived.RowKit3
import Derived.Deep.LoopGhost
import Derived.Deep.QuietTactic
import Derived.BigQuiet
import Derived.WideLaws
import Derived.Deep.DeepCutAuto
import Derived.Deep.CutBlock
import Derived.Deep.RegionHeld3
import Derived.Laws.Rows
import Derived.Lib.AppendStr
import Derived.ArgAppend
import Derived.Laws.IdiomCopy
import Derived.OrdersHeld
import Derived.Laws.BitsLemmas
import Derived.RowKit
import Derived.WalkSpells
import Derived.Deep.RegionLaw
import Derived.Test.YtjjlhbgpdncpcaaNf0
namespace Go.Proofs.Ytjjlhbgpdncpcaa.P
open Go.RowKit Go.Proofs.YtjjlhbgpdncpcaaW.PrintWords Go.Proofs.YtjjlhbgpdncpcaaW.PrintLast Go.Proofs.YtjjlhbgpdncpcaaW.PrintMore
set_option linter.unusedVariables false
set_option linter.unusedSimpArgs false
set_option maxHeartbeats 8000000
set_option maxRecDepth 100000
section
attribute [local go_sem] ZG ZE ZL ZK ZA Zz ZF ZD
def errW:Option Int→Value
 |none=> .nilIface
 |some c=> .iface 0 (.int .i64 c)
theorem Zj:errW none= .nilIface:=rfl
theorem Zi (c:Int):errW (some c)= .iface 0 (.int .i64 c):=rfl
theorem info3:(Try.prog.info? 3).map (fun i=>(i.zero,i.size,i.bytes))=some (some (.int .i64 0),1,8):=by kernel_rfl
theorem info4:(Try.prog.info? 4).map (fun i=>(i.zero,i.size,i.bytes))=some (some (.bool false),1,1):=by kernel_rfl
theorem info22:(Try.prog.info? 22).map (fun i=>(i.zero,i.size,i.bytes))=some (some (.slice none 0 0),1,24):=by kernel_rfl
theorem info72:(Try.prog.info? 72).map (fun i=>(i.zero,i.size,i.bytes))=some (some (.int .u32 0),1,4):=by kernel_rfl
theorem info74:(Try.prog.info? 74).map (fun i=>(i.zero,i.size,i.bytes))=some (some (.agg #[(.int .i64 0),(.slice none 0 0),(.slice none 0 0)]),3,56):=by kernel_rfl
def Zp (xs:List (List Int)) (i:Int):(List Int):=xs.getD i.toNat ([]:List Int)
theorem ZY {w:World} {A:Option Addr} {n:Nat} {xs:List (List Int)} (h:Kd.C (Kd.slice 3 (Kd.int .i64)) w A n xs) (i:Int) (h0:0≤i) (h1:i<n):∃ad A0 c0,A=some ad∧w.cell? (ad.add i.toNat)=some (.slice A0 (Zp xs i).length c0)∧(Zp xs i).length≤c0∧(Kd.int .i64).C w A0 (Zp xs i).length (Zp xs i):=by
 obtain⟨ad,c,e,_,hK,hc0⟩:=Kd.C_get h ([]:List Int) i h0 h1
 have hc:∀j u,c[j]? =some u→w.cell? (ad.add (i.toNat*1+j))=some u:=hc0
 obtain⟨A0,c0,rfl,l0,g0⟩:=hK
 exact⟨ad,A0,c0,e,by have hq:=hc 0 _ rfl;rwa [Nat.mul_one,Nat.add_zero] at hq,l0,g0⟩
structure S74 where
 f0:Int
 f1:(List Int)
 f2:(List (List Int))
def z74:S74:=⟨(0:Int),([]:List Int),([]:List (List Int))⟩
def k74:Kd S74:=Kd.iso (Kd.pair (Kd.int .i64) (Kd.pair (Kd.slice 3 (Kd.int .i64)) (Kd.slice 22 (Kd.slice 3 (Kd.int .i64))))) (fun x:S74=>(x.f0,x.f1,x.f2))
theorem k74_heap:Kd.Heap k74:=Kd.heap_iso _ (Kd.heap_pair (Kd.heap_int .i64) (Kd.heap_pair (Kd.heap_slice 3 (Kd.heap_int .i64)) (Kd.heap_slice 22 (Kd.heap_slice 3 (Kd.heap_int .i64)))))
theorem k74_open {w:World} {x:S74} {cs:List Value} (h:k74.K w x cs):∃A1 c1 A2 c2,cs= [.int .i64 x.f0,.slice A1 x.f1.length c1,.slice A2 x.f2.length c2]∧x.f1.length≤c1∧(Kd.int .i64).C w A1 x.f1.length x.f1∧x.f2.length≤c2∧(Kd.slice 3 (Kd.int .i64)).C w A2 x.f2.length x.f2:=by
 obtain⟨_,_,rfl,rfl,⟨_,_,rfl,⟨A1,c1,rfl,l1,g1⟩,⟨A2,c2,rfl,l2,g2⟩⟩⟩:=h
 exact⟨A1,c1,A2,c2,rfl,l1,g1,l2,g2⟩
theorem k74_mk (w:World) (x:S74) {A1:Option Addr} {c1:Nat} (l1:x.f1.length≤c1) (g1:(Kd.int .i64).C w A1 x.f1.length x.f1) {A2:Option Addr} {c2:Nat} (l2:x.f2.length≤c2) (g2:(Kd.slice 3 (Kd.int .i64)).C w A2 x.f2.length x.f2):k74.K w x [.int .i64 x.f0,.slice A1 x.f1.length c1,.slice A2 x.f2.length c2]:=⟨[.int .i64 x.f0],[.slice A1 x.f1.length c1,.slice A2 x.f2.length c2],rfl,rfl,⟨[.slice A1 x.f1.length c1],[.slice A2 x.f2.length c2],rfl,⟨A1,c1,rfl,l1,g1⟩,⟨A2,c2,rfl,l2,g2⟩⟩⟩
theorem Z1 {W:World} {ok:Nat→Prop} {x:S74} {cs:List Value} (h:Kd.FK k74 W ok x cs):∃A1 c1 A2 c2,cs= [.int .i64 x.f0,.slice A1 x.f1.length c1,.slice A2 x.f2.length c2]∧x.f1.length≤c1∧Kd.F (Kd.int .i64) W ok A1 x.f1.length x.f1∧x.f2.length≤c2∧Kd.F (Kd.slice 3 (Kd.int .i64)) W ok A2 x.f2.length x.f2:=by
 obtain⟨A1,c1,A2,c2,rfl,l1,_,l2,_⟩:=k74_open (Kd.FK_now h)
 exact⟨A1,c1,A2,c2,rfl,l1,(fun W' hW=>by obtain⟨A1_,c1_,A2_,c2_,he,l1_,g1_,l2_,g2_⟩:=k74_open (h W' hW);injection(Option.some.inj (show some (Value.slice A1 x.f1.length c1)=some (Value.slice A1_ x.f1.length c1_) from congrArg (fun l=>l[1]?) he)) with ha_ _ _;rw[ha_];exact g1_),l2,(fun W' hW=>by obtain⟨A1_,c1_,A2_,c2_,he,l1_,g1_,l2_,g2_⟩:=k74_open (h W' hW);injection(Option.some.inj (show some (Value.slice A2 x.f2.length c2)=some (Value.slice A2_ x.f2.length c2_) from congrArg (fun l=>l[2]?) he)) with ha_ _ _;rw[ha_];exact g2_)⟩
theorem k74_mkF (W:World) (ok:Nat→Prop) (x:S74) {A1:Option Addr} {c1:Nat} (l1:x.f1.length≤c1) (g1:Kd.F (Kd.int .i64) W ok A1 x.f1.length x.f1) {A2:Option Addr} {c2:Nat} (l2:x.f2.length≤c2) (g2:Kd.F (Kd.slice 3 (Kd.int .i64)) W ok A2 x.f2.length x.f2):Kd.FK k74 W ok x [.int .i64 x.f0,.slice A1 x.f1.length c1,.slice A2 x.f2.length c2]:=fun W2 hW=>k74_mk W2 x l1 (g1 W2 hW) l2 (g2 W2 hW)
def Zd (xs:List S74) (i:Int):S74:=xs.getD i.toNat z74
theorem Z0 {w:World} {A:Option Addr} {n:Nat} {xs:List S74} (h:Kd.C k74 w A n xs) (i:Int) (h0:0≤i) (h1:i<n):∃ad A1 c1 A2 c2,A=some ad∧w.cell? (ad.add (i.toNat*3))=some (.int .i64 (Zd xs i).f0)∧w.cell? ⟨(ad.add (i.toNat*3)).block,(ad.add (i.toNat*3)).off+1,none⟩=some (.slice A1 (Zd xs i).f1.length c1)∧w.cell? ⟨(ad.add (i.toNat*3)).block,(ad.add (i.toNat*3)).off+2,none⟩=some (.slice A2 (Zd xs i).f2.length c2)∧(Zd xs i).f1.length≤c1∧(Kd.int .i64).C w A1 (Zd xs i).f1.length (Zd xs i).f1∧(Zd xs i).f2.length≤c2∧(Kd.slice 3 (Kd.int .i64)).C w A2 (Zd xs i).f2.length (Zd xs i).f2:=by
 obtain⟨ad,c,e,_,hK,hc0⟩:=Kd.C_get h z74 i h0 h1
 have hc:∀j u,c[j]? =some u→w.cell? (ad.add (i.toNat*3+j))=some u:=hc0
 obtain⟨A1,c1,A2,c2,rfl,l1,g1,l2,g2⟩:=k74_open hK
 exact⟨ad,A1,c1,A2,c2,e,hc 0 _ rfl,by rw[←ZM _ _ 1 (by omega)];exact hc 1 _ rfl,by rw[←ZM _ _ 2 (by omega)];exact hc 2 _ rfl,l1,g1,l2,g2⟩
structure S46 where
 f0:Int
 f1:(List S74)
def z46:S46:=⟨(0:Int),([]:List S74)⟩
def rd_L8 (xs:List (List Int)) (i:Int):(List Int):=xs.getD i.toNat ([]:List Int)
theorem at_L8 {w:World} {A:Option Addr} {n:Nat} {xs:List (List Int)} (h:Kd.C (Kd.slice 72 (Kd.int .u32)) w A n xs) (i:Int) (h0:0≤i) (h1:i<n):∃ad A0 c0,A=some ad∧w.cell? (ad.add i.toNat)=some (.slice A0 (rd_L8 xs i).length c0)∧(rd_L8 xs i).length≤c0∧(Kd.int .u32).C w A0 (rd_L8 xs i).length (rd_L8 xs i):=by
 obtain⟨ad,c,e,_,hK,hc0⟩:=Kd.C_get h ([]:List Int) i h0 h1
 have hc:∀j u,c[j]? =some u→w.cell? (ad.add (i.toNat*1+j))=some u:=hc0
 obtain⟨A0,c0,rfl,l0,g0⟩:=hK
 exact⟨ad,A0,c0,e,by have hq:=hc 0 _ rfl;rwa [Nat.mul_one,Nat.add_zero] at hq,l0,g0⟩
theorem aM {p:Prop} (h:p):Aside0 p:=⟨h⟩
theorem sA {α:Type} (l:List α) (i:Nat) (a:α):l.toArray.setIfInBounds i a=(l.set i a).toArray:=List.setIfInBounds_toArray l i a
theorem sB {α:Type} {x:α} {xs:List α} {a:α} :(x::xs).set 0 a=a::xs:=List.set_cons_zero
theorem sC {α:Type} {x:α} {xs:List α} {i:Nat} {a:α} :(x::xs).set (i+1) a=x::xs.set i a:=List.set_cons_succ
theorem wB (w:World) (a:Addr) {u:Value} (h:w.cell? a=some u):a.block<w.heap.size:=World.block_lt_of_cell? w a h
theorem oB {α β:Type} {b:β} {x:Option α} {f:α→Option β} (h:x.bind f=some b):∃a,x=some a∧f a=some b:=Option.bind_eq_some_iff.mp h
theorem oI {α:Type} {a b:α} (h:some a=some b):a=b:=Option.some.inj h
theorem oD {p:Prop} [Decidable p] (h:decide p=true):p:=of_decide_eq_true h
theorem dT {p:Prop} [Decidable p] (h:p):decide p=true:=decide_eq_true h
theorem dF {p:Prop} [Decidable p] (h:¬p):decide p=false:=decide_eq_false h
theorem zN0 {p:Prop} (h:p:=by(repeat' apply And.intro)<;>(first|exact hk|exact hk.1|exact hk.2|exact hk.1.1|exact hk.1.2|exact hk.2.1|exact hk.2.2|exact hk.1.1.1|exact hk.1.1.2|exact hk.1.2.1|exact hk.1.2.2|exact hk.2.1.1|exact hk.2.1.2|exact hk.2.2.1|exact hk.2.2.2|exact hk.1.1.1.1|exact hk.1.1.1.2|exact hk.2.2.2.1|exact hk.2.2.2.2)):p:=h
theorem zC {p q:Prop} (a:q) (h:q→p:=by intro a_;repeat(first|exact a_|(with_reducible refine Kd.C_alloc ?_ _)|(with_reducible refine Kd.C_drewN ?_ _)|(with_reducible refine Kd.C_drew ?_))):p:=h a
theorem zR {p q:Prop} (a:Aside0 q) (h:q→p:=by intro a_;(with_reducible repeat(first|apply Kd.R_alloc|apply Kd.R_drewN|apply Kd.R_drew));exact a_):p:=h a.out
theorem zV {p q:Prop} (a:Aside0 q) (h:q→p:=by intro a_;(with_reducible repeat(first|apply Kd.V_alloc|apply Kd.V_drewN|apply Kd.V_drew));exact a_):p:=h a.out
theorem zN {p q:Prop} (a:Aside0 q) (h:q→p:=by intro a_;(with_reducible repeat(first|apply Kd.N_alloc|apply Kd.N_drewN|apply Kd.N_drew));exact a_):p:=h a.out
theorem zS {p q:Prop} (a:Aside0 q) (h:q→p:=by intro a_;(with_reducible repeat(first|apply Kd.S_alloc|apply Kd.S_drewN|apply Kd.S_drew));exact a_):p:=h a.out
theorem zB {p q:Prop} (a:Aside0 q) (h:q→p:=by intro a_;(with_reducible repeat(first|refine Zm ?_ _|refine Zo ?_|refine Zl ?_ _));exact a_):p:=h a.out
theorem zz164 {p:Prop} (h:p:=by simp[Value.ownBlock]):p:=h
theorem zz163 {p:Prop} (h:p:=by have:=HK1.out;omega):p:=h
theorem zz161 {p:Prop} (h:p:=by simp[Kd.int,Kd.scalar]):p:=h
theorem zz162 {p:Prop} (h:p:=by rw[e_];exact GW573.out):p:=h
theorem zz160 {p:Prop} (h:p:=by rw[List.length_set];exact hx):p:=h
theorem zz159 {p:Prop} (h:p:=by cases k<;>simp[l30_awakeW.j0]):p:=h
theorem zz158 {p:Prop} (h:p:=by rw[List.length_replicate];omega):p:=h
theorem zz157 {p:Prop} (h:p:=by cases kj6<;>simp[l30_awakeW.j1]):p:=h
theorem zz156 {p:Prop} (h:p:=by first|omega|exact Nat.le_refl _):p:=h
theorem zz155 {p:Prop} (h:p:=by have:=HK1.out;have:=HK2.out;omega):p:=h
theorem zz154 {p:Prop} (h:p:=by first|rfl|(simp;done)|(simp[*];done)):p:=h
theorem zz153 {p:Prop} (h:p:=by first|(with_reducible assumption)|assumption):p:=h
theorem zz152 {p:Prop} (h:p:=by have:=HK1.out;have:=HK2.out;have:=HK3.out;omega):p:=h
theorem zz151 {p:Prop} (h:p:=by have:=HJ2.out;have:=HK2.out;first|omega|exact Nat.le_refl _):p:=h
theorem zz149 {p:Prop} (h:p:=by have:=HJ3.out;have:=HJ10.out;first|omega|exact Nat.le_refl _):p:=h
theorem zz150 {p:Prop} (h:p:=by have:=HJ2.out;have:=HJ19.out;first|omega|exact Nat.le_refl _):p:=h
theorem zz148 {p:Prop} (h:p:=by have:=HJ1.out;have:=HK2.out;have:=HK3.out;have:=HK4.out;omega):p:=h
theorem zz147 {p:Prop} (h:p:=by have:=HJ2.out;have:=HJ19.out;have:=HJ24.out;first|omega|exact Nat.le_refl _):p:=h
theorem zz140 {p:Prop} (h:p:=by have:=wB _ _ hx279_0;first|rwa [Zs] at this|exact this):p:=h
theorem zz139 {p:Prop} (h:p:=by simp only[putAll,Act.put,sA,sB,sC]):p:=h
theorem zz137 {p:Prop} (h:p:=by have h1_:=HGR.out;have h2_:=lt_of_some HT.out.ht;have h3_:=HB3.out.size;show bt≠gout;omega):p:=h
theorem zz138 {p:Prop} (h:p:=by first|exact Kd.N_base ho0|exact Kd.N_base (Kd.S_N ho0)|exact Kd.N_base (Kd.S_N (Kd.S_bound ho0))):p:=h
theorem zz136 {p:Prop} (h:p:=by have:=HJ2.out;have:=HJ19.out;have:=HJ24.out;have:=HJ27.out;first|omega|exact Nat.le_refl _):p:=h
theorem zz130 {p:Prop} (h:p:=by first|(rw[Zs];exact hn277_0)|(show(Addr.add _ _).block≠_;rw[Zs];exact hn277_0)|exact hn277_0):p:=h
theorem zz131 {p:Prop} (h:p:=by first|(rw[Zs];exact hn277_1)|(show(Addr.add _ _).block≠_;rw[Zs];exact hn277_1)|exact hn277_1):p:=h
theorem zz132 {p:Prop} (h:p:=by first|(rw[Zs];exact hn277_2)|(show(Addr.add _ _).block≠_;rw[Zs];exact hn277_2)|exact hn277_2):p:=h
theorem zz133 {p:Prop} (h:p:=by first|(rw[Zs];exact hn279_0)|(show(Addr.add _ _).block≠_;rw[Zs];exact hn279_0)|exact hn279_0):p:=h
theorem zz134 {p:Prop} (h:p:=by first|(rw[Zs];exact hn279_1)|(show(Addr.add _ _).block≠_;rw[Zs];exact hn279_1)|exact hn279_1):p:=h
theorem zz135 {p:Prop} (h:p:=by first|(rw[Zs];exact hn279_2)|(show(Addr.add _ _).block≠_;rw[Zs];exact hn279_2)|exact hn279_2):p:=h
theorem zz129 {p:Prop} (h:p:=by(try simp only[hl7_2]);(with_reducible repeat(first|apply Kd.R_alloc|apply Kd.R_drewN|apply Kd.R_drew));exact HO_7.out):p:=h
theorem zz128 {p:Prop} (h:p:=by repeat(first|(with_reducible first|exact HB.out|apply Zn|apply Zf|apply Zh)|exact HB.out)):p:=h
theorem zz127 {p:Prop} (h:p:=by(try simp only[List.map_toArray,List.map_cons,List.map_nil]);first|done|rfl|(simp only[List.length_drop,List.length_take];rfl)):p:=h
theorem zz125 {p:Prop} (h:p:=by first|exact Kd.S_nil _ _ _ _ _|exact Kd.N_nil _ _ _ _ _|exact Kd.V_nil _ _ _ _ _|exact Kd.Q_nil _ _ _ _ _|exact Kd.R_nil _ _ _ _ _):p:=h
theorem zz126 {p:Prop} (h:p:=by first|exact Kd.R_nil _ _ _ _ _|exact Kd.N_nil _ _ _ _ _|exact Kd.V_nil _ _ _ _ _|exact Kd.Q_nil _ _ _ _ _|exact Kd.S_nil _ _ _ _ _):p:=h
theorem zz120 {p:Prop} (h:p:=by first|exact q522|exact oD zz153|(have e_:=(Kd.V_reads' HO_1.out).1;omega)):p:=h
theorem zz121 {p:Prop} (h:p:=by first|exact q524|exact oD zz153|(have e_:=(Kd.V_reads' HO_1.out).1;omega)):p:=h
theorem zz122 {p:Prop} (h:p:=by first|exact q550|exact oD zz153|(have e_:=(Kd.N_reads' HO_6.out).1;omega)):p:=h
theorem zz123 {p:Prop} (h:p:=by first|exact q562|exact oD zz153|(have e_:=(Kd.N_reads' HO_6.out).1;omega)):p:=h
theorem zz124 {p:Prop} (h:p:=by first|exact q563|exact oD zz153|(have e_:=(Kd.N_reads' HO_6.out).1;omega)):p:=h
theorem zz118 {p:Prop} (h:p:=by first|exact q224|exact oD zz153|(have e_:=(Kd.V_reads' HO_25.out).1;omega)):p:=h
theorem zz119 {p:Prop} (h:p:=by first|exact q235|exact oD zz153|(have e_:=(Kd.V_reads' HO_70.out).1;omega)):p:=h
theorem zz117 {p:Prop} (h:p:=by first|exact q237|exact oD zz153|(have e_:=(Kd.N_reads' HO_235001.out).1;omega)):p:=h
theorem zz111 {p:Prop} (h:p:=by(try simp only[hl5_1]);(try simp only[hl5_2]);(with_reducible repeat(first|apply Kd.R_alloc|apply Kd.R_drewN|apply Kd.R_drew));exact HO_5.out):p:=h
theorem zz112 {p:Prop} (h:p:=by(with_reducible repeat(first|apply Kd.N_alloc|apply Kd.N_drewN|apply Kd.N_drew));exact Kd.N_mono HO576.out (fun _ hk=>⟨hk.1.2,⟨hk.1.1,hk.2⟩⟩)):p:=h
theorem zz113 {p:Prop} (h:p:=by(with_reducible repeat(first|apply Kd.N_alloc|apply Kd.N_drewN|apply Kd.N_drew));exact Kd.N_mono HO580.out (fun _ hk=>⟨hk.1.1,⟨hk.1.2,hk.2⟩⟩)):p:=h
theorem zz114 {p:Prop} (h:p:=by(with_reducible repeat(first|apply Kd.N_alloc|apply Kd.N_drewN|apply Kd.N_drew));exact Kd.N_mono HO576.out (fun _ hk=>⟨hk.2,⟨hk.1.1,hk.1.2⟩⟩)):p:=h
theorem zz115 {p:Prop} (h:p:=by(try simp only[hl7_2]);(try simp only[hl7_3]);(with_reducible repeat(first|apply Kd.R_alloc|apply Kd.R_drewN|apply Kd.R_drew));exact HO_7.out):p:=h
theorem zz116 {p:Prop} (h:p:=by(try simp only[hl7_2]);(try simp only[hl7_3]);(with_reducible repeat(first|apply Kd.S_alloc|apply Kd.S_drewN|apply Kd.S_drew));exact HO_8.out):p:=h
theorem zz110 {p:Prop} (h:p:=by(try simp only[hl7_2]);(try simp only[hl7_3]);(with_reducible repeat(first|apply Kd.R_alloc|apply Kd.R_drewN|apply Kd.R_drew));exact HO_10.out):p:=h
theorem zz109 {p:Prop} (h:p:=by rw[←hq_];exact zz128):p:=h
theorem zz94 {p:Prop} (h:p:=by repeat(first|(with_reducible first|exact HB.out|apply Zn|apply Zf|apply Zh|refine Zk ?_ GE222.out)|exact HB.out)):p:=h
theorem zz95 {p:Prop} (h:p:=by repeat(first|(with_reducible first|exact HB.out|apply Zn|apply Zf|apply Zh|refine Zk ?_ GE269.out)|exact HB.out)):p:=h
theorem zz96 {p:Prop} (h:p:=by repeat(first|(with_reducible first|exact HB.out|apply Zn|apply Zf|apply Zh|refine Zk ?_ GE286.out)|exact HB.out)):p:=h
theorem zz97 {p:Prop} (h:p:=by repeat(first|(with_reducible first|exact HB.out|apply Zn|apply Zf|apply Zh|refine Zk ?_ GE480.out)|exact HB.out)):p:=h
theorem zz98 {p:Prop} (h:p:=by repeat(first|(with_reducible first|exact HB.out|apply Zn|apply Zf|apply Zh|refine Zk ?_ GE563.out)|exact HB.out)):p:=h
theorem zz99 {p:Prop} (h:p:=by repeat(first|(with_reducible first|exact HB.out|apply Zn|apply Zf|apply Zh|refine Zk ?_ GE212.out)|exact HB.out)):p:=h
theorem zz100 {p:Prop} (h:p:=by repeat(first|(with_reducible first|exact HB.out|apply Zn|apply Zf|apply Zh|refine Zk ?_ GE516.out)|exact HB.out)):p:=h
theorem zz101 {p:Prop} (h:p:=by repeat(first|(with_reducible first|exact HB.out|apply Zn|apply Zf|apply Zh|refine Zk ?_ GE538.out)|exact HB.out)):p:=h
theorem zz102 {p:Prop} (h:p:=by repeat(first|(with_reducible first|exact HB.out|apply Zn|apply Zf|apply Zh|refine Zk ?_ GE568.out)|exact HB.out)):p:=h
theorem zz103 {p:Prop} (h:p:=by repeat(first|(with_reducible first|exact HB.out|apply Zn|apply Zf|apply Zh|refine Zk ?_ GE573.out)|exact HB.out)):p:=h
theorem zz104 {p:Prop} (h:p:=by repeat(first|(with_reducible first|exact HB.out|apply Zn|apply Zf|apply Zh|refine Zk ?_ GE628.out)|exact HB.out)):p:=h
theorem zz105 {p:Prop} (h:p:=by repeat(first|(with_reducible first|exact HB.out|apply Zn|apply Zf|apply Zh|refine Zk ?_ GE640.out)|exact HB.out)):p:=h
theorem zz106 {p:Prop} (h:p:=by repeat(first|(with_reducible first|exact HB.out|apply Zn|apply Zf|apply Zh|refine Zk ?_ GE252.out)|exact HB.out)):p:=h
theorem zz107 {p:Prop} (h:p:=by repeat(first|(with_reducible first|exact HB.out|apply Zn|apply Zf|apply Zh|refine Zk ?_ GE339.out)|exact HB.out)):p:=h
theorem zz108 {p:Prop} (h:p:=by repeat(first|(with_reducible first|exact HB.out|apply Zn|apply Zf|apply Zh|refine Zk ?_ GE649.out)|exact HB.out)):p:=h
theorem zz93 {p:Prop} (h:p:=by(try simp only[List.map_toArray,List.map_cons,List.map_nil]);first|done|(simp only[hji52];rfl)|rfl|(simp only[List.length_drop,List.length_take];rfl)):p:=h
theorem zz92 {p:Prop} (h:p:=by(with_reducible repeat(first|apply Kd.V_alloc|apply Kd.V_drewN|apply Kd.V_drew));exact Kd.V_mono HO0_1.out (fun _ hk=>⟨hk.1,⟨zz164,hk.2⟩⟩)):p:=h
theorem zz91 {p:Prop} (h:p:=by(try simp only[hl5_1]);(try simp only[hl6_2]);(try simp only[hl6_3]);(with_reducible repeat(first|apply Kd.N_alloc|apply Kd.N_drewN|apply Kd.N_drew));exact HO_6.out):p:=h
theorem zz90 {p:Prop} (h:p:=by rw[←hq_];exact zz101):p:=h
theorem zz83 {p:Prop} (h:p:=by repeat(first|(with_reducible exact HR522_0.out)|(with_reducible refine Kd.C_alloc ?_ _)|(with_reducible refine Kd.C_drewN ?_ _)|(with_reducible refine Kd.C_drew ?_)|exact HR522_0.out)):p:=h
theorem zz84 {p:Prop} (h:p:=by repeat(first|(with_reducible exact HR524_0.out)|(with_reducible refine Kd.C_alloc ?_ _)|(with_reducible refine Kd.C_drewN ?_ _)|(with_reducible refine Kd.C_drew ?_)|exact HR524_0.out)):p:=h
theorem zz85 {p:Prop} (h:p:=by repeat(first|(with_reducible exact HR547_0.out)|(with_reducible refine Kd.C_alloc ?_ _)|(with_reducible refine Kd.C_drewN ?_ _)|(with_reducible refine Kd.C_drew ?_)|exact HR547_0.out)):p:=h
theorem zz86 {p:Prop} (h:p:=by repeat(first|(with_reducible exact HR550_0.out)|(with_reducible refine Kd.C_alloc ?_ _)|(with_reducible refine Kd.C_drewN ?_ _)|(with_reducible refine Kd.C_drew ?_)|exact HR550_0.out)):p:=h
theorem zz87 {p:Prop} (h:p:=by repeat(first|(with_reducible exact HR562_0.out)|(with_reducible refine Kd.C_alloc ?_ _)|(with_reducible refine Kd.C_drewN ?_ _)|(with_reducible refine Kd.C_drew ?_)|exact HR562_0.out)):p:=h
theorem zz88 {p:Prop} (h:p:=by repeat(first|(with_reducible exact HR563_0.out)|(with_reducible refine Kd.C_alloc ?_ _)|(with_reducible refine Kd.C_drewN ?_ _)|(with_reducible refine Kd.C_drew ?_)|exact HR563_0.out)):p:=h
theorem zz89 {p:Prop} (h:p:=by repeat(first|(with_reducible exact HR149_0.out)|(with_reducible refine Kd.C_alloc ?_ _)|(with_reducible refine Kd.C_drewN ?_ _)|(with_reducible refine Kd.C_drew ?_)|exact HR149_0.out)):p:=h
theorem zz74 {p:Prop} (h:p:=by repeat(first|(with_reducible first|exact HB.out|apply Zn|apply Zf|apply Zh|refine Zk ?_ GE222.out|refine Zk ?_ GE225.out)|exact HB.out)):p:=h
theorem zz75 {p:Prop} (h:p:=by repeat(first|(with_reducible first|exact HB.out|apply Zn|apply Zf|apply Zh|refine Zk ?_ GE222.out|refine Zk ?_ GE234.out)|exact HB.out)):p:=h
theorem zz76 {p:Prop} (h:p:=by repeat(first|(with_reducible first|exact HB.out|apply Zn|apply Zf|apply Zh|refine Zk ?_ GE269.out|refine Zk ?_ GE276.out)|exact HB.out)):p:=h
theorem zz77 {p:Prop} (h:p:=by repeat(first|(with_reducible first|exact HB.out|apply Zn|apply Zf|apply Zh|refine Zk ?_ GE212.out|refine Zk ?_ GE213.out)|exact HB.out)):p:=h
theorem zz78 {p:Prop} (h:p:=by repeat(first|(with_reducible first|exact HB.out|apply Zn|apply Zf|apply Zh|refine Zk ?_ GE516.out|refine Zk ?_ GE517.out)|exact HB.out)):p:=h
theorem zz79 {p:Prop} (h:p:=by repeat(first|(with_reducible first|exact HB.out|apply Zn|apply Zf|apply Zh|refine Zk ?_ GE573.out|refine Zk ?_ GE582.out)|exact HB.out)):p:=h
theorem zz80 {p:Prop} (h:p:=by repeat(first|(with_reducible first|exact HB.out|apply Zn|apply Zf|apply Zh|refine Zk ?_ GE628.out|refine Zk ?_ GE630.out)|exact HB.out)):p:=h
theorem zz81 {p:Prop} (h:p:=by repeat(first|(with_reducible first|exact HB.out|apply Zn|apply Zf|apply Zh|refine Zk ?_ GE252.out|refine Zk ?_ GE258.out)|exact HB.out)):p:=h
theorem zz82 {p:Prop} (h:p:=by repeat(first|(with_reducible first|exact HB.out|apply Zn|apply Zf|apply Zh|refine Zk ?_ GE339.out|refine Zk ?_ GE395.out)|exact HB.out)):p:=h
theorem zz73 {p:Prop} (h:p:=by rw[←hq_];exact zz86):p:=h
theorem zz69 {p:Prop} (h:p:=by repeat(first|(with_reducible first|exact HB.out|apply Zn|apply Zf|apply Zh|refine Zk ?_ GE222.out|refine Zk ?_ GE234.out|refine Zk ?_ GE236.out)|exact HB.out)):p:=h
theorem zz70 {p:Prop} (h:p:=by repeat(first|(with_reducible first|exact HB.out|apply Zn|apply Zf|apply Zh|refine Zk ?_ GE212.out|refine Zk ?_ GE213.out|refine Zk ?_ GE216.out)|exact HB.out)):p:=h
theorem zz71 {p:Prop} (h:p:=by repeat(first|(with_reducible first|exact HB.out|apply Zn|apply Zf|apply Zh|refine Zk ?_ GE212.out|refine Zk ?_ GE213.out|refine Zk ?_ GE217.out)|exact HB.out)):p:=h
theorem zz72 {p:Prop} (h:p:=by repeat(first|(with_reducible first|exact HB.out|apply Zn|apply Zf|apply Zh|refine Zk ?_ GE516.out|refine Zk ?_ GE517.out|refine Zk ?_ GE518.out)|exact HB.out)):p:=h
theorem zz63 {p:Prop} (h:p:=by first|exact(Kd.V_reads' HL224_1.out).2.2|(repeat(first|(with_reducible exact HR224_1.out)|(with_reducible refine Kd.C_alloc ?_ _)|(with_reducible refine Kd.C_drewN ?_ _)|(with_reducible refine Kd.C_drew ?_)|exact HR224_1.out))):p:=h
theorem zz64 {p:Prop} (h:p:=by first|exact(Kd.V_reads' HL224_2.out).2.2|(repeat(first|(with_reducible exact HR224_2.out)|(with_reducible refine Kd.C_alloc ?_ _)|(with_reducible refine Kd.C_drewN ?_ _)|(with_reducible refine Kd.C_drew ?_)|exact HR224_2.out))):p:=h
theorem zz65 {p:Prop} (h:p:=by first|exact(Kd.V_reads' HL235_1.out).2.2|(repeat(first|(with_reducible exact HR235_1.out)|(with_reducible refine Kd.C_alloc ?_ _)|(with_reducible refine Kd.C_drewN ?_ _)|(with_reducible refine Kd.C_drew ?_)|exact HR235_1.out))):p:=h
theorem zz66 {p:Prop} (h:p:=by first|exact(Kd.V_reads' HL235_2.out).2.2|(repeat(first|(with_reducible exact HR235_2.out)|(with_reducible refine Kd.C_alloc ?_ _)|(with_reducible refine Kd.C_drewN ?_ _)|(with_reducible refine Kd.C_drew ?_)|exact HR235_2.out))):p:=h
theorem zz67 {p:Prop} (h:p:=by first|exact(Kd.V_reads' HL237_1.out).2.2|(repeat(first|(with_reducible exact HR237_1.out)|(with_reducible refine Kd.C_alloc ?_ _)|(with_reducible refine Kd.C_drewN ?_ _)|(with_reducible refine Kd.C_drew ?_)|exact HR237_1.out))):p:=h
theorem zz68 {p:Prop} (h:p:=by first|exact(Kd.V_reads' HL237_2.out).2.2|(repeat(first|(with_reducible exact HR237_2.out)|(with_reducible refine Kd.C_alloc ?_ _)|(with_reducible refine Kd.C_drewN ?_ _)|(with_reducible refine Kd.C_drew ?_)|exact HR237_2.out))):p:=h
theorem zz62 {p:Prop} (h:p:=by rw[hw];exact zz69):p:=h
theorem zz60 {p:Prop} (h:p:=by(with_reducible repeat(first|refine Zm ?_ _|refine Zo ?_|refine Zl ?_ _));refine ZH ?_ NB516_518.out _;(with_reducible repeat(first|refine Zm ?_ _|refine Zo ?_|refine Zl ?_ _));exact BK516.out):p:=h
theorem zz61 {p:Prop} (h:p:=by(with_reducible repeat(first|refine Zm ?_ _|refine Zo ?_|refine Zl ?_ _));refine ZH ?_ NB517_518.out _;(with_reducible repeat(first|refine Zm ?_ _|refine Zo ?_|refine Zl ?_ _));exact BK517.out):p:=h
theorem zz59 {p:Prop} (h:p:=by repeat(first|(with_reducible first|exact HB.out|apply Zn|apply Zf|apply Zh|refine Zk ?_ GE212.out|refine Zk ?_ GE213.out|refine Zk ?_ GE216.out|refine Zk ?_ GE217.out)|exact HB.out)):p:=h
theorem zz57 {p:Prop} (h:p:=by(with_reducible repeat(first|apply Kd.N_alloc|apply Kd.N_drewN|apply Kd.N_drew));exact(Kd.N_mono (Kd.N_far (p:=⟨gb582,1,none⟩) (Kd.N_far (p:=⟨gb582,0,none⟩) (Kd.N_mono HO580.out (fun k_ hk=>(⟨hk,hk.2.2⟩:_∧k_≠gb582))) (fun _ hk=>hk.2) (.int .i64 t577)) (fun _ hk=>hk.2) (.slice Ao20 t578.length co20)) (fun _ h_=>h_.1))):p:=h
theorem zz58 {p:Prop} (h:p:=by(with_reducible repeat(first|apply Kd.N_alloc|apply Kd.N_drewN|apply Kd.N_drew));exact(Kd.N_mono (Kd.N_far (p:=⟨gb582,1,none⟩) (Kd.N_far (p:=⟨gb582,0,none⟩) (Kd.N_mono HO580.out (fun k_ hk=>(⟨hk,hk.2.2⟩:_∧k_≠gb582))) (fun _ hk=>hk.2) (.int .i64 t577)) (fun _ hk=>hk.2) (.slice Ao33 t578.length co33)) (fun _ h_=>h_.1))):p:=h
theorem zz55 {p:Prop} (h:p:=by(with_reducible repeat(first|refine Zm ?_ _|refine Zo ?_|refine Zl ?_ _));refine ZH ?_ NB222_234.out _;(with_reducible repeat(first|refine Zm ?_ _|refine Zo ?_|refine Zl ?_ _));refine ZH ?_ NB222_234.out _;(with_reducible repeat(first|refine Zm ?_ _|refine Zo ?_|refine Zl ?_ _));exact BK222.out):p:=h
theorem zz56 {p:Prop} (h:p:=by(with_reducible repeat(first|refine Zm ?_ _|refine Zo ?_|refine Zl ?_ _));refine ZH ?_ NB573_582.out _;(with_reducible repeat(first|refine Zm ?_ _|refine Zo ?_|refine Zl ?_ _));refine ZH ?_ NB573_582.out _;(with_reducible repeat(first|refine Zm ?_ _|refine Zo ?_|refine Zl ?_ _));exact BK573.out):p:=h
theorem zz53 {p:Prop} (h:p:=by(with_reducible repeat(first|refine Zm ?_ _|refine Zo ?_|refine Zl ?_ _));refine ZI (cs:= #[.int .i64 t229,.slice none 0 0]) ?_ 1 _ rfl;(with_reducible repeat(first|refine Zm ?_ _|refine Zo ?_|refine Zl ?_ _));refine ZI (cs:= #[.int .i64 0,.slice none 0 0]) ?_ 0 _ rfl;(with_reducible repeat(first|refine Zm ?_ _|refine Zo ?_|refine Zl ?_ _));exact BK234.out):p:=h
theorem zz54 {p:Prop} (h:p:=by(with_reducible repeat(first|refine Zm ?_ _|refine Zo ?_|refine Zl ?_ _));refine ZI (cs:= #[.int .i64 t577,.slice none 0 0]) ?_ 1 _ rfl;(with_reducible repeat(first|refine Zm ?_ _|refine Zo ?_|refine Zl ?_ _));refine ZI (cs:= #[.int .i64 0,.slice none 0 0]) ?_ 0 _ rfl;(with_reducible repeat(first|refine Zm ?_ _|refine Zo ?_|refine Zl ?_ _));exact BK582.out):p:=h
theorem zz52 {p:Prop} (h:p:=by(with_reducible repeat(first|apply Kd.R_alloc|apply Kd.R_drewN|apply Kd.R_drew));exact(Kd.R_mono (Kd.R_far (p:=⟨gb258,2,none⟩) (Kd.R_far (p:=⟨gb258,1,none⟩) (Kd.R_far (p:=⟨gb258,0,none⟩) (Kd.R_types HO_5.out BK258.out (by decide)) (fun _ hk=>hk.2) (.int .i64 ((Zd l0_1 x17_1).f0))) (fun _ hk=>hk.2) (.slice A257_1 ((Zd l0_1 x17_1).f1).length c257_1)) (fun _ hk=>hk.2) (.slice A257_2 ((Zd l0_1 x17_1).f2).length c257_2)) (fun _ h_=>h_.1))):p:=h
theorem zz51 {p:Prop} (h:p:=by(with_reducible repeat(first|apply Kd.R_alloc|apply Kd.R_drewN|apply Kd.R_drew));exact(Kd.R_mono (Kd.R_far (p:=⟨gb276,2,none⟩) (Kd.R_far (p:=⟨gb276,1,none⟩) (Kd.R_far (p:=⟨gb276,0,none⟩) (Kd.R_types HO_8.out BK276.out (by decide)) (fun _ hk=>hk.2) (.int .i64 ((Zd l0_1 x35_4).f0))) (fun _ hk=>hk.2) (.slice A275_1 ((Zd l0_1 x35_4).f1).length c275_1)) (fun _ hk=>hk.2) (.slice (some ad279) ((Zd l0_1 x35_4).f2).length c275_2)) (fun _ h_=>h_.1))):p:=h
theorem zz46 {p:Prop} (h:p:=by(with_reducible repeat(first|apply Kd.V_alloc|apply Kd.V_drewN|apply Kd.V_drew));exact(Kd.V_mono (Kd.V_far (p:=⟨gb238,2,none⟩) (Kd.V_far (p:=⟨gb238,1,none⟩) (Kd.V_far (p:=⟨gb238,0,none⟩) (Kd.V_mono HL235_1.out (fun k_ hk=>(⟨hk,hk.2⟩:_∧k_≠gb238))) (fun _ hk=>hk.2) (.int .i64 ((Zd t230 x72_3).f0))) (fun _ hk=>hk.2) (.slice A237_1 ((Zd t230 x72_3).f1).length c237_1)) (fun _ hk=>hk.2) (.slice A237_2 ((Zd t230 x72_3).f2).length c237_2)) (fun _ h_=>h_.1))):p:=h
theorem zz47 {p:Prop} (h:p:=by(with_reducible repeat(first|apply Kd.V_alloc|apply Kd.V_drewN|apply Kd.V_drew));exact(Kd.V_mono (Kd.V_far (p:=⟨gb238,2,none⟩) (Kd.V_far (p:=⟨gb238,1,none⟩) (Kd.V_far (p:=⟨gb238,0,none⟩) (Kd.V_mono HL237_1.out (fun k_ hk=>(⟨hk,hk.2⟩:_∧k_≠gb238))) (fun _ hk=>hk.2) (.int .i64 ((Zd t230 x72_3).f0))) (fun _ hk=>hk.2) (.slice A237_1 ((Zd t230 x72_3).f1).length c237_1)) (fun _ hk=>hk.2) (.slice A237_2 ((Zd t230 x72_3).f2).length c237_2)) (fun _ h_=>h_.1))):p:=h
theorem zz48 {p:Prop} (h:p:=by(with_reducible repeat(first|apply Kd.V_alloc|apply Kd.V_drewN|apply Kd.V_drew));exact(Kd.V_mono (Kd.V_far (p:=⟨gb238,2,none⟩) (Kd.V_far (p:=⟨gb238,1,none⟩) (Kd.V_far (p:=⟨gb238,0,none⟩) (Kd.V_mono HL235_2.out (fun k_ hk=>(⟨hk,hk.2⟩:_∧k_≠gb238))) (fun _ hk=>hk.2) (.int .i64 ((Zd t230 x72_3).f0))) (fun _ hk=>hk.2) (.slice A237_1 ((Zd t230 x72_3).f1).length c237_1)) (fun _ hk=>hk.2) (.slice A237_2 ((Zd t230 x72_3).f2).length c237_2)) (fun _ h_=>h_.1))):p:=h
theorem zz49 {p:Prop} (h:p:=by(with_reducible repeat(first|apply Kd.V_alloc|apply Kd.V_drewN|apply Kd.V_drew));exact(Kd.V_mono (Kd.V_far (p:=⟨gb238,2,none⟩) (Kd.V_far (p:=⟨gb238,1,none⟩) (Kd.V_far (p:=⟨gb238,0,none⟩) (Kd.V_mono HL237_2.out (fun k_ hk=>(⟨hk,hk.2⟩:_∧k_≠gb238))) (fun _ hk=>hk.2) (.int .i64 ((Zd t230 x72_3).f0))) (fun _ hk=>hk.2) (.slice A237_1 ((Zd t230 x72_3).f1).length c237_1)) (fun _ hk=>hk.2) (.slice A237_2 ((Zd t230 x72_3).f2).length c237_2)) (fun _ h_=>h_.1))):p:=h
theorem zz44 {p:Prop} (h:p:=by rw[←hq_];exact(by(with_reducible repeat(first|apply Kd.R_alloc|apply Kd.R_drewN|apply Kd.R_drew));exact Kd.R_mono HO554.out (fun _ hk=>by first|exact hk.1|exact zN0))):p:=h
theorem zz40 {p:Prop} (h:p:=by(with_reducible repeat(first|refine Zm ?_ _|refine Zo ?_|refine Zl ?_ _));refine ZH ?_ NB222_225.out _;(with_reducible repeat(first|refine Zm ?_ _|refine Zo ?_|refine Zl ?_ _));refine ZH ?_ NB222_225.out _;(with_reducible repeat(first|refine Zm ?_ _|refine Zo ?_|refine Zl ?_ _));refine ZH ?_ NB222_225.out _;(with_reducible repeat(first|refine Zm ?_ _|refine Zo ?_|refine Zl ?_ _));exact BK222.out):p:=h
theorem zz43 {p:Prop} (h:p:=by(with_reducible repeat(first|refine Zm ?_ _|refine Zo ?_|refine Zl ?_ _));refine ZH ?_ NB269_276.out _;(with_reducible repeat(first|refine Zm ?_ _|refine Zo ?_|refine Zl ?_ _));refine ZH ?_ NB269_276.out _;(with_reducible repeat(first|refine Zm ?_ _|refine Zo ?_|refine Zl ?_ _));refine ZH ?_ NB269_276.out _;(with_reducible repeat(first|refine Zm ?_ _|refine Zo ?_|refine Zl ?_ _));exact BK269.out):p:=h
theorem zz38 {p:Prop} (h:p:=by rw[←hq_];exact(by(with_reducible repeat(first|apply Kd.N_alloc|apply Kd.N_drewN|apply Kd.N_drew));exact Kd.N_mono HO_6.out (fun _ hk=>by first|exact⟨hk.1.1,⟨hk.2,hk.1.2⟩⟩|exact zN0))):p:=h
theorem zz35 {p:Prop} (h:p:=by rw[hw];exact(by(with_reducible repeat(first|refine Zm ?_ _|refine Zo ?_|refine Zl ?_ _));refine ZH ?_ NB222_236.out _;(with_reducible repeat(first|refine Zm ?_ _|refine Zo ?_|refine Zl ?_ _));refine ZH ?_ NB222_236.out _;(with_reducible repeat(first|refine Zm ?_ _|refine Zo ?_|refine Zl ?_ _));refine ZH ?_ NB222_236.out _;(with_reducible repeat(first|refine Zm ?_ _|refine Zo ?_|refine Zl ?_ _));exact BK222.out)):p:=h
theorem zz36 {p:Prop} (h:p:=by rw[hw];exact(by(with_reducible repeat(first|refine Zm ?_ _|refine Zo ?_|refine Zl ?_ _));refine ZH ?_ NB234_236.out _;(with_reducible repeat(first|refine Zm ?_ _|refine Zo ?_|refine Zl ?_ _));refine ZH ?_ NB234_236.out _;(with_reducible repeat(first|refine Zm ?_ _|refine Zo ?_|refine Zl ?_ _));refine ZH ?_ NB234_236.out _;(with_reducible repeat(first|refine Zm ?_ _|refine Zo ?_|refine Zl ?_ _));exact BK234.out)):p:=h
theorem zz33 {p:Prop} (h:p:=by rw[←hq_];exact(by(with_reducible repeat(first|apply Kd.V_alloc|apply Kd.V_drewN|apply Kd.V_drew));exact Kd.V_mono HL550_0.out (fun _ hk=>by first|exact⟨hk.1.1.1,⟨hk.2,⟨hk.1.1.2,hk.1.2⟩⟩⟩|exact zN0))):p:=h
theorem zz29 {p:Prop} (h:p:=by rw[hw];exact(by(with_reducible repeat(first|apply Kd.N_alloc|apply Kd.N_drewN|apply Kd.N_drew));exact Kd.N_mono (Kd.N_far (p:=⟨gb236,2,none⟩) (Kd.N_far (p:=⟨gb236,1,none⟩) (Kd.N_far (p:=⟨gb236,0,none⟩) (Kd.N_mono HO_235001.out (fun k_ hk=>(⟨hk,hk.2⟩:_∧k_≠gb236))) (fun _ hk=>hk.2) (.int .i64 ((Zd l0_1 x72_3).f0))) (fun _ hk=>hk.2) (.slice A235_1 ((Zd l0_1 x72_3).f1).length c235_1)) (fun _ hk=>hk.2) (.slice A235_2 ((Zd l0_1 x72_3).f2).length c235_2)) (fun _ hk=>⟨hk.1.1.1,⟨hk.1.1.2.1,⟨hk.1.1.2.2,hk.1.2⟩⟩⟩))):p:=h
theorem zz28 {p:Prop} (h:p:=by(with_reducible repeat(first|apply Kd.N_alloc|apply Kd.N_drewN|apply Kd.N_drew));exact Kd.N_mono HO_518001.out (fun _ hk=>by first|exact⟨⟨hk.1,⟨hk.2.2.1,⟨hk.2.2.2.1,⟨hk.2.2.2.2.1,hk.2.2.2.2.2⟩⟩⟩⟩,hk.2.1⟩|exact zN0)):p:=h
theorem zz27 {p:Prop} (h:p:=by rw[hw];exact(by(with_reducible repeat(first|apply Kd.V_alloc|apply Kd.V_drewN|apply Kd.V_drew));exact Kd.V_mono (Kd.V_far (p:=⟨gb236,2,none⟩) (Kd.V_far (p:=⟨gb236,1,none⟩) (Kd.V_far (p:=⟨gb236,0,none⟩) (Kd.V_mono HO_70.out (fun k_ hk=>(⟨hk,hk.2⟩:_∧k_≠gb236))) (fun _ hk=>hk.2) (.int .i64 ((Zd l0_1 x72_3).f0))) (fun _ hk=>hk.2) (.slice A235_1 ((Zd l0_1 x72_3).f1).length c235_1)) (fun _ hk=>hk.2) (.slice A235_2 ((Zd l0_1 x72_3).f2).length c235_2)) (fun _ hk=>⟨hk.1.1.1,⟨hk.1.1.2.1,⟨hk.1.1.2.2.1,⟨hk.1.1.2.2.2,hk.1.2⟩⟩⟩⟩))):p:=h
theorem zz25 {p:Prop} (h:p:=by rw[hw];exact(by(with_reducible repeat(first|apply Kd.V_alloc|apply Kd.V_drewN|apply Kd.V_drew));exact Kd.V_mono (Kd.V_far (p:=⟨gb236,2,none⟩) (Kd.V_far (p:=⟨gb236,1,none⟩) (Kd.V_far (p:=⟨gb236,0,none⟩) (Kd.V_mono HL235_1.out (fun k_ hk=>(⟨hk,hk.2⟩:_∧k_≠gb236))) (fun _ hk=>hk.2) (.int .i64 ((Zd l0_1 x72_3).f0))) (fun _ hk=>hk.2) (.slice A235_1 ((Zd l0_1 x72_3).f1).length c235_1)) (fun _ hk=>hk.2) (.slice A235_2 ((Zd l0_1 x72_3).f2).length c235_2)) (fun _ hk=>⟨hk.1.1.1,⟨hk.1.1.2.1,⟨hk.1.1.2.2.1,⟨hk.1.1.2.2.2,hk.1.2⟩⟩⟩⟩))):p:=h
theorem zz26 {p:Prop} (h:p:=by rw[hw];exact(by(with_reducible repeat(first|apply Kd.V_alloc|apply Kd.V_drewN|apply Kd.V_drew));exact Kd.V_mono (Kd.V_far (p:=⟨gb236,2,none⟩) (Kd.V_far (p:=⟨gb236,1,none⟩) (Kd.V_far (p:=⟨gb236,0,none⟩) (Kd.V_mono HL235_2.out (fun k_ hk=>(⟨hk,hk.2⟩:_∧k_≠gb236))) (fun _ hk=>hk.2) (.int .i64 ((Zd l0_1 x72_3).f0))) (fun _ hk=>hk.2) (.slice A235_1 ((Zd l0_1 x72_3).f1).length c235_1)) (fun _ hk=>hk.2) (.slice A235_2 ((Zd l0_1 x72_3).f2).length c235_2)) (fun _ hk=>⟨hk.1.1.1,⟨hk.1.1.2.1,⟨hk.1.1.2.2.1,⟨hk.1.1.2.2.2,hk.1.2⟩⟩⟩⟩))):p:=h
theorem zz24 {p:Prop} (h:p:=by rw[hw];exact(by(with_reducible repeat(first|apply Kd.V_alloc|apply Kd.V_drewN|apply Kd.V_drew));exact Kd.V_mono (Kd.V_far (p:=⟨gb236,2,none⟩) (Kd.V_far (p:=⟨gb236,1,none⟩) (Kd.V_far (p:=⟨gb236,0,none⟩) (Kd.V_mono HO_223001.out (fun k_ hk=>(⟨hk,hk.2⟩:_∧k_≠gb236))) (fun _ hk=>hk.2) (.int .i64 ((Zd l0_1 x72_3).f0))) (fun _ hk=>hk.2) (.slice A235_1 ((Zd l0_1 x72_3).f1).length c235_1)) (fun _ hk=>hk.2) (.slice A235_2 ((Zd l0_1 x72_3).f2).length c235_2)) (fun _ hk=>⟨hk.1.1.1,⟨hk.1.1.2.1,⟨hk.1.1.2.2.1,⟨hk.1.1.2.2.2,hk.1.2⟩⟩⟩⟩))):p:=h
theorem zz23 {p:Prop} (h:p:=by(with_reducible repeat(first|apply Kd.V_alloc|apply Kd.V_drewN|apply Kd.V_drew));exact Kd.V_mono HO_1.out (fun _ hk=>by first|exact⟨⟨hk.1,⟨hk.2.1,⟨hk.2.2.2.1,⟨hk.2.2.2.2.1,⟨hk.2.2.2.2.2.1,hk.2.2.2.2.2.2⟩⟩⟩⟩⟩,hk.2.2.1⟩|exact zN0)):p:=h
theorem zz21 {p:Prop} (h:p:=by(with_reducible repeat(first|apply Kd.V_alloc|apply Kd.V_drewN|apply Kd.V_drew));exact Kd.V_mono HL522_0.out (fun _ hk=>by first|exact⟨⟨hk.1,⟨hk.2.1,⟨hk.2.2.2.1,⟨hk.2.2.2.2.1,⟨hk.2.2.2.2.2.1,hk.2.2.2.2.2.2⟩⟩⟩⟩⟩,hk.2.2.1⟩|exact zN0)):p:=h
theorem zz22 {p:Prop} (h:p:=by(with_reducible repeat(first|apply Kd.V_alloc|apply Kd.V_drewN|apply Kd.V_drew));exact Kd.V_mono HL524_0.out (fun _ hk=>by first|exact⟨⟨hk.1,⟨hk.2.1,⟨hk.2.2.2.1,⟨hk.2.2.2.2.1,⟨hk.2.2.2.2.2.1,hk.2.2.2.2.2.2⟩⟩⟩⟩⟩,hk.2.2.1⟩|exact zN0)):p:=h
theorem zz9 {p:Prop} (h:p:=by first|exact Nat.ne_of_lt (Nat.lt_of_lt_of_le (by have:=wB _ _ hw214_0;first|rwa [Zs] at this|exact this) GW216.out)|(rw[Zs];exact Nat.ne_of_lt (Nat.lt_of_lt_of_le (by have:=wB _ _ hw214_0;first|rwa [Zs] at this|exact this) GW216.out))|(show(Addr.add _ _).block≠_;rw[Zs];exact Nat.ne_of_lt (Nat.lt_of_lt_of_le (by have:=wB _ _ hw214_0;first|rwa [Zs] at this|exact this) GW216.out))|(dsimp only;exact Nat.ne_of_lt (Nat.lt_of_lt_of_le (by have:=wB _ _ hw214_0;first|rwa [Zs] at this|exact this) GW216.out))):p:=h
theorem zz10 {p:Prop} (h:p:=by first|exact Nat.ne_of_lt (Nat.lt_of_lt_of_le (by have:=wB _ _ hw214_1;first|rwa [Zs] at this|exact this) GW216.out)|(rw[Zs];exact Nat.ne_of_lt (Nat.lt_of_lt_of_le (by have:=wB _ _ hw214_1;first|rwa [Zs] at this|exact this) GW216.out))|(show(Addr.add _ _).block≠_;rw[Zs];exact Nat.ne_of_lt (Nat.lt_of_lt_of_le (by have:=wB _ _ hw214_1;first|rwa [Zs] at this|exact this) GW216.out))|(dsimp only;exact Nat.ne_of_lt (Nat.lt_of_lt_of_le (by have:=wB _ _ hw214_1;first|rwa [Zs] at this|exact this) GW216.out))):p:=h
theorem zz11 {p:Prop} (h:p:=by first|exact Nat.ne_of_lt (Nat.lt_of_lt_of_le (by have:=wB _ _ hw214_2;first|rwa [Zs] at this|exact this) GW216.out)|(rw[Zs];exact Nat.ne_of_lt (Nat.lt_of_lt_of_le (by have:=wB _ _ hw214_2;first|rwa [Zs] at this|exact this) GW216.out))|(show(Addr.add _ _).block≠_;rw[Zs];exact Nat.ne_of_lt (Nat.lt_of_lt_of_le (by have:=wB _ _ hw214_2;first|rwa [Zs] at this|exact this) GW216.out))|(dsimp only;exact Nat.ne_of_lt (Nat.lt_of_lt_of_le (by have:=wB _ _ hw214_2;first|rwa [Zs] at this|exact this) GW216.out))):p:=h
theorem zz12 {p:Prop} (h:p:=by first|exact Nat.ne_of_lt (Nat.lt_of_lt_of_le (by have:=wB _ _ hw215_0;first|rwa [Zs] at this|exact this) GW216.out)|(rw[Zs];exact Nat.ne_of_lt (Nat.lt_of_lt_of_le (by have:=wB _ _ hw215_0;first|rwa [Zs] at this|exact this) GW216.out))|(show(Addr.add _ _).block≠_;rw[Zs];exact Nat.ne_of_lt (Nat.lt_of_lt_of_le (by have:=wB _ _ hw215_0;first|rwa [Zs] at this|exact this) GW216.out))|(dsimp only;exact Nat.ne_of_lt (Nat.lt_of_lt_of_le (by have:=wB _ _ hw215_0;first|rwa [Zs] at this|exact this) GW216.out))):p:=h
theorem zz13 {p:Prop} (h:p:=by first|exact Nat.ne_of_lt (Nat.lt_of_lt_of_le (by have:=wB _ _ hw215_1;first|rwa [Zs] at this|exact this) GW216.out)|(rw[Zs];exact Nat.ne_of_lt (Nat.lt_of_lt_of_le (by have:=wB _ _ hw215_1;first|rwa [Zs] at this|exact this) GW216.out))|(show(Addr.add _ _).block≠_;rw[Zs];exact Nat.ne_of_lt (Nat.lt_of_lt_of_le (by have:=wB _ _ hw215_1;first|rwa [Zs] at this|exact this) GW216.out))|(dsimp only;exact Nat.ne_of_lt (Nat.lt_of_lt_of_le (by have:=wB _ _ hw215_1;first|rwa [Zs] at this|exact this) GW216.out))):p:=h
theorem zz14 {p:Prop} (h:p:=by first|exact Nat.ne_of_lt (Nat.lt_of_lt_of_le (by have:=wB _ _ hw215_2;first|rwa [Zs] at this|exact this) GW216.out)|(rw[Zs];exact Nat.ne_of_lt (Nat.lt_of_lt_of_le (by have:=wB _ _ hw215_2;first|rwa [Zs] at this|exact this) GW216.out))|(show(Addr.add _ _).block≠_;rw[Zs];exact Nat.ne_of_lt (Nat.lt_of_lt_of_le (by have:=wB _ _ hw215_2;first|rwa [Zs] at this|exact this) GW216.out))|(dsimp only;exact Nat.ne_of_lt (Nat.lt_of_lt_of_le (by have:=wB _ _ hw215_2;first|rwa [Zs] at this|exact this) GW216.out))):p:=h
theorem zz15 {p:Prop} (h:p:=by first|exact Nat.ne_of_lt (Nat.lt_of_lt_of_le (by have:=wB _ _ hw214_0;first|rwa [Zs] at this|exact this) GW217.out)|(rw[Zs];exact Nat.ne_of_lt (Nat.lt_of_lt_of_le (by have:=wB _ _ hw214_0;first|rwa [Zs] at this|exact this) GW217.out))|(show(Addr.add _ _).block≠_;rw[Zs];exact Nat.ne_of_lt (Nat.lt_of_lt_of_le (by have:=wB _ _ hw214_0;first|rwa [Zs] at this|exact this) GW217.out))|(dsimp only;exact Nat.ne_of_lt (Nat.lt_of_lt_of_le (by have:=wB _ _ hw214_0;first|rwa [Zs] at this|exact this) GW217.out))):p:=h
theorem zz16 {p:Prop} (h:p:=by first|exact Nat.ne_of_lt (Nat.lt_of_lt_of_le (by have:=wB _ _ hw214_1;first|rwa [Zs] at this|exact this) GW217.out)|(rw[Zs];exact Nat.ne_of_lt (Nat.lt_of_lt_of_le (by have:=wB _ _ hw214_1;first|rwa [Zs] at this|exact this) GW217.out))|(show(Addr.add _ _).block≠_;rw[Zs];exact Nat.ne_of_lt (Nat.lt_of_lt_of_le (by have:=wB _ _ hw214_1;first|rwa [Zs] at this|exact this) GW217.out))|(dsimp only;exact Nat.ne_of_lt (Nat.lt_of_lt_of_le (by have:=wB _ _ hw214_1;first|rwa [Zs] at this|exact this) GW217.out))):p:=h
theorem zz17 {p:Prop} (h:p:=by first|exact Nat.ne_of_lt (Nat.lt_of_lt_of_le (by have:=wB _ _ hw214_2;first|rwa [Zs] at this|exact this) GW217.out)|(rw[Zs];exact Nat.ne_of_lt (Nat.lt_of_lt_of_le (by have:=wB _ _ hw214_2;first|rwa [Zs] at this|exact this) GW217.out))|(show(Addr.add _ _).block≠_;rw[Zs];exact Nat.ne_of_lt (Nat.lt_of_lt_of_le (by have:=wB _ _ hw214_2;first|rwa [Zs] at this|exact this) GW217.out))|(dsimp only;exact Nat.ne_of_lt (Nat.lt_of_lt_of_le (by have:=wB _ _ hw214_2;first|rwa [Zs] at this|exact this) GW217.out))):p:=h
theorem zz18 {p:Prop} (h:p:=by first|exact Nat.ne_of_lt (Nat.lt_of_lt_of_le (by have:=wB _ _ hw215_0;first|rwa [Zs] at this|exact this) GW217.out)|(rw[Zs];exact Nat.ne_of_lt (Nat.lt_of_lt_of_le (by have:=wB _ _ hw215_0;first|rwa [Zs] at this|exact this) GW217.out))|(show(Addr.add _ _).block≠_;rw[Zs];exact Nat.ne_of_lt (Nat.lt_of_lt_of_le (by have:=wB _ _ hw215_0;first|rwa [Zs] at this|exact this) GW217.out))|(dsimp only;exact Nat.ne_of_lt (Nat.lt_of_lt_of_le (by have:=wB _ _ hw215_0;first|rwa [Zs] at this|exact this) GW217.out))):p:=h
theorem zz19 {p:Prop} (h:p:=by first|exact Nat.ne_of_lt (Nat.lt_of_lt_of_le (by have:=wB _ _ hw215_1;first|rwa [Zs] at this|exact this) GW217.out)|(rw[Zs];exact Nat.ne_of_lt (Nat.lt_of_lt_of_le (by have:=wB _ _ hw215_1;first|rwa [Zs] at this|exact this) GW217.out))|(show(Addr.add _ _).block≠_;rw[Zs];exact Nat.ne_of_lt (Nat.lt_of_lt_of_le (by have:=wB _ _ hw215_1;first|rwa [Zs] at this|exact this) GW217.out))|(dsimp only;exact Nat.ne_of_lt (Nat.lt_of_lt_of_le (by have:=wB _ _ hw215_1;first|rwa [Zs] at this|exact this) GW217.out))):p:=h
theorem zz20 {p:Prop} (h:p:=by first|exact Nat.ne_of_lt (Nat.lt_of_lt_of_le (by have:=wB _ _ hw215_2;first|rwa [Zs] at this|exact this) GW217.out)|(rw[Zs];exact Nat.ne_of_lt (Nat.lt_of_lt_of_le (by have:=wB _ _ hw215_2;first|rwa [Zs] at this|exact this) GW217.out))|(show(Addr.add _ _).block≠_;rw[Zs];exact Nat.ne_of_lt (Nat.lt_of_lt_of_le (by have:=wB _ _ hw215_2;first|rwa [Zs] at this|exact this) GW217.out))|(dsimp only;exact Nat.ne_of_lt (Nat.lt_of_lt_of_le (by have:=wB _ _ hw215_2;first|rwa [Zs] at this|exact this) GW217.out))):p:=h
theorem zz6 {p:Prop} (h:p:=by(with_reducible repeat(first|refine Zm ?_ _|refine Zo ?_|refine Zl ?_ _));refine ZI (cs:= #[.int .i64 ((Zd l0_1 x27_1).f0),.slice A224_1 ((Zd l0_1 x27_1).f1).length c224_1,.slice none 0 0]) ?_ 2 _ rfl;(with_reducible repeat(first|refine Zm ?_ _|refine Zo ?_|refine Zl ?_ _));refine ZI (cs:= #[.int .i64 ((Zd l0_1 x27_1).f0),.slice none 0 0,.slice none 0 0]) ?_ 1 _ rfl;(with_reducible repeat(first|refine Zm ?_ _|refine Zo ?_|refine Zl ?_ _));refine ZI (cs:= #[.int .i64 0,.slice none 0 0,.slice none 0 0]) ?_ 0 _ rfl;(with_reducible repeat(first|refine Zm ?_ _|refine Zo ?_|refine Zl ?_ _));exact BK225.out):p:=h
theorem zz8 {p:Prop} (h:p:=by(with_reducible repeat(first|refine Zm ?_ _|refine Zo ?_|refine Zl ?_ _));refine ZI (cs:= #[.int .i64 ((Zd l0_1 x35_4).f0),.slice A275_1 ((Zd l0_1 x35_4).f1).length c275_1,.slice none 0 0]) ?_ 2 _ rfl;(with_reducible repeat(first|refine Zm ?_ _|refine Zo ?_|refine Zl ?_ _));refine ZI (cs:= #[.int .i64 ((Zd l0_1 x35_4).f0),.slice none 0 0,.slice none 0 0]) ?_ 1 _ rfl;(with_reducible repeat(first|refine Zm ?_ _|refine Zo ?_|refine Zl ?_ _));refine ZI (cs:= #[.int .i64 0,.slice none 0 0,.slice none 0 0]) ?_ 0 _ rfl;(with_reducible repeat(first|refine Zm ?_ _|refine Zo ?_|refine Zl ?_ _));exact BK276.out):p:=h
theorem zz5 {p:Prop} (h:p:=by rw[hw];exact(by(with_reducible repeat(first|refine Zm ?_ _|refine Zo ?_|refine Zl ?_ _));refine ZI (cs:= #[.int .i64 ((Zd l0_1 x72_3).f0),.slice A235_1 ((Zd l0_1 x72_3).f1).length c235_1,.slice none 0 0]) ?_ 2 _ rfl;(with_reducible repeat(first|refine Zm ?_ _|refine Zo ?_|refine Zl ?_ _));refine ZI (cs:= #[.int .i64 ((Zd l0_1 x72_3).f0),.slice none 0 0,.slice none 0 0]) ?_ 1 _ rfl;(with_reducible repeat(first|refine Zm ?_ _|refine Zo ?_|refine Zl ?_ _));refine ZI (cs:= #[.int .i64 0,.slice none 0 0,.slice none 0 0]) ?_ 0 _ rfl;(with_reducible repeat(first|refine Zm ?_ _|refine Zo ?_|refine Zl ?_ _));exact BK236.out)):p:=h
theorem zz3 {p:Prop} (h:p:=by(with_reducible repeat(first|refine Zm ?_ _|refine Zo ?_|refine Zl ?_ _));refine ZH ?_ NB212_217.out _;(with_reducible repeat(first|refine Zm ?_ _|refine Zo ?_|refine Zl ?_ _));refine ZH ?_ NB212_217.out _;(with_reducible repeat(first|refine Zm ?_ _|refine Zo ?_|refine Zl ?_ _));refine ZH ?_ NB212_217.out _;(with_reducible repeat(first|refine Zm ?_ _|refine Zo ?_|refine Zl ?_ _));refine ZH ?_ NB212_216.out _;(with_reducible repeat(first|refine Zm ?_ _|refine Zo ?_|refine Zl ?_ _));refine ZH ?_ NB212_216.out _;(with_reducible repeat(first|refine Zm ?_ _|refine Zo ?_|refine Zl ?_ _));refine ZH ?_ NB212_216.out _;(with_reducible repeat(first|refine Zm ?_ _|refine Zo ?_|refine Zl ?_ _));exact BK212.out):p:=h
theorem zz4 {p:Prop} (h:p:=by(with_reducible repeat(first|refine Zm ?_ _|refine Zo ?_|refine Zl ?_ _));refine ZH ?_ NB213_217.out _;(with_reducible repeat(first|refine Zm ?_ _|refine Zo ?_|refine Zl ?_ _));refine ZH ?_ NB213_217.out _;(with_reducible repeat(first|refine Zm ?_ _|refine Zo ?_|refine Zl ?_ _));refine ZH ?_ NB213_217.out _;(with_reducible repeat(first|refine Zm ?_ _|refine Zo ?_|refine Zl ?_ _));refine ZH ?_ NB213_216.out _;(with_reducible repeat(first|refine Zm ?_ _|refine Zo ?_|refine Zl ?_ _));refine ZH ?_ NB213_216.out _;(with_reducible repeat(first|refine Zm ?_ _|refine Zo ?_|refine Zl ?_ _));refine ZH ?_ NB213_216.out _;(with_reducible repeat(first|refine Zm ?_ _|refine Zo ?_|refine Zl ?_ _));exact BK213.out):p:=h
theorem zz2 {p:Prop} (h:p:=by(with_reducible repeat(first|apply Kd.N_alloc|apply Kd.N_drewN|apply Kd.N_drew));exact(Kd.N_mono (Kd.N_far (p:=⟨gb395,1,none⟩) (Kd.N_far (p:=⟨gb395,0,none⟩) (Kd.N_mono HO_340001.out (fun k_ hk=>(⟨hk,hk.2⟩:_∧k_≠gb395))) (fun _ hk=>by first|exact hk.2|exact zN0) (.int .i64 4)) (fun _ hk=>by first|exact hk.2|exact zN0) (.slice Ao146 y392.length co146)) (fun _ h_=>h_.1))):p:=h
theorem zz0 {p:Prop} (h:p:=by(with_reducible repeat(first|refine Zm ?_ _|refine Zo ?_|refine Zl ?_ _));refine ZH ?_ NB216_217.out _;(with_reducible repeat(first|refine Zm ?_ _|refine Zo ?_|refine Zl ?_ _));refine ZH ?_ NB216_217.out _;(with_reducible repeat(first|refine Zm ?_ _|refine Zo ?_|refine Zl ?_ _));refine ZH ?_ NB216_217.out _;(with_reducible repeat(first|refine Zm ?_ _|refine Zo ?_|refine Zl ?_ _));refine ZI (cs:= #[.int .i64 ((Zd l0_1 x5_2).f0),.slice A214_1 ((Zd l0_1 x5_2).f1).length c214_1,.slice none 0 0]) ?_ 2 _ rfl;(with_reducible repeat(first|refine Zm ?_ _|refine Zo ?_|refine Zl ?_ _));refine ZI (cs:= #[.int .i64 ((Zd l0_1 x5_2).f0),.slice none 0 0,.slice none 0 0]) ?_ 1 _ rfl;(with_reducible repeat(first|refine Zm ?_ _|refine Zo ?_|refine Zl ?_ _));refine ZI (cs:= #[.int .i64 0,.slice none 0 0,.slice none 0 0]) ?_ 0 _ rfl;(with_reducible repeat(first|refine Zm ?_ _|refine Zo ?_|refine Zl ?_ _));exact BK216.out):p:=h
theorem zz1 {p:Prop} (h:p:=by(with_reducible repeat(first|refine Zm ?_ _|refine Zo ?_|refine Zl ?_ _));refine ZI (cs:= #[.int .i64 ((Zd l1_1 x5_2).f0),.slice A215_1 ((Zd l1_1 x5_2).f1).length c215_1,.slice none 0 0]) ?_ 2 _ rfl;(with_reducible repeat(first|refine Zm ?_ _|refine Zo ?_|refine Zl ?_ _));refine ZI (cs:= #[.int .i64 ((Zd l1_1 x5_2).f0),.slice none 0 0,.slice none 0 0]) ?_ 1 _ rfl;(with_reducible repeat(first|refine Zm ?_ _|refine Zo ?_|refine Zl ?_ _));refine ZI (cs:= #[.int .i64 0,.slice none 0 0,.slice none 0 0]) ?_ 0 _ rfl;(with_reducible repeat(first|refine Zm ?_ _|refine Zo ?_|refine Zl ?_ _));refine ZH ?_ NB217_216.out _;(with_reducible repeat(first|refine Zm ?_ _|refine Zo ?_|refine Zl ?_ _));refine ZH ?_ NB217_216.out _;(with_reducible repeat(first|refine Zm ?_ _|refine Zo ?_|refine Zl ?_ _));refine ZH ?_ NB217_216.out _;(with_reducible repeat(first|refine Zm ?_ _|refine Zo ?_|refine Zl ?_ _));exact BK217.out):p:=h
def r09_SameInts.l0:Nat→List Int→List Int→Int→Option (Bool)
 |0,_,_,_=>none
 |k+1,x0,x1,x5=>if x5<(x0.length:Int) then(if 0≤x5 then(if x5<(x1.length:Int) then(if(rd x0 x5)=(rd x1 x5) then(r09_SameInts.l0 k x0 x1 (wrap64 (x5+1))) else(some false)) else(none)) else(none)) else(some true)
def r09_SameInts.f (k:Nat) (l0:List Int) (l1:List Int):Option (Bool):=if(l0.length:Int)=(l1.length:Int) then(r09_SameInts.l0 k l0 l1 0) else(some false)
theorem r09_SameInts.calls (k:Nat) (A0:Option Addr) (c0:Nat) (l0:List Int) (A1:Option Addr) (c1:Nat) (l1:List Int) (r:Bool) (w:World) (hr0:Kd.C (Kd.int .i64) w A0 l0.length l0) (hc0:l0.length≤c0) (hr1:Kd.C (Kd.int .i64) w A1 l1.length l1) (hc1:l1.length≤c1) (h:r09_SameInts.f k l0 l1=some r):
    Calls Try.prog 15 #[.slice A0 l0.length c0,.slice A1 l1.length c1] w fun e w'=>e= .returned (.bool r)∧Drawn0 w w':=by
 have HR0:=aM hr0
 have HC0:=aM hc0
 clear hr0 hc0
 have HR1:=aM hr1
 have HC1:=aM hc1
 clear hr1 hc1
 have H:(if(l0.length:Int)=(l1.length:Int) then(r09_SameInts.l0 k l0 l1 0) else(some false))=some r:=h
 clear h
 by_cases c3:(l0.length:Int)=(l1.length:Int)
 ·rw [if_pos c3] at H
  have c3b0:=beq_iff_eq.mpr c3;have c3b1:=bne_eq_false_iff_eq.mpr c3;have c3b2:(l0.length==l1.length)=true:=by first|simpa using c3|(simp at c3⊢;omega)
  clear c3;have H':=aM H;clear H
  go_enter Try.func15,Try.ntmps15
  go_wp2
  repeat(go_quiet (fail);try go_wp2)
  go_loopg [5] k (fun kq v5 w'=>∃(x5_1:Int),v5= .int .i64 x5_1∧Aside0 (r09_SameInts.l0 kq l0 l1 x5_1=some r)∧Aside0 (kq≤k)∧Drawn0 w w')
  case atStart=>exact⟨(0),zz154,H',⟨Nat.le_refl _⟩,by repeat(first|exact Drawn0.refl _|apply Drawn0.step)⟩
  case round =>
   clear H';(try clear c1);(try clear p2);(try clear c3);(try clear c3b0);(try clear c3b1);(try clear c3b2);obtain⟨x5_1,rfl,HA,HK1,⟨m1,rfl⟩⟩:=hrel
   cases gk with
   |zero=>exact absurd HA.out (by simp[r09_SameInts.l0])
   | succ k1=>
    have H:=HA.out;clear HA;simp only[r09_SameInts.l0] at H
    by_cases c4:x5_1<(l0.length:Int)
    ·rw [if_pos c4] at H;have c4b0:=dT c4;clear c4
     by_cases c5:0≤x5_1
     ·rw [if_pos c5] at H;have c5b0:=dT c5;clear c5
      by_cases c6:x5_1<(l1.length:Int)
      ·rw [if_pos c6] at H;have c6b0:=dT c6;clear c6
       by_cases c7:(rd l0 x5_1)=(rd l1 x5_1)
       ·rw[if_pos c7] at H;have c7b0:=beq_iff_eq.mpr c7;have c7b1:=bne_eq_false_iff_eq.mpr c7;clear c7;have H':=aM H;clear H;have p121:0≤(x5_1:Int):=oD zz153;have q121:x5_1<(l0.length:Int):=oD zz153;obtain⟨ad121,e121,hx121_0⟩:=Kd.at_int HR0.out x5_1 p121 q121
        cases e121;replace p121:=eq_true p121;replace q121:=eq_true q121;have p122:0≤(x5_1:Int):=oD zz153;have q122:x5_1<(l1.length:Int):=oD zz153;obtain⟨ad122,e122,hx122_0⟩:=Kd.at_int HR1.out x5_1 p122 q122
        cases e122;replace p122:=eq_true p122;replace q122:=eq_true q122;go_wp2
        repeat(go_quiet (fail);try go_wp2)
        go_roundg k1
        case measure=>have:=HK1.out;omega
        case rel=>exact⟨(wrap64 (x5_1+1)),zz154,H',⟨zz163⟩,by repeat(first|exact Drawn0.refl _|apply Drawn0.step)⟩
       rw[if_neg c7] at H;have c7b0:=beq_eq_false_iff_ne.mpr c7;have c7b1:=bne_iff_ne.mpr c7;obtain rfl:=oI H;have p121:0≤(x5_1:Int):=oD zz153;have q121:x5_1<(l0.length:Int):=oD zz153;obtain⟨ad121,e121,hx121_0⟩:=Kd.at_int HR0.out x5_1 p121 q121
       cases e121;replace p121:=eq_true p121;replace q121:=eq_true q121;have p122:0≤(x5_1:Int):=oD zz153;have q122:x5_1<(l1.length:Int):=oD zz153;obtain⟨ad122,e122,hx122_0⟩:=Kd.at_int HR1.out x5_1 p122 q122
       cases e122;replace p122:=eq_true p122;replace q122:=eq_true q122;go_wp2
       repeat(go_quiet (fail);try go_wp2)
       go_ret
       exact⟨by first|rfl|(simp;done)|(simp[*];done),by repeat(first|exact Drawn0.refl _|apply Drawn0.step)⟩
      rw[if_neg c6] at H
      exact absurd H (by simp)
     rw[if_neg c5] at H
     exact absurd H (by simp)
    rw[if_neg c4] at H;have c4b0:=dF c4;clear c4;obtain rfl:=oI H;go_wp2
    repeat(go_quiet (fail);try go_wp2)
    go_ret
    exact⟨by first|rfl|(simp;done)|(simp[*];done),by repeat(first|exact Drawn0.refl _|apply Drawn0.step)⟩
 rw[if_neg c3] at H
 have c3b0:=beq_eq_false_iff_ne.mpr c3
 have c3b1:=bne_iff_ne.mpr c3
 have c3b2:(l0.length==l1.length)=false:=by first|simpa using c3|(simp at c3⊢;omega)
 obtain rfl:=oI H
 go_enter Try.func15,Try.ntmps15
 go_wp2
 repeat(go_quiet (fail);try go_wp2)
 go_ret
 exact⟨by first|rfl|(simp;done)|(simp[*];done),by repeat(first|exact Drawn0.refl _|apply Drawn0.step)⟩
def perm_then.l0:Nat→List Int→List Int→List Int→Int→Int→Option (List Int)
 |0,_,_,_,_,_=>none
 |k+1,x1,x5,x11,x12,x13=>if x13<x12 then(if 0≤x13 then(if x13<(x11.length:Int) then(if 0≤(rd x11 x13) then(if(rd x11 x13)<(x1.length:Int) then(if x13<(x5.length:Int) then(perm_then.l0 k x1 (x5.set (x13:Int).toNat (rd x1 (rd x11 x13))) x11 x12 (wrap64 (x13+1))) else(none)) else(none)) else(none)) else(none)) else(none)) else(some x5)
def perm_then.f (k:Nat) (l0:List Int) (l1:List Int):Option (List Int):=if 0≤(l0.length:Int) then(if((l0.length:Int):Int).toNat≤35184372088832 then(perm_then.l0 k l1 (List.replicate ((l0.length:Int):Int).toNat 0) l0 (l0.length:Int) 0) else(none)) else(none)
theorem perm_then.calls (k:Nat) (A0:Option Addr) (c0:Nat) (l0:List Int) (A1:Option Addr) (c1:Nat) (l1:List Int) (r:List Int) (w:World) (hr0:Kd.C (Kd.int .i64) w A0 l0.length l0) (hc0:l0.length≤c0) (hr1:Kd.C (Kd.int .i64) w A1 l1.length l1) (hc1:l1.length≤c1) (h:perm_then.f k l0 l1=some r):
    Calls Try.prog 50 #[.slice A0 l0.length c0,.slice A1 l1.length c1] w fun e w'=>∃v0_:Value,e= .returned (v0_)∧Kd.R (Kd.int .i64) 3 w' w.heap.size (fun _=>True) v0_ r∧Below w.heap.size w w':=by
 have HR0:=aM hr0
 have HC0:=aM hc0
 clear hr0 hc0
 have HR1:=aM hr1
 have HC1:=aM hc1
 clear hr1 hc1
 have HB:=aM (Below.refl w.heap.size w)
 have H:(if 0≤(l0.length:Int) then(if((l0.length:Int):Int).toNat≤35184372088832 then(perm_then.l0 k l1 (List.replicate ((l0.length:Int):Int).toNat 0) l0 (l0.length:Int) 0) else(none)) else(none))=some r:=h
 clear h
 by_cases c3:0≤(l0.length:Int)
 ·rw [if_pos c3] at H
  have c3b0:=eq_true c3;have c3b1:=dT c3;clear c3
  by_cases c4:((l0.length:Int):Int).toNat≤35184372088832
  ·rw [if_pos c4] at H;have c4b0:=eq_true c4;have c4b1:=dT c4;clear c4;obtain⟨y105,hy105⟩:∃y_:List Int,y_=(List.replicate ((l0.length:Int):Int).toNat 0):=⟨_,rfl⟩;replace H:(perm_then.l0 k l1 y105 l0 (l0.length:Int) 0)=some r:=by first|(rw[hy105];with_reducible exact H)|(have H2_:=(Option.bind_some _ _).symm.trans H;rw[hy105];with_reducible exact H2_)|(have H2_:=(Option.bind_some _ _).symm.trans H;with_reducible exact H2_)|with_reducible exact H|(rw[hy105];exact H)|exact H
   have Ny105:=aM hy105;clear hy105;have H':=aM H;clear H
   go_enter Try.func50,Try.ntmps50
   go_wp2_with (first|((with_reducible refine Zr (N:=10) rfl ?_);refine Kd.R_make (Kd.int .i64) _ 3 rfl (N:=10) rfl 22 _ _ rfl (l0.length:Int) rfl rfl Try.underlying22 (.int .i64 0) 8 info3 rfl (by decide) (by omega) 0 (ok:=fun _=>True) (okp:=fun _=>True) rfl (fun _ hk=>hk) trivial (oD zz153) (Nat.le_trans (Nat.mul_le_mul_right _ (oD zz153:(l0.length:Int).toNat≤35184372088832)) (by omega)) (Below.refl _ _) (Nat.le_refl _) ?_;intro v106 w5 ho6 hb hg_ hnew_;clear hg_ hnew_;(first|rw[←Ny105.out] at ho6|(simp only[Int.reduceToNat] at ho6;rw[←Ny105.out] at ho6));have HO107:=aM (Kd.R_lower ho6 (Zc zz128));replace HB:=aM (Ze zz128 hb);clear hb ho6))
   go_loopg [13] k (fun kq v13 w'=>∃(x5_1:List Int) (x13_1:Int),v13= .int .i64 x13_1∧Aside0 (perm_then.l0 kq l1 x5_1 l0 (l0.length:Int) x13_1=some r)∧Aside0 (kq≤k)∧Aside0 (Kd.R (Kd.int .i64) 3 w' w.heap.size (fun _=>True) v106 x5_1)∧Aside0 (Below w.heap.size w w'))
   case atStart=>exact⟨(y105),(0),zz154,H',⟨Nat.le_refl _⟩,⟨(zR HO107)⟩,⟨zz128⟩⟩
   case round =>
    clear H';(try clear c1);(try clear p2);(try clear c3);(try clear c3b0);(try clear c3b1);(try clear c4);(try clear c4b0);(try clear c4b1);(try clear c5);obtain⟨x5_1,x13_1,rfl,HA,HK1,HO_5,HB⟩:=hrel
    cases gk with
    |zero=>exact absurd HA.out (by simp[perm_then.l0])
    | succ k1=>
     have H:=HA.out;clear HA;simp only[perm_then.l0] at H
     by_cases c7:x13_1<(l0.length:Int)
     ·rw [if_pos c7] at H;have c7b0:=dT c7;clear c7
      by_cases c8:0≤x13_1
      ·rw [if_pos c8] at H;have c8b0:=dT c8;clear c8
       by_cases c9:x13_1<(l0.length:Int)
       ·rw [if_pos c9] at H;have c9b0:=dT c9;clear c9
        by_cases c10:0≤(rd l0 x13_1)
        ·rw [if_pos c10] at H;have c10b0:=dT c10;clear c10
         by_cases c11:(rd l0 x13_1)<(l1.length:Int)
         ·rw [if_pos c11] at H;have c11b0:=dT c11;clear c11
          by_cases c12:x13_1<(x5_1.length:Int)
          ·rw[if_pos c12] at H;have c12b0:=dT c12;clear c12;obtain⟨y110,hy110⟩:∃y_:List Int,y_=(x5_1.set (x13_1:Int).toNat (rd l1 (rd l0 x13_1))):=⟨_,rfl⟩;replace H:(perm_then.l0 k1 l1 y110 l0 (l0.length:Int) (wrap64 (x13_1+1)))=some r:=by first|(rw[hy110];with_reducible exact H)|(have H2_:=(Option.bind_some _ _).symm.trans H;rw[hy110];with_reducible exact H2_)|(have H2_:=(Option.bind_some _ _).symm.trans H;with_reducible exact H2_)|with_reducible exact H|(rw[hy110];exact H)|exact H
           have Ny110:=aM hy110;clear hy110;have H':=aM H;clear H;have p108:0≤(x13_1:Int):=oD zz153;have q108:x13_1<(l0.length:Int):=oD zz153;obtain⟨ad108,e108,hx108_0⟩:=Kd.at_int HR0.out x13_1 p108 q108
           cases e108;replace hx108_0:=(HB.out.cell (wB w _ hx108_0)).trans hx108_0;replace p108:=eq_true p108;replace q108:=eq_true q108;have p109:0≤((rd l0 x13_1):Int):=oD zz153;have q109:(rd l0 x13_1)<(l1.length:Int):=oD zz153;obtain⟨ad109,e109,hx109_0⟩:=Kd.at_int HR1.out (rd l0 x13_1) p109 q109
           cases e109;replace hx109_0:=(HB.out.cell (wB w _ hx109_0)).trans hx109_0;replace p109:=eq_true p109;replace q109:=eq_true q109;have p13:0≤(x13_1:Int):=oD zz153;have q13:(x13_1:Int)<((x5_1.length:Int):Int):=oD zz153;obtain⟨go13,co13,eo13,gb13,gl13,cl13,HG13⟩:=Kd.R_form HO_5.out (by omega)
           (first|cases eo13|(injection eo13 with ea_ en_ ec_;(first|subst ea_|(injection ea_ with ea_;subst ea_));subst ec_;clear en_))
           have GB13:=aM gb13;have GG13:=aM HG13;clear gb13 gl13 HG13;obtain⟨hx13_0,hf13_0⟩:=Kd.R_celln 0 HO_5.out (x13_1:Int) p13 q13;replace p13:=eq_true p13;replace q13:=eq_true q13;have HP14:=Kd.R_putg HO_5.out (x13_1:Int) (rd l1 (rd l0 x13_1))
           go_wp2_with (first|((with_reducible refine ZU (t:=3) (p:=24) rfl ?_);refine ZO (t:=3) (p:=24) (v:= ?vo_w15) (w1:=(wr.setCell ⟨go13,(x13_1:Int).toNat,none⟩ (.int .i64 (rd l1 (rd l0 x13_1))))) ?hg ?ho ?hn ?hr ?_;(case ho=>rfl);(case hg=>rfl);(case hn=>rfl);(case hr=>first|(go_simp;done)|(go_simp;rfl));intro w15 hw;have hg:wr.grownBy w15 (some go13):=(by rw[hw];exact HP14.2);have hp_:Kd.R (Kd.int .i64) 3 w15 w.heap.size (fun _=>True) (.slice (some ⟨go13,0,none⟩) x5_1.length co13) y110:=(by rw[hw,Ny110.out];exact HP14.1);clear HP14;replace HO_5:=aM (hp_);replace HB:=aM ((by rw[hw];exact Zk (HB.out) GB13.out:Below w.heap.size w w15));clear hg hw hp_))
           go_roundg k1
           case measure=>have:=HK1.out;omega
           case rel=>exact⟨(y110),(wrap64 (x13_1+1)),zz154,H',⟨zz163⟩,⟨(zR HO_5)⟩,⟨zz128⟩⟩
          rw[if_neg c12] at H
          exact absurd H (by simp)
         rw[if_neg c11] at H
         exact absurd H (by simp)
        rw[if_neg c10] at H
        exact absurd H (by simp)
       rw[if_neg c9] at H
       exact absurd H (by simp)
      rw[if_neg c8] at H
      exact absurd H (by simp)
     rw[if_neg c7] at H;have c7b0:=dF c7;clear c7;obtain rfl:=oI H;go_wp2;go_ret
     exact⟨_,by first|rfl|(simp[Zj,Zi]<;>rfl)|(simp[*,Zj,Zi]<;>rfl),by(with_reducible repeat(first|apply Kd.R_alloc|apply Kd.R_drewN|apply Kd.R_drew));exact HO_5.out,by repeat(first|(with_reducible first|exact HB.out|apply Zn|apply Zf|apply Zh)|exact HB.out)⟩
  rw[if_neg c4] at H
  exact absurd H (by simp)
 rw[if_neg c3] at H
 exact absurd H (by simp)
def perm_inverse.l0:Nat→List Int→List Int→Int→Int→Option (List Int)
 |0,_,_,_,_=>none
 |k+1,x3,x9,x10,x11=>if x11<x10 then(if 0≤x11 then(if x11<(x9.length:Int) then(if 0≤(rd x9 x11) then(if(rd x9 x11)<(x3.length:Int) then(perm_inverse.l0 k (x3.set ((rd x9 x11):Int).toNat x11) x9 x10 (wrap64 (x11+1))) else(none)) else(none)) else(none)) else(none)) else(some x3)
def perm_inverse.f (k:Nat) (l0:List Int):Option (List Int):=if 0≤(l0.length:Int) then(if((l0.length:Int):Int).toNat≤35184372088832 then(perm_inverse.l0 k (List.replicate ((l0.length:Int):Int).toNat 0) l0 (l0.length:Int) 0) else(none)) else(none)
theorem perm_inverse.calls (k:Nat) (A0:Option Addr) (c0:Nat) (l0:List Int) (r:List Int) (w:World) (hr0:Kd.C (Kd.int .i64) w A0 l0.length l0) (hc0:l0.length≤c0) (h:perm_inverse.f k l0=some r):
    Calls Try.prog 55 #[.slice A0 l0.length c0] w fun e w'=>∃v0_:Value,e= .returned (v0_)∧Kd.R (Kd.int .i64) 3 w' w.heap.size (fun _=>True) v0_ r∧Below w.heap.size w w':=by
 have HR0:=aM hr0
 have HC0:=aM hc0
 clear hr0 hc0
 have HB:=aM (Below.refl w.heap.size w)
 have H:(if 0≤(l0.length:Int) then(if((l0.length:Int):Int).toNat≤35184372088832 then(perm_inverse.l0 k (List.replicate ((l0.length:Int):Int).toNat 0) l0 (l0.length:Int) 0) else(none)) else(none))=some r:=h
 clear h
 by_cases c2:0≤(l0.length:Int)
 ·rw [if_pos c2] at H
  have c2b0:=eq_true c2;have c2b1:=dT c2;clear c2
  by_cases c3:((l0.length:Int):Int).toNat≤35184372088832
  ·rw [if_pos c3] at H;have c3b0:=eq_true c3;have c3b1:=dT c3;clear c3;obtain⟨y123,hy123⟩:∃y_:List Int,y_=(List.replicate ((l0.length:Int):Int).toNat 0):=⟨_,rfl⟩;replace H:(perm_inverse.l0 k y123 l0 (l0.length:Int) 0)=some r:=by first|(rw[hy123];with_reducible exact H)|(have H2_:=(Option.bind_some _ _).symm.trans H;rw[hy123];with_reducible exact H2_)|(have H2_:=(Option.bind_some _ _).symm.trans H;with_reducible exact H2_)|with_reducible exact H|(rw[hy123];exact H)|exact H
   have Ny123:=aM hy123;clear hy123;have H':=aM H;clear H
   go_enter Try.func55,Try.ntmps55
   go_wp2_with (first|((with_reducible refine Zr (N:=8) rfl ?_);refine Kd.R_make (Kd.int .i64) _ 3 rfl (N:=8) rfl 22 _ _ rfl (l0.length:Int) rfl rfl Try.underlying22 (.int .i64 0) 8 info3 rfl (by decide) (by omega) 0 (ok:=fun _=>True) (okp:=fun _=>True) rfl (fun _ hk=>hk) trivial (oD zz153) (Nat.le_trans (Nat.mul_le_mul_right _ (oD zz153:(l0.length:Int).toNat≤35184372088832)) (by omega)) (Below.refl _ _) (Nat.le_refl _) ?_;intro v124 w4 ho5 hb hg_ hnew_;clear hg_ hnew_;(first|rw[←Ny123.out] at ho5|(simp only[Int.reduceToNat] at ho5;rw[←Ny123.out] at ho5));have HO125:=aM (Kd.R_lower ho5 (Zc zz128));replace HB:=aM (Ze zz128 hb);clear hb ho5))
   go_loopg [11] k (fun kq v11 w'=>∃(x3_1:List Int) (x11_1:Int),v11= .int .i64 x11_1∧Aside0 (perm_inverse.l0 kq x3_1 l0 (l0.length:Int) x11_1=some r)∧Aside0 (kq≤k)∧Aside0 (Kd.R (Kd.int .i64) 3 w' w.heap.size (fun _=>True) v124 x3_1)∧Aside0 (Below w.heap.size w w'))
   case atStart=>exact⟨(y123),(0),zz154,H',⟨Nat.le_refl _⟩,⟨(zR HO125)⟩,⟨zz128⟩⟩
   case round =>
    clear H';(try clear c2);(try clear c2b0);(try clear c2b1);(try clear p2);(try clear c3);(try clear c3b0);(try clear c3b1);(try clear c5);obtain⟨x3_1,x11_1,rfl,HA,HK1,HO_3,HB⟩:=hrel
    cases gk with
    |zero=>exact absurd HA.out (by simp[perm_inverse.l0])
    | succ k1=>
     have H:=HA.out;clear HA;simp only[perm_inverse.l0] at H
     by_cases c6:x11_1<(l0.length:Int)
     ·rw [if_pos c6] at H;have c6b0:=dT c6;clear c6
      by_cases c7:0≤x11_1
      ·rw [if_pos c7] at H;have c7b0:=dT c7;clear c7
       by_cases c8:x11_1<(l0.length:Int)
       ·rw [if_pos c8] at H;have c8b0:=dT c8;clear c8
        by_cases c9:0≤(rd l0 x11_1)
        ·rw [if_pos c9] at H;have c9b0:=dT c9;clear c9
         by_cases c10:(rd l0 x11_1)<(x3_1.length:Int)
         ·rw[if_pos c10] at H;have c10b0:=dT c10;clear c10;obtain⟨y127,hy127⟩:∃y_:List Int,y_=(x3_1.set ((rd l0 x11_1):Int).toNat x11_1):=⟨_,rfl⟩;replace H:(perm_inverse.l0 k1 y127 l0 (l0.length:Int) (wrap64 (x11_1+1)))=some r:=by first|(rw[hy127];with_reducible exact H)|(have H2_:=(Option.bind_some _ _).symm.trans H;rw[hy127];with_reducible exact H2_)|(have H2_:=(Option.bind_some _ _).symm.trans H;with_reducible exact H2_)|with_reducible exact H|(rw[hy127];exact H)|exact H
          have Ny127:=aM hy127;clear hy127;have H':=aM H;clear H;have p126:0≤(x11_1:Int):=oD zz153;have q126:x11_1<(l0.length:Int):=oD zz153;obtain⟨ad126,e126,hx126_0⟩:=Kd.at_int HR0.out x11_1 p126 q126
          cases e126;replace hx126_0:=(HB.out.cell (wB w _ hx126_0)).trans hx126_0;replace p126:=eq_true p126;replace q126:=eq_true q126;have p11:0≤((rd l0 x11_1):Int):=oD zz153;have q11:((rd l0 x11_1):Int)<((x3_1.length:Int):Int):=oD zz153;obtain⟨go11,co11,eo11,gb11,gl11,cl11,HG11⟩:=Kd.R_form HO_3.out (by omega)
          (first|cases eo11|(injection eo11 with ea_ en_ ec_;(first|subst ea_|(injection ea_ with ea_;subst ea_));subst ec_;clear en_))
          have GB11:=aM gb11;have GG11:=aM HG11;clear gb11 gl11 HG11;obtain⟨hx11_0,hf11_0⟩:=Kd.R_celln 0 HO_3.out ((rd l0 x11_1):Int) p11 q11;replace p11:=eq_true p11;replace q11:=eq_true q11;have HP12:=Kd.R_putg HO_3.out ((rd l0 x11_1):Int) x11_1
          go_wp2_with (first|((with_reducible refine ZU (t:=3) (p:=19) rfl ?_);refine ZO (t:=3) (p:=19) (v:= ?vo_w13) (w1:=(wr.setCell ⟨go11,((rd l0 x11_1):Int).toNat,none⟩ (.int .i64 x11_1))) ?hg ?ho ?hn ?hr ?_;(case ho=>rfl);(case hg=>rfl);(case hn=>rfl);(case hr=>first|(go_simp;done)|(go_simp;rfl));intro w13 hw;have hg:wr.grownBy w13 (some go11):=(by rw[hw];exact HP12.2);have hp_:Kd.R (Kd.int .i64) 3 w13 w.heap.size (fun _=>True) (.slice (some ⟨go11,0,none⟩) x3_1.length co11) y127:=(by rw[hw,Ny127.out];exact HP12.1);clear HP12;replace HO_3:=aM (hp_);replace HB:=aM ((by rw[hw];exact Zk (HB.out) GB11.out:Below w.heap.size w w13));clear hg hw hp_))
          go_roundg k1
          case measure=>have:=HK1.out;omega
          case rel=>exact⟨(y127),(wrap64 (x11_1+1)),zz154,H',⟨zz163⟩,⟨(zR HO_3)⟩,⟨zz128⟩⟩
         rw[if_neg c10] at H
         exact absurd H (by simp)
        rw[if_neg c9] at H
        exact absurd H (by simp)
       rw[if_neg c8] at H
       exact absurd H (by simp)
      rw[if_neg c7] at H
      exact absurd H (by simp)
     rw[if_neg c6] at H;have c6b0:=dF c6;clear c6;obtain rfl:=oI H;go_wp2;go_ret
     exact⟨_,by first|rfl|(simp[Zj,Zi]<;>rfl)|(simp[*,Zj,Zi]<;>rfl),by(with_reducible repeat(first|apply Kd.R_alloc|apply Kd.R_drewN|apply Kd.R_drew));exact HO_3.out,by repeat(first|(with_reducible first|exact HB.out|apply Zn|apply Zf|apply Zh)|exact HB.out)⟩
  rw[if_neg c3] at H
  exact absurd H (by simp)
 rw[if_neg c2] at H
 exact absurd H (by simp)
def slIx.l0:Nat→List Int→Int→Int→Int→Option (Int)
 |0,_,_,_,_=>none
 |k+1,x0,x1,x7,x8=>if x8<x7 then(if 0≤x8 then(if x8<(x0.length:Int) then(if x1=(rd x0 x8) then(some x8) else(slIx.l0 k x0 x1 x7 (wrap64 (x8+1)))) else(none)) else(none)) else(some (-1))
def slIx.f (k:Nat) (l0:List Int) (a1:Int):Option (Int):=slIx.l0 k l0 a1 (l0.length:Int) 0
theorem slIx.calls (k:Nat) (A0:Option Addr) (c0:Nat) (l0:List Int) (a1:Int) (r:Int) (w:World) (hr0:Kd.C (Kd.int .i64) w A0 l0.length l0) (hc0:l0.length≤c0) (h:slIx.f k l0 a1=some r):
    Calls Try.prog 70 #[.slice A0 l0.length c0,.int .i64 a1] w fun e w'=>e= .returned (.int .i64 r)∧Drawn0 w w':=by
 have HR0:=aM hr0
 have HC0:=aM hc0
 clear hr0 hc0
 have H:(slIx.l0 k l0 a1 (l0.length:Int) 0)=some r:=h
 clear h
 have H':=aM H
 clear H
 go_enter Try.func70,Try.ntmps70
 go_wp2
 go_loopg [8] k (fun kq v8 w'=>∃(x8_1:Int),v8= .int .i64 x8_1∧Aside0 (slIx.l0 kq l0 a1 (l0.length:Int) x8_1=some r)∧Aside0 (kq≤k)∧Drawn0 w w')
 case atStart=>exact⟨(0),zz154,H',⟨Nat.le_refl _⟩,by repeat(first|exact Drawn0.refl _|apply Drawn0.step)⟩
 case round =>
  clear H';(try clear p2);obtain⟨x8_1,rfl,HA,HK1,⟨m1,rfl⟩⟩:=hrel
  cases gk with
  |zero=>exact absurd HA.out (by simp[slIx.l0])
  | succ k1=>
   have H:=HA.out;clear HA;simp only[slIx.l0] at H
   by_cases c3:x8_1<(l0.length:Int)
   ·rw [if_pos c3] at H;have c3b0:=dT c3;clear c3
    by_cases c4:0≤x8_1
    ·rw [if_pos c4] at H;have c4b0:=dT c4;clear c4
     by_cases c5:x8_1<(l0.length:Int)
     ·rw [if_pos c5] at H;have c5b0:=dT c5;clear c5
      by_cases c6:a1=(rd l0 x8_1)
      ·rw[if_pos c6] at H;have c6b0:=beq_iff_eq.mpr c6;have c6b1:=bne_eq_false_iff_eq.mpr c6;clear c6;obtain rfl:=oI H;have p268:0≤(x8_1:Int):=oD zz153;have q268:x8_1<(l0.length:Int):=oD zz153;obtain⟨ad268,e268,hx268_0⟩:=Kd.at_int HR0.out x8_1 p268 q268
       cases e268;replace p268:=eq_true p268;replace q268:=eq_true q268;go_wp2;go_ret
       exact⟨by first|rfl|(simp;done)|(simp[*];done),by repeat(first|exact Drawn0.refl _|apply Drawn0.step)⟩
      rw[if_neg c6] at H;have c6b0:=beq_eq_false_iff_ne.mpr c6;have c6b1:=bne_iff_ne.mpr c6;have H':=aM H;clear H;have p268:0≤(x8_1:Int):=oD zz153;have q268:x8_1<(l0.length:Int):=oD zz153;obtain⟨ad268,e268,hx268_0⟩:=Kd.at_int HR0.out x8_1 p268 q268
      cases e268;replace p268:=eq_true p268;replace q268:=eq_true q268;go_wp2
      go_roundg k1
      case measure=>have:=HK1.out;omega
      case rel=>exact⟨(wrap64 (x8_1+1)),zz154,H',⟨zz163⟩,by repeat(first|exact Drawn0.refl _|apply Drawn0.step)⟩
     rw[if_neg c5] at H
     exact absurd H (by simp)
    rw[if_neg c4] at H
    exact absurd H (by simp)
   rw[if_neg c3] at H;have c3b0:=dF c3;clear c3;obtain rfl:=oI H;go_wp2;go_ret
   exact⟨by first|rfl|(simp;done)|(simp[*];done),by repeat(first|exact Drawn0.refl _|apply Drawn0.step)⟩
def perm_degree.f (a0:Int):Option (Int):=if a0<1 then(some 4) else(if a0>64 then(some 4) else(some 0))
theorem perm_degree.calls (a0:Int) (r:Int) (w:World) (h:perm_degree.f a0=some r):
    Calls Try.prog 52 #[.int .i64 a0] w fun e w'=>e= .returned (.int .i64 r)∧Drawn0 w w':=by
 have H:(if a0<1 then(some 4) else(if a0>64 then(some 4) else(some 0)))=some r:=h
 clear h
 by_cases c2:a0<1
 ·rw[if_pos c2] at H
  have c2b0:=dT c2;clear c2;obtain rfl:=oI H
  go_enter Try.func52,Try.ntmps52
  go_wp2;go_ret
  exact⟨by first|rfl|(simp;done)|(simp[*];done),by repeat(first|exact Drawn0.refl _|apply Drawn0.step)⟩
 rw[if_neg c2] at H
 have c2b0:=dF c2
 clear c2
 by_cases c3:a0>64
 ·rw[if_pos c3] at H
  have c3b0:=dT c3;clear c3;obtain rfl:=oI H
  go_enter Try.func52,Try.ntmps52
  go_wp2;go_ret
  exact⟨by first|rfl|(simp;done)|(simp[*];done),by repeat(first|exact Drawn0.refl _|apply Drawn0.step)⟩
 rw[if_neg c3] at H
 have c3b0:=dF c3
 clear c3
 obtain rfl:=oI H
 go_enter Try.func52,Try.ntmps52
 go_wp2
 go_ret
 exact⟨by first|rfl|(simp;done)|(simp[*];done),by repeat(first|exact Drawn0.refl _|apply Drawn0.step)⟩
end
section
def permOk (n:Nat) (l:List Int):Prop:=l.length=n∧(∀x∈l,0≤x∧x<n)∧l.Nodup
instance (n:Nat) (l:List Int):Decidable (permOk n l):=by unfold permOk;infer_instance
def ZR (l:List Int):Int:=if l.length<1∨64<l.length then 4 else if∃x∈l,x<0∨(l.length:Int)≤x then 6 else if l.Nodup then 0 else 18
def perm_Check.f (l0:List Int):Option Int:=some (ZR l0)
def outB (n:Nat) (x:Int):Bool:=decide (x<0)||decide ((n:Int)≤x)
theorem check1_lo (x:Int) (g n c:Nat) (A:Option Addr) (w:World) (hcell:w.cell? ⟨g,0,none⟩=some (.slice A n c)) (hx:x<0):
    Calls Try.prog 54 #[.int .i64 x,.pointer (some ⟨g,0,none⟩)] w fun e w'=>e= .returned (.bool true)∧w=w':=by
 have h1:decide (x<0)=true:=dT hx
 go_enter Try.func54,Try.ntmps54
 go_wp2
 go_ret
 exact⟨rfl,rfl⟩
theorem check1_hi (x:Int) (g n c:Nat) (A:Option Addr) (w:World) (hcell:w.cell? ⟨g,0,none⟩=some (.slice A n c)) (hx:0≤x) (b:Bool) (hb:decide ((n:Int)≤x)=b):
    Calls Try.prog 54 #[.int .i64 x,.pointer (some ⟨g,0,none⟩)] w fun e w'=>e= .returned (.bool b)∧w=w':=by
 have h1:decide (x<0)=false:=dF (by omega)
 have Hb:=aM hb
 clear hb
 go_enter Try.func54,Try.ntmps54
 go_wp2
 go_ret
 exact⟨by rw[←Hb.out];rfl,rfl⟩
theorem check1 (x:Int) (g n c:Nat) (A:Option Addr) (w:World) (hcell:w.cell? ⟨g,0,none⟩=some (.slice A n c)):
    Calls Try.prog 54 #[.int .i64 x,.pointer (some ⟨g,0,none⟩)] w fun e w'=>e= .returned (.bool (outB n x))∧w=w':=by
 unfold outB
 by_cases hx:x<0
 ·rw[dT hx];exact check1_lo x g n c A w hcell hx
 rw[dF hx,Bool.false_or];exact check1_hi x g n c A w hcell (by omega) _ rfl
theorem rd_mem {l:List Int} {i:Int} (h0:0≤i) (h1:i<(l.length:Int)):rd l i∈l:=by
 unfold rd
 rw[List.getD_eq_getElem?_getD,List.getElem?_eq_getElem (by omega)]
 exact List.getElem_mem _
theorem take_rd {l:List Int} {i:Int} (h0:0≤i) (h1:i<(l.length:Int)):l.take (i+1).toNat=l.take i.toNat++ [rd l i]:=by
 have e:(i+1).toNat=i.toNat+1:=by omega
 rw[e,List.take_succ_eq_append_getElem (by omega)]
 congr 2
 unfold rd
 rw[List.getD_eq_getElem?_getD,List.getElem?_eq_getElem (by omega)]
 rfl
def IdxPost (p:Int→Bool) (l:List Int) (w:World) (e:Ending) (w':World):Prop:=∃r:Int,e= .returned (.int .i64 r)∧decide (0≤r)=l.any p∧Drawn0 w w'
theorem idx75_calls (A0:Option Addr) (c0:Nat) (l0:List Int) (g n c:Nat) (A:Option Addr) (w:World) (hr0:Kd.C (Kd.int .i64) w A0 l0.length l0) (hcell:w.cell? ⟨g,0,none⟩=some (.slice A n c)):
    Calls Try.prog 75 #[.slice A0 l0.length c0,.func (Fn.func 54) #[] #[.pointer (some ⟨g,0,none⟩)]] w (IdxPost (outB n) l0 w):=by
 have HR:=aM hr0
 have HC:=aM hcell
 clear hr0 hcell
 go_enter Try.func75,Try.ntmps75
 go_wp2
 go_loopg [8] l0.length (fun kq v8 w'=>∃i:Int,v8= .int .i64 i∧Aside0 (0≤i)∧Aside0 (i.toNat+kq=l0.length)∧Aside0 ((l0.take i.toNat).any (outB n)=false)∧Aside0 (Drawn0 w w'))
 case atStart=>exact⟨0,rfl,⟨by omega⟩,⟨by simp⟩,⟨by simp⟩,⟨Drawn0.refl _⟩⟩
 case round=>
  obtain⟨i,rfl,HI0,HI1,HA,HD⟩:=hrel;have i0:=HI0.out
  by_cases d1:i<(l0.length:Int)
  ·have d1b:decide (i<(l0.length:Int))=true:=dT d1;have q0:=eq_true i0;have q1:=eq_true d1;have hmax:l0.length≤9223372036854775807:=HR.out.2.1;obtain⟨ad,ea,hx1⟩:=Kd.at_int HR.out i i0 d1
   cases ea;replace hx1:=(HD.out.below.cell (wB w _ hx1)).trans hx1;have hc1:=(HD.out.below.cell (wB w _ HC.out)).trans HC.out;have HC1:=aM hc1;clear hc1
   cases hb:outB n (rd l0 i) with
   | true=>
    have HBo:=aM hb;clear hb
    go_wp2_with (first
     |(go_at_call 54;(with_reducible refine(check1 (rd l0 i) g n c A _ HC1.out).mono ?_);rintro e w5 ⟨rfl,rfl⟩;rw[HBo.out]))
    go_ret
    exact⟨i,rfl,by rw[dT HI0.out];exact(List.any_eq_true.2 ⟨_,rd_mem HI0.out d1,HBo.out⟩).symm,HD.out⟩
   | false=>
    have HBo:=aM hb;clear hb
    go_wp2_with (first
     |(go_at_call 54;(with_reducible refine(check1 (rd l0 i) g n c A _ HC1.out).mono ?_);rintro e w5 ⟨rfl,rfl⟩;rw[HBo.out]))
    obtain⟨k1,rfl⟩:∃m,gk=m+1:=⟨gk-1,by have:=HI1.out;omega⟩
    go_roundg k1
    case measure=>omega
    case rel=>exact⟨i+1,rfl,⟨by have:=HI0.out;omega⟩,⟨by have:=HI1.out;have:=HI0.out;omega⟩,⟨by rw[take_rd HI0.out d1,List.any_append,HA.out];simp[HBo.out]⟩,HD⟩
  have d1b:decide (i<(l0.length:Int))=false:=dF d1;have ha:=HA.out;rw[List.take_of_length_le (by omega)] at ha;have HA2:=aM ha;clear ha;go_wp2;go_ret
  exact⟨-1,rfl,by rw[HA2.out];rfl,HD.out⟩
def ContPost (p:Int→Bool) (l:List Int) (w:World) (e:Ending) (w':World):Prop:=e= .returned (.bool (l.any p))∧Drawn0 w w'
theorem cont53_calls (A0:Option Addr) (c0:Nat) (l0:List Int) (g n c:Nat) (A:Option Addr) (w:World) (hr0:Kd.C (Kd.int .i64) w A0 l0.length l0) (hcell:w.cell? ⟨g,0,none⟩=some (.slice A n c)):
    Calls Try.prog 53 #[.slice A0 l0.length c0,.func (Fn.func 54) #[] #[.pointer (some ⟨g,0,none⟩)]] w (ContPost (outB n) l0 w):=by
 have HR:=aM hr0
 have HC:=aM hcell
 clear hr0 hcell
 go_enter Try.func53,Try.ntmps53
 go_wp2_with (first
  |(go_at_call 75;(with_reducible refine(idx75_calls _ _ l0 g n c A _ HR.out HC.out).mono ?_);rintro e w5 ⟨r,rfl,hr,hd⟩;have HDr:=aM (And.intro hr hd);clear hr hd))
 go_ret
 exact⟨by rw[←HDr.out.1];rfl,HDr.out.2⟩
theorem any_out (l:List Int):l.any (outB l.length)=true↔∃x∈l,x<0∨(l.length:Int)≤x:=by
 simp[List.any_eq_true,outB]
def SeenOk (l:List Int) (i:Int) (sx:List Bool):Prop:=sx.length=l.length∧(l.take i.toNat).Nodup∧∀y:Int,0≤y→y<l.length→(rdOf false sx y=true↔y∈l.take i.toNat)
theorem seen_start (l:List Int):SeenOk l 0 (List.replicate l.length false):=by
 refine⟨by simp,by simp,fun y h0 h1=> ?_⟩
 simp[rdOf,List.getD_eq_getElem?_getD,show y.toNat<l.length by omega]
theorem seen_next {l:List Int} {i:Int} {sx:List Bool} (h:SeenOk l i sx) (h0:0≤i) (h1:i<l.length) (hx0:0≤rd l i) (hx1:rd l i<l.length) (hs:rdOf false sx (rd l i)=false):SeenOk l (i+1) (sx.set (rd l i).toNat true):=by
 obtain⟨hl,hn,hy⟩:=h
 have hnot:rd l i∉l.take i.toNat:=fun hm=>by
  have:=(hy (rd l i) hx0 hx1).2 hm;rw[hs] at this
  cases this
 refine⟨by simpa using hl,?_,fun y y0 y1=> ?_⟩
 ·rw[take_rd h0 h1,List.nodup_append]
  exact⟨hn,by simp,fun a ha b hb=>by rw[List.mem_singleton.1 hb];exact fun e=>hnot (e▸ha)⟩
 ·rw[take_rd h0 h1,List.mem_append,List.mem_singleton]
  by_cases e:y=rd l i
  ·subst e;simp[rdOf,List.getD_eq_getElem?_getD,show(rd l i).toNat<sx.length by omega]
  have e':(rd l i).toNat≠y.toNat:=by omega
  have:=hy y y0 y1;simp only[rdOf,List.getD_eq_getElem?_getD] at this⊢;rw[List.getElem?_set_ne e'];rw[this];simp[e]
theorem seen_dup {l:List Int} {i:Int} {sx:List Bool} (h:SeenOk l i sx) (h0:0≤i) (h1:i<l.length) (hx0:0≤rd l i) (hx1:rd l i<l.length) (hs:rdOf false sx (rd l i)=true):¬l.Nodup:=by
 obtain⟨hl,hn,hy⟩:=h
 have hm:=(hy (rd l i) hx0 hx1).1 hs
 intro hd
 have h2:(l.take (i+1).toNat).Nodup:=hd.sublist (List.take_sublist _ _)
 rw[take_rd h0 h1,List.nodup_append] at h2
 exact h2.2.2 _ hm _ (List.mem_singleton.2 rfl) rfl
theorem degree_ok (n:Int) (h1:1≤n) (h2:n≤64):perm_degree.f n=some 0:=by
 unfold perm_degree.f
 rw[if_neg (by omega),if_neg (by omega)]
theorem degree_bad (n:Int) (h:n<1∨64<n):perm_degree.f n=some 4:=by
 unfold perm_degree.f
 by_cases h1:n<1
 ·rw[if_pos h1]
 rw[if_neg h1,if_pos (by omega)]
theorem check_bad (A0:Option Addr) (c0:Nat) (l0:List Int) (w:World) (hr0:Kd.C (Kd.int .i64) w A0 l0.length l0) (hb:l0.length<1∨64<l0.length):
    Calls Try.prog 16 #[.slice A0 l0.length c0] w fun e w'=>e= .returned (.int .i64 4)∧Below w.heap.size w w':=by
  have hd:=degree_bad l0.length (by omega)
  have HD:=aM hd
  clear hd hb hr0
  go_enter Try.func16,Try.ntmps16
  go_wp2_with (first
   |((with_reducible refine Zr (N:=1) rfl ?_);refine Zx ?hg (N:=1) ?hd (cs:= #[.slice A0 l0.length c0]) (t:=22) ?hr ?_;(case hd=>rfl);(case hg=>rfl);(case hr=>first|(go_simp;done)|(go_simp;rfl));intro g hgr w3 hbox3 hb3;have hz:w3.cell? ⟨g,0,none⟩=some (.slice A0 l0.length c0):=(Zb hbox3 0).trans rfl;have HB3:=aM hb3;clear hgr hb3 hbox3)
   |(go_at_call 52;(with_reducible refine(perm_degree.calls l0.length 4 _ HD.out).mono ?_);rintro e w5 ⟨rfl,⟨nd,rfl⟩⟩))
  go_ret
  exact⟨rfl,Zf HB3.out _⟩
theorem check_range (A0:Option Addr) (c0:Nat) (l0:List Int) (w:World) (hr0:Kd.C (Kd.int .i64) w A0 l0.length l0) (h1:1≤l0.length) (h2:l0.length≤64) (ho:l0.any (outB l0.length)=true):
    Calls Try.prog 16 #[.slice A0 l0.length c0] w fun e w'=>e= .returned (.int .i64 6)∧Below w.heap.size w w':=by
  have HD:=aM (degree_ok l0.length (by omega) (by omega))
  have HO:=aM ho
  have HR:=aM hr0
  clear ho hr0
  go_enter Try.func16,Try.ntmps16
  go_wp2_with (first
   |((with_reducible refine Zr (N:=1) rfl ?_);refine Zx ?hg (N:=1) ?hd (cs:= #[.slice A0 l0.length c0]) (t:=22) ?hr ?_;(case hd=>rfl);(case hg=>rfl);(case hr=>first|(go_simp;done)|(go_simp;rfl));intro g hgr w3 hbox3 hb3;have hz:w3.cell? ⟨g,0,none⟩=some (.slice A0 l0.length c0):=(Zb hbox3 0).trans rfl;have HZ:=aM hz;have HB3:=aM hb3;clear hgr hb3 hbox3)
   |(go_at_call 52;(with_reducible refine(perm_degree.calls l0.length 0 _ HD.out).mono ?_);rintro e w5 ⟨rfl,⟨nd,rfl⟩⟩)
   |(go_at_call 53;(with_reducible refine(cont53_calls _ _ l0 g l0.length c0 A0 _ ?s1 ?s2).mono ?_);(case s1=>exact Kd.C_drewN (Kd.C_below HR.out HB3.out) _);(case s2=>exact HZ.out);rintro e w6 ⟨rfl,hd6⟩;rw[HO.out];have HB6:=aM (Ze (Zf HB3.out nd) hd6.below);clear hd6))
  go_ret
  exact⟨rfl,HB6.out⟩
theorem perm_Check.calls (A0:Option Addr) (c0:Nat) (l0:List Int) (r:Int) (w:World) (hr0:Kd.C (Kd.int .i64) w A0 l0.length l0) (hc0:l0.length≤c0) (h:perm_Check.f l0=some r):
    Calls Try.prog 16 #[.slice A0 l0.length c0] w fun e w'=>e= .returned (.int .i64 r)∧Below w.heap.size w w':=by
  unfold perm_Check.f at h
  obtain rfl:=oI h
  clear h
  unfold ZR
  by_cases hb:l0.length<1∨64<l0.length
  · rw[if_pos hb]
    exact check_bad A0 c0 l0 w hr0 hb
  rw[if_neg hb]
  have h1:1≤l0.length:=by omega
  have h2:l0.length≤64:=by omega
  clear hb
  cases ho:l0.any (outB l0.length) with
  | true=>
    rw[if_pos ((any_out l0).1 ho)]
    exact check_range A0 c0 l0 w hr0 h1 h2 ho
  |false=>
  have hno:¬∃x∈l0,x<0∨(l0.length:Int)≤x:=fun h=>by rw[(any_out l0).2 h] at ho;cases ho
  rw[if_neg hno]
  have HIN:=aM (show∀i:Int,0≤i→i<l0.length→0≤rd l0 i∧rd l0 i<l0.length from fun i a b=>by
    have hm:=rd_mem a b
    refine⟨?_,?_⟩
    · apply Classical.byContradiction;intro hc;exact hno ⟨_,hm,.inl (by omega)⟩
    · apply Classical.byContradiction;intro hc;exact hno ⟨_,hm,.inr (by omega)⟩)
  have HD:=aM (degree_ok l0.length (by omega) (by omega))
  have HO:=aM ho
  have HR:=aM hr0
  have HC:=aM hc0
  have HST:=aM (seen_start l0)
  clear ho hr0 hno hc0
  generalize hres:(if l0.Nodup then(0:Int) else 18)=res
  have HRES:=aM hres
  clear hres
  go_enter Try.func16,Try.ntmps16
  go_wp2_with (first
   |((with_reducible refine Zr (N:=1) rfl ?_);refine Zx ?hg (N:=1) ?hd (cs:= #[.slice A0 l0.length c0]) (t:=22) ?hr ?_;(case hd=>rfl);(case hg=>rfl);(case hr=>first|(go_simp;done)|(go_simp;rfl));intro g hgr w3 hbox3 hb3;have hz:w3.cell? ⟨g,0,none⟩=some (.slice A0 l0.length c0):=(Zb hbox3 0).trans rfl;have HZ:=aM hz;have HB3:=aM hb3;clear hgr hb3 hbox3)
   |(go_at_call 52;(with_reducible refine(perm_degree.calls l0.length 0 _ HD.out).mono ?_);rintro e w5 ⟨rfl,⟨nd,rfl⟩⟩)
   |(go_at_call 53;(with_reducible refine(cont53_calls _ _ l0 g l0.length c0 A0 _ ?s1 ?s2).mono ?_);(case s1=>exact Kd.C_drewN (Kd.C_below HR.out HB3.out) _);(case s2=>exact HZ.out);rintro e w6 ⟨rfl,⟨nd6,rfl⟩⟩;rw[HO.out])
   |((with_reducible refine Zr (N:=18) rfl ?_);refine Kd.R_make Kd.bool _ 4 rfl (N:=18) rfl 83 _ _ rfl (l0.length:Int) rfl rfl Try.underlying83 (.bool false) 1 info4 rfl (by decide) (by omega) false (ok:=fun _=>True) (okp:=fun _=>True) rfl (fun _ hk=>hk) trivial (by omega) (by omega) (Below.refl _ _) (Nat.le_refl _) ?_;intro v7 w7 ho7 hb7 hg_ hnew_;clear hg_ hnew_;rw[Int.toNat_natCast] at ho7;have HO7:=aM (Kd.R_lower ho7 (show w.heap.size≤w3.heap.size from HB3.out.size));have HB7:=aM (Ze (Zf HB3.out _) hb7);have hz7:=(hb7.cell (wB _ _ HZ.out)).trans HZ.out;clear ho7 hb7))
  go_loopg [21] l0.length (fun kq v21 w'=>∃(i:Int) (sx:List Bool),v21= .int .i64 i∧Aside0 (0≤i)∧Aside0 (i.toNat+kq=l0.length)∧Aside0 (SeenOk l0 i sx)∧Aside0 (Kd.R Kd.bool 4 w' w.heap.size (fun _=>True) v7 sx)∧Aside0 (Below w.heap.size w w'))
  case atStart=>exact⟨0,_,rfl,⟨by omega⟩,⟨by simp⟩,HST,HO7,HB7⟩
  case round=>
    clear HO7 HB7 hz7 hz;obtain⟨i,sx,rfl,HI0,HI1,HS,HO7,HB7⟩:=hrel;have i0:=HI0.out
    by_cases d1:i<(l0.length:Int)
    · have d1b:decide (i<(l0.length:Int))=true:=dT d1;have q0:=eq_true i0;have q1:=eq_true d1;obtain⟨ad,ea,hx1⟩:=Kd.at_int HR.out i i0 d1
      cases ea;replace hx1:=(HB7.out.cell (wB w _ hx1)).trans hx1;obtain⟨x0,x1⟩:=HIN.out i i0 d1;have hsl:=HS.out.1;have x2:rd l0 i<(sx.length:Int):=by omega
      obtain⟨go,co,eo,gb,gl,cl,HG⟩:=Kd.R_form HO7.out (by omega);subst eo;obtain⟨hx2,hf2⟩:=Kd.R_celln false HO7.out (rd l0 i) x0 x2;have GB:=aM gb;have HSL:=aM hsl;have p0:=eq_true x0;have p2:=eq_true x2;clear gb gl HG hsl
      cases hb:rdOf false sx (rd l0 i) with
      | true=>
        rw[hb] at hx2;have HBo:=aM hb;clear hb;go_wp2;go_ret
        exact⟨by rw[←HRES.out,if_neg (seen_dup HS.out i0 d1 x0 x1 HBo.out)];rfl,HB7.out⟩
      | false=>
        rw[hb] at hx2;have HBo:=aM hb;clear hb;have HP14:=aM (Kd.R_putg HO7.out (rd l0 i) true);have HSn:=aM (seen_next HS.out i0 d1 x0 x1 HBo.out);go_wp2;obtain⟨k1,rfl⟩:∃m,gk=m+1:=⟨gk-1,by have:=HI1.out;omega⟩
        go_roundg k1
        case measure=>omega
        case rel=>exact⟨i+1,_,rfl,⟨by have:=HI0.out;omega⟩,⟨by have:=HI1.out;have:=HI0.out;omega⟩,HSn,⟨HP14.out.1⟩,⟨Zk HB7.out GB.out⟩⟩
    have d1b:decide (i<(l0.length:Int))=false:=dF d1;have hn:=HS.out.2.1;rw[List.take_of_length_le (by omega)] at hn;have HN:=aM hn;clear hn;go_wp2;go_ret
    exact⟨by rw[←HRES.out,if_pos HN.out];rfl,HB7.out⟩
end
section
attribute [local go_sem] ZG ZE ZL ZK ZA Zz ZF ZD
def slEq.l0:Nat→List Int→List Int→Int→Int→Option (Bool)
 |0,_,_,_,_=>none
 |k+1,x0,x1,x12,x13=>if x13<x12 then(if 0≤x13 then(if x13<(x0.length:Int) then(if x13<(x1.length:Int) then(if(rd x0 x13)=(rd x1 x13) then(slEq.l0 k x0 x1 x12 (wrap64 (x13+1))) else(some false)) else(none)) else(none)) else(none)) else(some true)
def slEq.f (k:Nat) (l0:List Int) (l1:List Int):Option (Bool):=if(l0.length:Int)=(l1.length:Int) then(slEq.l0 k l0 l1 (l0.length:Int) 0) else(some false)
theorem slEq.mono_l:∀k,(∀y0 y1 y2 y3,LeO (slEq.l0 k y0 y1 y2 y3) (slEq.l0 (k+1) y0 y1 y2 y3))
 |0=>fun _ _ _ _ r h=>by simp[slEq.l0] at h
 | k +1=>by
  have ih0:=slEq.mono_l k
  ·intro y0 y1 y2 y3;unfold slEq.l0
   repeat' first
   |(with_reducible exact ih0 _ _ _ _)
   |(with_reducible exact LeO.refl _)
   |(with_reducible exact LeO.none _)
   |(with_reducible refine LeO.ite ?_ ?_)
   |(with_reducible refine LeO.bind ?_ (fun _=> ?_))
theorem slEq.mono:∀a0 a1 k,LeO (slEq.f k a0 a1) (slEq.f (k+1) a0 a1):=by
 intro a0 a1 k
 have ih0:=slEq.mono_l k
 unfold slEq.f
 repeat' first
     |(with_reducible exact ih0 _ _ _ _)
     |(with_reducible exact LeO.refl _)
     |(with_reducible exact LeO.none _)
     |(with_reducible refine LeO.ite ?_ ?_)
     |(with_reducible refine LeO.bind ?_ (fun _=> ?_))
theorem slEq.calls (k:Nat) (A0:Option Addr) (c0:Nat) (l0:List Int) (A1:Option Addr) (c1:Nat) (l1:List Int) (r:Bool) (w:World) (hr0:Kd.C (Kd.int .i64) w A0 l0.length l0) (hc0:l0.length≤c0) (hr1:Kd.C (Kd.int .i64) w A1 l1.length l1) (hc1:l1.length≤c1) (h:slEq.f k l0 l1=some r):
    Calls Try.prog 65 #[.slice A0 l0.length c0,.slice A1 l1.length c1] w fun e w'=>e= .returned (.bool r)∧Drawn0 w w':=by
 have HR0:=aM hr0
 have HC0:=aM hc0
 clear hr0 hc0
 have HR1:=aM hr1
 have HC1:=aM hc1
 clear hr1 hc1
 have H:(if(l0.length:Int)=(l1.length:Int) then(slEq.l0 k l0 l1 (l0.length:Int) 0) else(some false))=some r:=h
 clear h
 by_cases c3:(l0.length:Int)=(l1.length:Int)
 ·rw [if_pos c3] at H
  have c3b0:=beq_iff_eq.mpr c3;have c3b1:=bne_eq_false_iff_eq.mpr c3;have c3b2:(l0.length==l1.length)=true:=by first|simpa using c3|(simp at c3⊢;omega)
  clear c3;have H':=aM H;clear H
  go_enter Try.func65,Try.ntmps65
  go_wp2
  repeat(go_quiet (fail);try go_wp2)
  go_loopg [13] k (fun kq v13 w'=>∃(x13_1:Int),v13= .int .i64 x13_1∧Aside0 (slEq.l0 kq l0 l1 (l0.length:Int) x13_1=some r)∧Aside0 (kq≤k)∧Drawn0 w w')
  case atStart=>exact⟨(0),zz154,H',⟨Nat.le_refl _⟩,by repeat(first|exact Drawn0.refl _|apply Drawn0.step)⟩
  case round =>
   clear H';(try clear c1);(try clear p2);(try clear c3);(try clear c3b0);(try clear c3b1);(try clear c3b2);obtain⟨x13_1,rfl,HA,HK1,⟨m1,rfl⟩⟩:=hrel
   cases gk with
   |zero=>exact absurd HA.out (by simp[slEq.l0])
   | succ k1=>
    have H:=HA.out;clear HA;simp only[slEq.l0] at H
    by_cases c4:x13_1<(l0.length:Int)
    ·rw [if_pos c4] at H;have c4b0:=dT c4;clear c4
     by_cases c5:0≤x13_1
     ·rw [if_pos c5] at H;have c5b0:=dT c5;clear c5
      by_cases c6:x13_1<(l0.length:Int)
      ·rw [if_pos c6] at H;have c6b0:=dT c6;clear c6
       by_cases c7:x13_1<(l1.length:Int)
       ·rw [if_pos c7] at H;have c7b0:=dT c7;clear c7
        by_cases c8:(rd l0 x13_1)=(rd l1 x13_1)
        ·rw[if_pos c8] at H;have c8b0:=beq_iff_eq.mpr c8;have c8b1:=bne_eq_false_iff_eq.mpr c8;clear c8;have H':=aM H;clear H;have p220:0≤(x13_1:Int):=oD zz153;have q220:x13_1<(l0.length:Int):=oD zz153;obtain⟨ad220,e220,hx220_0⟩:=Kd.at_int HR0.out x13_1 p220 q220
         cases e220;replace p220:=eq_true p220;replace q220:=eq_true q220;have p221:0≤(x13_1:Int):=oD zz153;have q221:x13_1<(l1.length:Int):=oD zz153;obtain⟨ad221,e221,hx221_0⟩:=Kd.at_int HR1.out x13_1 p221 q221
         cases e221;replace p221:=eq_true p221;replace q221:=eq_true q221;go_wp2
         repeat(go_quiet (fail);try go_wp2)
         go_roundg k1
         case measure=>have:=HK1.out;omega
         case rel=>exact⟨(wrap64 (x13_1+1)),zz154,H',⟨zz163⟩,by repeat(first|exact Drawn0.refl _|apply Drawn0.step)⟩
        rw[if_neg c8] at H;have c8b0:=beq_eq_false_iff_ne.mpr c8;have c8b1:=bne_iff_ne.mpr c8;obtain rfl:=oI H;have p220:0≤(x13_1:Int):=oD zz153;have q220:x13_1<(l0.length:Int):=oD zz153;obtain⟨ad220,e220,hx220_0⟩:=Kd.at_int HR0.out x13_1 p220 q220
        cases e220;replace p220:=eq_true p220;replace q220:=eq_true q220;have p221:0≤(x13_1:Int):=oD zz153;have q221:x13_1<(l1.length:Int):=oD zz153;obtain⟨ad221,e221,hx221_0⟩:=Kd.at_int HR1.out x13_1 p221 q221
        cases e221;replace p221:=eq_true p221;replace q221:=eq_true q221;go_wp2
        repeat(go_quiet (fail);try go_wp2)
        go_ret
        exact⟨by first|rfl|(simp;done)|(simp[*];done),by repeat(first|exact Drawn0.refl _|apply Drawn0.step)⟩
       rw[if_neg c7] at H
       exact absurd H (by simp)
      rw[if_neg c6] at H
      exact absurd H (by simp)
     rw[if_neg c5] at H
     exact absurd H (by simp)
    rw[if_neg c4] at H;have c4b0:=dF c4;clear c4;obtain rfl:=oI H;go_wp2
    repeat(go_quiet (fail);try go_wp2)
    go_ret
    exact⟨by first|rfl|(simp;done)|(simp[*];done),by repeat(first|exact Drawn0.refl _|apply Drawn0.step)⟩
 rw[if_neg c3] at H
 have c3b0:=beq_eq_false_iff_ne.mpr c3
 have c3b1:=bne_iff_ne.mpr c3
 have c3b2:(l0.length==l1.length)=false:=by first|simpa using c3|(simp at c3⊢;omega)
 obtain rfl:=oI H
 go_enter Try.func65,Try.ntmps65
 go_wp2
 repeat(go_quiet (fail);try go_wp2)
 go_ret
 exact⟨by first|rfl|(simp;done)|(simp[*];done),by repeat(first|exact Drawn0.refl _|apply Drawn0.step)⟩
end
section
structure Tw where
 n:Nat
 reps:List (List (List Int))
 gens:List (List (List Int))
def Tw.row (T:Tw) (b:Int):List (List Int):=T.reps.getD b.toNat []
def Tw.rep (T:Tw) (b x:Int):List Int:=(T.row b).getD x.toNat []
def Tw.gen (T:Tw) (b:Int):List (List Int):=T.gens.getD b.toNat []
def Lok (base:Nat) (w:World) (k:Nat):Prop:=k<base∨∃cs fr,w.heap[k]? =some (.cells cs 3 fr)
def Leaf (base:Nat) (w:World) (v:Value) (l:List Int):Prop:=
 ∃A c,v= .slice A l.length c∧l.length≤c∧Kd.F (Kd.int .i64) w (Lok base w) A l.length l∧(l= []→v= .slice none 0 0)
structure Keep (base:Nat) (w w1:World):Prop where
 below:Below base w w1
 ints:∀(k:Nat) (cs:Array Value) (fr:Nat×Nat),w.heap[k]? =some (Obj.cells cs 3 fr)→w1.heap[k]? =w.heap[k]?
theorem Keep.refl (base:Nat) (w:World):Keep base w w:=⟨Below.refl _ _,fun _ _ _ _=>rfl⟩
theorem Keep.trans {base:Nat} {w w1 w2:World} (h:Keep base w w1) (k:Keep base w1 w2):Keep base w w2:=
 ⟨h.below.trans k.below,fun i cs fr hi=>by
  have h1:=h.ints i cs fr hi;rw[k.ints i cs fr (h1.trans hi),h1]⟩
theorem lt_of_some {w:World} {k:Nat} {o:Obj} (h:w.heap[k]? =some o):k<w.heap.size:=(Array.getElem?_eq_some_iff.1 h).1
theorem Keep.of_below {base:Nat} {w w1:World} (hb:base≤w.heap.size) (h:Below w.heap.size w w1):Keep base w w1:=
 ⟨⟨h.os,h.tape,h.output,h.size,fun i hi=>h.block i (Nat.lt_of_lt_of_le hi hb)⟩,fun k _ _ hk=>h.block k (lt_of_some hk)⟩
theorem Keep.lok {base:Nat} {w w1:World} (h:Keep base w w1) {k:Nat} (hk:Lok base w k):Lok base w1 k:=by
 rcases hk with hk|⟨cs,fr,hk⟩
 ·exact .inl hk
 ·exact .inr ⟨cs,fr,(h.ints k cs fr hk).trans hk⟩
theorem Leaf.keep {base:Nat} {w w1:World} {v:Value} {l:List Int} (h:Leaf base w v l) (hk:Keep base w w1):Leaf base w1 v l:=by
 obtain⟨A,c,rfl,hl,hf,hn⟩:=h
 refine⟨A,c,rfl,hl,?_,hn⟩
 refine Kd.F_mono (Kd.F_step hf (fun k hk' hlt=> ?_)) (fun k hk'=>hk.lok hk')
 rcases hk' with hk'|⟨cs,fr,hk'⟩
 ·exact hk.below.block k hk'
 ·exact hk.ints k cs fr hk'
theorem Leaf.reads {base:Nat} {w:World} {v:Value} {l:List Int} (h:Leaf base w v l):∃A c,v= .slice A l.length c∧l.length≤c∧(Kd.int .i64).C w A l.length l:=by
 obtain⟨A,c,rfl,hl,hf,_⟩:=h
 exact⟨A,c,rfl,hl,Kd.F_now hf⟩
theorem Leaf.of_R {base b:Nat} {w:World} {ok:Nat→Prop} {v:Value} {l:List Int} (h:(Kd.int .i64).R 3 w b ok v l) (hl:l≠ []):Leaf base w v l:=by
 obtain⟨A,c,rfl,hc,hr⟩:=Kd.R_reads h
 refine⟨A,c,rfl,hc,Kd.F_mono (Kd.R_F (Kd.R_bound h)) (fun k hk=> ?_),fun h0=>absurd h0 hl⟩
 obtain⟨_,_,_,q,hq,cells,hcell⟩:=hk
 have:q=3:=by
  rcases List.mem_cons.1 hq with h1|h1
  ·exact h1
  ·exact absurd h1 zz161
 subst this
 exact .inr ⟨cells,_,hcell⟩
def LeafN (base:Nat) (w:World) (v:Value) (l:List Int):Prop:=
 ∃A c,v= .slice A l.length c∧l.length≤c∧Kd.F (Kd.int .i64) w (fun k=>base≤k∧∃cs fr,w.heap[k]? =some (Obj.cells cs 3 fr)) A l.length l∧(l= []→v= .slice none 0 0)
theorem LeafN.leaf {base:Nat} {w:World} {v:Value} {l:List Int} (h:LeafN base w v l):Leaf base w v l:=by
 obtain⟨A,c,rfl,hl,hf,hn⟩:=h
 exact⟨A,c,rfl,hl,Kd.F_mono hf (fun k hk=> .inr hk.2),hn⟩
theorem LeafN.keep {base:Nat} {w w1:World} {v:Value} {l:List Int} (h:LeafN base w v l) (hk:Keep base w w1):LeafN base w1 v l:=by
 obtain⟨A,c,rfl,hl,hf,hn⟩:=h
 refine⟨A,c,rfl,hl,?_,hn⟩
 refine Kd.F_mono (Kd.F_step hf (fun k hk' hlt=> ?_)) (fun k hk'=>⟨hk'.1,?_⟩)
 ·obtain⟨_,cs,fr,hk'⟩:=hk'
  exact hk.ints k cs fr hk'
 ·obtain⟨_,cs,fr,hk'⟩:=hk'
  exact⟨cs,fr,(hk.ints k cs fr hk').trans hk'⟩
theorem LeafN.of_R {base b:Nat} {w:World} {ok:Nat→Prop} {v:Value} {l:List Int} (h:(Kd.int .i64).R 3 w b ok v l) (hb:base≤b) (hl:l≠ []):LeafN base w v l:=by
 obtain⟨A,c,rfl,hc,hr⟩:=Kd.R_reads h
 refine⟨A,c,rfl,hc,Kd.F_mono (Kd.R_F (Kd.R_bound h)) (fun k hk=> ?_),fun h0=>absurd h0 hl⟩
 obtain⟨_,h2,_,q,hq,cells,hcell⟩:=hk
 have:q=3:=by
  rcases List.mem_cons.1 hq with h1|h1
  ·exact h1
  ·exact absurd h1 zz161
 subst this
 exact⟨Nat.le_trans hb h2,cells,_,hcell⟩
theorem LeafN.none_ (base:Nat) (w:World):LeafN base w (.slice none 0 0) []:=⟨none,0,rfl,Nat.le_refl _,Kd.F_nil _ _ _,fun _=>rfl⟩
theorem Leaf.C {base:Nat} {w:World} {A:Option Addr} {c:Nat} {l:List Int} (h:Leaf base w (.slice A l.length c) l):(Kd.int .i64).C w A l.length l∧l.length≤c:=by
 obtain⟨A',c',e,hl,hr⟩:=h.reads
 injection e with ea eb ec
 subst ea ec
 exact⟨hr,hl⟩
structure TwAt (base:Nat) (w:World) (bt bR bG:Nat) (rb:Nat→Nat) (vr:Nat→Nat→Value) (vg:Nat→Value) (T:Tw):Prop where
 n1:1≤T.n
 n64:T.n≤64
 lr:T.reps.length=T.n
 lrr:∀i,i<T.n→(T.reps.getD i []).length=T.n
 lg:T.gens.length=T.n
 gt:base≤bt
 gR:base≤bR
 gG:base≤bG
 grb:∀i,i<T.n→base≤rb i
 ht:w.heap[bt]? =some (.cells #[.int .i64 T.n,.slice (some ⟨bR,0,none⟩) T.n T.n,.slice (some ⟨bG,0,none⟩) T.n T.n] 108 (0,0))
 hR:w.heap[bR]? =some (.cells ((List.range T.n).map (fun i=>Value.slice (some ⟨rb i,0,none⟩) T.n T.n)).toArray 28 (0,0))
 hr:∀i,i<T.n→w.heap[rb i]? =some (.cells ((List.range T.n).map (vr i)).toArray 22 (0,0))
 hG:w.heap[bG]? =some (.cells ((List.range T.n).map vg).toArray 28 (0,0))
 hg:∀i,i<T.n→∃inner,w.ownsRow base 22 1 (vg i) (T.gens.getD i []).length inner∧∀(j:Nat) (l:List Int),(T.gens.getD i [])[j]? =some l→∃v,inner[j]? =some v∧Leaf base w v l
 leaf:∀i x,i<T.n→x<T.n→LeafN base w (vr i x) ((T.reps.getD i []).getD x [])
 dRG:bR≠bG
 drb:∀i j,i<T.n→j<T.n→rb i=rb j→i=j
 drg:∀i j,i<T.n→j<T.n→(vg j).ownBlock≠some (rb i)
 dgg:∀i j,i<T.n→j<T.n→i≠j→(vg i).ownBlock=none∨(vg i).ownBlock≠(vg j).ownBlock
section
variable {base:Nat} {w w1:World} {bt bR bG:Nat} {rb:Nat→Nat} {vr:Nat→Nat→Value} {vg:Nat→Value} {T:Tw}
theorem Z9 {n i:Nat} (f:Nat→Value) (h:i<n):((List.range n).map f).toArray[i]? =some (f i):=by simp[h]
theorem TwAt.cell0 (h:TwAt base w bt bR bG rb vr vg T):w.cell? ⟨bt,0,none⟩=some (.int .i64 T.n):=(Zb h.ht 0).trans rfl
theorem TwAt.cell1 (h:TwAt base w bt bR bG rb vr vg T):w.cell? ⟨bt,1,none⟩=some (.slice (some ⟨bR,0,none⟩) T.n T.n):=(Zb h.ht 1).trans rfl
theorem TwAt.cell2 (h:TwAt base w bt bR bG rb vr vg T):w.cell? ⟨bt,2,none⟩=some (.slice (some ⟨bG,0,none⟩) T.n T.n):=(Zb h.ht 2).trans rfl
theorem TwAt.cellR (h:TwAt base w bt bR bG rb vr vg T) {b:Int} (h0:0≤b) (h1:b<T.n):w.cell? ⟨bR,b.toNat,none⟩=some (.slice (some ⟨rb b.toNat,0,none⟩) T.n T.n):=
 (Zb h.hR b.toNat).trans (Z9 _ (by omega))
theorem TwAt.cellG (h:TwAt base w bt bR bG rb vr vg T) {b:Int} (h0:0≤b) (h1:b<T.n):w.cell? ⟨bG,b.toNat,none⟩=some (vg b.toNat):=
 (Zb h.hG b.toNat).trans (Z9 _ (by omega))
theorem TwAt.cellr (h:TwAt base w bt bR bG rb vr vg T) {b x:Int} (h0:0≤b) (h1:b<T.n) (h2:0≤x) (h3:x<T.n):w.cell? ⟨rb b.toNat,x.toNat,none⟩=some (vr b.toNat x.toNat):=
 (Zb (h.hr b.toNat (by omega)) x.toNat).trans (Z9 _ (by omega))
theorem TwAt.leafr (h:TwAt base w bt bR bG rb vr vg T) {b x:Int} (h0:0≤b) (h1:b<T.n) (h2:0≤x) (h3:x<T.n):Leaf base w (vr b.toNat x.toNat) (T.rep b x):=
 (h.leaf b.toNat x.toNat (by omega) (by omega)).leaf
theorem TwAt.base_le (h:TwAt base w bt bR bG rb vr vg T):base≤w.heap.size:=Nat.le_trans h.gt (Nat.le_of_lt (lt_of_some h.ht))
theorem TwAt.below (h:TwAt base w bt bR bG rb vr vg T) (hb:Below w.heap.size w w1):TwAt base w1 bt bR bG rb vr vg T:=by
 have hk:=Keep.of_below h.base_le hb
 exact { h with
  ht:=(hb.block _ (lt_of_some h.ht)).trans h.ht
  hR:=(hb.block _ (lt_of_some h.hR)).trans h.hR
  hr:=fun i hi=>(hb.block _ (lt_of_some (h.hr i hi))).trans (h.hr i hi)
  hG:=(hb.block _ (lt_of_some h.hG)).trans h.hG
  hg :=fun i hi=>by
   obtain⟨inner,ho,hl⟩:=h.hg i hi
   exact⟨inner,pw_own_below ho hb,fun j l hj=>by obtain⟨v,hv,hf⟩:=hl j l hj;exact⟨v,hv,hf.keep hk⟩⟩
  leaf:=fun i x hi hx=>(h.leaf i x hi hx).keep hk }
end
def stripL:Nat→Tw→List Int→Int→Option Int
 |0,_,_,_=>none
 | k +1,T,p,b=>
  if b<T.n then(if 0≤b then(if b<(p.length:Int) then(if 0≤rd p b then(if rd p b<T.n then(
   if T.rep b (rd p b)= [] then some b else(perm_inverse.f k (T.rep b (rd p b))).bind fun i=>(perm_then.f k p i).bind fun q=>stripL k T q (b+1))
   else none) else none) else none) else none) else some T.n
theorem run_eql_nil (w:World) (a:Option Addr) (n c:Nat):(binOp .eql 22 (.slice a n c) (.slice none 0 0)).run Try.prog w= .ok (.bool a.isNone) w:=Lib.run_eql_slice_nil w 22 3 a n c 0 0 Try.underlying22
theorem Z8 (w:World) (a:Option Addr) (n c:Nat):(binOp .neq 22 (.slice a n c) (.slice none 0 0)).run Try.prog w= .ok (.bool (!a.isNone)) w:=run_neq_slice_nil_any w 22 3 a n c 0 0 Try.underlying22
theorem C_some {w:World} {A:Option Addr} {l:List Int} (h:Kd.C (Kd.int .i64) w A l.length l) (hl:l≠ []):∃ad,A=some ad:=by
 have h0:0<l.length:=List.length_pos_iff.2 hl
 obtain⟨ad,e,_⟩:=Kd.at_int h 0 (by omega) (by omega)
 exact⟨ad,e⟩
theorem strip_calls {base:Nat} {bt bR bG:Nat} {rb:Nat→Nat} {vr:Nat→Nat→Value} {vg:Nat→Value} {T:Tw} (k:Nat) (A0:Option Addr) (c0:Nat) (p:List Int) (b:Int) (r:Int) (w:World)
    (hT:TwAt base w bt bR bG rb vr vg T) (hr0:Kd.C (Kd.int .i64) w A0 p.length p) (hc0:p.length≤c0) (h:stripL k T p b=some r):
    Calls Try.prog 83 #[.pointer (some ⟨bt,0,none⟩),.slice A0 p.length c0,.int .i64 b] w fun e w'=>∃v0_:Value,e= .returned (.tuple #[v0_,.int .i64 r])∧Below w.heap.size w w':=by
 have HT:=aM hT
 have HR0:=aM hr0
 have HC0:=aM hc0
 have HB:=aM (Below.refl w.heap.size w)
 have H':=aM h
 clear hT hr0 hc0 h
 go_enter Try.func83,Try.ntmps83
 go_wp2
 go_loopg [1,2] k (fun kq v1 v2 w'=>∃(q:List Int) (A1:Option Addr) (c1:Nat) (b1:Int),v1= .slice A1 q.length c1∧v2= .int .i64 b1∧Aside0 (stripL kq T q b1=some r)∧Aside0 (kq≤k)∧Aside0 (Kd.C (Kd.int .i64) w' A1 q.length q)∧Aside0 (q.length≤c1)∧Aside0 (Below w.heap.size w w'))
 case atStart=>exact⟨p,A0,c0,b,rfl,rfl,H',⟨Nat.le_refl _⟩,HR0,HC0,HB⟩
 case round =>
  clear H' HB HR0 HC0;obtain⟨q,A1,c1,b1,rfl,rfl,HA,HK1,HR,HC,HB⟩:=hrel
  cases gk with
  |zero=>exact absurd HA.out (by simp[stripL])
  | succ k1=>
   have H:=HA.out;clear HA;simp only[stripL] at H;have hn64:=HT.out.n64;have HTr:=aM (HT.out.below HB.out);have hx0:=HTr.out.cell0
   by_cases c7:b1<(T.n:Int)
   ·rw [if_pos c7] at H;have c7b:decide (b1<(T.n:Int))=true:=dT c7;have hx1:=HTr.out.cell1
    by_cases c8:0≤b1
    ·rw [if_pos c8] at H
     by_cases c9:b1<(q.length:Int)
     ·rw [if_pos c9] at H
      by_cases c10:0≤rd q b1
      ·rw [if_pos c10] at H
       by_cases c11:rd q b1<(T.n:Int)
       ·rw [if_pos c11] at H;have hx2:=HTr.out.cellR c8 c7;have hx3:=HTr.out.cellr c8 c7 c10 c11;obtain⟨ad,e1,hx4⟩:=Kd.at_int HR.out b1 c8 c9
        cases e1;have hL:=HTr.out.leafr c8 c7 c10 c11;have p8:=eq_true c8;have p9:=eq_true c9;have p7:=eq_true c7;have p10:=eq_true c10;have p11:=eq_true c11
        by_cases c12:T.rep b1 (rd q b1)= []
        ·rw[if_pos c12] at H;obtain rfl:=oI H;obtain⟨A2,c2,hv,hl2,hf2,hnil⟩:=hL;have hv0:=hnil c12;rw[hv0] at hx3;have hq:=fun W=>run_eql_nil W none 0 0
         clear hv hv0 hnil hf2 hl2 c12 H;go_wp2
         go_quiet (fail)
         go_wp2
         go_ret2
         exact⟨_,rfl,Zf HB.out _⟩
        ·rw [if_neg c12] at H;replace H:=oB H;obtain⟨i,hi,H⟩:=H;replace H:=oB H;obtain⟨q2,hq2,H⟩:=H;obtain⟨A2,c2,hv,hl2,hC2⟩:=hL.reads;obtain⟨ad2,rfl⟩:=C_some hC2 c12;rw[hv] at hx3;have hq:=fun W=>run_eql_nil W (some ad2) (T.rep b1 (rd q b1)).length c2
         have Hi:=aM hi;have Hq2:=aM hq2;have H':=aM H;have HC2:=aM hC2;have HL2:=aM hl2;clear hv c12 H hi hq2 hC2 hl2 hL;go_wp2
         go_quiet (fail)
         have HCr:=aM (Kd.C_below HC2.out (Below.refl _ _))
         go_wp2_with (first
          |(go_at_call 55;(with_reducible refine(perm_inverse.calls k1 _ _ (T.rep b1 (rd q b1)) i _ ?s1 ?s2 Hi.out).mono ?_);(case s1=>exact Kd.C_drewN HC2.out _);(case s2=>exact HL2.out);rintro e w3 ⟨v3,rfl,ho3,hb3⟩;obtain⟨A3,c3,rfl,hl3,hr3⟩:=Kd.R_reads ho3;have HR3:=aM hr3;have HL3:=aM hl3;have HB3:=aM (Ze (Zf HB.out nq) hb3);have HQ3:=aM (Kd.C_below (Kd.C_drewN HR.out nq) hb3);clear ho3 hb3 hr3 hl3)
          |(go_at_call 50;(with_reducible refine(perm_then.calls k1 _ _ q _ _ i q2 _ ?s1 ?s2 ?s3 ?s4 Hq2.out).mono ?_);(case s1=>exact HQ3.out);(case s2=>exact HC.out);(case s3=>exact HR3.out);(case s4=>exact HL3.out);rintro e w4 ⟨v4,rfl,ho4,hb4⟩;obtain⟨A4,c4,rfl,hl4,hr4⟩:=Kd.R_reads ho4;have HR4:=aM hr4;have HL4:=aM hl4;have HB4:=aM (Ze HB3.out hb4);clear ho4 hb4 hr4 hl4))
         go_roundg k1
         case measure=>have:=HK1.out;omega
         case rel=>exact⟨q2,A4,c4,b1+1,rfl,rfl,H',⟨by have:=HK1.out;omega⟩,HR4,HL4,HB4⟩
       ·rw[if_neg c11] at H
        cases H
      ·rw[if_neg c10] at H
       cases H
     ·rw[if_neg c9] at H
      cases H
    ·rw[if_neg c8] at H
     cases H
   ·rw[if_neg c7] at H;obtain rfl:=oI H;have c7b:decide (b1<(T.n:Int))=false:=dF c7;go_wp2
    go_quiet (fail)
    go_wp2
    go_ret2
    exact⟨_,rfl,Zf HB.out _⟩
theorem run_eql_nil28 (w:World) (a:Option Addr) (n c:Nat):(binOp .eql 28 (.slice a n c) (.slice none 0 0)).run Try.prog w= .ok (.bool a.isNone) w:=Lib.run_eql_slice_nil w 28 22 a n c 0 0 Try.underlying28
theorem raw_reads {w:World} {g n:Nat} {vals:List Value} (hl:vals.length=n) (hn:n≤64) (hone:∀v∈vals,v.oneCell'=true) (hc:∀(j:Nat) (u:Value),vals[j]? =some u→w.cell? ⟨g,j,none⟩=some u):
    ReadsRow (fun x cs=>cs=x∧cs.length=1∧∀u∈cs,u.oneCell'=true) 1 w (some ⟨g,0,none⟩) n (vals.map (fun v=> [v])):=by
 refine⟨by simpa using hl,by omega,fun h0=>⟨_,rfl,fun j p hj=> ?_⟩⟩
 rw[List.getElem?_map] at hj
 obtain⟨v,hv,rfl⟩:=Option.map_eq_some_iff.1 hj
 refine⟨[v],rfl,⟨rfl,rfl,fun u hu=> ?_⟩,fun i u hu=> ?_⟩
 ·rw[List.mem_singleton.1 hu];exact hone v (List.mem_of_getElem? hv)
 ·match i,hu with
  | 0,hu=>
   obtain rfl:=oI hu;rw[Z3,Nat.mul_one,Nat.add_zero]
   exact hc j v hv
theorem raw_cells {w:World} {b e:Nat} {ok:Nat→Prop} {v:Value} {vals:List Value} (h:(Kd.raw 1).R e w b ok v (vals.map (fun v=> [v]))) (h0:0<vals.length):
    ∃g c,v= .slice (some ⟨g,0,none⟩) vals.length c∧b≤g∧g<w.heap.size∧∀(j:Nat) (u:Value),vals[j]? =some u→w.cell? ⟨g,j,none⟩=some u:=by
 obtain⟨_,inner,ho,hr⟩:=h
 rw[List.length_map] at ho
 obtain⟨g,cap,he,hbg,hlg⟩:=ho.form h0
 subst he
 refine⟨g,cap,rfl,hbg,hlg,fun j u hu=> ?_⟩
 have h1:=hr.2 j [u] (by rw[List.getElem?_map,hu];rfl)
 have h2:((inner.drop (j*1)).take 1)= [u]:=h1.1
 have h3:inner[j]? =some u:=by
  have:=congrArg List.head? h2;rw[Nat.mul_one] at this
  simpa[List.head?_take,List.head?_drop] using this
 have h4:=ho.cells (g:=g) rfl j u h3
 rwa [Z3] at h4
theorem clone84_calls (g n:Nat) (vals:List Value) (w:World) (hl:vals.length=n) (h1:1≤n) (hn:n≤64) (hone:∀v∈vals,v.oneCell'=true) (hc:∀(j:Nat) (u:Value),vals[j]? =some u→w.cell? ⟨g,j,none⟩=some u):
    Calls Try.prog 84 #[.slice (some ⟨g,0,none⟩) n n] w fun e w'=>∃g' c,e= .returned (.slice (some ⟨g',0,none⟩) n c)∧w.heap.size≤g'∧g'<w'.heap.size∧(∀(j:Nat) (u:Value),vals[j]? =some u→w'.cell? ⟨g',j,none⟩=some u)∧Below w.heap.size w w':=by
 have HRR:=aM (raw_reads hl hn hone hc)
 have HL:=aM hl
 have HB:=aM (Below.refl w.heap.size w)
 have hq:=fun W=>run_eql_nil28 W (some ⟨g,0,none⟩) n n
 clear hl hone hc
 go_enter Try.func84,Try.ntmps84
 go_wp2_with (first
  |((with_reducible refine Zr (N:=5) rfl ?_);refine Kd.R_lit (Kd.raw 1) _ 22 ?hg (N:=5) ?hd (xs:=([]:List (List Value))) (inner:= []) (ok:=fun _=>True) (okp:=fun _=>True) ?hr ?hp (fun _ hk=>hk) trivial (Below.refl _ _) (Nat.le_refl _) (by simp) ?_;(case hd=>rfl);(case hg=>rfl);(case hr=>first|(go_simp;done)|(go_simp;rfl));(case hp=>exact(Reps.none _ _));intro v1 w1 ho1 hb1 hg_ hnew_;clear hg_ hnew_;have HO1:=aM ho1;have HB1:=aM hb1;clear ho1 hb1)
  |((with_reducible refine ZT (b:= .append) (xs:= #[.tmp 5,.tmp 6]) rfl ?_);at_builtin;refine Kd.R_append_rows (Kd.raw 1) (w0:=w) w.heap.size rfl (.tmp 5) (.tmp 6) 28 22 (.slice none 0 0) 24 rfl Try.underlying28 info22 rfl (by decide) (by omega) v1 [] (vals.map (fun v=> [v])) _ _ _ (fun _=>True) (fun _=>False) rfl rfl ?aO ?aR (fun _ _ h=>h) (fun _ h=>h.elim) ?aF ?aB ?aS ?aL ?_;(case aR=>exact HRR.out.imp_ (HB1.out) (fun _ _ h=>h));(case aB=>exact HB1.out);(case aF=>exact(fun _ _=>trivial));(case aO=>exact HO1.out);(case aS=>exact HB1.out.size);(case aL=>simp only[List.length_nil];omega);intro v2 w2 ho2 hb2 hg2 hat2;have HO2:=aM ho2;have HB2:=aM hb2;clear ho2 hb2 hg2 hat2))
 go_ret
 have ho2:=HO2.out
 rw[List.nil_append] at ho2
 obtain⟨g',c,hv,hbg,hlg,hcc⟩:=raw_cells ho2 (by rw[HL.out];omega)
 rw[HL.out] at hv
 exact⟨g',c,by rw[←hv];rfl,hbg,hlg,hcc,HB2.out⟩
def Tw.setRep (T:Tw) (b x:Int) (p:List Int):Tw:= { T with reps:=T.reps.set b.toNat ((T.row b).set x.toNat p) }
def Tw.addGen (T:Tw) (b:Int) (p:List Int):Tw:= { T with gens:=T.gens.set b.toNat (T.gen b++ [p]) }
theorem range_set {n x:Nat} (f:Nat→Value) (v:Value):((List.range n).map f).toArray.setIfInBounds x v=((List.range n).map (fun y=>if y=x then v else f y)).toArray:=by
 apply Array.ext
 ·simp
 ·intro i h1 h2
  simp only[sA,List.getElem_toArray,List.getElem_set,List.getElem_map,List.getElem_range]
  by_cases h:x=i
  ·simp[h]
  rw[if_neg h,if_neg (fun e=>h e.symm)]
theorem Yd {α:Type} {l:List α} {i:Nat} {a d:α} (h:i<l.length):(l.set i a).getD i d=a:=by simp[List.getD_eq_getElem?_getD,h]
theorem getD_set_ne {α:Type} {l:List α} {i j:Nat} {a d:α} (h:i≠j):(l.set i a).getD j d=l.getD j d:=by simp[List.getD_eq_getElem?_getD,List.getElem?_set_ne h]
theorem ZP {w:World} {g g' t t':Nat} {cs cs':Array Value} {fr fr':Nat×Nat} (h:w.heap[g]? =some (Obj.cells cs t fr)) (h':w.heap[g']? =some (Obj.cells cs' t' fr')) (ht:t≠t'):g≠g':=by
 rintro rfl
 rw[h] at h'
 injection h' with h'
 injection h' with _ h2
 exact ht h2
theorem Keep.set_ {base:Nat} {w:World} {g x t:Nat} {cs:Array Value} {fr:Nat×Nat} (hg:base≤g) (hb:w.heap[g]? =some (Obj.cells cs t fr)) (ht:t≠3) (v:Value):Keep base w (w.setCell ⟨g,x,none⟩ v):=
 ⟨(Below.refl base w).setCell hg v,fun k cs' fr' hk=>Below.heap_setCell w ⟨g,x,none⟩ v k (fun e=>ZP hk hb (Ne.symm ht) e)⟩
def Own (n:Nat) (rb:Nat→Nat) (bG:Nat) (vg:Nat→Value) (k:Nat):Prop:=(∃i,i<n∧k=rb i)∨k=bG∨∃i,i<n∧(vg i).ownBlock=some k
structure TwFr (n:Nat) (rb:Nat→Nat) (bG:Nat) (vg:Nat→Value) (w:World) (vg':Nat→Value) (w':World):Prop where
 size:w.heap.size≤w'.heap.size
 same:∀k,k<w.heap.size→¬Own n rb bG vg k→w'.heap[k]? =w.heap[k]?
 own:∀k,k<w.heap.size→Own n rb bG vg' k→Own n rb bG vg k
theorem TwFr.of_below {n:Nat} {rb:Nat→Nat} {bG:Nat} {vg:Nat→Value} {w w':World} (h:Below w.heap.size w w'):TwFr n rb bG vg w vg w':=⟨h.size,fun k hk _=>h.block k hk,fun _ _ h=>h⟩
theorem TwFr.refl {n:Nat} {rb:Nat→Nat} {bG:Nat} {vg:Nat→Value} {w:World} :TwFr n rb bG vg w vg w:=⟨Nat.le_refl _,fun _ _ _=>rfl,fun _ _ h=>h⟩
theorem TwFr.trans {n:Nat} {rb:Nat→Nat} {bG:Nat} {vg vg1 vg2:Nat→Value} {w w1 w2:World} (h:TwFr n rb bG vg w vg1 w1) (k:TwFr n rb bG vg1 w1 vg2 w2):TwFr n rb bG vg w vg2 w2:=
 ⟨Nat.le_trans h.size k.size,fun i hi hn=>(k.same i (Nat.lt_of_lt_of_le hi h.size) (fun ho=>hn (h.own i hi ho))).trans (h.same i hi hn),fun i hi ho=>h.own i hi (k.own i (Nat.lt_of_lt_of_le hi h.size) ho)⟩
section
variable {base:Nat} {w w1:World} {bt bR bG:Nat} {rb:Nat→Nat} {vr:Nat→Nat→Value} {vg:Nat→Value} {T:Tw}
theorem TwAt.set_rep (h:TwAt base w bt bR bG rb vr vg T) {b x:Int} (h0:0≤b) (h1:b<T.n) (h2:0≤x) (h3:x<T.n) {v:Value} {p:List Int} (hv:LeafN base w v p):
    TwAt base (w.setCell ⟨rb b.toNat,x.toNat,none⟩ v) bt bR bG rb (fun i y=>if i=b.toNat∧y=x.toNat then v else vr i y) vg (T.setRep b x p)∧Keep base w (w.setCell ⟨rb b.toNat,x.toNat,none⟩ v)∧TwFr T.n rb bG vg w vg (w.setCell ⟨rb b.toNat,x.toNat,none⟩ v):=by
 have hbn:b.toNat<T.n:=by omega
 have hk:Keep base w (w.setCell ⟨rb b.toNat,x.toNat,none⟩ v):=Keep.set_ (h.grb _ hbn) (h.hr _ hbn) (by decide) v
 have hrow:T.row b=T.reps.getD b.toNat []:=rfl
 refine⟨{ h with lr:= ?_,lrr:= ?_,ht:= ?_,hR:= ?_,hr:= ?_,hG:= ?_,hg:= ?_,leaf:= ?_ },hk,⟨by simp[World.setCell],fun k hk2 hn=>Below.heap_setCell w ⟨rb b.toNat,x.toNat,none⟩ v k (fun e=>hn (.inl ⟨b.toNat,hbn,e⟩)),fun _ _ h=>h⟩⟩
 ·simp[Tw.setRep,h.lr]
 ·intro i hi
  by_cases e:b.toNat=i
  ·subst e;simp only[Tw.setRep];rw[Yd (by rw[h.lr];exact hbn),List.length_set,hrow]
   exact h.lrr _ hbn
  simp only[Tw.setRep];rw[getD_set_ne e]
  exact h.lrr i hi
 ·exact(Below.heap_setCell w _ v bt (ZP h.ht (h.hr _ hbn) (by decide))).trans h.ht
 ·exact(Below.heap_setCell w _ v bR (ZP h.hR (h.hr _ hbn) (by decide))).trans h.hR
 ·intro i hi
  by_cases e:b.toNat=i
  ·subst e;have:=blk_set (h.hr _ hbn) x.toNat v;rw[range_set] at this
   simpa[Tw.setRep] using this
  have:=(Below.heap_setCell w ⟨rb b.toNat,x.toNat,none⟩ v (rb i) (fun e2=>e (h.drb _ _ hbn hi e2.symm))).trans (h.hr i hi);rw[this];have e':¬i=b.toNat:=fun z=>e z.symm
  simp[e',Tw.setRep]
 ·exact(Below.heap_setCell w _ v bG (ZP h.hG (h.hr _ hbn) (by decide))).trans h.hG
 ·intro i hi
  obtain⟨inner,ho,hl⟩:=h.hg i hi
  refine⟨inner,own_move ho (fun k hk'=>Below.heap_setCell w ⟨rb b.toNat,x.toNat,none⟩ v k (fun e=> ?_)),fun j l hj=> ?_⟩
  ·subst e
   exact h.drg b.toNat i hbn hi hk'
  ·obtain⟨u,hu,hf⟩:=hl j l hj
   exact⟨u,hu,hf.keep hk⟩
 ·intro i y hi hy
  by_cases e:b.toNat=i
  ·subst e
   have hl:(T.setRep b x p).reps.getD b.toNat []=(T.row b).set x.toNat p:=by
    simp only[Tw.setRep];rw[Yd (by rw[h.lr];exact hbn)]
   rw[hl]
   by_cases e2:x.toNat=y
   ·subst e2;rw[Yd (by rw[hrow,h.lrr _ hbn];omega),if_pos ⟨rfl,rfl⟩]
    exact hv.keep hk
   rw[getD_set_ne e2,if_neg (fun z=>e2 z.2.symm)]
   exact(h.leaf _ y hi hy).keep hk
  have hl:(T.setRep b x p).reps.getD i []=T.reps.getD i []:=by
   simp only[Tw.setRep];rw[getD_set_ne e]
  rw[hl,if_neg (fun z=>e z.1.symm)]
  exact(h.leaf i y hi hy).keep hk
theorem TwAt.add_gen (h:TwAt base w bt bR bG rb vr vg T) {b:Int} (h0:0≤b) (h1:b<T.n) {v v1:Value} {p:List Int} {inner:List Value} (hv:Leaf base w v p)
    (hin:∀(j:Nat) (l:List Int),(T.gen b)[j]? =some l→∃u,inner[j]? =some u∧Leaf base w u l) (hl:inner.length=(T.gen b).length)
    (hown:w1.ownsRow base 22 1 v1 ((T.gen b).length+1) (inner++ [v])) (hg:w.grownBy w1 (vg b.toNat).ownBlock) (hat:v1.ownBlock=(vg b.toNat).ownBlock∨∃g,v1.ownBlock=some g∧w.heap.size≤g):
    TwAt base (w1.setCell ⟨bG,b.toNat,none⟩ v1) bt bR bG rb vr (fun i=>if i=b.toNat then v1 else vg i) (T.addGen b p)∧Keep base w (w1.setCell ⟨bG,b.toNat,none⟩ v1)∧TwFr T.n rb bG vg w (fun i=>if i=b.toNat then v1 else vg i) (w1.setCell ⟨bG,b.toNat,none⟩ v1):=by
 have hbn:b.toNat<T.n:=by omega
 obtain⟨inner0,ho0,hl0⟩:=h.hg _ hbn
 -- the blocks that the append may have written are of type 22, from base on
 have hob:∀k,(vg b.toNat).ownBlock=some k→base≤k∧∃cs,w.heap[k]? =some (Obj.cells cs 22 (0,0)):=fun k hk=>⟨own_base ho0 k hk,Ya ho0 k hk⟩
 have hsame:∀(k t:Nat) (cs:Array Value) (fr:Nat×Nat),w.heap[k]? =some (Obj.cells cs t fr)→t≠22→w1.heap[k]? =w.heap[k]? :=fun k t cs fr hk ht=>
  hg.block k (lt_of_some hk) (fun e=>by
   obtain⟨_,cs',hc⟩:=hob k e.symm
   exact ZP hk hc ht rfl)
 have hk1:Keep base w w1:=⟨(Below.refl base w).grown hg h.base_le (fun k hk=>(hob k hk).1),fun k cs fr hk=>hsame k 3 cs fr hk (by decide)⟩
 have hG1:w1.heap[bG]? =some (.cells ((List.range T.n).map vg).toArray 28 (0,0)):=(hsame bG 28 _ _ h.hG (by decide)).trans h.hG
 have hk2:Keep base w1 (w1.setCell ⟨bG,b.toNat,none⟩ v1):=Keep.set_ h.gG hG1 (by decide) v1
 have hk:=hk1.trans hk2
 have far:∀(k t:Nat) (cs:Array Value) (fr:Nat×Nat),w.heap[k]? =some (Obj.cells cs t fr)→t≠22→t≠28→(w1.setCell ⟨bG,b.toNat,none⟩ v1).heap[k]? =w.heap[k]? :=fun k t cs fr hk ht ht2=>
  (Below.heap_setCell w1 ⟨bG,b.toNat,none⟩ v1 k (ZP ((hsame k t cs fr hk ht).trans hk) hG1 ht2)).trans (hsame k t cs fr hk ht)
 have hrb:∀i,i<T.n→(w1.setCell ⟨bG,b.toNat,none⟩ v1).heap[rb i]? =w.heap[rb i]? :=fun i hi=>by
  have e1:w1.heap[rb i]? =w.heap[rb i]? :=hg.block _ (lt_of_some (h.hr i hi)) (fun e=>h.drg i b.toNat hi hbn e.symm)
  exact(Below.heap_setCell w1 ⟨bG,b.toNat,none⟩ v1 (rb i) (ZP (e1.trans (h.hr i hi)) hG1 (by decide))).trans e1
 have hgen:T.gen b=T.gens.getD b.toNat []:=rfl
 have hsz:∀i,i<T.n→rb i<w.heap.size:=fun i hi=>lt_of_some (h.hr i hi)
 refine⟨{ h with lg:= ?_,ht:= ?_,hR:= ?_,hr:= ?_,hG:= ?_,hg:= ?_,leaf:= ?_,drg:= ?_,dgg:= ?_ },hk,⟨?_,?_,?_⟩⟩
 ·simp[Tw.addGen,h.lg]
 ·exact(far bt 108 _ _ h.ht (by decide) (by decide)).trans h.ht
 ·have e1:=hsame bR 28 _ _ h.hR (by decide)
  exact(Below.heap_setCell w1 ⟨bG,b.toNat,none⟩ v1 bR h.dRG).trans (e1.trans h.hR)
 ·exact fun i hi=>(hrb i hi).trans (h.hr i hi)
 ·have:=blk_set hG1 b.toNat v1
  rw[range_set] at this
  exact this
 ·intro i hi
  by_cases e:b.toNat=i
  ·subst e
   have hl2:(T.addGen b p).gens.getD b.toNat []=T.gen b++ [p]:=by
    simp only[Tw.addGen];rw[Yd (by rw[h.lg];exact hbn)]
   rw[hl2,if_pos rfl]
   refine⟨inner++ [v],?_,fun j l hj=> ?_⟩
   ·rw[List.length_append,List.length_singleton]
    refine own_move hown (fun k hk'=>Below.heap_setCell w1 ⟨bG,b.toNat,none⟩ v1 k ?_);obtain⟨cs,hc⟩:=Ya hown k hk'
    exact ZP hc hG1 (by decide)
   ·rcases Nat.lt_or_ge j (T.gen b).length with hj2|hj2
    ·rw[List.getElem?_append_left hj2] at hj;obtain⟨u,hu,hf⟩:=hin j l hj
     exact⟨u,by rw[List.getElem?_append_left (by omega)];exact hu,hf.keep hk⟩
    ·rw [List.getElem?_append_right hj2] at hj
     have hj3:j=(T.gen b).length:=by
      have:=(List.getElem?_eq_some_iff.1 hj).1;simp at this;omega
     subst hj3;simp at hj;subst hj
     exact⟨v,by rw[←hl];simp,hv.keep hk⟩
  ·have hl2:(T.addGen b p).gens.getD i []=T.gens.getD i []:=by
      simp only[Tw.addGen];rw[getD_set_ne e]
   rw[hl2,if_neg (fun z=>e z.symm)];obtain⟨inn,ho,hl3⟩:=h.hg i hi
   refine⟨inn,own_move ho (fun k hk'=> ?_),fun j l hj=> ?_⟩
   ·have hlt:=own_lt ho k hk'
    have e1:w1.heap[k]? =w.heap[k]? :=hg.block k hlt (fun e2=>by
     rcases h.dgg i b.toNat hi hbn (fun z=>e z.symm) with h5|h5
     ·rw[hk'] at h5;cases h5
     ·exact h5 (hk'.trans e2))
    obtain⟨cs,hc⟩:=Ya ho k hk'
    exact(Below.heap_setCell w1 ⟨bG,b.toNat,none⟩ v1 k (ZP (e1.trans hc) hG1 (by decide))).trans e1
   ·obtain⟨u,hu,hf⟩:=hl3 j l hj
    exact⟨u,hu,hf.keep hk⟩
 ·exact fun i x hi hx=>(h.leaf i x hi hx).keep hk
 ·intro i j hi hj
  by_cases e:j=b.toNat
  ·rw [if_pos e]
   rcases hat with hat|⟨g,hg2,hle⟩
   ·rw[hat];exact h.drg i b.toNat hi hbn
   ·rw[hg2];intro e2;injection e2 with e2
    have:=hsz i hi;omega
  ·rw[if_neg e]
   exact h.drg i j hi hj
 ·intro i j hi hj hne
  have hlt:∀i,i<T.n→∀k,(vg i).ownBlock=some k→k<w.heap.size:=fun i hi k hk=>by
   obtain⟨inn,ho,_⟩:=h.hg i hi
   exact own_lt ho k hk
  by_cases e:i=b.toNat
  ·have e':¬j=b.toNat:=fun z=>hne (e.trans z.symm)
   rw[if_pos e,if_neg e']
   rcases hat with hat|⟨g,hg2,hle⟩
   ·rw[hat,←e];exact h.dgg i j hi hj hne
   ·refine .inr (fun e2=> ?_);rw[hg2] at e2;have:=hlt j hj g e2.symm;omega
  ·rw [if_neg e]
   by_cases e':j=b.toNat
   ·rw[if_pos e']
    rcases hat with hat|⟨g,hg2,hle⟩
    ·rw[hat,←e'];exact h.dgg i j hi hj hne
    ·refine .inr (fun e2=> ?_);rw[hg2] at e2;have:=hlt i hi g e2;omega
   ·rw[if_neg e']
    exact h.dgg i j hi hj hne
 ·have:=hg.size
  simpa[World.setCell] using this
 ·intro k hk2 hn
  have e1:w1.heap[k]? =w.heap[k]? :=hg.block k hk2 (fun e=>hn (.inr (.inr ⟨b.toNat,hbn,e.symm⟩)))
  exact(Below.heap_setCell w1 ⟨bG,b.toNat,none⟩ v1 k (fun e=>hn (.inr (.inl e)))).trans e1
 ·intro k hk2 ho
  rcases ho with ho|ho|⟨i,hi,ho⟩
  ·exact .inl ho
  ·exact .inr (.inl ho)
  ·dsimp only at ho
   by_cases e:i=b.toNat
   ·rw [if_pos e] at ho
    rcases hat with hat|⟨g,hg2,hle⟩
    ·exact .inr (.inr ⟨b.toNat,hbn,hat▸ho⟩)
    ·rw[hg2] at ho;injection ho with ho
     omega
   ·rw[if_neg e] at ho
    exact .inr (.inr ⟨i,hi,ho⟩)
end
mutual
def visitL:Nat→Tw→List Int→Int→Option Tw
 |0,_,_,_=>none
 | k +1,T,p,b=>if 0≤b then(if b<(p.length:Int) then(if 0≤rd p b then(if rd p b<T.n then(if b<T.n then(
     if T.rep b (rd p b)= [] then visitLoop k (T.setRep b (rd p b) p) p b 0
     else(perm_inverse.f k (T.rep b (rd p b))).bind fun i=>(perm_then.f k p i).bind fun q=>insertL k T q (b+1))
     else none) else none) else none) else none) else none
def visitLoop:Nat→Tw→List Int→Int→Int→Option Tw
 |0,_,_,_,_=>none
 |k+1,T,p,b,j=>if b<T.n then(if j<((T.gen b).length:Int) then(perm_then.f k p (Zp (T.gen b) j)).bind fun q=>(visitL k T q b).bind fun T'=>visitLoop k T' p b (j+1) else some T) else none
def insertL:Nat→Tw→List Int→Int→Option Tw
 |0,_,_,_=>none
 |k+1,T,p,b=>(stripL k T p b).bind fun e=>if e=T.n then some T else(if 0≤b then(if b<T.n then(if(T.gen b).length<1000000 then insertLoop k (T.addGen b p) (T.row b) p b 0 else none) else none) else none)
def insertLoop:Nat→Tw→List (List Int)→List Int→Int→Int→Option Tw
 |0,_,_,_,_,_=>none
 |k+1,T,rs,p,b,i=>if i<(rs.length:Int) then(if Zp rs i= [] then insertLoop k T rs p b (i+1) else(perm_then.f k (Zp rs i) p).bind fun q=>(visitL k T q b).bind fun T'=>insertLoop k T' rs p b (i+1)) else some T
end
theorem own_max {w:World} {base:Nat} {e:TypeId} {n:Nat} {v:Value} {xs:List Value} (h:w.ownsRow base e 1 v n xs):n≤9223372036854775807:=by
 rcases h.2 with⟨_,h1⟩|⟨g',cap',cur,he,_,_,h1,h2,_⟩
 ·have:=h.1
  rw[h1] at this;simp at this;omega
 ·simp only[maxLen] at h2
  omega
theorem then_len0:∀(k:Nat) (l1 x5 l0:List Int) (n j:Int) (r:List Int),perm_then.l0 k l1 x5 l0 n j=some r→r.length=x5.length:=by
 intro k
 induction k with
 |zero=>intro l1 x5 l0 n j r h;simp[perm_then.l0] at h
 | succ k ih=>
  intro l1 x5 l0 n j r h;simp only[perm_then.l0] at h
  repeat' split at h
  all_goals first
   |(cases h;done)
   |(have:=ih _ _ _ _ _ _ h;simpa using this)
   |(obtain rfl:=oI h;rfl)
theorem then_len {k:Nat} {p q r:List Int} (h:perm_then.f k p q=some r):r.length=p.length:=by
 unfold perm_then.f at h
 repeat' split at h
 all_goals first
  |(cases h;done)
  |(have:=then_len0 _ _ _ _ _ _ _ h;simpa using this)
def TwPost (base:Nat) (w:World) (bt bR bG:Nat) (rb:Nat→Nat) (n:Nat) (vg:Nat→Value) (T':Tw) (e:Ending) (w':World):Prop:=e= .returned (.tuple #[])∧∃vr' vg',TwAt base w' bt bR bG rb vr' vg' T'∧Keep base w w'∧TwFr n rb bG vg w vg' w'∧T'.n=n
abbrev VisitOk (k:Nat):Prop:=∀ {base bt bR bG:Nat} {rb:Nat→Nat} {vr:Nat→Nat→Value} {vg:Nat→Value} {T:Tw} (A0:Option Addr) (c0:Nat) (p:List Int) (b:Int) (T':Tw) (w:World),
    TwAt base w bt bR bG rb vr vg T→LeafN base w (.slice A0 p.length c0) p→visitL k T p b=some T'→
    Calls Try.prog 85 #[.pointer (some ⟨bt,0,none⟩),.slice A0 p.length c0,.int .i64 b] w (TwPost base w bt bR bG rb T.n vg T')
abbrev InsertOk (k:Nat):Prop:=∀ {base bt bR bG:Nat} {rb:Nat→Nat} {vr:Nat→Nat→Value} {vg:Nat→Value} {T:Tw} (A0:Option Addr) (c0:Nat) (p:List Int) (b:Int) (T':Tw) (w:World),
    TwAt base w bt bR bG rb vr vg T→Leaf base w (.slice A0 p.length c0) p→insertL k T p b=some T'→
    Calls Try.prog 61 #[.pointer (some ⟨bt,0,none⟩),.slice A0 p.length c0,.int .i64 b] w (TwPost base w bt bR bG rb T.n vg T')
theorem visit_step (k : Nat) (ihv:∀m,m≤k→VisitOk m) (ihi:∀m,m≤k→InsertOk m):VisitOk (k+1):=by
 intro base bt bR bG rb vr vg T A0 c0 p b T' w hT hp h
 have HT:=aM hT
 have HP:=aM hp
 have IHV:=aM ihv
 have IHI:=aM ihi
 clear hT ihv ihi
 obtain⟨A0',c0',he0,hl0,hr0⟩:=hp.leaf.reads
 injection he0 with ea eb ec
 subst ea ec
 have HR:=aM hr0
 have HC:=aM hl0
 clear hr0 hl0 hp eb
 simp only[visitL] at h
 by_cases c1:0≤b
 ·rw [if_pos c1] at h
  by_cases c2:b<(p.length:Int)
  ·rw [if_pos c2] at h
   by_cases c3:0≤rd p b
   ·rw [if_pos c3] at h
    by_cases c4:rd p b<(T.n:Int)
    ·rw [if_pos c4] at h
     by_cases c5:b<(T.n:Int)
     ·rw [if_pos c5] at h;obtain⟨ad,e1,hx4⟩:=Kd.at_int HR.out b c1 c2
      cases e1;have hx1:=HT.out.cell1;have hx2:=HT.out.cellR c1 c5;have hx3:=HT.out.cellr c1 c5 c3 c4;have hL:=HT.out.leafr c1 c5 c3 c4;have hn64:=HT.out.n64;have p1:=eq_true c1;have p2:=eq_true c2;have p3:=eq_true c3;have p4:=eq_true c4;have p5:=eq_true c5
      by_cases c6:T.rep b (rd p b)= []
      ·rw [if_pos c6] at h;obtain⟨A2,c2',hv,hl2,hf2,hnil⟩:=hL;have hv0:=hnil c6;rw[hv0] at hx3;have hq:=fun W=>Z8 W none 0 0
       clear hv hv0 hnil hf2 hl2 c6;have H':=aM h;clear h;have hfz:w.frozen? ⟨rb b.toNat,(rd p b).toNat,none⟩=false:=Za (HT.out.hr b.toNat (by omega)) _
       go_enter Try.func85,Try.ntmps85
       go_wp2_with (fail)
       have hS:=HT.out.set_rep c1 c5 c3 c4 HP.out;generalize hwq:w.setCell ⟨rb b.toNat,(rd p b).toNat,none⟩ (Value.slice (some ad) p.length c0)=wq at hS⊢;clear hwq;have HTq:=aM hS.1;have HKq:=aM hS.2.1;have HFq:=aM hS.2.2;clear hS hx1 hx2 hx3 hfz hq
       go_loopg [7] k (fun kq v7 w'=>∃(T1:Tw) (j:Int) (vr1:Nat→Nat→Value) (vg1:Nat→Value),v7= .int .i64 j∧Aside0 (0≤j)∧Aside0 (visitLoop kq T1 p b j=some T')∧Aside0 (kq≤k)∧Aside0 (TwAt base w' bt bR bG rb vr1 vg1 T1)∧Aside0 (Keep base w w')∧Aside0 (TwFr T.n rb bG vg w vg1 w')∧Aside0 (T1.n=T.n))
       case atStart=>exact⟨_,0,_,_,rfl,⟨by omega⟩,H',⟨Nat.le_refl _⟩,HTq,HKq,HFq,⟨rfl⟩⟩
       case round =>
        clear H' HTq HKq HFq;obtain⟨T1,j,vr1,vg1,rfl,HJ0,HA,HK1,HT1,HKe,HFe,HN1⟩:=hrel
        cases gk with
        |zero=>exact absurd HA.out (by simp[visitLoop])
        | succ k1=>
         have H:=HA.out;clear HA;simp only[visitLoop] at H;have j0:=HJ0.out;have hy1:=HT1.out.cell2
         by_cases d1:b<(T1.n:Int)
         ·rw [if_pos d1] at H;have hy2:=HT1.out.cellG c1 d1;have q1:=eq_true d1;obtain⟨inner,ho,hin⟩:=HT1.out.hg b.toNat (by omega);have hgen:T1.gens.getD b.toNat []=T1.gen b:=rfl;rw[hgen] at ho hin;clear hgen
          by_cases d2:j<((T1.gen b).length:Int)
          ·rw [if_pos d2] at H;have q0:=eq_true j0;have q2:=eq_true d2;have q2b:decide (j<((T1.gen b).length:Int))=true:=dT d2;obtain⟨g,cap,hvg,hgb,hgl⟩:=ho.form (show 0<(T1.gen b).length by omega);have hmax:(T1.gen b).length≤9223372036854775807:=own_max ho;obtain⟨u,hu,hfu⟩:=hin j.toNat (Zp (T1.gen b) j) (by simp[Zp,List.getD_eq_getElem?_getD,List.getElem?_eq_getElem (show j.toNat<(T1.gen b).length by omega)]);have hy3:=ho.cells (g:=g) (by rw[hvg];rfl) j.toNat u hu;rw[Z3] at hy3;obtain⟨Au,cu,rfl,hlu,hru⟩:=hfu.reads;have hvg':vg1 b.toNat= .slice (some ⟨g,0,none⟩) (T1.gen b).length cap:=hvg;rw[hvg'] at hy2;have HRu:=aM hru;have HLu:=aM hlu;clear hvg hvg' hru hlu hfu hu hin ho hgb hgl;replace H:=oB H;obtain⟨q,hq1,H⟩:=H;replace H:=oB H;obtain⟨T2,hq2,H⟩:=H;have H':=aM H;have Hq1:=aM hq1;have Hq2:=aM hq2;clear H hq1 hq2
           go_wp2_with (first
            |(go_at_call 50;(with_reducible refine(perm_then.calls k1 _ _ p _ _ (Zp (T1.gen b) j) q _ ?s1 ?s2 ?s3 ?s4 Hq1.out).mono ?_);(case s1=>exact(HP.out.keep HKe.out).leaf.C.1);(case s2=>exact HC.out);(case s3=>exact HRu.out);(case s4=>exact HLu.out);rintro e w4 ⟨v4,rfl,ho4,hb4⟩;have HLf:=aM (LeafN.of_R (base:=base) ho4 HT1.out.base_le (by rw[←List.length_pos_iff,then_len Hq1.out];omega));obtain⟨A4,c4,rfl,hl4,hr4⟩:=Kd.R_reads ho4;have HT4:=aM (HT1.out.below hb4);have HK4:=aM (HKe.out.trans (Keep.of_below HT1.out.base_le hb4));have HF4:=aM (HFe.out.trans (TwFr.of_below hb4));clear ho4 hb4 hr4 hl4)
            |(go_at_call 85;(with_reducible refine(IHV.out k1 zz163 A4 c4 q b T2 _ HT4.out HLf.out Hq2.out).mono ?_);rintro e w5 ⟨rfl,vr5,vg5,hT5,hK5,hF5,hn5⟩;have HT5:=aM hT5;have HK5:=aM (HK4.out.trans hK5);have HF5:=aM (HF4.out.trans (HN1.out▸hF5));have HN5:=aM (hn5.trans HN1.out);clear hT5 hK5 hF5 hn5))
           go_roundg k1
           case measure=>have:=HK1.out;omega
           case rel=>exact⟨T2,j+1,vr5,vg5,rfl,⟨by have:=HJ0.out;omega⟩,H',⟨by have:=HK1.out;omega⟩,HT5,HK5,HF5,HN5⟩
          rw[if_neg d2] at H;obtain rfl:=oI H;have q2b:decide (j<((T1.gen b).length:Int))=false:=dF d2;obtain⟨Ag,cg,hvg⟩:=own_slice ho;rw[hvg] at hy2;have q0:=eq_true j0;clear hvg;go_wp2
          go_end0
          exact⟨rfl,vr1,vg1,HT1.out,HKe.out,HFe.out,HN1.out⟩
         rw[if_neg d1] at H;cases H
      rw[if_neg c6] at h;replace h:=oB h;obtain⟨i1,hi1,h⟩:=h;replace h:=oB h;obtain⟨q,hq1,h⟩:=h;obtain⟨A2,c2',hv,hl2,hC2⟩:=hL.reads;obtain⟨ad2,rfl⟩:=C_some hC2 c6;rw[hv] at hx3;have hq:=fun W=>Z8 W (some ad2) (T.rep b (rd p b)).length c2'
      have Hi:=aM hi1;have Hq1:=aM hq1;have H':=aM h;have HC2:=aM hC2;have HL2:=aM hl2;clear hv c6 h hi1 hq1 hC2 hl2 hL
      go_enter Try.func85,Try.ntmps85
      go_wp2_with (first
       |(go_at_call 55;(with_reducible refine(perm_inverse.calls k _ _ (T.rep b (rd p b)) i1 _ ?s1 ?s2 Hi.out).mono ?_);(case s1=>exact HC2.out);(case s2=>exact HL2.out);rintro e w3 ⟨v3,rfl,ho3,hb3⟩;obtain⟨A3,c3',rfl,hl3,hr3⟩:=Kd.R_reads ho3;have HR3:=aM hr3;have HL3:=aM hl3;have HB3:=aM hb3;have HQ3:=aM (Kd.C_below HR.out hb3);clear ho3 hb3 hr3 hl3)
       |(go_at_call 50;(with_reducible refine(perm_then.calls k _ _ p _ _ i1 q _ ?s1 ?s2 ?s3 ?s4 Hq1.out).mono ?_);(case s1=>exact HQ3.out);(case s2=>exact HC.out);(case s3=>exact HR3.out);(case s4=>exact HL3.out);rintro e w4 ⟨v4,rfl,ho4,hb4⟩;have HLf:=aM (Leaf.of_R (base:=base) ho4 (by rw[←List.length_pos_iff,then_len Hq1.out];omega));obtain⟨A4,c4',rfl,hl4,hr4⟩:=Kd.R_reads ho4;have HB4:=aM (Ze HB3.out hb4);have HT4:=aM (HT.out.below HB4.out);have HK4:=aM (Keep.of_below HT.out.base_le HB4.out);have HF4:=aM (TwFr.of_below (n:=T.n) (rb:=rb) (bG:=bG) (vg:=vg) HB4.out);clear ho4 hb4 hr4 hl4)
       |(go_at_call 61;(with_reducible refine(IHI.out k (Nat.le_refl _) A4 c4' q (b+1) T' _ HT4.out HLf.out H'.out).mono ?_);rintro e w5 ⟨rfl,vr5,vg5,hT5,hK5,hF5,hn5⟩;have HT5:=aM hT5;have HK5:=aM (HK4.out.trans hK5);have HF5:=aM (HF4.out.trans hF5);have HN5:=aM hn5;clear hT5 hK5 hF5 hn5))
      go_end0
      exact⟨rfl,vr5,vg5,HT5.out,HK5.out,HF5.out,HN5.out⟩
     rw[if_neg c5] at h;cases h
    rw[if_neg c4] at h;cases h
   rw[if_neg c3] at h;cases h
  rw[if_neg c2] at h;cases h
 rw[if_neg c1] at h;cases h
def bestL:Nat→Tw→Int→List Int→Int→Int→Option Int
 |0,_,_,_,_,_=>none
 |k+1,T,c,p,x,best=>if x<T.n then(if T.rep c x= [] then bestL k T c p (x+1) best else(if x<(p.length:Int) then(if 0≤best then(if best<(p.length:Int) then(if rd p x<rd p best then bestL k T c p (x+1) x else bestL k T c p (x+1) best) else none) else none) else none)) else some best
def canonL:Nat→Tw→List Int→Int→Option (List Int)
 |0,_,_,_=>none
 |k+1,T,p,c=>if c<T.n then(if 0≤c then((bestL k T c p 0 c).bind fun best=>if 0≤best then(if best<T.n then((perm_then.f k (T.rep c best) p).bind fun q=>canonL k T q (c+1)) else none) else none) else none) else some p
def LeafOk (ok:Nat→Prop) (w:World) (v:Value) (l:List Int):Prop:=∃A c,v= .slice A l.length c∧l.length≤c∧Kd.F (Kd.int .i64) w ok A l.length l
theorem LeafOk.below {ok:Nat→Prop} {w w1:World} {v:Value} {l:List Int} (h:LeafOk ok w v l) (hb:Below w.heap.size w w1):LeafOk ok w1 v l:=by
 obtain⟨A,c,rfl,hl,hf⟩:=h
 exact⟨A,c,rfl,hl,Kd.F_below hf hb⟩
theorem LeafOk.mono {ok ok':Nat→Prop} {w:World} {v:Value} {l:List Int} (h:LeafOk ok w v l) (hk:∀k,ok k→ok' k):LeafOk ok' w v l:=by
 obtain⟨A,c,rfl,hl,hf⟩:=h
 exact⟨A,c,rfl,hl,Kd.F_mono hf hk⟩
theorem LeafOk.C {ok:Nat→Prop} {w:World} {A:Option Addr} {c:Nat} {l:List Int} (h:LeafOk ok w (.slice A l.length c) l):(Kd.int .i64).C w A l.length l∧l.length≤c:=by
 obtain⟨A',c',e,hl,hr⟩:=h
 injection e with ea eb ec
 subst ea ec
 exact⟨Kd.F_now hr,hl⟩
theorem LeafOk.of_R {b:Nat} {w:World} {ok:Nat→Prop} {v:Value} {l:List Int} (h:(Kd.int .i64).R 3 w b ok v l):LeafOk (fun k=>b≤k) w v l:=by
 obtain⟨A,c,rfl,hc,hr⟩:=Kd.R_reads h
 exact⟨A,c,rfl,hc,Kd.F_mono (Kd.R_F (Kd.R_bound h)) (fun k hk=>hk.2.1)⟩
theorem LeafN.ok {base:Nat} {w:World} {v:Value} {l:List Int} (h:LeafN base w v l):LeafOk (fun k=>base≤k∧k<w.heap.size) w v l:=by
 obtain⟨A,c,rfl,hl,hf,_⟩:=h
 exact⟨A,c,rfl,hl,Kd.F_mono (Kd.F_bound hf) (fun k hk=>⟨hk.1.1,hk.2⟩)⟩
def CanonPost (okp:Nat→Prop) (w:World) (r:List Int) (e:Ending) (w':World):Prop:=∃v,e= .returned v∧LeafOk (fun k=>okp k∨w.heap.size≤k) w' v r∧Below w.heap.size w w'
theorem canon_calls {base:Nat} {bt bR bG:Nat} {rb:Nat→Nat} {vr:Nat→Nat→Value} {vg:Nat→Value} {T:Tw} (k:Nat) (A0:Option Addr) (c0:Nat) (p:List Int) (b:Int) (r:List Int) (w:World)
    (okp:Nat→Prop) (hT:TwAt base w bt bR bG rb vr vg T) (hp:LeafOk okp w (.slice A0 p.length c0) p) (hb0:0≤b) (hb1:b<T.n) (h:canonL k T p (b+1)=some r):
    Calls Try.prog 86 #[.pointer (some ⟨bt,0,none⟩),.slice A0 p.length c0,.int .i64 b] w (CanonPost okp w r):=by
 have HT:=aM hT
 have HP:=aM (hp.mono (ok':=fun k=>okp k∨w.heap.size≤k) (fun k hk=> .inl hk))
 have H':=aM h
 have HB:=aM (Below.refl w.heap.size w)
 have hn64:=hT.n64
 clear hT hp h
 go_enter Try.func86,Try.ntmps86
 go_wp2
 go_loopg [1,7] k (fun kq v1 v7 w'=>∃(q:List Int) (A1:Option Addr) (c1:Nat) (c:Int),v1= .slice A1 q.length c1∧v7= .int .i64 c∧Aside0 (0≤c)∧Aside0 (canonL kq T q c=some r)∧Aside0 (kq≤k)∧Aside0 (LeafOk (fun k=>okp k∨w.heap.size≤k) w' (.slice A1 q.length c1) q)∧Aside0 (Below w.heap.size w w'))
 case atStart=>exact⟨p,A0,c0,b+1,rfl,rfl,⟨by omega⟩,H',⟨Nat.le_refl _⟩,HP,HB⟩
 case round =>
  clear H' HB HP hb0 hb1;obtain⟨q,A1,c1,c,rfl,rfl,HC0,HA,HK1,HP,HB⟩:=hrel;obtain⟨wo,rfl⟩:∃wo:World,wo=wr:=⟨_,rfl⟩
  cases gk with
  |zero=>exact absurd HA.out (by simp[canonL])
  | succ k1=>
   have H:=HA.out;clear HA;simp only[canonL] at H;have HTr:=aM (HT.out.below HB.out);have hx0:=HTr.out.cell0;have c0':=HC0.out;have HR:=aM HP.out.C.1;have HC:=aM HP.out.C.2
   by_cases d1:c<(T.n:Int)
   ·rw [if_pos d1, if_pos c0'] at H;have d1b:decide (c<(T.n:Int))=true:=dT d1;have p0:=eq_true c0';have p1:=eq_true d1;replace H:=oB H;obtain⟨best,hbest,H⟩:=H;have HH:=aM H;have HBE:=aM hbest;have hx1:=HTr.out.cell1;have hx2:=HTr.out.cellR c0' d1;have hn1:=HTr.out.n1;clear H hbest;go_wp2
    go_loopg [8,30] k1 (fun kq v8 v30 w'=>∃(x be:Int),v8= .int .i64 be∧v30= .int .i64 x∧Aside0 (0≤x)∧Aside0 (bestL kq T c q x be=some best)∧Aside0 (kq≤k1)∧Aside0 (Drawn0 wo w'))
    case atStart=>exact⟨0,c,rfl,rfl,⟨by omega⟩,HBE,⟨Nat.le_refl _⟩,⟨Drawn0.refl _⟩⟩
    case round =>
     clear HBE hx0 hx1 hx2;obtain⟨x,be,rfl,rfl,HX0,HA,HK2,HD⟩:=hrel
     cases gk with
     |zero=>exact absurd HA.out (by simp[bestL])
     | succ k2=>
      have H:=HA.out;clear HA;simp only[bestL] at H;have x0:=HX0.out;have HTw:=aM (HTr.out.below HD.out.below);have HRw:=aM (Kd.C_below HR.out HD.out.below)
      by_cases e1:x<(T.n:Int)
      ·rw [if_pos e1] at H;have e1b:decide (x<(T.n:Int))=true:=dT e1;have q0:=eq_true x0;have q1:=eq_true e1;have hy3:=HTw.out.cellr c0' d1 x0 e1;have hL:=HTw.out.leafr c0' d1 x0 e1
       by_cases e2:T.rep c x= []
       ·rw[if_pos e2] at H;obtain⟨A2,c2',hv,hl2,hf2,hnil⟩:=hL;have hv0:=hnil e2;rw[hv0] at hy3;have hq:=fun W=>Z8 W none 0 0
        have H':=aM H;clear hv hv0 hnil hf2 hl2 e2 H;go_wp2
        go_quiet (fail)
        go_wp2
        go_roundg k2
        case measure=>omega
        case rel=>exact⟨x+1,be,rfl,rfl,⟨by have:=HX0.out;omega⟩,H',⟨by have:=HK2.out;omega⟩,⟨HD.out.step _⟩⟩
       ·rw [if_neg e2] at H;obtain⟨A2,c2',hv,hl2,hC2⟩:=hL.reads;obtain⟨ad2,rfl⟩:=C_some hC2 e2;rw[hv] at hy3;have hq:=fun W=>Z8 W (some ad2) (T.rep c x).length c2'
        clear hv hl2 hC2 e2 hL
        by_cases e3:x<(q.length:Int)
        ·rw [if_pos e3] at H
         by_cases e4:0≤be
         ·rw [if_pos e4] at H
          by_cases e5:be<(q.length:Int)
          ·rw [if_pos e5] at H;obtain⟨ad,ea,hz1⟩:=Kd.at_int HRw.out x x0 e3
           cases ea;obtain⟨ad',ea,hz2⟩:=Kd.at_int HRw.out be e4 e5;injection ea with ea
           subst ea;have q3:=eq_true e3;have q4:=eq_true e4;have q5:=eq_true e5
           by_cases e6:rd q x<rd q be
           ·rw[if_pos e6] at H;have e6b:decide (rd q x<rd q be)=true:=dT e6;have H':=aM H;clear H e6;go_wp2
            go_quiet (fail)
            go_wp2
            go_roundg k2
            case measure=>omega
            case rel=>exact⟨x+1,x,rfl,rfl,⟨by have:=HX0.out;omega⟩,H',⟨by have:=HK2.out;omega⟩,⟨HD.out.step _⟩⟩
           ·rw[if_neg e6] at H;have e6b:decide (rd q x<rd q be)=false:=dF e6;have H':=aM H;clear H e6;go_wp2
            go_quiet (fail)
            go_wp2
            go_roundg k2
            case measure=>omega
            case rel=>exact⟨x+1,be,rfl,rfl,⟨by have:=HX0.out;omega⟩,H',⟨by have:=HK2.out;omega⟩,⟨HD.out.step _⟩⟩
          ·rw[if_neg e5] at H;cases H
         ·rw[if_neg e4] at H;cases H
        ·rw[if_neg e3] at H;cases H
      ·rw [if_neg e1] at H;obtain rfl:=oI H;have e1b:decide (x<(T.n:Int))=false:=dF e1;have H:=HH.out
       by_cases f1:0≤be
       ·rw [if_pos f1] at H
        by_cases f2:be<(T.n:Int)
        ·rw [if_pos f2] at H;replace H:=oB H;obtain⟨q2,hq2,H⟩:=H
         ·
          have H':=aM H;have Hq2:=aM hq2;have hx1:=HTw.out.cell1;have hx2:=HTw.out.cellR c0' d1;have hx3:=HTw.out.cellr c0' d1 f1 f2;obtain⟨A2,c2',hv,hl2,hC2⟩:=(HTw.out.leafr c0' d1 f1 f2).reads;rw[hv] at hx3;have HC2:=aM hC2;have HL2:=aM hl2;have q1:=eq_true f1;have q2':=eq_true f2;clear H hq2 hv hC2 hl2
          go_wp2_with (first
           |(go_at_call 50;(with_reducible refine(perm_then.calls k1 _ _ (T.rep c be) _ _ q q2 _ ?s1 ?s2 ?s3 ?s4 Hq2.out).mono ?_);(case s1=>exact HC2.out);(case s2=>exact HL2.out);(case s3=>exact HRw.out);(case s4=>exact HC.out);rintro e w7 ⟨v7,rfl,ho7,hb7⟩;have HLf:=aM ((LeafOk.of_R ho7).mono (ok':=fun k=>okp k∨w.heap.size≤k) (fun k hk=> .inr (Nat.le_trans (Nat.le_trans HB.out.size HD.out.below.size) hk)));obtain⟨A7,c7,rfl,hl7,hr7⟩:=Kd.R_reads ho7;have HB7:=aM (Ze (ZQ HB.out HB.out.size HD.out.below) hb7);clear ho7 hb7 hr7 hl7))
          go_roundg k1
          case measure=>omega
          case rel=>exact⟨q2,A7,c7,c+1,rfl,rfl,⟨by have:=HC0.out;omega⟩,H',⟨by have:=HK1.out;omega⟩,HLf,HB7⟩
        ·rw[if_neg f2] at H;cases H
       ·rw[if_neg f1] at H;cases H
   ·rw[if_neg d1] at H;obtain rfl:=oI H;have d1b:decide (c<(T.n:Int))=false:=dF d1;go_wp2;go_ret
    exact⟨_,rfl,HP.out,HB.out⟩
def levelL:Nat→Tw→Int→Int→List Int→List (List Int)→Option (List Int×List (List Int))
 |0,_,_,_,_,_=>none
 |k+1,T,b,x,orb,reps=>if x<T.n then(if T.rep b x= [] then levelL k T b (x+1) orb reps else(canonL k T (T.rep b x) (b+1)).bind fun q=>levelL k T b (x+1) (orb++ [x]) (reps++ [q])) else some (orb,reps)
def chainL:Nat→Tw→Int→List S74→Option (List S74)
 |0,_,_,_=>none
 |k+1,T,b,lv=>if b<T.n then(levelL k T b 0 [] []).bind fun z=>chainL k T (b+1) (if 1<z.1.length then lv++ [⟨b,z.1,z.2⟩] else lv) else some lv
def ChainPost (base:Nat) (w:World) (n:Nat) (r:List S74) (e:Ending) (w':World):Prop:=∃v,e= .returned (.agg #[.int .i64 n,v])∧Kd.N k74 74 w' w.heap.size (fun k=>base≤k) v r∧Below w.heap.size w w'
structure ChO (base:Nat) (w W:World) (gres gout n:Nat) (vL:Value) (lv:List S74):Prop where
 lt1:w.heap.size≤gres
 lt2:gres<gout
 bres:W.heap[gres]? =some (Obj.cells #[.int .i64 0,.slice none 0 0] 46 (0,0))
 bout:W.heap[gout]? =some (Obj.cells #[.int .i64 n,vL] 46 (0,0))
 hN:Kd.N k74 74 W w.heap.size (fun k=>base≤k∧k≠gres∧k≠gout) vL lv
 hb:Below w.heap.size w W
structure ChI (base ws:Nat) (W0 W:World) (gl:Nat) (b:Int) (vO vR:Value) (orb:List Int) (reps:List (List Int)):Prop where
 lt:W0.heap.size≤gl
 lw:ws≤gl
 bl:W.heap[gl]? =some (Obj.cells #[.int .i64 b,vO,vR] 74 (0,0))
 hO:Kd.R (Kd.int .i64) 3 W (gl+1) (fun _=>True) vO orb
 hR:Kd.N (Kd.slice 3 (Kd.int .i64)) 22 W (gl+1) (fun k=>(base≤k∧(k<ws∨gl<k))∧some k≠vO.ownBlock) vR reps
 hb:Below W0.heap.size W0 W
theorem ChI.start {base ws:Nat} {W0 W1:World} {gl:Nat} {b:Int} (hg:gl=W0.heap.size) (hbox:W1.heap[gl]? =some (Obj.cells #[.int .i64 0,.slice none 0 0,.slice none 0 0] 74 (0,0))) (hb:Below W0.heap.size W0 W1) (hw:ws≤W0.heap.size):
    ChI base ws W0 (((W1.setCell ⟨gl,0,none⟩ (.int .i64 b)).setCell ⟨gl,1,none⟩ (.slice none 0 0)).setCell ⟨gl,2,none⟩ (.slice none 0 0)) gl b (.slice none 0 0) (.slice none 0 0) [] []:=
 have hge:W0.heap.size≤gl:=by omega
 ⟨hge,by omega,ZI (ZI (ZI hbox 0 _ rfl) 1 _ rfl) 2 _ rfl,Kd.R_nil _ _ _ _ _,Kd.N_nil _ _ _ _ _,((hb.setCell hge _).setCell hge _).setCell hge _⟩
theorem R_other {w w1:World} {b t:Nat} {ok:Nat→Prop} {v:Value} {xs:List Int} {row:Option Nat} (h:Kd.R (Kd.int .i64) 3 w b ok v xs) (ht:∀k,row=some k→∃cells,w.heap[k]? =some (Obj.cells cells t (0,0))) (hne:t≠3) (hg:w.grownBy w1 row):Kd.R (Kd.int .i64) 3 w1 b ok v xs:=by
 refine Kd.R_mono (Kd.R_step (Kd.R_bound h) (fun k hk hlt=>hg.block k hlt (fun e=> ?_))) (fun k hk=>hk.1)
 obtain⟨_,_,_,q,hq,cells,hc⟩:=hk
 obtain⟨cells',hc'⟩:=ht k e.symm
 have:q=3:=by
  rcases List.mem_cons.1 hq with h1|h1
  ·exact h1
  ·exact absurd h1 zz161
 subst this
 exact ZP hc hc' (Ne.symm hne) rfl
theorem R_set_other {w:World} {b t g j:Nat} {ok:Nat→Prop} {v u:Value} {xs:List Int} {cells:Array Value} (h:Kd.R (Kd.int .i64) 3 w b ok v xs) (hb:w.heap[g]? =some (Obj.cells cells t (0,0))) (hne:t≠3):Kd.R (Kd.int .i64) 3 (w.setCell ⟨g,j,none⟩ u) b ok v xs:=
 Kd.R_set h hb (fun q hq=>by
  rcases List.mem_cons.1 hq with h1|h1
  ·exact fun e=>hne (e.symm.trans h1)
  ·exact absurd h1 zz161) j u
theorem ChI.pushO {base ws:Nat} {W0 W w1:World} {gl:Nat} {b x:Int} {vO vR v1:Value} {orb:List Int} {reps:List (List Int)} (h:ChI base ws W0 W gl b vO vR orb reps)
    (ho:Kd.R (Kd.int .i64) 3 w1 (gl+1) (fun _=>True) v1 (orb++ [x])) (hg:W.grownBy w1 vO.ownBlock) (hat:v1.ownBlock=vO.ownBlock∨∃g,v1.ownBlock=some g∧W.heap.size≤g):
    ChI base ws W0 (w1.setCell ⟨gl,1,none⟩ v1) gl b v1 vR (orb++ [x]) reps:=by
 have hty:∀k,vO.ownBlock=some k→∃cells,W.heap[k]? =some (Obj.cells cells 3 (0,0)):=fun k hk=>Kd.R_typed h.hO k hk
 have hbl1:w1.heap[gl]? =some (Obj.cells #[.int .i64 b,vO,vR] 74 (0,0)):=(hg.block gl (lt_of_some h.bl) (fun e=>by
  obtain⟨cs,hc⟩:=hty gl e.symm
  exact ZP h.bl hc (by decide) rfl)).trans h.bl
 refine⟨h.lt,h.lw,ZI hbl1 1 _ rfl,R_set_other ho hbl1 (by decide),?_,?_⟩
 ·exact Kd.N_far (Kd.N_after h.hR hg hat) (p:=⟨gl,1,none⟩) (fun k hk=>by
     show k≠gl
     have:=h.lw;have h2:=hk.1.2;omega) _
 ·refine Below.setCell ?_ h.lt _
  exact h.hb.trans ⟨hg.os,hg.tape,hg.output,hg.size,fun k hk=>hg.block k (Nat.lt_of_lt_of_le hk h.hb.size) (fun e=>by
   have:=Kd.R_base h.hO k e.symm;have:=h.lt;omega)⟩
theorem ChI.below {base ws:Nat} {W0 W W1:World} {gl:Nat} {b:Int} {vO vR:Value} {orb:List Int} {reps:List (List Int)} (h:ChI base ws W0 W gl b vO vR orb reps) (hb:Below W.heap.size W W1):ChI base ws W0 W1 gl b vO vR orb reps:=
 ⟨h.lt,h.lw,Zg h.bl hb,Kd.R_below h.hO hb,Kd.N_below h.hR hb,ZQ h.hb h.hb.size hb⟩
theorem N_slice_form {α:Type} {d:Kd α} {e base:Nat} {w:World} {ok:Nat→Prop} {v:Value} {xs:List α} (h:Kd.N d e w base ok v xs):∃A c,v= .slice A xs.length c:=by
 obtain⟨_,rows,hl,hR,_⟩:=h
 obtain⟨A,c,e,_⟩:=Kd.R_reads hR
 exact⟨A,c,by rw[e,hl]⟩
theorem ChI.okp_ok {base ws:Nat} {W0 W:World} {gl:Nat} {b:Int} {vO vR:Value} {orb:List Int} {reps:List (List Int)} (h:ChI base ws W0 W gl b vO vR orb reps) (hb:base≤ws) (k:Nat)
    (hk:(base≤k∧k<ws)∨W.heap.size≤k):((base≤k∧(k<ws∨gl<k))∧some k≠vO.ownBlock)∧some k≠vR.ownBlock:=by
 have h1:=h.lw
 have h2:=lt_of_some h.bl
 have e1:∀j,vO.ownBlock=some j→gl+1≤j∧j<W.heap.size:=fun j hj=>⟨Kd.R_base h.hO j hj,Kd.R_lt h.hO j hj⟩
 have e2:∀j,vR.ownBlock=some j→gl+1≤j∧j<W.heap.size:=fun j hj=>⟨Kd.N_base h.hR j hj,Kd.N_lt h.hR j hj⟩
 refine⟨⟨⟨by omega,by omega⟩,fun e=> ?_⟩,fun e=> ?_⟩
 ·have:=e1 k e.symm;omega
 ·have:=e2 k e.symm;omega
theorem ChI.pushR {base ws:Nat} {W0 W w1:World} {gl:Nat} {b:Int} {vO vR v1:Value} {orb:List Int} {reps:List (List Int)} {q:List Int} (h:ChI base ws W0 W gl b vO vR orb reps)
    (ho:Kd.N (Kd.slice 3 (Kd.int .i64)) 22 w1 (gl+1) (fun k=>(base≤k∧(k<ws∨gl<k))∧some k≠vO.ownBlock) v1 (reps++ [q])) (hg:W.grownBy w1 vR.ownBlock):
    ChI base ws W0 (w1.setCell ⟨gl,2,none⟩ v1) gl b vO v1 orb (reps++ [q]):=by
 have hty:∀k,vR.ownBlock=some k→∃cells,W.heap[k]? =some (Obj.cells cells 22 (0,0)):=fun k hk=>Kd.N_typed h.hR k hk
 have hbl1:w1.heap[gl]? =some (Obj.cells #[.int .i64 b,vO,vR] 74 (0,0)):=(hg.block gl (lt_of_some h.bl) (fun e=>by
  obtain⟨cs,hc⟩:=hty gl e.symm
  exact ZP h.bl hc (by decide) rfl)).trans h.bl
 refine⟨h.lt,h.lw,ZI hbl1 2 _ rfl,R_set_other (R_other h.hO hty (by decide) hg) hbl1 (by decide),?_,?_⟩
 ·exact Kd.N_far ho (p:=⟨gl,2,none⟩) (fun k hk=>by
     show k≠gl
     have:=h.lw;have h2:=hk.1.2;omega) _
 ·refine Below.setCell ?_ h.lt _
  exact h.hb.trans ⟨hg.os,hg.tape,hg.output,hg.size,fun k hk=>hg.block k (Nat.lt_of_lt_of_le hk h.hb.size) (fun e=>by
   have:=Kd.N_base h.hR k e.symm;have:=h.lt;omega)⟩
theorem ChI.level {base ws:Nat} {W0 W:World} {gl:Nat} {b:Int} {vO vR:Value} {orb:List Int} {reps:List (List Int)} (hb:base≤ws) (h:ChI base ws W0 W gl b vO vR orb reps):
    Kd.FK k74 W (fun k=>base≤k∧(k<ws∨gl<k)) ⟨b,orb,reps⟩ [.int .i64 b,vO,vR]:=by
 obtain⟨A1,c1,rfl,l1,_⟩:=Kd.R_reads h.hO
 obtain⟨A2,c2,rfl⟩:∃A c,vR= .slice A reps.length c:=by
  obtain⟨_,rows,hl,hR,_⟩:=h.hR;obtain⟨A,c,e,_⟩:=Kd.R_reads hR
  exact⟨A,c,by rw[e,hl]⟩
 have l2:=(Kd.N_reads' h.hR).2.1
 have f1:Kd.F (Kd.int .i64) W (fun k=>base≤k∧(k<ws∨gl<k)) A1 orb.length orb:=Kd.F_mono (Kd.R_F (Kd.R_bound h.hO)) (fun k hk=>by have:=hk.2.1;have:=h.lw;exact⟨by omega,by omega⟩)
 have f2:Kd.F (Kd.slice 3 (Kd.int .i64)) W (fun k=>base≤k∧(k<ws∨gl<k)) A2 reps.length reps:=Kd.F_mono (Kd.N_F h.hR) (fun k hk=>hk.1)
 exact k74_mkF W _ ⟨b,orb,reps⟩ l1 f1 l2 f2
theorem ChO.keep {base:Nat} {w W W1:World} {gres gout n:Nat} {vL:Value} {lv:List S74} (h:ChO base w W gres gout n vL lv) (hb:Below W.heap.size W W1):ChO base w W1 gres gout n vL lv:=
 ⟨h.lt1,h.lt2,Zg h.bres hb,Zg h.bout hb,Kd.N_below h.hN hb,ZQ h.hb h.hb.size hb⟩
theorem ChO.push {base:Nat} {w W w1:World} {gres gout n:Nat} {vL v1:Value} {lv:List S74} {x:S74} (h:ChO base w W gres gout n vL lv)
    (ho:Kd.N k74 74 w1 w.heap.size (fun k=>base≤k∧k≠gres∧k≠gout) v1 (lv++ [x])) (hg:W.grownBy w1 vL.ownBlock):
    ChO base w (w1.setCell ⟨gout,1,none⟩ v1) gres gout n v1 (lv++ [x]):=by
 have hne:∀k,k=gres∨k=gout→some k≠vL.ownBlock:=fun k hk e=>by
  have:=h.hN.1 k e.symm
  rcases hk with rfl|rfl
  ·exact this.2.1 rfl
  ·exact this.2.2 rfl
 have e1:=(hg.block gres (lt_of_some h.bres) (hne _ (.inl rfl))).trans h.bres
 have e2:=(hg.block gout (lt_of_some h.bout) (hne _ (.inr rfl))).trans h.bout
 refine⟨h.lt1,h.lt2,ZH e1 (p:=⟨gout,1,none⟩) (by have:=h.lt2;show gres≠gout;omega) _,ZI e2 1 _ rfl,Kd.N_far ho (p:=⟨gout,1,none⟩) (fun k hk=>hk.2.2) _,?_⟩
 refine Below.setCell ?_ (by have:=h.lt1;have:=h.lt2;show w.heap.size≤gout;omega) _
 exact h.hb.trans ⟨hg.os,hg.tape,hg.output,hg.size,fun k hk=>hg.block k (Nat.lt_of_lt_of_le hk h.hb.size) (fun e=>by have:=Kd.N_base h.hN k e.symm;omega)⟩
theorem chain_calls {base:Nat} {bt bR bG:Nat} {rb:Nat→Nat} {vr:Nat→Nat→Value} {vg:Nat→Value} {T:Tw} (k:Nat) (r:List S74) (w:World)
    (hT:TwAt base w bt bR bG rb vr vg T) (h:chainL k T 0 []=some r):
    Calls Try.prog 62 #[.pointer (some ⟨bt,0,none⟩)] w (ChainPost base w T.n r):=by
 have HT:=aM hT
 have H':=aM h
 have hn64:=hT.n64
 have hx0:=hT.cell0
 clear hT h
 go_enter Try.func62,Try.ntmps62
 go_wp2_with (first
  |((with_reducible refine Zr (N:=2) rfl ?_);refine Zx ?hg (N:=2) ?hd (cs:= #[.int .i64 0,.slice none 0 0]) (t:=46) ?hr ?_;(case hd=>rfl);(case hg=>rfl);(case hr=>first|(go_simp;done)|(go_simp;rfl));intro gres hgr w3 hbox3 hb3;have hx03:=(HT.out.below hb3).cell0;have HGR:=aM hgr;have HB3:=aM hb3;have HBX3:=aM hbox3;clear hgr hb3 hbox3)
  |((with_reducible refine Zr (N:=3) rfl ?_);refine Zx ?hg (N:=3) ?hd (cs:= #[.int .i64 0,.slice none 0 0]) (t:=46) ?hr ?_;(case hd=>rfl);(case hg=>rfl);(case hr=>first|(go_simp;done)|(go_simp;rfl));intro gout hgo w4 hbox4 hb4;have hz0:w4.cell? ⟨gout,0,none⟩=some (.int .i64 0):=(Zb hbox4 0).trans rfl;have hz1:w4.cell? ⟨gout,1,none⟩=some (.slice none 0 0):=(Zb hbox4 1).trans rfl;have hf0:=Za hbox4 0;have hf1:=Za hbox4 1;have HT4:=aM (HT.out.below (Ze HB3.out hb4));have hx04:=HT4.out.cell0;have hyx:∀(u v:Value),((w4.setCell ⟨gout,0,none⟩ u).setCell ⟨gout,1,none⟩ v).cell? ⟨bt,0,none⟩=some (.int .i64 T.n):=(fun u v=>(World.cell?_of_block (a:=⟨bt,0,none⟩) ((Below.heap_setCell _ ⟨gout,1,none⟩ v bt zz137).trans (Below.heap_setCell w4 ⟨gout,0,none⟩ u bt zz137))).trans hx04);have HGO:=aM hgo;have HB4:=aM hb4;have HBX4:=aM hbox4;clear hgo hb4 hbox4))
 have hO0:ChO base w ((w4.setCell ⟨gout,0,none⟩ (.int .i64 T.n)).setCell ⟨gout,1,none⟩ (.slice none 0 0)) gres gout T.n (.slice none 0 0) []:=by
  have h1_:=HGR.out;have h2_:=HGO.out;have h3_:=HB3.out.size;have h4_:=lt_of_some HBX3.out
  refine⟨by omega,by omega,?_,ZI (ZI HBX4.out 0 _ rfl) 1 _ rfl,Kd.N_nil _ _ _ _ _,?_⟩
  ·exact ZH (ZH (Zg HBX3.out HB4.out) (p:=⟨gout,0,none⟩) (by show gres≠gout;omega) _) (p:=⟨gout,1,none⟩) (by show gres≠gout;omega) _
  ·exact((Ze HB3.out HB4.out).setCell (by show w.heap.size≤gout;omega) _).setCell (by show w.heap.size≤gout;omega) _
 have HO0:=aM hO0
 clear hO0 hz0 hz1 hf0 hf1 hx04 hyx hx0 hx03 HT4 HB4 HBX4 HBX3 HB3 HGO HGR
 go_loopg [17] k (fun kq v17 w'=>∃(b:Int) (lv:List S74) (vL:Value),v17= .int .i64 b∧Aside0 (0≤b)∧Aside0 (chainL kq T b lv=some r)∧Aside0 (kq≤k)∧Aside0 (ChO base w w' gres gout T.n vL lv)∧Aside0 ((lv.length:Int)≤b))
 case atStart=>exact⟨0,[],_,rfl,⟨by omega⟩,H',⟨Nat.le_refl _⟩,HO0,⟨by simp⟩⟩
 case round =>
  clear H' HO0;obtain⟨b,lv,vL,rfl,HB0,HA,HK1,HCO,HLV⟩:=hrel;obtain⟨wo,rfl⟩:∃wo:World,wo=wr:=⟨_,rfl⟩
  cases gk with
  |zero=>exact absurd HA.out (by simp[chainL])
  | succ k1=>
   have H:=HA.out;clear HA;simp only[chainL] at H;have b0:=HB0.out
   by_cases d1:b<(T.n:Int)
   ·rw [if_pos d1] at H;have d1b:decide (b<(T.n:Int))=true:=dT d1;have p0:=eq_true b0;have p1:=eq_true d1;replace H:=oB H;obtain⟨z,hz,H⟩:=H;have HH:=aM H;have HZ:=aM hz;clear H hz;have HTo:=aM (HT.out.below HCO.out.hb);have hn1:=HTo.out.n1
    go_wp2_with (first
     |((with_reducible refine Zr (N:=5) rfl ?_);refine Zx ?hg (N:=5) ?hd (cs:= #[.int .i64 0,.slice none 0 0,.slice none 0 0]) (t:=74) ?hr ?_;(case hd=>rfl);(case hg=>rfl);(case hr=>first|(go_simp;done)|(go_simp;rfl));intro gl hgl w5 hbox5 hb5;have HI:=aM (ChI.start (base:=base) (ws:=w.heap.size) (b:=b) hgl hbox5 hb5 HCO.out.hb.size);have hz0:w5.cell? ⟨gl,0,none⟩=some (.int .i64 0):=(Zb hbox5 0).trans rfl;have hz1:w5.cell? ⟨gl,1,none⟩=some (.slice none 0 0):=(Zb hbox5 1).trans rfl;have hz2:w5.cell? ⟨gl,2,none⟩=some (.slice none 0 0):=(Zb hbox5 2).trans rfl;have hf0:=Za hbox5 0;have hf1:=Za hbox5 1;have hf2:=Za hbox5 2;have HT5:=aM (HTo.out.below HI.out.hb);have hy1:=HT5.out.cell1;have hy2:=HT5.out.cellR b0 d1;clear hgl hbox5 hb5))
    clear hz0 hz1 hz2 hf0 hf1 hf2 hy1 hy2 HT5;generalize ((w5.setCell ⟨gl,0,none⟩ (.int .i64 b)).setCell ⟨gl,1,none⟩ (.slice none 0 0)).setCell ⟨gl,2,none⟩ (.slice none 0 0)=w6 at HI⊢
    go_loopg [30] k1 (fun kq v30 w'=>∃(x:Int) (orb:List Int) (reps:List (List Int)) (vO vR:Value),v30= .int .i64 x∧Aside0 (0≤x)∧Aside0 (levelL kq T b x orb reps=some z)∧Aside0 (kq≤k1)∧Aside0 (ChI base w.heap.size wo w' gl b vO vR orb reps)∧Aside0 ((orb.length:Int)≤x∧(reps.length:Int)≤x))
    case atStart=>exact⟨0,[],[],_,_,rfl,⟨by omega⟩,HZ,⟨Nat.le_refl _⟩,HI,⟨by simp⟩⟩
    case round =>
     clear HZ HI;obtain⟨x,orb,reps,vO,vR,rfl,HX0,HA,HK2,HI,HLN⟩:=hrel
     cases gk with
     |zero=>exact absurd HA.out (by simp[levelL])
     | succ k2=>
      have H:=HA.out;clear HA;simp only[levelL] at H;have x0:=HX0.out;have HTw:=aM (HTo.out.below HI.out.hb)
      by_cases e1:x<(T.n:Int)
      ·rw [if_pos e1] at H;have e1b:decide (x<(T.n:Int))=true:=dT e1;have q0:=eq_true x0;have q1:=eq_true e1;have hy3:=HTw.out.cellr b0 d1 x0 e1
       by_cases e2:T.rep b x= []
       ·rw[if_pos e2] at H;obtain⟨A2,c2',hv,hl2,hf2,hnil⟩:=HTw.out.leaf b.toNat x.toNat (by omega) (by omega);have hv0:=hnil e2;rw[hv0] at hy3;have hq:=fun W=>Z8 W none 0 0
        have H':=aM H;clear hv hv0 hnil hf2 hl2 e2 H;go_wp2
        go_roundg k2
        case measure=>omega
        case rel=>exact⟨x+1,orb,reps,vO,vR,rfl,⟨by have:=HX0.out;omega⟩,H',⟨by have:=HK2.out;omega⟩,HI,⟨by have:=HLN.out;omega⟩⟩
       ·rw [if_neg e2] at H;have hLN:LeafOk (fun k=>base≤k∧k<w.heap.size) w (vr b.toNat x.toNat) (T.rep b x):=(HT.out.leaf b.toNat x.toNat (by omega) (by omega)).ok;have hLw:=hLN.below (ZQ HCO.out.hb HCO.out.hb.size HI.out.hb);replace H:=oB H;obtain⟨q,hq1,H⟩:=H;have hLw2:=hLw;obtain⟨A2,c2',hv,hl2,hF2⟩:=hLw2;obtain⟨ad2,rfl⟩:=C_some (Kd.F_now hF2) e2;rw[hv] at hy3 hLN;have HLN0:=aM hLN;have hqn:=fun W=>Z8 W (some ad2) (T.rep b x).length c2'
        have H':=aM H;have Hq1:=aM hq1;clear hv hl2 hF2 e2 H hq1 hLN hLw;have hz1:wr.cell? ⟨gl,1,none⟩=some vO:=(Zb HI.out.bl 1).trans rfl;have hzl:=lt_of_some HI.out.bl
        go_wp2_with (first
         |((with_reducible refine ZT (b:= .append) (xs:= #[.tmp 38,.tmp 40]) rfl ?_);at_builtin;refine Kd.R_append (Kd.int .i64) (w0:=wr) (gl+1) rfl (.tmp 38) (.tmp 40) 22 3 (.int .i64 0) 8 rfl Try.underlying22 info3 rfl (by decide) (by omega) vO orb x [.int .i64 x] (fun _=>True) (fun _=>False) rfl rfl ?hp (fun _ h=>h.elim) (fun _ _=>trivial) HI.out.hO (Below.refl _ _) hzl ?hl ?_;(case hp=>exact rfl);(case hl=>have h_:=HLN.out;omega);intro v1 w7 ho7 hb7 hg7 hat7;obtain⟨A7,c7,rfl⟩:=Kd.R_slice ho7;rw[show(orb++ [x]).length=orb.length+1 by simp] at ho7 hat7;have HI7:=aM (HI.out.pushO ho7 hg7 hat7);have hw1:=(hb7.cell (p:=⟨gl,1,none⟩) (Nat.lt_succ_self gl)).trans hz1;have hwf:=(hb7.frozen (p:=⟨gl,1,none⟩) (Nat.lt_succ_self gl)).trans (Za HI.out.bl 1);clear ho7 hb7 hg7 hat7))
        generalize w7.setCell ⟨gl,1,none⟩ (.slice A7 (orb.length+1) c7)=w8 at HI7⊢;clear hw1 hwf hz1 hzl hqn hy3;have HT8:=aM (HT.out.below (below_drew (ZQ HCO.out.hb HCO.out.hb.size HI7.out.hb)));have HL8:=aM (HLN0.out.below (below_drew (ZQ HCO.out.hb HCO.out.hb.size HI7.out.hb)));have hz2:w8.cell? ⟨gl,2,none⟩=some vR:=(Zb HI7.out.bl 2).trans rfl;have hlt:=lt_of_some HI7.out.bl
        have hne:vR.ownBlock≠some gl:=fun e=>by
         have:=Kd.N_base HI7.out.hR gl e;omega
        have HNE:=aM hne;clear hne;have hzf:=Za HI7.out.bl 2
        go_region_law (first
         |(refine Yh (f:=86) Try.func86 ?zhn_ rfl #[.pointer (some ⟨bt,0,none⟩),.slice (some ad2) (T.rep b x).length c2',.int .i64 b] ?zhw_ rfl rfl ?zha_ ?_;(case zhn_=>rfl);(case zhw_=>simp[Region.wanted]);(case zha_=>(try simp only[List.map_toArray,List.map_cons,List.map_nil]);first|done|rfl);refine(canon_calls k2 _ _ (T.rep b x) b q _ (fun k=>base≤k∧k<w.heap.size) HT8.out HL8.out b0 d1 Hq1.out).mono ?_;rintro e w9 ⟨v9,rfl,hl9,hb9⟩;obtain⟨A9,c9,rfl,hl9',hF9⟩:=hl9;have HF9:=aM (And.intro hl9' (And.intro hF9 hb9));have hk2:=(hb9.cell (p:=⟨gl,2,none⟩) hlt).trans hz2;have hkf:=(hb9.frozen (p:=⟨gl,2,none⟩) hlt).trans hzf;have hkz:∀o:Obj,(w9.alloc o).cell? ⟨gl,2,none⟩=some vR:=(fun o=>(((Below.refl w9.heap.size w9).alloc (Nat.le_refl _) o).cell (p:=⟨gl,2,none⟩) (Nat.lt_of_lt_of_le hlt hb9.size)).trans hk2);have hkzf:∀o:Obj,(w9.alloc o).frozen? ⟨gl,2,none⟩=false:=(fun o=>(((Below.refl w9.heap.size w9).alloc (Nat.le_refl _) o).frozen (p:=⟨gl,2,none⟩) (Nat.lt_of_lt_of_le hlt hb9.size)).trans hkf);clear hl9' hF9 hb9;refine⟨_,rfl,?_⟩)
         |(refine Kd.N_append_step (Kd.slice 3 (Kd.int .i64)) (w0:=w9) (gl+1) ?hw_ (.tmp 44) (.tmp 49) 28 22 (.slice none 0 0) 24 rfl Try.underlying28 info22 rfl ?hs_ ?hby_ vR reps q [.slice A9 q.length c9] (fun k=>(base≤k∧(k<w.heap.size∨gl<k))∧some k≠(Value.slice A7 (orb.length+1) c7).ownBlock) (fun k=>(base≤k∧k<w.heap.size)∨w8.drew.heap.size≤k) rfl rfl ?hp_ ?hokp_ ?hfr_ ?hO_ (Below.refl _ _) ?hba_ ?hl_ ?_;(case hw_=>simp[Region.wanted]);(case hs_=>decide);(case hby_=>omega);(case hp_=>exact Kd.FK_slice_mk HF9.out.1 HF9.out.2.1);(case hokp_=>exact fun k hk=>HI7.out.okp_ok HT.out.base_le k hk);(case hfr_=>exact fun k hk=>(HI7.out.okp_ok HT.out.base_le k (.inr (Nat.le_trans HF9.out.2.2.size hk))).1);(case hO_=>exact Kd.N_below (Kd.N_drew HI7.out.hR) HF9.out.2.2);(case hba_=>exact Nat.le_trans hlt HF9.out.2.2.size);(case hl_=>have h_:=HLN.out;omega);intro v10 w10 ho10 hb10 hg10 hat10;obtain⟨A10,c10,rfl⟩:=N_slice_form ho10;rw[show(reps++ [q]).length=reps.length+1 by simp] at ho10 hat10;have HIZ:=aM ((HI7.out.below (Ze (below_drew (Below.refl _ _)) HF9.out.2.2)).pushR ho10 hg10);have hm1:=(hg10.cell_far ⟨gl,2,none⟩ (Nat.lt_of_lt_of_le hlt HF9.out.2.2.size) (Ne.symm HNE.out)).trans hk2;have hmf:=(hg10.frozen_far ⟨gl,2,none⟩ (Nat.lt_of_lt_of_le hlt HF9.out.2.2.size) (Ne.symm HNE.out)).trans hkf;clear ho10 hb10 hg10 hat10))
        all_goals
         clear hk2 hkf hkz hkzf hm1 hmf hz2 hzf hlt HNE HF9 HT8 HL8;go_wp2
         go_roundg k2
         case measure=>omega
         case rel=>exact⟨x+1,orb++ [x],reps++ [q],_,_,rfl,⟨by have:=HX0.out;omega⟩,H',⟨by have:=HK2.out;omega⟩,HIZ,⟨by have h_:=HLN.out;rw[List.length_append,List.length_append,List.length_singleton,List.length_singleton];omega⟩⟩
      ·rw [if_neg e1] at H;obtain rfl:=oI H;have e1b:decide (x<(T.n:Int))=false:=dF e1;have HH1:=HH.out
       by_cases f1:1<orb.length
       ·rw [if_pos f1] at HH1;have H':=aM HH1;clear HH1;have f1b:decide (1<orb.length)=true:=dT f1;obtain⟨A7,c7,hvO⟩:=Kd.R_slice HI.out.hO;subst hvO;have HCw:=aM (HCO.out.keep HI.out.hb);have hz1:wr.cell? ⟨gl,1,none⟩=some (.slice A7 orb.length c7):=(Zb HI.out.bl 1).trans rfl;have hz0:wr.cell? ⟨gl,0,none⟩=some (.int .i64 b):=(Zb HI.out.bl 0).trans rfl;have hz2:wr.cell? ⟨gl,2,none⟩=some vR:=(Zb HI.out.bl 2).trans rfl;have hu1:wr.cell? ⟨gout,1,none⟩=some vL:=(Zb HCw.out.bout 1).trans rfl;have huf:=Za HCw.out.bout 1;have hlo:=lt_of_some HCw.out.bout;have hne:vL.ownBlock≠some gout:=fun e=>(HCw.out.hN.1 gout e).2.2 rfl
        have HNE:=aM hne;clear hne
        have HLV2:=aM (show∀k,(base≤k∧(k<w.heap.size∨gl<k))→(base≤k∧k≠gres∧k≠gout)∧some k≠vL.ownBlock from fun k hk=>by
         have h1:=HCO.out.lt1;have h2:=HCO.out.lt2;have h3:=lt_of_some HCO.out.bout;have h4:=HI.out.lt
         refine⟨⟨hk.1,by omega,by omega⟩,fun e=> ?_⟩;have h5:=Kd.N_base HCO.out.hN k e.symm;have h6:=Kd.N_lt HCO.out.hN k e.symm;omega)
        go_wp2_with (first
         |((with_reducible refine ZT (b:= .append) (xs:= #[.tmp 58,.tmp 60]) rfl ?_);at_builtin;refine Kd.N_append k74 (w0:=wr) w.heap.size rfl (.tmp 58) (.tmp 60) 44 74 (.agg #[(.int .i64 0),(.slice none 0 0),(.slice none 0 0)]) 56 rfl Try.underlying44 info74 rfl (by decide) (by omega) vL lv (⟨b,orb,reps⟩:S74) [.int .i64 b,.slice A7 orb.length c7,vR] (fun k=>base≤k∧k≠gres∧k≠gout) (fun k=>base≤k∧(k<w.heap.size∨gl<k)) rfl rfl (HI.out.level HT.out.base_le) HLV2.out ?yF HCw.out.hN (Below.refl _ _|>.trans ⟨rfl,rfl,rfl,Nat.le_refl _,fun _ _=>rfl⟩) HCw.out.hb.size ?yL ?_;(case yF=>exact fun k hk=>⟨by have h1_:=HT.out.base_le;have h2_:=HCw.out.hb.size;omega,by have h1_:=HCw.out.lt2;omega,by omega⟩);(case yL=>have h_:=HLV.out;omega);intro v10 w10 ho10 hb10 hg10 hat10;obtain⟨A10,c10,rfl⟩:=N_slice_form ho10;rw[show(lv++ [(⟨b,orb,reps⟩:S74)]).length=lv.length+1 by simp] at ho10;have HCZ:=aM (HCw.out.push ho10 hg10);have hm1:=(hg10.cell_far ⟨gout,1,none⟩ hlo (Ne.symm HNE.out)).trans hu1;have hmf:=(hg10.frozen_far ⟨gout,1,none⟩ hlo (Ne.symm HNE.out)).trans huf;clear ho10 hb10 hg10 hat10))
        clear hz1 hz0 hz2 hu1 huf hlo hm1 hmf
        go_roundg k1
        case measure=>omega
        case rel=>exact⟨b+1,_,_,rfl,⟨by have:=HB0.out;omega⟩,H',⟨by have:=HK1.out;omega⟩,HCZ,⟨by have h_:=HLV.out;rw[List.length_append,List.length_singleton];omega⟩⟩
       ·rw[if_neg f1] at HH1;have H':=aM HH1;clear HH1;have f1b:decide (1<orb.length)=false:=dF f1;obtain⟨A7,c7,hvO⟩:=Kd.R_slice HI.out.hO;subst hvO;have HCw:=aM (HCO.out.keep HI.out.hb);have hz1:wr.cell? ⟨gl,1,none⟩=some (.slice A7 orb.length c7):=(Zb HI.out.bl 1).trans rfl;go_wp2
        go_roundg k1
        case measure=>omega
        case rel=>exact⟨b+1,_,_,rfl,⟨by have:=HB0.out;omega⟩,H',⟨by have:=HK1.out;omega⟩,HCw,⟨by have h_:=HLV.out;omega⟩⟩
   ·rw[if_neg d1] at H;obtain rfl:=oI H;have d1b:decide (b<(T.n:Int))=false:=dF d1;obtain⟨A7,c7,hvL⟩:=N_slice_form HCO.out.hN;subst hvL;have hz0:wo.cell? ⟨gout,0,none⟩=some (.int .i64 T.n):=(Zb HCO.out.bout 0).trans rfl;have hz1:wo.cell? ⟨gout,1,none⟩=some (.slice A7 lv.length c7):=(Zb HCO.out.bout 1).trans rfl;have hr0:wo.cell? ⟨gres,0,none⟩=some (.int .i64 0):=(Zb HCO.out.bres 0).trans rfl;have hr1:wo.cell? ⟨gres,1,none⟩=some (.slice none 0 0):=(Zb HCO.out.bres 1).trans rfl;have hrf0:=Za HCO.out.bres 0;have hrf1:=Za HCO.out.bres 1;go_wp2;clear hz0 hz1 hr0 hr1 hrf0 hrf1
    refine bodyPost_ret (results_cell_row rfl _ _ gres 46 #[.int .i64 T.n,.slice A7 lv.length c7] (0,0) _ rfl (ZI (ZI HCO.out.bres 0 _ rfl) 1 _ rfl) Try.underlying46 rfl (by kernel_rfl)) rfl ?_
    refine⟨_,rfl,?_,(HCO.out.hb.setCell HCO.out.lt1 _).setCell HCO.out.lt1 _⟩
    exact Kd.N_mono (Kd.N_far (Kd.N_far HCO.out.hN (p:=⟨gres,0,none⟩) (fun k hk=>hk.2.1) _) (p:=⟨gres,1,none⟩) (fun k hk=>hk.2.1) _) (fun k hk=>hk.1)
theorem TwAt.not_own {base:Nat} {w:World} {bt bR bG:Nat} {rb:Nat→Nat} {vr:Nat→Nat→Value} {vg:Nat→Value} {T:Tw} (h:TwAt base w bt bR bG rb vr vg T) {g:Nat} (hg:w.heap.size≤g):¬Own T.n rb bG vg g:=by
 rintro (⟨i,hi,rfl⟩|rfl|⟨i,hi,ho⟩)
 ·have:=lt_of_some (h.hr i hi);omega
 ·have:=lt_of_some h.hG;omega
 ·obtain⟨inner,h2,_⟩:=h.hg i hi
  have:=own_lt h2 g ho;omega
theorem grown_undrew {w w1:World} {row:Option Nat} (h:w.drew.grownBy w1 row):w.grownBy w1 row:=⟨h.os,h.tape,h.output,h.size,h.block⟩
theorem add_close {base:Nat} {w w3 w4:World} {bt bR bG:Nat} {rb:Nat→Nat} {vr:Nat→Nat→Value} {vg:Nat→Value} {T:Tw} {A0:Option Addr} {c0:Nat} {p:List Int} {b:Int} {inner:List Value} {gg cap:Nat}
    (hT:TwAt base w3 bt bR bG rb vr vg T) (c2:0≤b) (c3:b<T.n) (hP:Leaf base w3 (.slice A0 p.length c0) p) (hK:Keep base w w3) (hF:TwFr T.n rb bG vg w vg w3)
    (hin:∀(j:Nat) (l:List Int),(T.gen b)[j]? =some l→∃v,inner[j]? =some v∧Leaf base w3 v l) (ho:w3.ownsRow base 22 1 (vg b.toNat) (T.gen b).length inner)
    (hown4:w4.ownsRow base 22 1 (.slice (some ⟨gg,0,none⟩) ((T.gen b).length+1) cap) ((T.gen b).length+1) (inner++ [.slice A0 p.length c0]))
    (hgrow:(w3.alloc (.cells #[.slice A0 p.length c0] 22)).drew.grownBy w4 (vg b.toNat).ownBlock) (hat:(vg b.toNat).ownBlock=some gg∨gg=w3.heap.size+1):
    ∃(vr1:Nat→Nat→Value) (vg1:Nat→Value),Aside0 (TwAt base (w4.setCell ⟨bG,b.toNat,none⟩ (.slice (some ⟨gg,0,none⟩) ((T.gen b).length+1) cap)) bt bR bG rb vr1 vg1 (T.addGen b p))∧Aside0 (Keep base w (w4.setCell ⟨bG,b.toNat,none⟩ (.slice (some ⟨gg,0,none⟩) ((T.gen b).length+1) cap)))∧Aside0 (TwFr T.n rb bG vg w vg1 (w4.setCell ⟨bG,b.toNat,none⟩ (.slice (some ⟨gg,0,none⟩) ((T.gen b).length+1) cap))):=by
 have ha:=hT.add_gen (w1:=w4) (v1:= .slice (some ⟨gg,0,none⟩) ((T.gen b).length+1) cap) (inner:=inner) c2 c3 hP hin (by have:=ho.1;simpa using this) hown4 (World.grownBy.trans (World.grownBy_alloc w3 _ _) (grown_undrew hgrow)) (by rcases hat with hat|hat;exact .inl hat.symm;exact .inr ⟨gg,rfl,by omega⟩)
 exact⟨_,_,⟨ha.1⟩,⟨hK.trans ha.2.1⟩,⟨hF.trans ha.2.2⟩⟩
theorem insert_step (k:Nat) (ihv:∀m,m≤k→VisitOk m):InsertOk (k+1):=by
 intro base bt bR bG rb vr vg T A0 c0 p b T' w hT hp h
 have HT:=aM hT
 have HP:=aM hp
 have IHV:=aM ihv
 have HR:=aM hp.C.1
 have HC:=aM hp.C.2
 clear hT ihv hp
 simp only[insertL] at h
 replace h:=oB h
 obtain⟨e1,he1,h⟩:=h
 have He1:=aM he1
 clear he1
 have hx0:=HT.out.cell0
 have hn64:=HT.out.n64
 by_cases c1:e1=(T.n:Int)
 ·rw [if_pos c1] at h
  obtain rfl:=oI h;have c1b:(e1==(T.n:Int))=true:=beq_iff_eq.mpr c1;clear c1 h
  go_enter Try.func61,Try.ntmps61
  go_wp2_with (first
   |(go_at_call 83;(with_reducible refine(strip_calls k _ _ p b e1 _ HT.out HR.out HC.out He1.out).mono ?_);rintro e w3 ⟨v3,rfl,hb3⟩;have HB3:=aM hb3;have hx03:=(HT.out.below hb3).cell0;clear hb3))
  go_end0
  exact⟨rfl,vr,vg,HT.out.below HB3.out,Keep.of_below HT.out.base_le HB3.out,TwFr.of_below HB3.out,rfl⟩
 rw[if_neg c1] at h
 have c1b:(e1==(T.n:Int))=false:=beq_eq_false_iff_ne.mpr c1
 clear c1
 by_cases c2:0≤b
 ·rw [if_pos c2] at h
  by_cases c3:b<(T.n:Int)
  ·rw [if_pos c3] at h
   by_cases c4:(T.gen b).length<1000000
   ·rw [if_pos c4] at h;have p2:=eq_true c2;have p3:=eq_true c3;have H':=aM h;clear h
    go_enter Try.func61,Try.ntmps61
    go_wp2_with (first
     |(go_at_call 83;(with_reducible refine(strip_calls k _ _ p b e1 _ HT.out HR.out HC.out He1.out).mono ?_);rintro e w3 ⟨v3,rfl,hb3⟩;have HB3:=aM hb3;have HT3:=aM (HT.out.below hb3);have HP3:=aM (HP.out.keep (Keep.of_below HT.out.base_le hb3));have hx03:=HT3.out.cell0;clear hb3))
    obtain⟨inner,ho,hin⟩:=HT3.out.hg b.toNat (by omega);have hgen:T.gens.getD b.toNat []=T.gen b:=rfl;rw[hgen] at ho hin;clear hgen;have hy1:=HT3.out.cell2;have hy2:=HT3.out.cellG c2 c3;have hyf:w3.frozen? ⟨bG,b.toNat,none⟩=false:=Za HT3.out.hG _
    have hne1:(vg b.toNat).ownBlock≠some bt:=fun e=>by
     obtain⟨cs,hc⟩:=Ya ho bt e
     exact ZP hc HT3.out.ht (by decide) rfl
    have hne2:(vg b.toNat).ownBlock≠some bG:=fun e=>by
     obtain⟨cs,hc⟩:=Ya ho bG e
     exact ZP hc HT3.out.hG (by decide) rfl
    have hlt1:=lt_of_some HT3.out.ht;have hlt2:=lt_of_some HT3.out.hG;have hyf2:∀o:Obj,(w3.alloc o).drew.frozen? ⟨bG,b.toNat,none⟩=false:=fun o=>(((Below.refl w3.heap.size w3).alloc (Nat.le_refl _) o).frozen (p:=⟨bG,b.toNat,none⟩) hlt2).trans hyf
    have hyc2:∀o:Obj,(w3.alloc o).drew.cell? ⟨bG,b.toNat,none⟩=some (vg b.toNat):=fun o=>(((Below.refl w3.heap.size w3).alloc (Nat.le_refl _) o).cell (p:=⟨bG,b.toNat,none⟩) hlt2).trans hy2
    have HYC:=aM hyc2;have HYD:=aM (show∀o:Obj,(w3.alloc o).drew.cell? ⟨bt,2,none⟩=some (.slice (some ⟨bG,0,none⟩) T.n T.n) from fun o=>(((Below.refl w3.heap.size w3).alloc (Nat.le_refl _) o).cell (p:=⟨bt,2,none⟩) hlt1).trans hy1);have HYF:=aM hyf2;clear hyc2 hyf2;have HO:=aM ho;have HIN:=aM hin;clear ho hin hx0;obtain⟨i0,hi0,hz0,hz1,hz2⟩:=info_parts info22
    go_cut [] (fun wc=>∃(vr1:Nat→Nat→Value) (vg1:Nat→Value),Aside0 (TwAt base wc bt bR bG rb vr1 vg1 (T.addGen b p))∧Aside0 (Keep base w wc)∧Aside0 (TwFr T.n rb bG vg w vg1 wc))
    case first=>
     go_region_law
      ((refine step_append_lies _ (by rfl) _ _ _ (by rfl) base 22 i0 _ 1 24 Try.underlying28 hi0 hz0 hz1 hz2 rfl (by omega) (vg b.toNat) (T.gen b).length inner (by rfl) ((HO.out.alloc _).drew)
          ⟨w3.heap.size,0,none⟩ 1 1 [.slice A0 p.length c0] (by rfl) (by rfl) (World.news_of_block (cs:= #[.slice A0 p.length c0]) (t:=22) (fr:=(0,0)) (heap_alloc_new w3 _)) (by simp[Value.oneCell'])
          (by omega) (by simp only[maxLen];omega) (by omega) (by simp;exact Nat.le_succ_of_le HT3.out.base_le) (w3.heap.size+1) (by simp) ?_;intro gg cap w4 hown4 hgrow hat hlt;have hz2d:=(hgrow.cell_far ⟨bt,2,none⟩ (by simp;omega) (Ne.symm hne1)).trans (HYD.out _);have hz2c:=(hgrow.cell_far ⟨bG,b.toNat,none⟩ (by simp;omega) (Ne.symm hne2)).trans (HYC.out _);have hz2f:=(hgrow.frozen_far ⟨bG,b.toNat,none⟩ (by simp;omega) (Ne.symm hne2)).trans (HYF.out _)))
     all_goals
      have hcl:=add_close HT3.out c2 c3 HP3.out (Keep.of_below HT.out.base_le HB3.out) (TwFr.of_below HB3.out) HIN.out HO.out hown4 hgrow hat;clear hown4 hgrow hat hlt hz2c hz2d hz2f;go_wp2;go_meet
      case rel=>exact hcl
    case rest=>
     obtain⟨vr1,vg1,HT4,HK4,HF4⟩:=hcut;clear hy1 hy2 hyf hne1 hne2 hlt1 hlt2 HYC HYD HYF HO HIN hi0 hz0 hz1 hz2 c1b hx03 HT3 HP3;have hHT4:=HT4.out;have hy1:=hHT4.cell1;have hy2:=hHT4.cellR c2 c3;have hTn:(T.addGen b p).n=T.n:=rfl;rw[hTn] at hy1 hy2
     have HCELL:=aM (show∀(j:Nat) (u:Value),((List.range T.n).map (vr1 b.toNat))[j]? =some u→wc.cell? ⟨rb b.toNat,j,none⟩=some u from fun j u hu=>by
      have:=(Zb (hHT4.hr b.toNat (by rw[hTn];omega)) j).trans (by rw[List.getElem?_toArray]);rw[hTn] at this;rw[this];exact hu)
     have HONE:=aM (show∀v∈(List.range T.n).map (vr1 b.toNat),v.oneCell'=true from fun v hv=>by
      obtain⟨x,hx,rfl⟩:=List.mem_map.1 hv;obtain⟨A,c,hv,_⟩:=hHT4.leaf b.toNat x (by rw[hTn];omega) (by rw[hTn];exact List.mem_range.1 hx);rw[hv];rfl)
     have hn1:=hHT4.n1;rw[hTn] at hn1;clear hHT4 hTn
     go_wp2_with (first
      |(go_at_call 84;(with_reducible refine(clone84_calls (rb b.toNat) T.n ((List.range T.n).map (vr1 b.toNat)) _ (by simp) hn1 hn64 HONE.out HCELL.out).mono ?_);rintro e w5 ⟨g5,c5,rfl,hg5,hlt5,hc5,hb5⟩;have HC5:=aM (And.intro hc5 hb5);have HNO:=aM (show¬Own T.n rb bG vg1 g5 from HT4.out.not_own hg5);have HLT5:=aM hlt5;have HT5:=aM (HT4.out.below hb5);have HK5:=aM (HK4.out.trans (Keep.of_below HT4.out.base_le hb5));have HF5:=aM (HF4.out.trans (TwFr.of_below hb5));clear hc5 hb5 hg5 hlt5))
     clear hy1 hy2 HCELL HONE hn1;have hrow:(T.row b).length=T.n:=HT.out.lrr b.toNat (by omega);have HROW:=aM hrow;have HLEAF:=aM (show∀x:Nat,x<T.n→Leaf base w5 (vr1 b.toNat x) ((T.row b).getD x []) from fun x hx=>(HT4.out.leaf b.toNat x (show b.toNat<T.n by omega) hx).leaf.keep (Keep.of_below HT4.out.base_le (HC5.out.2)));clear hrow
     go_loopg [48] k (fun kq v48 w'=>∃(T1:Tw) (i:Int) (vr2:Nat→Nat→Value) (vg2:Nat→Value),v48= .int .i64 i∧Aside0 (0≤i)∧Aside0 (insertLoop kq T1 (T.row b) p b i=some T')∧Aside0 (kq≤k)∧Aside0 (TwAt base w' bt bR bG rb vr2 vg2 T1)∧Aside0 (Keep base w5 w')∧Aside0 (TwFr T.n rb bG vg1 w5 vg2 w')∧Aside0 (T1.n=T.n))
     case atStart=>exact⟨_,0,_,_,rfl,⟨by omega⟩,H',⟨Nat.le_refl _⟩,HT5,⟨Keep.refl _ _⟩,⟨TwFr.refl⟩,⟨rfl⟩⟩
     case round=>
      clear H';obtain⟨T1,i,vr2,vg2,rfl,HI0,HA,HK1,HT1,HKe,HFe,HN1⟩:=hrel
      cases gk with
      |zero=>exact absurd HA.out (by simp[insertLoop])
      | succ k1=>
       have H:=HA.out;clear HA;simp only[insertLoop] at H;have i0:=HI0.out;have q0:=eq_true i0
       by_cases d1:i<((T.row b).length:Int)
       ·rw [if_pos d1] at H;rw[HROW.out] at d1;have q1:=eq_true d1
        have hy3:wr.cell? ⟨g5,i.toNat,none⟩=some (vr1 b.toNat i.toNat):=by
         have e1:=HFe.out.same g5 HLT5.out HNO.out;have e2:=HC5.out.1 i.toNat (vr1 b.toNat i.toNat) (by rw[List.getElem?_map,List.getElem?_range (by omega)];rfl)
         exact(World.cell?_of_block (a:=⟨g5,i.toNat,none⟩) e1).trans e2
        have hLf:Leaf base wr (vr1 b.toNat i.toNat) (Zp (T.row b) i):=(HLEAF.out i.toNat (by omega)).keep HKe.out
        by_cases d2:Zp (T.row b) i= []
        ·rw[if_pos d2] at H;obtain⟨A2,c2',hv,hl2,hf2,hnil⟩:=hLf;have hv0:=hnil d2;rw[hv0] at hy3;have hq:=fun W=>Z8 W none 0 0
         have H':=aM H;clear hv hv0 hnil hf2 hl2 d2 H;go_wp2
         go_roundg k1
         case measure=>have:=HK1.out;omega
         case rel=>exact⟨T1,i+1,vr2,vg2,rfl,⟨by have:=HI0.out;omega⟩,H',⟨by have:=HK1.out;omega⟩,HT1,HKe,HFe,HN1⟩
        rw[if_neg d2] at H;replace H:=oB H;obtain⟨q,hq1,H⟩:=H;replace H:=oB H;obtain⟨T2,hq2,H⟩:=H;obtain⟨A2,c2',hv,hl2,hC2⟩:=hLf.reads;obtain⟨ad2,rfl⟩:=C_some hC2 d2;have hpos:0<(Zp (T.row b) i).length:=List.length_pos_iff.2 d2;rw[hv] at hy3;have hq:=fun W=>Z8 W (some ad2) (Zp (T.row b) i).length c2'
        have H':=aM H;have Hq1:=aM hq1;have Hq2:=aM hq2;have HC2:=aM hC2;have HL2:=aM hl2;have HPOS:=aM hpos;have HPr:=aM (HP.out.keep (HK5.out.trans HKe.out)).C.1;clear hv d2 H hq1 hq2 hC2 hl2 hLf hpos
        go_wp2_with (first
         |(go_at_call 50;(with_reducible refine(perm_then.calls k1 _ _ (Zp (T.row b) i) _ _ p q _ ?s1 ?s2 ?s3 ?s4 Hq1.out).mono ?_);(case s1=>exact HC2.out);(case s2=>exact HL2.out);(case s3=>exact HPr.out);(case s4=>exact HC.out);rintro e w7 ⟨v7,rfl,ho7,hb7⟩;have HLf:=aM (LeafN.of_R (base:=base) ho7 HT1.out.base_le (by rw[←List.length_pos_iff,then_len Hq1.out];exact HPOS.out));obtain⟨A7,c7,rfl,hl7,hr7⟩:=Kd.R_reads ho7;have HT7:=aM (HT1.out.below hb7);have HK7:=aM (HKe.out.trans (Keep.of_below HT1.out.base_le hb7));have HF7:=aM (HFe.out.trans (TwFr.of_below hb7));clear ho7 hb7 hr7 hl7)
         |(go_at_call 85;(with_reducible refine(IHV.out k1 zz163 A7 c7 q b T2 _ HT7.out HLf.out Hq2.out).mono ?_);rintro e w8 ⟨rfl,vr8,vg8,hT8,hK8,hF8,hn8⟩;have HT8:=aM hT8;have HK8:=aM (HK7.out.trans hK8);have HF8:=aM (HF7.out.trans (HN1.out▸hF8));have HN8:=aM (hn8.trans HN1.out);clear hT8 hK8 hF8 hn8))
        go_roundg k1
        case measure=>have:=HK1.out;omega
        case rel=>exact⟨T2,i+1,vr8,vg8,rfl,⟨by have:=HI0.out;omega⟩,H',⟨by have:=HK1.out;omega⟩,HT8,HK8,HF8,HN8⟩
       rw[if_neg d1] at H;obtain rfl:=oI H;rw[HROW.out] at d1;have q1b:decide (i<(T.n:Int))=false:=dF d1;go_wp2
       go_end0
       exact⟨rfl,vr2,vg2,HT1.out,HK5.out.trans HKe.out,HF5.out.trans HFe.out,HN1.out⟩
   rw[if_neg c4] at h;cases h
  rw[if_neg c3] at h;cases h
 rw[if_neg c2] at h;cases h
theorem vi_ok (k:Nat):VisitOk k∧InsertOk k:=by
 induction k using Nat.strongRecOn with
 | _ k ih=>
  cases k with
  |zero=>exact⟨fun A0 c0 p b T' w _ _ h=>by simp[visitL] at h,fun A0 c0 p b T' w _ _ h=>by simp[insertL] at h⟩
  |succ k=>exact⟨visit_step k (fun m hm=>(ih m (by omega)).1) (fun m hm=>(ih m (by omega)).2),insert_step k (fun m hm=>(ih m (by omega)).1)⟩
end
section
attribute [local go_sem] ZG ZE ZL ZK ZA Zz ZF ZD
def perm_identity.l0:Nat→List Int→Int→Int→Option (List Int)
 |0,_,_,_=>none
 |k+1,x3,x8,x9=>if x9<x8 then(if 0≤x9 then(if x9<(x3.length:Int) then(perm_identity.l0 k (x3.set (x9:Int).toNat x9) x8 (wrap64 (x9+1))) else(none)) else(none)) else(some x3)
def perm_identity.f (k:Nat) (a0:Int):Option (List Int):=if 0≤a0 then(if(a0:Int).toNat≤35184372088832 then((some (List.replicate (a0:Int).toNat 0:List Int)).bind fun y101=>(perm_identity.l0 k y101 (y101.length:Int) 0)) else(none)) else(none)
theorem perm_identity.calls (k:Nat) (a0:Int) (r:List Int) (w:World) (h:perm_identity.f k a0=some r):
    Calls Try.prog 49 #[.int .i64 a0] w fun e w'=>∃v0_:Value,e= .returned (v0_)∧Kd.R (Kd.int .i64) 3 w' w.heap.size (fun _=>True) v0_ r∧Below w.heap.size w w':=by
 have HB:=aM (Below.refl w.heap.size w)
 have H:(if 0≤a0 then(if(a0:Int).toNat≤35184372088832 then((some (List.replicate (a0:Int).toNat 0:List Int)).bind fun y101=>(perm_identity.l0 k y101 (y101.length:Int) 0)) else(none)) else(none))=some r:=h
 clear h
 by_cases c2:0≤a0
 ·rw [if_pos c2] at H
  have c2b0:=eq_true c2;have c2b1:=dT c2;clear c2
  by_cases c3:(a0:Int).toNat≤35184372088832
  ·rw [if_pos c3] at H;have c3b0:=eq_true c3;have c3b1:=dT c3;clear c3;obtain⟨y101,hy101⟩:∃y_:List Int,y_=(List.replicate (a0:Int).toNat 0):=⟨_,rfl⟩;replace H:(perm_identity.l0 k y101 (y101.length:Int) 0)=some r:=by first|(rw[hy101];with_reducible exact H)|(have H2_:=(Option.bind_some _ _).symm.trans H;rw[hy101];with_reducible exact H2_)|(have H2_:=(Option.bind_some _ _).symm.trans H;with_reducible exact H2_)|with_reducible exact H|(rw[hy101];exact H)|exact H
   have Ny101:=aM hy101;clear hy101;have H':=aM H;clear H
   go_enter Try.func49,Try.ntmps49
   go_wp2_with (first|((with_reducible refine Zr (N:=6) rfl ?_);refine Kd.R_make (Kd.int .i64) _ 3 rfl (N:=6) rfl 22 _ _ rfl a0 rfl rfl Try.underlying22 (.int .i64 0) 8 info3 rfl (by decide) (by omega) 0 (ok:=fun _=>True) (okp:=fun _=>True) rfl (fun _ hk=>hk) trivial (oD zz153) (Nat.le_trans (Nat.mul_le_mul_right _ (oD zz153:a0.toNat≤35184372088832)) (by omega)) (Below.refl _ _) (Nat.le_refl _) ?_;intro v102 w4 ho5 hb hg_ hnew_;clear hg_ hnew_;(first|rw[←Ny101.out] at ho5|(simp only[Int.reduceToNat] at ho5;rw[←Ny101.out] at ho5));have HO103:=aM (Kd.R_lower ho5 (Zc zz128));replace HB:=aM (Ze zz128 hb);clear hb ho5;obtain⟨Ao6,co6,eo6⟩:=Kd.R_slice HO103.out;subst eo6))
   go_loopg [9] k (fun kq v9 w'=>∃(x3_1:List Int) (x9_1:Int),v9= .int .i64 x9_1∧Aside0 (perm_identity.l0 kq x3_1 (y101.length:Int) x9_1=some r)∧Aside0 (kq≤k)∧Aside0 (Kd.R (Kd.int .i64) 3 w' w.heap.size (fun _=>True) (.slice Ao6 y101.length co6) x3_1)∧Aside0 (Below w.heap.size w w'))
   case atStart=>exact⟨(y101),(0),zz154,H',⟨Nat.le_refl _⟩,⟨(zR HO103)⟩,⟨zz128⟩⟩
   case round =>
    clear H';(try clear c2);(try clear c2b0);(try clear c2b1);(try clear p2);(try clear c3);(try clear c3b0);(try clear c3b1);(try clear c4);obtain⟨x3_1,x9_1,rfl,HA,HK1,HO_3,HB⟩:=hrel;have hl3_1:=(Kd.R_reads' HO_3.out).1;rw[hl3_1] at HO_3
    (try simp only[hl3_1])
    cases gk with
    |zero=>exact absurd HA.out (by simp[perm_identity.l0])
    | succ k1=>
     have H:=HA.out;clear HA;simp only[perm_identity.l0] at H
     by_cases c7:x9_1<(y101.length:Int)
     ·rw [if_pos c7] at H;have c7b0:=dT c7;clear c7
      by_cases c8:0≤x9_1
      ·rw [if_pos c8] at H;have c8b0:=dT c8;clear c8
       by_cases c9:x9_1<(x3_1.length:Int)
       ·rw[if_pos c9] at H;have c9b0:=dT c9;clear c9;obtain⟨y104,hy104⟩:∃y_:List Int,y_=(x3_1.set (x9_1:Int).toNat x9_1):=⟨_,rfl⟩;replace H:(perm_identity.l0 k1 y104 (y101.length:Int) (wrap64 (x9_1+1)))=some r:=by first|(rw[hy104];with_reducible exact H)|(have H2_:=(Option.bind_some _ _).symm.trans H;rw[hy104];with_reducible exact H2_)|(have H2_:=(Option.bind_some _ _).symm.trans H;with_reducible exact H2_)|with_reducible exact H|(rw[hy104];exact H)|exact H
        have Ny104:=aM hy104;clear hy104;have H':=aM H;clear H;have p10:0≤(x9_1:Int):=oD zz153;have q10:(x9_1:Int)<((x3_1.length:Int):Int):=oD zz153;obtain⟨go10,co10,eo10,gb10,gl10,cl10,HG10⟩:=Kd.R_form HO_3.out (by omega)
        (first|cases eo10|(injection eo10 with ea_ en_ ec_;(first|subst ea_|(injection ea_ with ea_;subst ea_));subst ec_;clear en_))
        have GB10:=aM gb10;have GG10:=aM HG10;clear gb10 gl10 HG10;obtain⟨hx10_0,hf10_0⟩:=Kd.R_celln 0 HO_3.out (x9_1:Int) p10 q10;replace p10:=eq_true p10;replace q10:=eq_true q10;have HP11:=Kd.R_putg HO_3.out (x9_1:Int) x9_1
        go_wp2_with (first|((with_reducible refine ZU (t:=3) (p:=15) rfl ?_);refine ZO (t:=3) (p:=15) (v:= ?vo_w12) (w1:=(wr.setCell ⟨go10,(x9_1:Int).toNat,none⟩ (.int .i64 x9_1))) ?hg ?ho ?hn ?hr ?_;(case ho=>rfl);(case hg=>rfl);(case hn=>rfl);(case hr=>first|(go_simp;done)|(go_simp;rfl));intro w12 hw;have hg:wr.grownBy w12 (some go10):=(by rw[hw];exact HP11.2);have hp_:Kd.R (Kd.int .i64) 3 w12 w.heap.size (fun _=>True) (.slice (some ⟨go10,0,none⟩) x3_1.length co6) y104:=(by rw[hw,Ny104.out];exact HP11.1);clear HP11;replace HO_3:=aM (hp_);replace HB:=aM ((by rw[hw];exact Zk (HB.out) GB10.out:Below w.heap.size w w12));clear hg hw hp_))
        (try simp only[←hl3_1])
        go_roundg k1
        case measure=>have:=HK1.out;omega
        case rel=>exact⟨(y104),(wrap64 (x9_1+1)),zz154,H',⟨zz163⟩,⟨(by(try simp only[hl3_1]);(with_reducible repeat(first|apply Kd.R_alloc|apply Kd.R_drewN|apply Kd.R_drew));exact HO_3.out)⟩,⟨zz128⟩⟩
       rw[if_neg c9] at H
       exact absurd H (by simp)
      rw[if_neg c8] at H
      exact absurd H (by simp)
     rw[if_neg c7] at H;have c7b0:=dF c7;have c7b1:decide (x9_1<(x3_1.length:Int))=false:=by rw[←hl3_1];exact c7b0
     clear c7;obtain rfl:=oI H;go_wp2;go_ret
     exact⟨_,by first|rfl|(simp[Zj,Zi]<;>rfl)|(simp[*,Zj,Zi]<;>rfl),by(with_reducible repeat(first|apply Kd.R_alloc|apply Kd.R_drewN|apply Kd.R_drew));exact HO_3.out,by repeat(first|(with_reducible first|exact HB.out|apply Zn|apply Zf|apply Zh)|exact HB.out)⟩
  rw[if_neg c3] at H
  exact absurd H (by simp)
 rw[if_neg c2] at H
 exact absurd H (by simp)
end
section
def newTowerL (k n:Nat):Option Tw:=if 1≤n∧n≤64 then(perm_identity.f k n).bind fun r=>if r= [] then none else some { n:=n,reps:=(List.range n).map (fun b=>(List.replicate n []).set b r),gens:=List.replicate n [] } else none
theorem info28':(Try.prog.info? 28).map (fun i=>(i.zero,i.size,i.bytes))=some (some (.slice none 0 0),1,24):=by kernel_rfl
structure NtAt (base:Nat) (w:World) (bt bR bG n j:Nat) (rb:Nat→Nat) (vr:Nat→Nat→Value) (r:List Int):Prop where
 gt:base≤bt
 gR:base≤bR
 gG:base≤bG
 grb:∀i,i<j→base≤rb i
 ht:w.heap[bt]? =some (Obj.cells #[.int .i64 n,.slice (some ⟨bR,0,none⟩) n n,.slice (some ⟨bG,0,none⟩) n n] 108 (0,0))
 hR:w.heap[bR]? =some (Obj.cells ((List.range n).map (fun i=>if i<j then Value.slice (some ⟨rb i,0,none⟩) n n else .slice none 0 0)).toArray 28 (0,0))
 hr:∀i,i<j→w.heap[rb i]? =some (Obj.cells ((List.range n).map (vr i)).toArray 22 (0,0))
 hG:w.heap[bG]? =some (Obj.cells ((List.range n).map (fun _=>Value.slice none 0 0)).toArray 28 (0,0))
 leaf:∀i x,i<j→x<n→LeafN base w (vr i x) (if x=i then r else [])
 dRG:bR≠bG
 drb:∀i i',i<j→i'<j→rb i=rb i'→i=i'
theorem Ye (z:Value) (n:Nat):madeCells #[z] n=((List.range n).map (fun _=>z)).toArray:=by
 apply Array.ext
 ·simp[madeCells]
 ·intro i h1 h2
  simp[madeCells,Nat.mod_one]
theorem NtAt.start0 (w:World) (n:Nat) (r:List Int) (sw:Bool):
    NtAt w.heap.size ((((w.alloc (.cells (madeCells #[Value.slice none 0 0] n) 28)).alloc (.cells (madeCells #[Value.slice none 0 0] n) 28)).alloc
        (.cells #[Value.int IntKind.i64 n,Value.slice (some ⟨if sw then w.heap.size+1 else w.heap.size,0,none⟩) n n,Value.slice (some ⟨if sw then w.heap.size else w.heap.size+1,0,none⟩) n n] 108)).drew)
      (w.heap.size+1+1) (if sw then w.heap.size+1 else w.heap.size) (if sw then w.heap.size else w.heap.size+1) n 0 (fun _=>0) (fun _ _=> .slice none 0 0) r:=by
  have h0:∀(W:World) (o:Obj),(W.alloc o).heap[W.heap.size]? =some o:=fun W o=>heap_alloc_new W o
  have h1:∀(W:World) (o:Obj) (k:Nat),k<W.heap.size→(W.alloc o).heap[k]? =W.heap[k]? :=fun W o k hk=>Below.heap_alloc W o k hk
  have e:∀k,(if sw then w.heap.size+1 else w.heap.size)=k∨(if sw then w.heap.size else w.heap.size+1)=k→(((w.alloc (.cells (madeCells #[Value.slice none 0 0] n) 28)).alloc (.cells (madeCells #[Value.slice none 0 0] n) 28)).heap[k]? =some (Obj.cells (madeCells #[Value.slice none 0 0] n) 28 (0,0))∧w.heap.size≤k∧k<w.heap.size+1+1):=by
    intro k hk;have hk2:k=w.heap.size∨k=w.heap.size+1:=by cases sw<;>simp at hk<;>omega
    rcases hk2 with rfl|rfl
    · exact⟨(h1 _ _ _ (by simp)).trans (h0 _ _),by omega,by omega⟩
    · have:=h0 (w.alloc (.cells (madeCells #[Value.slice none 0 0] n) 28)) (.cells (madeCells #[Value.slice none 0 0] n) 28)
      exact⟨by simpa using this,by omega,by omega⟩
  have eR:=e _ (.inl rfl)
  have eG:=e _ (.inr rfl)
  rw[Ye] at eR eG
  refine⟨by omega,eR.2.1,eG.2.1,fun i hi=>by omega,?_,?_,fun i hi=>by omega,?_,fun i x hi=>by omega,by cases sw<;>simp,fun i i' hi=>by omega⟩
  · have e3:((w.alloc (.cells (madeCells #[Value.slice none 0 0] n) 28)).alloc (.cells (madeCells #[Value.slice none 0 0] n) 28)).heap.size=w.heap.size+1+1:=by simp
    have:=h0 ((w.alloc (.cells (madeCells #[Value.slice none 0 0] n) 28)).alloc (.cells (madeCells #[Value.slice none 0 0] n) 28)) (.cells #[Value.int IntKind.i64 n,Value.slice (some ⟨if sw then w.heap.size+1 else w.heap.size,0,none⟩) n n,Value.slice (some ⟨if sw then w.heap.size else w.heap.size+1,0,none⟩) n n] 108);rw[e3] at this
    exact this
  · refine Eq.trans ?_ eR.1
    rw[←Ye]
    exact h1 _ _ _ (by simpa using eR.2.2)
  · refine Eq.trans ?_ eG.1
    rw[←Ye]
    exact h1 _ _ _ (by simpa using eG.2.2)
theorem NtAt.step {base:Nat} {w w5:World} {bt bR bG n:Nat} {j:Int} {rb:Nat→Nat} {vr:Nat→Nat→Value} {r:List Int} (h:NtAt base w bt bR bG n j.toNat rb vr r) (hj:j.toNat<n) {v:Value} (hv:LeafN base w5 v r)
    (hb:Below (w.heap.size+1) (((w.setCell ⟨bR,j.toNat,none⟩ (.slice (some ⟨w.heap.size,0,none⟩) n n)).alloc (.cells (madeCells #[Value.slice none 0 0] n) 22)).drew) w5):
    NtAt base (w5.setCell ⟨w.heap.size,j.toNat,none⟩ v) bt bR bG n (j.toNat+1) (fun i=>if i=j.toNat then w.heap.size else rb i) (fun i x=>if i=j.toNat then(if x=j.toNat then v else .slice none 0 0) else vr i x) r∧
     Keep base w (w5.setCell ⟨w.heap.size,j.toNat,none⟩ v):=by
 have hbase:base≤w.heap.size:=Nat.le_trans h.gt (Nat.le_of_lt (lt_of_some h.ht))
 have hk1:Keep base w (w.setCell ⟨bR,j.toNat,none⟩ (.slice (some ⟨w.heap.size,0,none⟩) n n)):=Keep.set_ h.gR h.hR (by decide) _
 have hs1:(w.setCell ⟨bR,j.toNat,none⟩ (.slice (some ⟨w.heap.size,0,none⟩) n n)).heap.size=w.heap.size:=by simp[World.setCell]
 generalize hW:w.setCell ⟨bR,j.toNat,none⟩ (.slice (some ⟨w.heap.size,0,none⟩) n n)=W at*
 have hk2:Keep base W (W.alloc (.cells (madeCells #[Value.slice none 0 0] n) 22)).drew:=Keep.of_below (by omega) ((Below.refl _ _).alloc (Nat.le_refl _) _).drew
 have hsz:(W.alloc (.cells (madeCells #[Value.slice none 0 0] n) 22)).drew.heap.size=w.heap.size+1:=by
  show(W.alloc (.cells (madeCells #[Value.slice none 0 0] n) 22)).heap.size=_
  simp[hs1]
 have hnew:(W.alloc (.cells (madeCells #[Value.slice none 0 0] n) 22)).drew.heap[w.heap.size]? =some (Obj.cells ((List.range n).map (fun _=>Value.slice none 0 0)).toArray 22 (0,0)):=by
  have:=heap_alloc_new W (.cells (madeCells #[Value.slice none 0 0] n) 22);rw[hs1,Ye] at this;rw[Ye]
  exact this
 have hk3:Keep base (W.alloc (.cells (madeCells #[Value.slice none 0 0] n) 22)).drew w5:=Keep.of_below (by rw[hsz];omega) (by rw[hsz];exact hb)
 have hn5:w5.heap[w.heap.size]? =some (Obj.cells ((List.range n).map (fun _=>Value.slice none 0 0)).toArray 22 (0,0)):=(hb.block _ (by omega)).trans hnew
 have hk4:Keep base w5 (w5.setCell ⟨w.heap.size,j.toNat,none⟩ v):=Keep.set_ hbase hn5 (by decide) v
 have hk:=((hk1.trans hk2).trans hk3).trans hk4
 -- elder blocks but bR
 have old:∀k,k<w.heap.size→k≠bR→(w5.setCell ⟨w.heap.size,j.toNat,none⟩ v).heap[k]? =w.heap[k]? :=fun k hk hne=>by
  have e1:W.heap[k]? =w.heap[k]? :=by rw[←hW];exact Below.heap_setCell w ⟨bR,j.toNat,none⟩ _ k hne
  have e2:(W.alloc (.cells (madeCells #[Value.slice none 0 0] n) 22)).drew.heap[k]? =W.heap[k]? :=Below.heap_alloc W _ k (by omega);have e3:w5.heap[k]? =(W.alloc (.cells (madeCells #[Value.slice none 0 0] n) 22)).drew.heap[k]? :=hb.block k (by omega);have e4:=Below.heap_setCell w5 ⟨w.heap.size,j.toNat,none⟩ v k (by show k≠w.heap.size;omega)
  exact e4.trans (e3.trans (e2.trans e1))
 have hlt:∀i,i<j.toNat→rb i<w.heap.size:=fun i hi=>lt_of_some (h.hr i hi)
 refine⟨⟨h.gt,h.gR,h.gG,?_,?_,?_,?_,?_,?_,h.dRG,?_⟩,hk⟩
 ·intro i hi
  by_cases e:i=j.toNat
  ·simp[e,hbase]
  ·simp only[if_neg e];exact h.grb i (by omega)
 ·exact(old bt (lt_of_some h.ht) (ZP h.ht h.hR (by decide))).trans h.ht
 ·have hRl:=lt_of_some h.hR
  have e1:W.heap[bR]? =some (Obj.cells ((List.range n).map (fun i=>if i<j.toNat+1 then Value.slice (some ⟨if i=j.toNat then w.heap.size else rb i,0,none⟩) n n else .slice none 0 0)).toArray 28 (0,0)):=by
   rw[←hW];have:=blk_set h.hR j.toNat (.slice (some ⟨w.heap.size,0,none⟩) n n);rw[range_set] at this;rw[this]
   congr 4
   funext i
   by_cases e:i=j.toNat
   ·simp[e]
   ·rcases Nat.lt_or_ge i j.toNat with h1|h1
    ·simp[e,h1,Nat.lt_succ_of_lt h1]
    ·simp[e,Nat.not_lt.2 h1,show¬i<j.toNat+1 by omega]
  have e2:(W.alloc (.cells (madeCells #[Value.slice none 0 0] n) 22)).drew.heap[bR]? =W.heap[bR]? :=Below.heap_alloc W _ bR (by omega);have e3:w5.heap[bR]? =(W.alloc (.cells (madeCells #[Value.slice none 0 0] n) 22)).drew.heap[bR]? :=hb.block bR (by omega)
  exact(Below.heap_setCell w5 ⟨w.heap.size,j.toNat,none⟩ v bR (by show bR≠w.heap.size;omega)).trans (e3.trans (e2.trans e1))
 ·intro i hi
  by_cases e:i=j.toNat
  ·subst e;have:=blk_set hn5 j.toNat v;rw[range_set] at this
   simpa using this
  ·have h1:=h.hr i (by omega);have:=(old (rb i) (lt_of_some h1) (ZP h1 h.hR (by decide))).trans h1
   simpa[e] using this
 ·exact(old bG (lt_of_some h.hG) (Ne.symm h.dRG)).trans h.hG
 ·intro i x hi hx
  by_cases e:i=j.toNat
  ·subst e
   by_cases e2:x=j.toNat
   ·subst e2
    simpa using hv.keep hk4
   ·simp only[if_true,if_neg e2]
    exact LeafN.none_ _ _
  ·simp only[if_neg e]
   exact(h.leaf i x (by omega) hx).keep hk
 ·intro i i' hi hi' he
  by_cases e:i=j.toNat
  ·by_cases e':i'=j.toNat
   ·omega
   ·simp only[if_pos e,if_neg e'] at he;have:=hlt i' (by omega);omega
  ·by_cases e':i'=j.toNat
   ·simp only[if_neg e,if_pos e'] at he;have:=hlt i (by omega);omega
   ·simp only[if_neg e,if_neg e'] at he
    exact h.drb i i' (by omega) (by omega) he
theorem NtAt.done {base:Nat} {w:World} {bt bR bG n:Nat} {rb:Nat→Nat} {vr:Nat→Nat→Value} {r:List Int} (h:NtAt base w bt bR bG n n rb vr r) (h1:1≤n) (h64:n≤64):
    TwAt base w bt bR bG rb vr (fun _=> .slice none 0 0) { n:=n,reps:=(List.range n).map (fun b=>(List.replicate n []).set b r),gens:=List.replicate n [] } :=by
 have hrow:∀i,i<n→((List.range n).map (fun b=>(List.replicate n ([]:List Int)).set b r)).getD i []=(List.replicate n []).set i r:=fun i hi=>by
  simp[List.getD_eq_getElem?_getD,List.getElem?_range hi]
 refine { n1:=h1,n64:=h64,lr:=by simp,lrr:=fun i hi=>by rw[hrow i hi];simp,lg:=by simp,gt:=h.gt,gR:=h.gR,gG:=h.gG,grb:=h.grb,ht:=h.ht,hR:= ?_,hr:=h.hr,hG:=h.hG,hg:= ?_,leaf:= ?_,dRG:=h.dRG,drb:=h.drb,drg:= ?_,dgg:= ?_ }
 ·rw[h.hR]
  congr 3
  apply List.map_congr_left;intro i hi;simp[List.mem_range.1 hi]
 ·intro i hi
  refine⟨[],?_,fun j l hj=> ?_⟩
  ·have:(List.replicate n ([]:List (List Int))).getD i []= []:=by simp[List.getD_eq_getElem?_getD,hi]
   simp only[this]
   exact own_nil _ _ _ _
  ·have:(List.replicate n ([]:List (List Int))).getD i []= []:=by simp[List.getD_eq_getElem?_getD,hi]
   simp only[this] at hj;simp at hj
 ·intro i x hi hx
  have:=h.leaf i x hi hx;simp only[hrow i hi]
  by_cases e:x=i
  ·subst e;rw[Yd (by simpa using hx)]
   simpa using this
  rw[getD_set_ne (fun z=>e z.symm)];rw[if_neg e] at this
  simpa[List.getD_eq_getElem?_getD,hx] using this
 ·intro i j hi hj;simp[Value.ownBlock]
 ·intro i j hi hj hne;left;simp[Value.ownBlock]
def NewPost (w:World) (T:Tw) (e:Ending) (w':World):Prop:=∃bt bR bG rb vr vg,e= .returned (.pointer (some ⟨bt,0,none⟩))∧TwAt w.heap.size w' bt bR bG rb vr vg T∧Keep w.heap.size w w'
theorem newTower_calls (k n:Nat) (T:Tw) (w:World) (h:newTowerL k n=some T):
    Calls Try.prog 60 #[.int .i64 n] w (NewPost w T):=by
  unfold newTowerL at h
  by_cases hn:1≤n∧n≤64
  · rw [if_pos hn] at h
    replace h:=oB h;obtain⟨r,hr,h⟩:=h
    by_cases hr0:r= []
    · rw[if_pos hr0] at h;cases h
    rw[if_neg hr0] at h;have HTe:=aM (oI h);have HR:=aM hr;have HR0:=aM hr0;clear h hr hr0;obtain⟨n1,n64⟩:=hn;have hm1:=run_make_row' (P:=Try.prog) 106 28 (.slice none 0 0) 24 Try.underlying106 info28' rfl .i64 .i64 n (by omega) (by omega);have hm2:=run_make_row' (P:=Try.prog) 28 22 (.slice none 0 0) 24 Try.underlying28 info22 rfl .i64 .i64 n (by omega) (by omega)
    go_enter Try.func60,Try.ntmps60
    go_wp2
    go_cut [3] (fun v3 wc=>∃(bt bR bG:Nat),v3= .pointer (some ⟨bt,0,none⟩)∧Aside0 (NtAt w.heap.size wc bt bR bG n 0 (fun _=>0) (fun _ _=> .slice none 0 0) r)∧Aside0 (Keep w.heap.size w wc))
    case first=>
      go_region
      · go_wp2;go_meet
        case rel=>exact⟨_,_,_,rfl,⟨NtAt.start0 w n r false⟩,⟨Keep.of_below (Nat.le_refl _) (((((Below.refl _ _).alloc (Nat.le_refl _) _).alloc (by simp) _).alloc (by simp;omega) _).drew)⟩⟩
      · go_wp2;go_meet
        case rel=>exact⟨_,_,_,rfl,⟨NtAt.start0 w n r true⟩,⟨Keep.of_below (Nat.le_refl _) (((((Below.refl _ _).alloc (Nat.le_refl _) _).alloc (by simp) _).alloc (by simp;omega) _).drew)⟩⟩
    case rest=>
      obtain⟨bt,bR,bG,rfl,HN,HK⟩:=hcut;clear hm1;go_wp2
      go_loopg [13] n (fun kq v13 w'=>∃(j:Int) (rb:Nat→Nat) (vr:Nat→Nat→Value),v13= .int .i64 j∧Aside0 (0≤j)∧Aside0 (j.toNat+kq=n)∧Aside0 (NtAt w.heap.size w' bt bR bG n j.toNat rb vr r)∧Aside0 (Keep w.heap.size w w'))
      case atStart=>exact⟨0,_,_,rfl,⟨by omega⟩,⟨by simp⟩,HN,HK⟩
      case round=>
        clear HN HK;obtain⟨j,rb,vr,rfl,HJ0,HJ1,HN,HK⟩:=hrel;have j0:=HJ0.out;have j1:=HJ1.out;have hy1:=(Zb HN.out.ht 1).trans rfl
        by_cases c1:j<(n:Int)
        · have q0:=eq_true j0;have q1:=eq_true c1;have hjn:j.toNat<n:=by omega
          have hy2:wr.cell? ⟨bR,j.toNat,none⟩=some (.slice none 0 0):=by
            have:=(Zb HN.out.hR j.toNat).trans (Z9 _ hjn)
            simpa using this
          have hyf:wr.frozen? ⟨bR,j.toNat,none⟩=false:=Za HN.out.hR _;have hlt1:=lt_of_some HN.out.ht;have hlt2:=lt_of_some HN.out.hR;have hne1:=World.new_ne wr _ hy1;have hne2:=World.new_ne wr _ hy2;clear j1;go_wp2
          go_region
          go_wp2
          have hz1:(((wr.setCell ⟨bR,j.toNat,none⟩ (.slice (some ⟨wr.heap.size,0,none⟩) n n)).alloc (.cells (madeCells #[Value.slice none 0 0] n) 22)).drew).heap.size=wr.heap.size+1:=by
            show((wr.setCell ⟨bR,j.toNat,none⟩ (.slice (some ⟨wr.heap.size,0,none⟩) n n)).alloc (.cells (madeCells #[Value.slice none 0 0] n) 22)).heap.size=_
            simp[World.setCell]
          have hz2:(((wr.setCell ⟨bR,j.toNat,none⟩ (.slice (some ⟨wr.heap.size,0,none⟩) n n)).alloc (.cells (madeCells #[Value.slice none 0 0] n) 22)).drew).cell? ⟨bt,1,none⟩=some (.slice (some ⟨bR,0,none⟩) n n):=by
            have e1:=Below.heap_setCell wr ⟨bR,j.toNat,none⟩ (.slice (some ⟨wr.heap.size,0,none⟩) n n) bt (ZP HN.out.ht HN.out.hR (by decide));have e2:=Below.heap_alloc (wr.setCell ⟨bR,j.toNat,none⟩ (.slice (some ⟨wr.heap.size,0,none⟩) n n)) (.cells (madeCells #[Value.slice none 0 0] n) 22) bt (by simpa[World.setCell] using hlt1)
            exact(World.cell?_of_block (a:=⟨bt,1,none⟩) (e2.trans e1)).trans hy1
          have hz3:(((wr.setCell ⟨bR,j.toNat,none⟩ (.slice (some ⟨wr.heap.size,0,none⟩) n n)).alloc (.cells (madeCells #[Value.slice none 0 0] n) 22)).drew).cell? ⟨bR,j.toNat,none⟩=some (.slice (some ⟨wr.heap.size,0,none⟩) n n):=by
            have e1:=blk_set HN.out.hR j.toNat (.slice (some ⟨wr.heap.size,0,none⟩) n n);rw[range_set] at e1;have e2:=Below.heap_alloc (wr.setCell ⟨bR,j.toNat,none⟩ (.slice (some ⟨wr.heap.size,0,none⟩) n n)) (.cells (madeCells #[Value.slice none 0 0] n) 22) bR (by simpa[World.setCell] using hlt2)
            exact(Zb (e2.trans e1) j.toNat).trans ((Z9 _ hjn).trans (by simp))
          have hz4:(((wr.setCell ⟨bR,j.toNat,none⟩ (.slice (some ⟨wr.heap.size,0,none⟩) n n)).alloc (.cells (madeCells #[Value.slice none 0 0] n) 22)).drew).heap[wr.heap.size]? =some (Obj.cells ((List.range n).map (fun _=>Value.slice none 0 0)).toArray 22 (0,0)):=by
            have:=heap_alloc_new (wr.setCell ⟨bR,j.toNat,none⟩ (.slice (some ⟨wr.heap.size,0,none⟩) n n)) (.cells (madeCells #[Value.slice none 0 0] n) 22);have e0:(wr.setCell ⟨bR,j.toNat,none⟩ (.slice (some ⟨wr.heap.size,0,none⟩) n n)).heap.size=wr.heap.size:=by simp[World.setCell]
            rw[e0,Ye] at this;rw[Ye]
            exact this
          have HS:=aM (show∀(v:Value) (w5:World),LeafN w.heap.size w5 v r→Below (wr.heap.size+1) (((wr.setCell ⟨bR,j.toNat,none⟩ (.slice (some ⟨wr.heap.size,0,none⟩) n n)).alloc (.cells (madeCells #[Value.slice none 0 0] n) 22)).drew) w5→NtAt w.heap.size (w5.setCell ⟨wr.heap.size,j.toNat,none⟩ v) bt bR bG n (j.toNat+1) (fun i=>if i=j.toNat then wr.heap.size else rb i) (fun i x=>if i=j.toNat then(if x=j.toNat then v else .slice none 0 0) else vr i x) r∧
      Keep w.heap.size wr (w5.setCell ⟨wr.heap.size,j.toNat,none⟩ v) from fun v w5 hv hb=>HN.out.step hjn hv hb)
          have hd1:∀(W:World) (v:Value),(W.setCell ⟨wr.heap.size,j.toNat,none⟩ v).cell? ⟨bt,1,none⟩=W.cell? ⟨bt,1,none⟩:=fun W v=>World.cell?_of_block (a:=⟨bt,1,none⟩) (Below.heap_setCell W ⟨wr.heap.size,j.toNat,none⟩ v bt (by show bt≠wr.heap.size;omega))
          have hd2:∀(W:World) (v:Value),(W.setCell ⟨wr.heap.size,j.toNat,none⟩ v).cell? ⟨bR,j.toNat,none⟩=W.cell? ⟨bR,j.toNat,none⟩:=fun W v=>World.cell?_of_block (a:=⟨bR,j.toNat,none⟩) (Below.heap_setCell W ⟨wr.heap.size,j.toNat,none⟩ v bR (by show bR≠wr.heap.size;omega))
          clear hyf hlt1 hlt2 hne1 hne2 hy1 hy2;generalize hW1:(((wr.setCell ⟨bR,j.toNat,none⟩ (.slice (some ⟨wr.heap.size,0,none⟩) n n)).alloc (.cells (madeCells #[Value.slice none 0 0] n) 22)).drew)=w1 at*;clear hW1;have hy1:=hz2;have hy2:=hz3;have hy3:w1.cell? ⟨wr.heap.size,j.toNat,none⟩=some (.slice none 0 0):=(Zb hz4 j.toNat).trans (Z9 _ hjn);have hyf:w1.frozen? ⟨wr.heap.size,j.toNat,none⟩=false:=Za hz4 _;have HZ1:=aM hz1;have hl1:bt<w1.heap.size:=wB w1 _ hy1;have hl2:bR<w1.heap.size:=wB w1 _ hy2;have hl3:wr.heap.size<w1.heap.size:=wB w1 _ hy3;clear hz1 hz2 hz3 hz4
          go_region_held3 (fun W_=>W_.cell? ⟨bt,1,none⟩=some (.slice (some ⟨bR,0,none⟩) n n)∧W_.cell? ⟨bR,j.toNat,none⟩=some (.slice (some ⟨wr.heap.size,0,none⟩) n n)) (first|go_keep|(refine⟨(hd1 _ _).trans hk1,(hd2 _ _).trans hk2⟩)) ((go_at_call 49;refine(perm_identity.calls k n r _ HR.out).mono ?_;rintro e w5 ⟨v5,rfl,ho5,hb5⟩;have hLf:=LeafN.of_R (base:=w.heap.size) ho5 (by have:=HK.out.below.size;have h_:=HZ1.out;show w.heap.size≤w1.heap.size;omega) HR0.out;obtain⟨A5,c5,rfl,hl5,hr5⟩:=Kd.R_reads ho5;clear ho5 hl5 hr5;have hk1:=(hb5.cell (p:=⟨bt,1,none⟩) hl1).trans hy1;have hk2:=(hb5.cell (p:=⟨bR,j.toNat,none⟩) hl2).trans hy2;have hk3:=(hb5.cell (p:=⟨wr.heap.size,j.toNat,none⟩) hl3).trans hy3;have hkf:=(hb5.frozen (p:=⟨wr.heap.size,j.toNat,none⟩) hl3).trans hyf))
          all_goals
            have hst:=HS.out _ w5 hLf (by have h_:=HZ1.out;exact⟨hb5.os,hb5.tape,hb5.output,hb5.size,fun i hi=>hb5.block i (by show i<w1.heap.size;omega)⟩);have HST:=aM hst;clear hd1 hd2 hst hLf hk1 hk2 hk3 hkf hb5 hy1 hy2 hy3 hyf hl1 hl2 hl3 HS HZ1;go_wp2;obtain⟨k1,rfl⟩:∃m,gk=m+1:=⟨gk-1,by have:=HJ1.out;omega⟩
            go_roundg k1
            case measure=>omega
            case rel=>exact⟨j+1,_,_,rfl,⟨by have:=HJ0.out;omega⟩,⟨by have:=HJ1.out;have:=HJ0.out;omega⟩,⟨(show(j+1).toNat=j.toNat+1 by omega)▸HST.out.1⟩,⟨HK.out.trans HST.out.2⟩⟩
        · have q1b:decide (j<(n:Int))=false:=dF c1;have ejn:j.toNat=n:=by omega
          rw[ejn] at HN;clear hy1 ejn j1;go_wp2;go_ret
          exact⟨bt,bR,bG,rb,vr,_,rfl,HTe.out▸HN.out.done n1 n64,HK.out⟩
  rw[if_neg hn] at h;cases h
def lenB (n:Int) (p:List Int):Bool:=(p.length:Int) !=n
def gensL (n:Int) (l:List (List Int)):Int:=if n<1∨64<n then 4 else match(l.map ZR).find? (fun e=>e !=0) with
 |some e=>e
 |none=>if l.any (lenB n) then 10 else 0
def perm_generators.f (a0:Int) (l1:List (List Int)):Option Int:=some (gensL a0 l1)
theorem rdL1_mem {l:List (List Int)} {i:Int} (h0:0≤i) (h1:i<(l.length:Int)):Zp l i∈l:=by
 unfold Zp
 rw[List.getD_eq_getElem?_getD,List.getElem?_eq_getElem (by omega)]
 exact List.getElem_mem _
theorem take_rdL1 {l:List (List Int)} {i:Int} (h0:0≤i) (h1:i<(l.length:Int)):l.take (i+1).toNat=l.take i.toNat++ [Zp l i]:=by
 have e:(i+1).toNat=i.toNat+1:=by omega
 rw[e,List.take_succ_eq_append_getElem (by omega)]
 congr 2
 unfold Zp
 rw[List.getD_eq_getElem?_getD,List.getElem?_eq_getElem (by omega)]
 rfl
theorem gens1 (n:Int) (g c:Nat) (A:Option Addr) (p:List Int) (w:World) (hcell:w.cell? ⟨g,0,none⟩=some (.int .i64 n)):
    Calls Try.prog 80 #[.slice A p.length c,.pointer (some ⟨g,0,none⟩)] w fun e w'=>e= .returned (.bool (lenB n p))∧w=w':=by
 unfold lenB
 go_enter Try.func80,Try.ntmps80
 go_wp2
 go_ret
 exact⟨rfl,rfl⟩
def IdxPost2 (p:List Int→Bool) (l:List (List Int)) (w:World) (e:Ending) (w':World):Prop:=∃r:Int,e= .returned (.int .i64 r)∧decide (0≤r)=l.any p∧Drawn0 w w'
theorem idx91_calls (A0:Option Addr) (c0:Nat) (l0:List (List Int)) (g:Nat) (n:Int) (w:World) (hr0:Kd.C (Kd.slice 3 (Kd.int .i64)) w A0 l0.length l0) (hcell:w.cell? ⟨g,0,none⟩=some (.int .i64 n)):
    Calls Try.prog 91 #[.slice A0 l0.length c0,.func (Fn.func 80) #[] #[.pointer (some ⟨g,0,none⟩)]] w (IdxPost2 (lenB n) l0 w):=by
 have HR:=aM hr0
 have HC:=aM hcell
 clear hr0 hcell
 go_enter Try.func91,Try.ntmps91
 go_wp2
 go_loopg [8] l0.length (fun kq v8 w'=>∃i:Int,v8= .int .i64 i∧Aside0 (0≤i)∧Aside0 (i.toNat+kq=l0.length)∧Aside0 ((l0.take i.toNat).any (lenB n)=false)∧Aside0 (Drawn0 w w'))
 case atStart=>exact⟨0,rfl,⟨by omega⟩,⟨by simp⟩,⟨by simp⟩,⟨Drawn0.refl _⟩⟩
 case round=>
  obtain⟨i,rfl,HI0,HI1,HA,HD⟩:=hrel;have i0:=HI0.out
  by_cases d1:i<(l0.length:Int)
  ·have d1b:decide (i<(l0.length:Int))=true:=dT d1;have q0:=eq_true i0;have q1:=eq_true d1;have hmax:l0.length≤9223372036854775807:=HR.out.2.1;obtain⟨ad,A2,c2,ea,hx1,hl2,hC2⟩:=ZY HR.out i i0 d1
   cases ea;replace hx1:=(HD.out.below.cell (wB w _ hx1)).trans hx1;have hc1:=(HD.out.below.cell (wB w _ HC.out)).trans HC.out;have HC1:=aM hc1;clear hc1 hl2 hC2
   cases hb:lenB n (Zp l0 i) with
   | true=>
    have HBo:=aM hb;clear hb
    go_wp2_with (first
     |(go_at_call 80;(with_reducible refine(gens1 n g c2 A2 (Zp l0 i) _ HC1.out).mono ?_);rintro e w5 ⟨rfl,rfl⟩;rw[HBo.out]))
    go_ret
    exact⟨i,rfl,by rw[dT HI0.out];exact(List.any_eq_true.2 ⟨_,rdL1_mem HI0.out d1,HBo.out⟩).symm,HD.out⟩
   | false=>
    have HBo:=aM hb;clear hb
    go_wp2_with (first
     |(go_at_call 80;(with_reducible refine(gens1 n g c2 A2 (Zp l0 i) _ HC1.out).mono ?_);rintro e w5 ⟨rfl,rfl⟩;rw[HBo.out]))
    obtain⟨k1,rfl⟩:∃m,gk=m+1:=⟨gk-1,by have:=HI1.out;omega⟩
    go_roundg k1
    case measure=>omega
    case rel=>exact⟨i+1,rfl,⟨by have:=HI0.out;omega⟩,⟨by have:=HI1.out;have:=HI0.out;omega⟩,⟨by rw[take_rdL1 HI0.out d1,List.any_append,HA.out];simp[HBo.out]⟩,HD⟩
  have d1b:decide (i<(l0.length:Int))=false:=dF d1;have ha:=HA.out;rw[List.take_of_length_le (by omega)] at ha;have HA2:=aM ha;clear ha;go_wp2;go_ret
  exact⟨-1,rfl,by rw[HA2.out];rfl,HD.out⟩
def ContPost2 (p:List Int→Bool) (l:List (List Int)) (w:World) (e:Ending) (w':World):Prop:=e= .returned (.bool (l.any p))∧Drawn0 w w'
theorem cont79_calls (A0:Option Addr) (c0:Nat) (l0:List (List Int)) (g:Nat) (n:Int) (w:World) (hr0:Kd.C (Kd.slice 3 (Kd.int .i64)) w A0 l0.length l0) (hcell:w.cell? ⟨g,0,none⟩=some (.int .i64 n)):
    Calls Try.prog 79 #[.slice A0 l0.length c0,.func (Fn.func 80) #[] #[.pointer (some ⟨g,0,none⟩)]] w (ContPost2 (lenB n) l0 w):=by
 have HR:=aM hr0
 have HC:=aM hcell
 clear hr0 hcell
 go_enter Try.func79,Try.ntmps79
 go_wp2_with (first
  |(go_at_call 91;(with_reducible refine(idx91_calls _ _ l0 g n _ HR.out HC.out).mono ?_);rintro e w5 ⟨r,rfl,hr,hd⟩;have HDr:=aM (And.intro hr hd);clear hr hd))
 go_ret
 exact⟨by rw[←HDr.out.1];rfl,HDr.out.2⟩
theorem find_first {l:List (List Int)} {i:Int} (h0:0≤i) (h1:i<(l.length:Int)) (ha:(l.take i.toNat).all (fun p=>ZR p==0)=true) (hb:ZR (Zp l i)≠0):(l.map ZR).find? (fun e=>e !=0)=some (ZR (Zp l i)):=by
 have e:l=l.take i.toNat++(Zp l i::l.drop (i.toNat+1)):=by
  have h2:=take_rdL1 h0 h1;have h3:(i+1).toNat=i.toNat+1:=by omega
  rw[h3] at h2
  calc l=l.take (i.toNat+1)++l.drop (i.toNat+1):=(List.take_append_drop _ _).symm
   _=_:=by rw[h2,List.append_assoc];rfl
 rw[e,List.map_append,List.find?_append]
 have hn:((l.take i.toNat).map ZR).find? (fun e=>e !=0)=none:=by
  rw[List.find?_eq_none];intro x hx;obtain⟨p,hp,rfl⟩:=List.mem_map.1 hx;have:=List.all_eq_true.1 ha p hp
  simpa using this
 rw[hn]
 have e2:Zp (l.take i.toNat++Zp l i::l.drop (i.toNat+1)) i=Zp l i:=by rw[←e]
 rw[e2]
 simp[hb]
theorem find_none {l:List (List Int)} (ha:l.all (fun p=>ZR p==0)=true):(l.map ZR).find? (fun e=>e !=0)=none:=by
 rw[List.find?_eq_none]
 intro x hx
 obtain⟨p,hp,rfl⟩:=List.mem_map.1 hx
 have:=List.all_eq_true.1 ha p hp
 simpa using this
def GensPost (r:Int) (w:World) (e:Ending) (w':World):Prop:=e= .returned (.int .i64 r)∧Below w.heap.size w w'
theorem gens_post (a0:Int) (A1:Option Addr) (c1:Nat) (l1:List (List Int)) (w:World) (hr1:Kd.C (Kd.slice 3 (Kd.int .i64)) w A1 l1.length l1) (hc1:l1.length≤c1):
    Calls Try.prog 57 #[.int .i64 a0,.slice A1 l1.length c1] w (GensPost (gensL a0 l1) w):=by
  have HR:=aM hr1
  have HC:=aM hc1
  clear hr1 hc1
  by_cases hb:a0<1∨64<a0
  · have HRS:=aM (show gensL a0 l1=4 by unfold gensL;rw[if_pos hb])
    have HD:=aM (degree_bad a0 hb);clear hb
    go_enter Try.func57,Try.ntmps57
    go_wp2_with (first
     |((with_reducible refine Zr (N:=2) rfl ?_);refine Zx ?hg (N:=2) ?hd (cs:= #[.int .i64 a0]) (t:=3) ?hr ?_;(case hd=>rfl);(case hg=>rfl);(case hr=>first|(go_simp;done)|(go_simp;rfl));intro g hgr w3 hbox3 hb3;have hz:w3.cell? ⟨g,0,none⟩=some (.int .i64 a0):=(Zb hbox3 0).trans rfl;have HB3:=aM hb3;clear hgr hb3 hbox3)
     |(go_at_call 52;(with_reducible refine(perm_degree.calls a0 4 _ HD.out).mono ?_);rintro e w5 ⟨rfl,⟨nd,rfl⟩⟩))
    go_ret
    exact⟨by rw[HRS.out];rfl,Zf HB3.out _⟩
  have HD:=aM (degree_ok a0 (by omega) (by omega))
  have hmax:l1.length≤9223372036854775807:=HR.out.2.1
  have HNB:=aM hb
  clear hb
  go_enter Try.func57,Try.ntmps57
  go_wp2_with (first
   |((with_reducible refine Zr (N:=2) rfl ?_);refine Zx ?hg2 (N:=2) ?hd2 (cs:= #[.int .i64 a0]) (t:=3) ?hr2 ?_;(case hd2=>rfl);(case hg2=>rfl);(case hr2=>first|(go_simp;done)|(go_simp;rfl));intro g hgr w3 hbox3 hb3;have hz:w3.cell? ⟨g,0,none⟩=some (.int .i64 a0):=(Zb hbox3 0).trans rfl;have HZ:=aM hz;have HB3:=aM hb3;clear hgr hb3 hbox3)
   |(go_at_call 52;(with_reducible refine(perm_degree.calls a0 0 _ HD.out).mono ?_);rintro e w5 ⟨rfl,⟨nd,rfl⟩⟩))
  go_loopg [16] l1.length (fun kq v16 w'=>∃i:Int,v16= .int .i64 i∧Aside0 (0≤i)∧Aside0 (i.toNat+kq=l1.length)∧Aside0 ((l1.take i.toNat).all (fun p=>ZR p==0)=true)∧Aside0 (Below w3.heap.size w3 w'))
  case atStart=>exact⟨0,rfl,⟨by omega⟩,⟨by simp⟩,⟨by simp⟩,⟨Zf (Below.refl _ _) _⟩⟩
  case round=>
    clear hz;obtain⟨i,rfl,HI0,HI1,HA,HBw⟩:=hrel;have i0:=HI0.out
    by_cases d1:i<(l1.length:Int)
    · have d1b:decide (i<(l1.length:Int))=true:=dT d1;have q0:=eq_true i0;have q1:=eq_true d1;have hb0:=ZQ HB3.out HB3.out.size HBw.out;obtain⟨ad,A2,c2,ea,hx1,hl2,hC2⟩:=ZY HR.out i i0 d1
      cases ea;replace hx1:=(hb0.cell (wB w _ hx1)).trans hx1;have HC2:=aM (Kd.C_below hC2 hb0);have HL2:=aM hl2;clear hb0 hC2 hl2
      by_cases hb:ZR (Zp l1 i)=0
      · have HBo:=aM hb;clear hb
        go_wp2_with (first
          |(go_at_call 16;(with_reducible refine(perm_Check.calls A2 c2 (Zp l1 i) 0 _ HC2.out HL2.out (by unfold perm_Check.f;rw[HBo.out])).mono ?_);rintro e w6 ⟨rfl,hb6⟩;have HB6:=aM (ZQ HBw.out HBw.out.size hb6);clear hb6))
        obtain⟨k1,rfl⟩:∃m,gk=m+1:=⟨gk-1,by have:=HI1.out;omega⟩
        go_roundg k1
        case measure=>omega
        case rel=>exact⟨i+1,rfl,⟨by have:=HI0.out;omega⟩,⟨by have:=HI1.out;have:=HI0.out;omega⟩,⟨by rw[take_rdL1 HI0.out d1,List.all_append,HA.out];simp[HBo.out]⟩,HB6⟩
      have HBo:=aM hb;have hb1:(ZR (Zp l1 i) !=0)=true:=bne_iff_ne.mpr hb;have HRS:=aM (show gensL a0 l1=ZR (Zp l1 i) by unfold gensL;rw[if_neg HNB.out,find_first i0 d1 HA.out hb]);clear hb
      go_wp2_with (first
        |(go_at_call 16;(with_reducible refine(perm_Check.calls A2 c2 (Zp l1 i) (ZR (Zp l1 i)) _ HC2.out HL2.out rfl).mono ?_);rintro e w6 ⟨rfl,hb6⟩;have HB6:=aM (ZQ HBw.out HBw.out.size hb6);clear hb6))
      go_ret
      exact⟨by rw[HRS.out];rfl,ZQ HB3.out HB3.out.size HB6.out⟩
    have d1b:decide (i<(l1.length:Int))=false:=dF d1;have ha:=HA.out;rw[List.take_of_length_le (by omega)] at ha;have HA2:=aM ha;have hz1:=(HBw.out.cell (wB _ _ HZ.out)).trans HZ.out;have HZ1:=aM hz1;have HRw:=aM (Kd.C_below HR.out (ZQ HB3.out HB3.out.size HBw.out));clear ha hz1
    cases hb:l1.any (lenB a0) with
    | true=>
      have HBo:=aM hb;have HRS:=aM (show gensL a0 l1=10 by unfold gensL;rw[if_neg HNB.out,find_none HA2.out];simp[hb]);clear hb
      go_wp2_with (first
        |(go_at_call 79;(with_reducible refine(cont79_calls _ _ l1 g a0 _ HRw.out HZ1.out).mono ?_);rintro e w6 ⟨rfl,hd6⟩;rw[HBo.out];have HB6:=aM hd6.below;clear hd6))
      go_ret
      exact⟨by rw[HRS.out];rfl,ZQ HB3.out HB3.out.size (ZQ HBw.out HBw.out.size HB6.out)⟩
    | false=>
      have HBo:=aM hb;have HRS:=aM (show gensL a0 l1=0 by unfold gensL;rw[if_neg HNB.out,find_none HA2.out];simp[hb]);clear hb
      go_wp2_with (first
        |(go_at_call 79;(with_reducible refine(cont79_calls _ _ l1 g a0 _ HRw.out HZ1.out).mono ?_);rintro e w6 ⟨rfl,hd6⟩;rw[HBo.out];have HB6:=aM hd6.below;clear hd6))
      go_ret
      exact⟨by rw[HRS.out];rfl,ZQ HB3.out HB3.out.size (ZQ HBw.out HBw.out.size HB6.out)⟩
theorem perm_generators.calls (a0:Int) (A1:Option Addr) (c1:Nat) (l1:List (List Int)) (r:Int) (w:World) (hr1:Kd.C (Kd.slice 3 (Kd.int .i64)) w A1 l1.length l1) (hc1:l1.length≤c1) (h:perm_generators.f a0 l1=some r):
    Calls Try.prog 57 #[.int .i64 a0,.slice A1 l1.length c1] w fun e w'=>e= .returned (.int .i64 r)∧Below w.heap.size w w':=by
 obtain rfl:=oI h
 exact gens_post a0 A1 c1 l1 w hr1 hc1
def Yb:Nat→Tw→List (List Int)→Int→Option Tw
 |0,_,_,_=>none
 |k+1,T,l,i=>if i<(l.length:Int) then(if Zp l i= [] then none else(insertL k T (Zp l i) 0).bind fun T'=>Yb k T' l (i+1)) else some T
def perm_Build.f (k:Nat) (a0:Int) (l1:List (List Int)):Option (Int×List S74×Int):=
 (perm_generators.f a0 l1).bind fun e=>if e=0 then(if 0≤a0 then(newTowerL k a0.toNat).bind fun T=>(Yb k T l1 0).bind fun T'=>(chainL k T' 0 []).bind fun r=>some ((T'.n:Int),r,0) else none) else some (0,[],e)
def BuildPost (w:World) (r1:Int) (r2:List S74) (r3:Int) (e:Ending) (w':World):Prop:=∃v1_:Value,e= .returned (.tuple #[.agg #[.int .i64 r1,v1_],.int .i64 r3])∧Kd.N k74 74 w' w.heap.size (fun k_=>w.heap.size≤k_) v1_ r2∧Below w.heap.size w w'
theorem leaf_of_C {base:Nat} {w w1:World} {A:Option Addr} {l:List Int} {c:Nat} (h:(Kd.int .i64).C w A l.length l) (hc:l.length≤c) (hb:Below w.heap.size w w1) (hbase:w.heap.size≤base) (hl:l≠ []):Leaf base w1 (.slice A l.length c) l:=
 ⟨A,c,rfl,hc,Kd.F_mono (Kd.F_below (Kd.C_F (Kd.heap_int _) h) hb) (fun k hk=> .inl (Nat.lt_of_lt_of_le hk hbase)),fun e=>absurd e hl⟩
theorem build_post (k:Nat) (a0:Int) (A1:Option Addr) (c1:Nat) (l1:List (List Int)) (r1:Int) (r2:List S74) (r3:Int) (w:World) (hr1:Kd.C (Kd.slice 3 (Kd.int .i64)) w A1 l1.length l1) (hc1:l1.length≤c1) (h:perm_Build.f k a0 l1=some (r1,r2,r3)):
    Calls Try.prog 30 #[.int .i64 a0,.slice A1 l1.length c1] w (BuildPost w r1 r2 r3):=by
 unfold perm_Build.f at h
 replace h:=oB h
 obtain⟨e0,he0,h⟩:=h
 have HE:=aM he0
 have HR1:=aM hr1
 have HC1:=aM hc1
 clear he0 hr1 hc1
 by_cases c0:e0=0
 ·rw [if_pos c0] at h
  have c0b:(e0 !=0)=false:=bne_eq_false_iff_eq.mpr c0;clear c0
  by_cases c2:0≤a0
  ·rw [if_pos c2] at h;obtain⟨n,rfl⟩:=Int.eq_ofNat_of_zero_le c2;rw[Int.toNat_natCast] at h;replace h:=oB h;obtain⟨T0,hT0,h⟩:=h;replace h:=oB h;obtain⟨T1,hT1,h⟩:=h;replace h:=oB h;obtain⟨lv,hlv,h⟩:=h;simp only[Option.some.injEq,Prod.mk.injEq] at h;obtain⟨rfl,rfl,rfl⟩:=h;have HT0:=aM hT0;have HT1:=aM hT1;have HLV:=aM hlv;clear hT0 hT1 hlv c2
   go_enter Try.func30,Try.ntmps30
   go_wp2_with (first
    |((with_reducible refine Zr (N:=4) rfl ?_);refine Zx ?hg (N:=4) ?hd (cs:= #[.int .i64 0,.slice none 0 0]) (t:=46) ?hr ?_;(case hd=>rfl);(case hg=>rfl);(case hr=>first|(go_simp;done)|(go_simp;rfl));intro gres hgr w3 hbox3 hb3;have HGR:=aM (show w.heap.size≤gres by omega);have HB3:=aM hb3;have HBX3:=aM hbox3;clear hgr hb3 hbox3)
    |(go_at_call 57;(with_reducible refine(perm_generators.calls n _ _ l1 e0 _ ?s1 ?s2 HE.out).mono ?_);(case s1=>exact Kd.C_below HR1.out HB3.out);(case s2=>exact HC1.out);rintro e w5 ⟨rfl,hb5⟩;have HB5:=aM (Ze HB3.out hb5);have HBX5:=aM (Zg HBX3.out hb5);clear hb5)
    |(go_at_call 60;(with_reducible refine(newTower_calls k n T0 _ HT0.out).mono ?_);rintro e w6 ⟨bt,bR,bG,rb,vr,vg,rfl,hT6,hK6⟩;have HT6:=aM hT6;have HK6:=aM hK6;clear hT6 hK6))
   go_loopg [21] k (fun kq v21 w'=>∃(i:Int) (T:Tw) (vr1:Nat→Nat→Value) (vg1:Nat→Value),v21= .int .i64 i∧Aside0 (0≤i)∧Aside0 (Yb kq T l1 i=some T1)∧Aside0 (kq≤k)∧Aside0 (TwAt w5.heap.size w' bt bR bG rb vr1 vg1 T)∧Aside0 (Keep w5.heap.size w5 w'))
   case atStart=>exact⟨0,T0,vr,vg,rfl,⟨by omega⟩,HT1,⟨Nat.le_refl _⟩,HT6,HK6⟩
   case round=>
    clear HT1 HT6 HK6;obtain⟨i,T,vr1,vg1,rfl,HI0,HA,HK1,HT,HK⟩:=hrel
    cases gk with
    |zero=>exact absurd HA.out (by simp[Yb])
    | succ k1=>
     have H:=HA.out;clear HA;simp only[Yb] at H;have i0:=HI0.out;have q0:=eq_true i0
     by_cases d1:i<(l1.length:Int)
     ·rw [if_pos d1] at H
      by_cases d2:Zp l1 i= []
      ·rw[if_pos d2] at H;cases H
      rw[if_neg d2] at H;replace H:=oB H;obtain⟨T2,hT2,H⟩:=H;have H':=aM H;have HT2:=aM hT2;have d1b:decide (i<(l1.length:Int))=true:=dT d1;have hmax:l1.length≤9223372036854775807:=HR1.out.2.1;have q1:=eq_true d1;have hb0:=ZQ HB5.out HB5.out.size HK.out.below;obtain⟨ad,A2,c2,ea,hx1,hl2,hC2⟩:=ZY HR1.out i i0 d1
      cases ea;replace hx1:=(hb0.cell (wB w _ hx1)).trans hx1;have HLf:=aM (leaf_of_C hC2 hl2 hb0 HB5.out.size d2);clear H hT2 d2 hl2 hC2 hb0
      go_wp2_with (first
       |(go_at_call 61;(with_reducible refine((vi_ok k1).2 A2 c2 (Zp l1 i) 0 T2 _ HT.out HLf.out HT2.out).mono ?_);rintro e w8 ⟨rfl,vr8,vg8,hT8,hK8,hF8,hn8⟩;have HT8:=aM hT8;have HK8:=aM (HK.out.trans hK8);clear hT8 hK8 hF8 hn8))
      go_roundg k1
      case measure=>omega
      case rel=>exact⟨i+1,T2,vr8,vg8,rfl,⟨by have:=HI0.out;omega⟩,H',⟨by have:=HK1.out;omega⟩,HT8,HK8⟩
     rw[if_neg d1] at H;obtain rfl:=oI H;have d1b:decide (i<(l1.length:Int))=false:=dF d1;have hbx:=(HK.out.below.block gres (lt_of_some HBX5.out)).trans HBX5.out;have hz0:wr.cell? ⟨gres,0,none⟩=some (.int .i64 0):=(Zb hbx 0).trans rfl;have HBX:=aM hbx;clear hbx hz0
     go_wp2_with (first
      |(go_at_call 62;(with_reducible refine(chain_calls k lv _ HT.out HLV.out).mono ?_);rintro e w9 ⟨v9,rfl,hN9,hb9⟩;have HBX9:=aM (Zg HBX.out hb9);have hz0:w9.cell? ⟨gres,0,none⟩=some (.int .i64 0):=(Zb HBX9.out 0).trans rfl;have hz1:w9.cell? ⟨gres,1,none⟩=some (.slice none 0 0):=(Zb HBX9.out 1).trans rfl;have hf0:=Za HBX9.out 0;have hf1:=Za HBX9.out 1;obtain⟨A9,c9,rfl⟩:=N_slice_form hN9;have HN9:=aM hN9;have HB9:=aM hb9;clear hN9 hb9))
     refine bodyPost_ret (results_ct rfl _ _ gres 46 #[.int .i64 T.n,.slice A9 lv.length c9] (0,0) _ rfl (ZI (ZI HBX9.out 0 _ rfl) 1 _ rfl) Try.underlying46 rfl (by kernel_rfl)) rfl ?_;have hsz:w.heap.size≤w5.heap.size:=HB5.out.size;have hg5:gres<w5.heap.size:=lt_of_some HBX5.out
     refine⟨_,rfl,?_,?_⟩
     ·exact Kd.N_lower (Kd.N_mono (Kd.N_far (Kd.N_far (Kd.N_mono HN9.out (ok':=fun k=>w5.heap.size≤k) (fun k hk=>hk)) (p:=⟨gres,0,none⟩) (fun k hk=>by show k≠gres;omega) _) (p:=⟨gres,1,none⟩) (fun k hk=>by show k≠gres;omega) _) (fun k hk=>by omega)) (by have h1_:=HK.out.below.size;omega)
     ·exact((ZQ (ZQ HB5.out HB5.out.size HK.out.below) (Nat.le_trans HB5.out.size HK.out.below.size) HB9.out).setCell HGR.out _).setCell HGR.out _
  rw[if_neg c2] at h;cases h
 rw[if_neg c0] at h
 simp only[Option.some.injEq,Prod.mk.injEq] at h
 obtain⟨rfl,rfl,rfl⟩:=h
 have c0b:(e0 !=0)=true:=bne_iff_ne.mpr c0
 clear c0
 go_enter Try.func30,Try.ntmps30
 go_wp2_with (first
  |((with_reducible refine Zr (N:=4) rfl ?_);refine Zx ?hg2 (N:=4) ?hd2 (cs:= #[.int .i64 0,.slice none 0 0]) (t:=46) ?hr2 ?_;(case hd2=>rfl);(case hg2=>rfl);(case hr2=>first|(go_simp;done)|(go_simp;rfl));intro gres hgr w3 hbox3 hb3;have HGR:=aM (show w.heap.size≤gres by omega);have HB3:=aM hb3;have HBX3:=aM hbox3;clear hgr hb3 hbox3)
  |(go_at_call 57;(with_reducible refine(perm_generators.calls a0 _ _ l1 e0 _ ?t1 ?t2 HE.out).mono ?_);(case t1=>exact Kd.C_below HR1.out HB3.out);(case t2=>exact HC1.out);rintro e w5 ⟨rfl,hb5⟩;have HB5:=aM (Ze HB3.out hb5);have HBX5:=aM (Zg HBX3.out hb5);have hz0:w5.cell? ⟨gres,0,none⟩=some (.int .i64 0):=(Zb HBX5.out 0).trans rfl;have hz1:w5.cell? ⟨gres,1,none⟩=some (.slice none 0 0):=(Zb HBX5.out 1).trans rfl;have hf0:=Za HBX5.out 0;have hf1:=Za HBX5.out 1;clear hb5))
 refine bodyPost_ret (results_ct rfl _ _ gres 46 #[.int .i64 0,.slice none 0 0] (0,0) _ rfl (ZI (ZI HBX5.out 0 _ rfl) 1 _ rfl) Try.underlying46 rfl (by kernel_rfl)) rfl ?_
 exact⟨_,rfl,Kd.N_nil _ _ _ _ _,(HB5.out.setCell HGR.out _).setCell HGR.out _⟩
theorem perm_Build.calls (k:Nat) (a0:Int) (A1:Option Addr) (c1:Nat) (l1:List (List Int)) (r1:Int) (r2:List S74) (r3:Int) (w:World) (hr1:Kd.C (Kd.slice 3 (Kd.int .i64)) w A1 l1.length l1) (hc1:l1.length≤c1) (h:perm_Build.f k a0 l1=some (r1,r2,r3)):
    Calls Try.prog 30 #[.int .i64 a0,.slice A1 l1.length c1] w fun e w'=>∃v1_:Value,e= .returned (.tuple #[.agg #[.int .i64 r1,v1_],.int .i64 r3])∧Kd.N k74 74 w' w.heap.size (fun k_=>w.heap.size≤k_) v1_ r2∧Below w.heap.size w w':=
 (build_post k a0 A1 c1 l1 r1 r2 r3 w hr1 hc1 h).mono fun _ _ h=>h
theorem dr_trans {w w' w'':World} (h:Drawn0 w w') (h2:Drawn0 w' w''):Drawn0 w w'':=by
 obtain⟨⟨n,rfl⟩⟩:=h2
 exact h.step n
theorem wrap64_to {n:Int} (h: -9223372036854775808≤n∧n≤9223372036854775807):wrap64 n=n:=by unfold wrap64;omega
theorem rd_is (l:List Int) (n:Nat):rd l (n:Int)=l.getD n 0:=by simp[rd]
theorem take_eq_succ {α:Type} (d:α) {x y:List α} {i:Nat} (hx:i<x.length) (hy:i<y.length):x.take (i+1)=y.take (i+1)↔x.take i=y.take i∧x.getD i d=y.getD i d:=by
 rw[List.take_succ_eq_append_getElem hx,List.take_succ_eq_append_getElem hy]
 have e1:x.getD i d=x[i]:=by simp[List.getD_eq_getElem?_getD,hx]
 have e2:y.getD i d=y[i]:=by simp[List.getD_eq_getElem?_getD,hy]
 rw[e1,e2]
 constructor
 ·intro h
  have:=List.append_inj h (by simp;omega)
  exact⟨this.1,by simpa using this.2⟩
 ·rintro ⟨h1,h2⟩
  rw[h1,h2]
theorem eq_loop (x y:List Int) (hxy:x.length=y.length) (hb:x.length≤9223372036854775807):∀(m i:Nat),m=x.length-i→i≤x.length→x.take i=y.take i→slEq.l0 (m+1) x y (x.length:Int) (i:Int)=some (decide (x=y))
 | 0,i,hm,hi,ht=>by
  rw[slEq.l0,if_neg (by omega)];have:x=y:=by rw[List.take_of_length_le (by omega),List.take_of_length_le (by omega)] at ht;exact ht
  rw[dT this]
 | m +1,i,hm,hi,ht=>by
  rw[slEq.l0,if_pos (by omega),if_pos (by omega),if_pos (by omega),if_pos (by omega),rd_is,rd_is,wrap64_to (by omega)]
  by_cases h:x.getD i 0=y.getD i 0
  ·rw[if_pos h]
   exact eq_loop x y hxy hb m (i+1) (by omega) (by omega) ((take_eq_succ 0 (by omega) (by omega)).2 ⟨ht,h⟩)
  ·rw[if_neg h,dF (fun e=>h (by rw[e]))]
theorem Equal_is (x y:List Int) (hb:x.length≤9223372036854775807):∃k,slEq.f k x y=some (decide (x=y)):=by
 refine⟨x.length+1,?_⟩
 unfold slEq.f
 by_cases h:(x.length:Int)=(y.length:Int)
 ·rw[if_pos h]
  exact eq_loop x y (by omega) hb x.length 0 (by omega) (by omega) (by simp)
 rw[if_neg h,dF (fun e=>h (by rw[e]))]
def slEqF.f (l0 l1:List (List Int)):Option Bool:=some (decide (l0=l1))
theorem slEqF.calls (A0:Option Addr) (c0:Nat) (l0:List (List Int)) (A1:Option Addr) (c1:Nat) (l1:List (List Int)) (r:Bool) (w:World) (hr0:Kd.C (Kd.slice 3 (Kd.int .i64)) w A0 l0.length l0) (hc0:l0.length≤c0) (hr1:Kd.C (Kd.slice 3 (Kd.int .i64)) w A1 l1.length l1) (hc1:l1.length≤c1) (h:slEqF.f l0 l1=some r):
    Calls Try.prog 66 #[.slice A0 l0.length c0,.slice A1 l1.length c1,.func (.func 65) #[] #[]] w fun e w'=>e= .returned (.bool r)∧Drawn0 w w':=by
 obtain rfl:=oI h
 have HR0:=aM hr0
 have HR1:=aM hr1
 clear hr0 hr1 hc0 hc1 h
 by_cases hl:(l0.length:Int)=(l1.length:Int)
 ·have hlb :((l0.length:Int) !=(l1.length:Int))=false:=bne_eq_false_iff_eq.mpr hl
  have hlc:((l0.length:Int)==(l1.length:Int))=true:=beq_iff_eq.mpr hl;have HL:=aM hl;clear hl
  go_enter Try.func66,Try.ntmps66
  go_wp2
  go_loopg [17] l0.length (fun kq v17 w'=>∃i:Int,v17= .int .i64 i∧Aside0 (0≤i)∧Aside0 (i.toNat+kq=l0.length)∧Aside0 (l0.take i.toNat=l1.take i.toNat)∧Aside0 (Drawn0 w w'))
  case atStart=>exact⟨0,rfl,⟨by omega⟩,⟨by simp⟩,⟨by simp⟩,⟨Drawn0.refl _⟩⟩
  case round=>
   obtain⟨i,rfl,HI0,HI1,HA,HD⟩:=hrel;have i0:=HI0.out
   by_cases d1:i<(l0.length:Int)
   ·have d1b:decide (i<(l0.length:Int))=true:=dT d1;have d2:i<(l1.length:Int):=by have:=HL.out;omega
    have q0:=eq_true i0;have q1:=eq_true d1;have q2:=eq_true d2;have hmax:l0.length≤9223372036854775807:=HR0.out.2.1;obtain⟨ad,A2,c2,ea,hx1,hl2,hC2⟩:=ZY HR0.out i i0 d1
    cases ea;replace hx1:=(HD.out.below.cell (wB w _ hx1)).trans hx1;obtain⟨ad3,A3,c3,ea3,hx3,hl3,hC3⟩:=ZY HR1.out i i0 d2
    cases ea3;replace hx3:=(HD.out.below.cell (wB w _ hx3)).trans hx3;obtain⟨k2,hk2⟩:=Equal_is (Zp l0 i) (Zp l1 i) hC2.2.1;have HK2:=aM hk2;have HC2:=aM (Kd.C_below hC2 HD.out.below);have HC3:=aM (Kd.C_below hC3 HD.out.below);have HL2:=aM hl2;have HL3:=aM hl3;have HDD:=aM d2;clear hk2 hC2 hC3 hl2 hl3 d2
    have HX:Aside0 (l0.take (i+1).toNat=l1.take (i+1).toNat↔l0.take i.toNat=l1.take i.toNat∧Zp l0 i=Zp l1 i):=⟨by
     rw[show(i+1).toNat=i.toNat+1 by omega]
     exact take_eq_succ [] (by omega) (by have:=HDD.out;omega)⟩
    by_cases hb:Zp l0 i=Zp l1 i
    ·have hbd:decide (Zp l0 i=Zp l1 i)=true:=dT hb;have HBo:=aM hb;have HBd:=aM hbd;clear hb hbd
     go_wp2_with (first
      |(go_at_call 65;(with_reducible refine(slEq.calls k2 A2 c2 (Zp l0 i) A3 c3 (Zp l1 i) _ _ HC2.out HL2.out HC3.out HL3.out HK2.out).mono ?_);rintro e w5 ⟨rfl,hd5⟩;rw[HBd.out];have HD5:=aM hd5;clear hd5))
     obtain⟨k1,rfl⟩:∃m,gk=m+1:=⟨gk-1,by have:=HI1.out;omega⟩
     go_roundg k1
     case measure=>omega
     case rel=>exact⟨i+1,rfl,⟨by have:=HI0.out;omega⟩,⟨by have:=HI1.out;have:=HI0.out;omega⟩,⟨HX.out.2 ⟨HA.out,HBo.out⟩⟩,⟨dr_trans HD.out HD5.out⟩⟩
    have hbd:decide (Zp l0 i=Zp l1 i)=false:=dF hb;have HBo:=aM hb;have HBd:=aM hbd;clear hb hbd
    go_wp2_with (first
     |(go_at_call 65;(with_reducible refine(slEq.calls k2 A2 c2 (Zp l0 i) A3 c3 (Zp l1 i) _ _ HC2.out HL2.out HC3.out HL3.out HK2.out).mono ?_);rintro e w5 ⟨rfl,hd5⟩;rw[HBd.out];have HD5:=aM hd5;clear hd5))
    go_ret
    refine⟨?_,dr_trans HD.out HD5.out⟩;rw[dF (fun e=>HBo.out (by rw[e]))];rfl
   have d1b:decide (i<(l0.length:Int))=false:=dF d1;have ha:=HA.out;rw[List.take_of_length_le (by omega),List.take_of_length_le (by have:=HL.out;omega)] at ha;have HA2:=aM ha;clear ha;go_wp2;go_ret
   exact⟨by rw[dT HA2.out];rfl,HD.out⟩
 have hlb:((l0.length:Int) !=(l1.length:Int))=true:=bne_iff_ne.mpr hl
 have hlc:((l0.length:Int)==(l1.length:Int))=false:=beq_eq_false_iff_ne.mpr hl
 have HN:=aM (show l0≠l1 from fun e=>hl (by rw[e]))
 clear hl
 go_enter Try.func66,Try.ntmps66
 go_wp2
 go_ret
 exact⟨by rw[dF HN.out];rfl,Drawn0.refl _⟩
end
end Go.Proofs.Ytjjlhbgpdncpcaa.P