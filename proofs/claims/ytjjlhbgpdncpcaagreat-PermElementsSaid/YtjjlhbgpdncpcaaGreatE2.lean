/- What the claim's theorem is built on, part 2: words, walks of the code, and what they tell. -/
import Derived.Test.YtjjlhbgpdncpcaaGreatProg
import Derived.Below
import Derived.Deep.Draws
import Derived.Deep.AppendLies
import Derived.Maps.AppendAt
import Derived.OwnWalk
import Derived.Laws.BytesArg
import Derived.Laws.MakeOwn
import Derived.Laws.OwnMore
import Derived.Deep.OwnRows
import Derived.Tactics
import Derived.Lib.ConvBytes
import Derived.Laws.Slices
import Derived.WalkKit
import Derived.KernelRfl
import Derived.RowKit3
import Derived.Deep.LoopGhost
import Derived.Deep.QuietTactic
import Derived.BigQuiet
import Derived.WideLaws
import Derived.Deep.DeepCutAuto
import Derived.Deep.CutBlock
import Derived.Deep.RegionHeld3
import Derived.Laws.Rows
import Derived.Lib.AppendStr
import Derived.ArgAppend
import Derived.Laws.IdiomCopy
import Derived.OrdersHeld
import Derived.Laws.BitsLemmas
import Derived.RowKit
import Derived.WalkSpells
import Derived.Test.YtjjlhbgpdncpcaaGreatE1
import Derived.Test.YtjjlhbgpdncpcaaGreatE0
set_option linter.unusedVariables false
set_option linter.unusedSimpArgs false
set_option maxHeartbeats 8000000
set_option maxRecDepth 100000
open Go.RowKit Go.Proofs.YtjjlhbgpdncpcaaGreatW.PrintWords Go.Proofs.YtjjlhbgpdncpcaaGreatW.PrintLast Go.Proofs.YtjjlhbgpdncpcaaGreatW.PrintMore
namespace Go.Proofs.YtjjlhbgpdncpcaaGreat.P
section
attribute [local go_sem] ZH ZF ZL ZK ZB ZA ZG ZE
def errW:Option Int→Value
 |none=> .nilIface
 |some c=> .iface 0 (.int .i64 c)
theorem Zm:errW none= .nilIface:=rfl
theorem Zl (c:Int):errW (some c)= .iface 0 (.int .i64 c):=rfl
theorem info3:(Tryz.prog.info? 3).map (fun i=>(i.zero,i.size,i.bytes))=some (some (.int .i64 0),1,8):=by kernel_rfl
theorem info4:(Tryz.prog.info? 4).map (fun i=>(i.zero,i.size,i.bytes))=some (some (.bool false),1,1):=by kernel_rfl
theorem info32:(Tryz.prog.info? 32).map (fun i=>(i.zero,i.size,i.bytes))=some (some (.slice none 0 0),1,24):=by kernel_rfl
theorem info56:(Tryz.prog.info? 56).map (fun i=>(i.zero,i.size,i.bytes))=some (some (.agg #[(.int .i64 0),(.slice none 0 0),(.slice none 0 0)]),3,56):=by kernel_rfl
theorem info65:(Tryz.prog.info? 65).map (fun i=>(i.zero,i.size,i.bytes))=some (some (.int .u32 0),1,4):=by kernel_rfl
def Zo (xs:List (List Int)) (i:Int):(List Int):=xs.getD i.toNat ([]:List Int)
theorem ZY {w:World} {A:Option Addr} {n:Nat} {xs:List (List Int)} (h:Kd.C (Kd.slice 3 (Kd.int .i64)) w A n xs) (i:Int) (h0:0≤i) (h1:i<n):∃ad A0 c0,A=some ad∧w.cell? (ad.add i.toNat)=some (.slice A0 (Zo xs i).length c0)∧(Zo xs i).length≤c0∧(Kd.int .i64).C w A0 (Zo xs i).length (Zo xs i):=by
 obtain⟨ad,c,e,_,hK,m⟩:=Kd.C_get h ([]:List Int) i h0 h1
 have hc:∀j u,c[j]? =some u→w.cell? (ad.add (i.toNat*1+j))=some u:=m
 obtain⟨A0,c0,rfl,l0,g0⟩:=hK
 exact⟨ad,A0,c0,e,by have hq:=hc 0 _ rfl;rwa [Nat.mul_one,Nat.add_zero] at hq,l0,g0⟩
structure S56 where
 f0:Int
 f1:(List Int)
 f2:(List (List Int))
def z56:S56:=⟨(0:Int),([]:List Int),([]:List (List Int))⟩
def k56:Kd S56:=Kd.iso (Kd.pair (Kd.int .i64) (Kd.pair (Kd.slice 3 (Kd.int .i64)) (Kd.slice 32 (Kd.slice 3 (Kd.int .i64))))) (fun x:S56=>(x.f0,x.f1,x.f2))
theorem k56_heap:Kd.Heap k56:=Kd.heap_iso _ (Kd.heap_pair (Kd.heap_int .i64) (Kd.heap_pair (Kd.heap_slice 3 (Kd.heap_int .i64)) (Kd.heap_slice 32 (Kd.heap_slice 3 (Kd.heap_int .i64)))))
theorem k56_open {w:World} {x:S56} {cs:List Value} (h:k56.K w x cs):∃A1 c1 A2 c2,cs= [.int .i64 x.f0,.slice A1 x.f1.length c1,.slice A2 x.f2.length c2]∧x.f1.length≤c1∧(Kd.int .i64).C w A1 x.f1.length x.f1∧x.f2.length≤c2∧(Kd.slice 3 (Kd.int .i64)).C w A2 x.f2.length x.f2:=by
 obtain⟨_,_,rfl,rfl,⟨_,_,rfl,⟨A1,c1,rfl,l1,g1⟩,⟨A2,c2,rfl,l2,g2⟩⟩⟩:=h
 exact⟨A1,c1,A2,c2,rfl,l1,g1,l2,g2⟩
theorem k56_mk (w:World) (x:S56) {A1:Option Addr} {c1:Nat} (l1:x.f1.length≤c1) (g1:(Kd.int .i64).C w A1 x.f1.length x.f1) {A2:Option Addr} {c2:Nat} (l2:x.f2.length≤c2) (g2:(Kd.slice 3 (Kd.int .i64)).C w A2 x.f2.length x.f2):k56.K w x [.int .i64 x.f0,.slice A1 x.f1.length c1,.slice A2 x.f2.length c2]:=⟨[.int .i64 x.f0],[.slice A1 x.f1.length c1,.slice A2 x.f2.length c2],rfl,rfl,⟨[.slice A1 x.f1.length c1],[.slice A2 x.f2.length c2],rfl,⟨A1,c1,rfl,l1,g1⟩,⟨A2,c2,rfl,l2,g2⟩⟩⟩
theorem Z6 {W:World} {ok:Nat→Prop} {x:S56} {cs:List Value} (h:Kd.FK k56 W ok x cs):∃A1 c1 A2 c2,cs= [.int .i64 x.f0,.slice A1 x.f1.length c1,.slice A2 x.f2.length c2]∧x.f1.length≤c1∧Kd.F (Kd.int .i64) W ok A1 x.f1.length x.f1∧x.f2.length≤c2∧Kd.F (Kd.slice 3 (Kd.int .i64)) W ok A2 x.f2.length x.f2:=by
 obtain⟨A1,c1,A2,c2,rfl,l1,_,l2,_⟩:=k56_open (Kd.FK_now h)
 exact⟨A1,c1,A2,c2,rfl,l1,(fun W' hW=>by obtain⟨e,o,m,z,he,I,B,J,D⟩:=k56_open (h W' hW);injection(Option.some.inj (show some (Value.slice A1 x.f1.length c1)=some (Value.slice e x.f1.length o) from congrArg (fun l=>l[1]?) he)) with ha_ _ _;rw[ha_];exact B),l2,(fun W' hW=>by obtain⟨e,o,m,z,he,I,B,J,D⟩:=k56_open (h W' hW);injection(Option.some.inj (show some (Value.slice A2 x.f2.length c2)=some (Value.slice m x.f2.length z) from congrArg (fun l=>l[2]?) he)) with ha_ _ _;rw[ha_];exact D)⟩
theorem k56_mkF (W:World) (ok:Nat→Prop) (x:S56) {A1:Option Addr} {c1:Nat} (l1:x.f1.length≤c1) (g1:Kd.F (Kd.int .i64) W ok A1 x.f1.length x.f1) {A2:Option Addr} {c2:Nat} (l2:x.f2.length≤c2) (g2:Kd.F (Kd.slice 3 (Kd.int .i64)) W ok A2 x.f2.length x.f2):Kd.FK k56 W ok x [.int .i64 x.f0,.slice A1 x.f1.length c1,.slice A2 x.f2.length c2]:=fun W2 hW=>k56_mk W2 x l1 (g1 W2 hW) l2 (g2 W2 hW)
def Ze (xs:List S56) (i:Int):S56:=xs.getD i.toNat z56
theorem Z4 {w:World} {A:Option Addr} {n:Nat} {xs:List S56} (h:Kd.C k56 w A n xs) (i:Int) (h0:0≤i) (h1:i<n):∃ad A1 c1 A2 c2,A=some ad∧w.cell? (ad.add (i.toNat*3))=some (.int .i64 (Ze xs i).f0)∧w.cell? ⟨(ad.add (i.toNat*3)).block,(ad.add (i.toNat*3)).off+1,none⟩=some (.slice A1 (Ze xs i).f1.length c1)∧w.cell? ⟨(ad.add (i.toNat*3)).block,(ad.add (i.toNat*3)).off+2,none⟩=some (.slice A2 (Ze xs i).f2.length c2)∧(Ze xs i).f1.length≤c1∧(Kd.int .i64).C w A1 (Ze xs i).f1.length (Ze xs i).f1∧(Ze xs i).f2.length≤c2∧(Kd.slice 3 (Kd.int .i64)).C w A2 (Ze xs i).f2.length (Ze xs i).f2:=by
 obtain⟨ad,c,e,_,hK,m⟩:=Kd.C_get h z56 i h0 h1
 have hc:∀j u,c[j]? =some u→w.cell? (ad.add (i.toNat*3+j))=some u:=m
 obtain⟨A1,c1,A2,c2,rfl,l1,g1,l2,g2⟩:=k56_open hK
 exact⟨ad,A1,c1,A2,c2,e,hc 0 _ rfl,by rw[←ZN _ _ 1 (by omega)];exact hc 1 _ rfl,by rw[←ZN _ _ 2 (by omega)];exact hc 2 _ rfl,l1,g1,l2,g2⟩
structure S24 where
 f0:Int
 f1:(List S56)
def z24:S24:=⟨(0:Int),([]:List S56)⟩
def rd_L8 (xs:List (List Int)) (i:Int):(List Int):=xs.getD i.toNat ([]:List Int)
theorem at_L8 {w:World} {A:Option Addr} {n:Nat} {xs:List (List Int)} (h:Kd.C (Kd.slice 65 (Kd.int .u32)) w A n xs) (i:Int) (h0:0≤i) (h1:i<n):∃ad A0 c0,A=some ad∧w.cell? (ad.add i.toNat)=some (.slice A0 (rd_L8 xs i).length c0)∧(rd_L8 xs i).length≤c0∧(Kd.int .u32).C w A0 (rd_L8 xs i).length (rd_L8 xs i):=by
 obtain⟨ad,c,e,_,hK,m⟩:=Kd.C_get h ([]:List Int) i h0 h1
 have hc:∀j u,c[j]? =some u→w.cell? (ad.add (i.toNat*1+j))=some u:=m
 obtain⟨A0,c0,rfl,l0,g0⟩:=hK
 exact⟨ad,A0,c0,e,by have hq:=hc 0 _ rfl;rwa [Nat.mul_one,Nat.add_zero] at hq,l0,g0⟩
theorem aM {p:Prop} (h:p):Aside0 p:=⟨h⟩
theorem sA {α:Type} (l:List α) (i:Nat) (a:α):l.toArray.setIfInBounds i a=(l.set i a).toArray:=List.setIfInBounds_toArray l i a
theorem sB {α:Type} {x:α} {xs:List α} {a:α} :(x::xs).set 0 a=a::xs:=List.set_cons_zero
theorem sC {α:Type} {x:α} {xs:List α} {i:Nat} {a:α} :(x::xs).set (i+1) a=x::xs.set i a:=List.set_cons_succ
theorem wB (w:World) (a:Addr) {u:Value} (h:w.cell? a=some u):a.block<w.heap.size:=World.block_lt_of_cell? w a h
theorem oB {α β:Type} {b:β} {x:Option α} {f:α→Option β} (h:x.bind f=some b):∃a,x=some a∧f a=some b:=Option.bind_eq_some_iff.mp h
theorem oI {α:Type} {a b:α} (h:some a=some b):a=b:=Option.some.inj h
theorem oD {p:Prop} [Decidable p] (h:decide p=true):p:=of_decide_eq_true h
theorem dT {p:Prop} [Decidable p] (h:p):decide p=true:=decide_eq_true h
theorem dF {p:Prop} [Decidable p] (h:¬p):decide p=false:=decide_eq_false h
theorem zN0 {p:Prop} (h:p:=by(repeat' apply And.intro)<;>(first|exact hk|exact hk.1|exact hk.2|exact hk.1.1|exact hk.1.2|exact hk.2.1|exact hk.2.2|exact hk.1.1.1|exact hk.1.1.2|exact hk.1.2.1|exact hk.1.2.2|exact hk.2.1.1|exact hk.2.1.2|exact hk.2.2.1|exact hk.2.2.2|exact hk.1.1.1.1|exact hk.1.1.1.2|exact hk.2.2.2.1|exact hk.2.2.2.2)):p:=h
theorem zC {p q:Prop} (a:q) (h:q→p:=by intro a_;repeat(first|exact a_|(with_reducible refine Kd.C_alloc ?_ _)|(with_reducible refine Kd.C_drewN ?_ _)|(with_reducible refine Kd.C_drew ?_))):p:=h a
theorem zR {p q:Prop} (a:Aside0 q) (h:q→p:=by intro a_;(with_reducible repeat(first|apply Kd.R_alloc|apply Kd.R_drewN|apply Kd.R_drew));exact a_):p:=h a.out
theorem zV {p q:Prop} (a:Aside0 q) (h:q→p:=by intro a_;(with_reducible repeat(first|apply Kd.V_alloc|apply Kd.V_drewN|apply Kd.V_drew));exact a_):p:=h a.out
theorem zN {p q:Prop} (a:Aside0 q) (h:q→p:=by intro a_;(with_reducible repeat(first|apply Kd.N_alloc|apply Kd.N_drewN|apply Kd.N_drew));exact a_):p:=h a.out
theorem zS {p q:Prop} (a:Aside0 q) (h:q→p:=by intro a_;(with_reducible repeat(first|apply Kd.S_alloc|apply Kd.S_drewN|apply Kd.S_drew));exact a_):p:=h a.out
theorem zB {p q:Prop} (a:Aside0 q) (h:q→p:=by intro a_;(with_reducible repeat(first|refine Zn ?_ _|refine Zp ?_|refine Zk ?_ _));exact a_):p:=h a.out
theorem zz169 {p:Prop} (h:p:=by simp[Value.ownBlock]):p:=h
theorem zz167 {p:Prop} (h:p:=by have:=HK1.out;omega):p:=h
theorem zz168 {p:Prop} (h:p:=by have:=HN7.out;omega):p:=h
theorem zz165 {p:Prop} (h:p:=by simp[Kd.int,Kd.scalar]):p:=h
theorem zz166 {p:Prop} (h:p:=by rw[e_];exact GW364.out):p:=h
theorem zz164 {p:Prop} (h:p:=by rw[List.length_set];exact hx):p:=h
theorem zz163 {p:Prop} (h:p:=by cases k<;>simp[l30_awakeW.j0]):p:=h
theorem zz162 {p:Prop} (h:p:=by rw[List.length_replicate];omega):p:=h
theorem zz161 {p:Prop} (h:p:=by cases kj6<;>simp[l30_awakeW.j1]):p:=h
theorem zz160 {p:Prop} (h:p:=by first|omega|exact Nat.le_refl _):p:=h
theorem zz159 {p:Prop} (h:p:=by have:=HK1.out;have:=HK2.out;omega):p:=h
theorem zz157 {p:Prop} (h:p:=by first|rfl|(simp;done)|(simp[*];done)):p:=h
theorem zz158 {p:Prop} (h:p:=by show w.heap.size≤w.heap.size+1+1;omega):p:=h
theorem zz156 {p:Prop} (h:p:=by first|(with_reducible assumption)|assumption):p:=h
theorem zz155 {p:Prop} (h:p:=by have:=HK1.out;have:=HK2.out;have:=HK3.out;omega):p:=h
theorem zz153 {p:Prop} (h:p:=by have:=HJ2.out;have:=HK2.out;first|omega|exact Nat.le_refl _):p:=h
theorem zz154 {p:Prop} (h:p:=by rw[show((ji3.toNat:Nat):Int)=ji3 from by omega];exact HZ.out):p:=h
theorem zz151 {p:Prop} (h:p:=by have:=HJ3.out;have:=HJ10.out;first|omega|exact Nat.le_refl _):p:=h
theorem zz152 {p:Prop} (h:p:=by rw[←HPL.out];exact(Za (Zf HI.out.cn hb9) 0).trans rfl):p:=h
theorem zz150 {p:Prop} (h:p:=by rw[←HPL.out];exact(Za (Zf HI.out.cn hb10) 0).trans rfl):p:=h
theorem zz149 {p:Prop} (h:p:=by have:=HJ1.out;have:=HK2.out;have:=HK3.out;have:=HK4.out;omega):p:=h
theorem zz148 {p:Prop} (h:p:=by first|rfl|(simp only[←hji3]<;>(first|rfl|simp))|(simp[*];done)):p:=h
theorem zz147 {p:Prop} (h:p:=by rw[show((ji3.toNat:Nat):Int)=ji3 from by have:=of_eq_true p0;omega];exact c6):p:=h
theorem zz146 {p:Prop} (h:p:=by have:=wB _ _ hx271_0;first|rwa [Zs] at this|exact this):p:=h
theorem zz139 {p:Prop} (h:p:=by simp only[putAll,Act.put,sA,sB,sC]):p:=h
theorem zz137 {p:Prop} (h:p:=by have h1_:=HGR.out;have h2_:=lt_of_some HT.out.ht;have h3_:=HB3.out.size;show bt≠gout;omega):p:=h
theorem zz138 {p:Prop} (h:p:=by first|exact Kd.N_base ho0|exact Kd.N_base (Kd.S_N ho0)|exact Kd.N_base (Kd.S_N (Kd.S_bound ho0))):p:=h
theorem zz136 {p:Prop} (h:p:=by repeat(first|(with_reducible exact Go.RowKit.Below.refl _ _)|apply Zg|apply Zj)):p:=h
theorem zz130 {p:Prop} (h:p:=by first|(rw[Zs];exact hn269_0)|(show(Addr.add _ _).block≠_;rw[Zs];exact hn269_0)|exact hn269_0):p:=h
theorem zz131 {p:Prop} (h:p:=by first|(rw[Zs];exact hn269_1)|(show(Addr.add _ _).block≠_;rw[Zs];exact hn269_1)|exact hn269_1):p:=h
theorem zz132 {p:Prop} (h:p:=by first|(rw[Zs];exact hn269_2)|(show(Addr.add _ _).block≠_;rw[Zs];exact hn269_2)|exact hn269_2):p:=h
theorem zz133 {p:Prop} (h:p:=by first|(rw[Zs];exact hn271_0)|(show(Addr.add _ _).block≠_;rw[Zs];exact hn271_0)|exact hn271_0):p:=h
theorem zz134 {p:Prop} (h:p:=by first|(rw[Zs];exact hn271_1)|(show(Addr.add _ _).block≠_;rw[Zs];exact hn271_1)|exact hn271_1):p:=h
theorem zz135 {p:Prop} (h:p:=by first|(rw[Zs];exact hn271_2)|(show(Addr.add _ _).block≠_;rw[Zs];exact hn271_2)|exact hn271_2):p:=h
theorem zz129 {p:Prop} (h:p:=by(try simp only[hl7_2]);(with_reducible repeat(first|apply Kd.R_alloc|apply Kd.R_drewN|apply Kd.R_drew));exact HO_7.out):p:=h
theorem zz128 {p:Prop} (h:p:=by repeat(first|(with_reducible first|exact HB.out|apply Zh|apply Zg|apply Zj)|exact HB.out)):p:=h
theorem zz127 {p:Prop} (h:p:=by(try simp only[List.map_toArray,List.map_cons,List.map_nil]);first|done|rfl|(simp only[List.length_drop,List.length_take];rfl)):p:=h
theorem zz125 {p:Prop} (h:p:=by first|exact Kd.S_nil _ _ _ _ _|exact Kd.N_nil _ _ _ _ _|exact Kd.V_nil _ _ _ _ _|exact Kd.Q_nil _ _ _ _ _|exact Kd.R_nil _ _ _ _ _):p:=h
theorem zz126 {p:Prop} (h:p:=by first|exact Kd.R_nil _ _ _ _ _|exact Kd.N_nil _ _ _ _ _|exact Kd.V_nil _ _ _ _ _|exact Kd.Q_nil _ _ _ _ _|exact Kd.S_nil _ _ _ _ _):p:=h
theorem zz120 {p:Prop} (h:p:=by first|exact q362|exact oD zz156|(have e_:=(Kd.N_reads' HO_6.out).1;omega)):p:=h
theorem zz121 {p:Prop} (h:p:=by first|exact q374|exact oD zz156|(have e_:=(Kd.N_reads' HO_6.out).1;omega)):p:=h
theorem zz122 {p:Prop} (h:p:=by first|exact q375|exact oD zz156|(have e_:=(Kd.N_reads' HO_6.out).1;omega)):p:=h
theorem zz123 {p:Prop} (h:p:=by first|exact q324|exact oD zz156|(have e_:=(Kd.V_reads' HO_1.out).1;omega)):p:=h
theorem zz124 {p:Prop} (h:p:=by first|exact q326|exact oD zz156|(have e_:=(Kd.V_reads' HO_1.out).1;omega)):p:=h
theorem zz118 {p:Prop} (h:p:=by first|exact q216|exact oD zz156|(have e_:=(Kd.V_reads' HO_25.out).1;omega)):p:=h
theorem zz119 {p:Prop} (h:p:=by first|exact q227|exact oD zz156|(have e_:=(Kd.V_reads' HO_70.out).1;omega)):p:=h
theorem zz117 {p:Prop} (h:p:=by first|exact q229|exact oD zz156|(have e_:=(Kd.N_reads' HO_227001.out).1;omega)):p:=h
theorem zz111 {p:Prop} (h:p:=by(try simp only[hl5_1]);(try simp only[hl5_2]);(with_reducible repeat(first|apply Kd.R_alloc|apply Kd.R_drewN|apply Kd.R_drew));exact HO_5.out):p:=h
theorem zz112 {p:Prop} (h:p:=by(with_reducible repeat(first|apply Kd.N_alloc|apply Kd.N_drewN|apply Kd.N_drew));exact Kd.N_mono HO367.out (fun _ hk=>⟨hk.1.2,⟨hk.1.1,hk.2⟩⟩)):p:=h
theorem zz113 {p:Prop} (h:p:=by(with_reducible repeat(first|apply Kd.N_alloc|apply Kd.N_drewN|apply Kd.N_drew));exact Kd.N_mono HO371.out (fun _ hk=>⟨hk.1.1,⟨hk.1.2,hk.2⟩⟩)):p:=h
theorem zz114 {p:Prop} (h:p:=by(with_reducible repeat(first|apply Kd.N_alloc|apply Kd.N_drewN|apply Kd.N_drew));exact Kd.N_mono HO367.out (fun _ hk=>⟨hk.2,⟨hk.1.1,hk.1.2⟩⟩)):p:=h
theorem zz115 {p:Prop} (h:p:=by(try simp only[hl7_2]);(try simp only[hl7_3]);(with_reducible repeat(first|apply Kd.R_alloc|apply Kd.R_drewN|apply Kd.R_drew));exact HO_7.out):p:=h
theorem zz116 {p:Prop} (h:p:=by(try simp only[hl7_2]);(try simp only[hl7_3]);(with_reducible repeat(first|apply Kd.S_alloc|apply Kd.S_drewN|apply Kd.S_drew));exact HO_8.out):p:=h
theorem zz110 {p:Prop} (h:p:=by(try simp only[hl7_2]);(try simp only[hl7_3]);(with_reducible repeat(first|apply Kd.R_alloc|apply Kd.R_drewN|apply Kd.R_drew));exact HO_10.out):p:=h
theorem zz109 {p:Prop} (h:p:=by rw[←hq_];exact zz128):p:=h
theorem zz94 {p:Prop} (h:p:=by repeat(first|(with_reducible first|exact HB.out|apply Zh|apply Zg|apply Zj|refine Zi ?_ GE318.out)|exact HB.out)):p:=h
theorem zz95 {p:Prop} (h:p:=by repeat(first|(with_reducible first|exact HB.out|apply Zh|apply Zg|apply Zj|refine Zi ?_ GE350.out)|exact HB.out)):p:=h
theorem zz96 {p:Prop} (h:p:=by repeat(first|(with_reducible first|exact HB.out|apply Zh|apply Zg|apply Zj|refine Zi ?_ GE288.out)|exact HB.out)):p:=h
theorem zz97 {p:Prop} (h:p:=by repeat(first|(with_reducible first|exact HB.out|apply Zh|apply Zg|apply Zj|refine Zi ?_ GE301.out)|exact HB.out)):p:=h
theorem zz98 {p:Prop} (h:p:=by repeat(first|(with_reducible first|exact HB.out|apply Zh|apply Zg|apply Zj|refine Zi ?_ GE359.out)|exact HB.out)):p:=h
theorem zz99 {p:Prop} (h:p:=by repeat(first|(with_reducible first|exact HB.out|apply Zh|apply Zg|apply Zj|refine Zi ?_ GE364.out)|exact HB.out)):p:=h
theorem zz100 {p:Prop} (h:p:=by repeat(first|(with_reducible first|exact HB.out|apply Zh|apply Zg|apply Zj|refine Zi ?_ GE304.out)|exact HB.out)):p:=h
theorem zz101 {p:Prop} (h:p:=by repeat(first|(with_reducible first|exact HB.out|apply Zh|apply Zg|apply Zj|refine Zi ?_ GE214.out)|exact HB.out)):p:=h
theorem zz102 {p:Prop} (h:p:=by repeat(first|(with_reducible first|exact HB.out|apply Zh|apply Zg|apply Zj|refine Zi ?_ GE261.out)|exact HB.out)):p:=h
theorem zz103 {p:Prop} (h:p:=by repeat(first|(with_reducible first|exact HB.out|apply Zh|apply Zg|apply Zj|refine Zi ?_ GE278.out)|exact HB.out)):p:=h
theorem zz104 {p:Prop} (h:p:=by repeat(first|(with_reducible first|exact HB.out|apply Zh|apply Zg|apply Zj|refine Zi ?_ GE380.out)|exact HB.out)):p:=h
theorem zz105 {p:Prop} (h:p:=by repeat(first|(with_reducible first|exact HB.out|apply Zh|apply Zg|apply Zj|refine Zi ?_ GE392.out)|exact HB.out)):p:=h
theorem zz106 {p:Prop} (h:p:=by repeat(first|(with_reducible first|exact HB.out|apply Zh|apply Zg|apply Zj|refine Zi ?_ GE244.out)|exact HB.out)):p:=h
theorem zz107 {p:Prop} (h:p:=by repeat(first|(with_reducible first|exact HB.out|apply Zh|apply Zg|apply Zj|refine Zi ?_ GE420.out)|exact HB.out)):p:=h
theorem zz108 {p:Prop} (h:p:=by repeat(first|(with_reducible first|exact HB.out|apply Zh|apply Zg|apply Zj|refine Zi ?_ GE339.out)|exact HB.out)):p:=h
theorem zz93 {p:Prop} (h:p:=by(try simp only[List.map_toArray,List.map_cons,List.map_nil]);first|done|(simp only[hji52];rfl)|rfl|(simp only[List.length_drop,List.length_take];rfl)):p:=h
theorem zz92 {p:Prop} (h:p:=by(with_reducible repeat(first|apply Kd.V_alloc|apply Kd.V_drewN|apply Kd.V_drew));exact Kd.V_mono HO0_1.out (fun _ hk=>⟨hk.1,⟨zz169,hk.2⟩⟩)):p:=h
theorem zz91 {p:Prop} (h:p:=by(try simp only[hl5_1]);(try simp only[hl6_2]);(try simp only[hl6_3]);(with_reducible repeat(first|apply Kd.N_alloc|apply Kd.N_drewN|apply Kd.N_drew));exact HO_6.out):p:=h
theorem zz90 {p:Prop} (h:p:=by rw[←hq_];exact zz95):p:=h
theorem zz83 {p:Prop} (h:p:=by repeat(first|(with_reducible exact HR359_0.out)|(with_reducible refine Kd.C_alloc ?_ _)|(with_reducible refine Kd.C_drewN ?_ _)|(with_reducible refine Kd.C_drew ?_)|exact HR359_0.out)):p:=h
theorem zz84 {p:Prop} (h:p:=by repeat(first|(with_reducible exact HR362_0.out)|(with_reducible refine Kd.C_alloc ?_ _)|(with_reducible refine Kd.C_drewN ?_ _)|(with_reducible refine Kd.C_drew ?_)|exact HR362_0.out)):p:=h
theorem zz85 {p:Prop} (h:p:=by repeat(first|(with_reducible exact HR374_0.out)|(with_reducible refine Kd.C_alloc ?_ _)|(with_reducible refine Kd.C_drewN ?_ _)|(with_reducible refine Kd.C_drew ?_)|exact HR374_0.out)):p:=h
theorem zz86 {p:Prop} (h:p:=by repeat(first|(with_reducible exact HR375_0.out)|(with_reducible refine Kd.C_alloc ?_ _)|(with_reducible refine Kd.C_drewN ?_ _)|(with_reducible refine Kd.C_drew ?_)|exact HR375_0.out)):p:=h
theorem zz87 {p:Prop} (h:p:=by repeat(first|(with_reducible exact HR147_0.out)|(with_reducible refine Kd.C_alloc ?_ _)|(with_reducible refine Kd.C_drewN ?_ _)|(with_reducible refine Kd.C_drew ?_)|exact HR147_0.out)):p:=h
theorem zz88 {p:Prop} (h:p:=by repeat(first|(with_reducible exact HR324_0.out)|(with_reducible refine Kd.C_alloc ?_ _)|(with_reducible refine Kd.C_drewN ?_ _)|(with_reducible refine Kd.C_drew ?_)|exact HR324_0.out)):p:=h
theorem zz89 {p:Prop} (h:p:=by repeat(first|(with_reducible exact HR326_0.out)|(with_reducible refine Kd.C_alloc ?_ _)|(with_reducible refine Kd.C_drewN ?_ _)|(with_reducible refine Kd.C_drew ?_)|exact HR326_0.out)):p:=h
theorem zz74 {p:Prop} (h:p:=by repeat(first|(with_reducible first|exact HB.out|apply Zh|apply Zg|apply Zj|refine Zi ?_ GE318.out|refine Zi ?_ GE319.out)|exact HB.out)):p:=h
theorem zz75 {p:Prop} (h:p:=by repeat(first|(with_reducible first|exact HB.out|apply Zh|apply Zg|apply Zj|refine Zi ?_ GE288.out|refine Zi ?_ GE289.out)|exact HB.out)):p:=h
theorem zz76 {p:Prop} (h:p:=by repeat(first|(with_reducible first|exact HB.out|apply Zh|apply Zg|apply Zj|refine Zi ?_ GE364.out|refine Zi ?_ GE373.out)|exact HB.out)):p:=h
theorem zz77 {p:Prop} (h:p:=by repeat(first|(with_reducible first|exact HB.out|apply Zh|apply Zg|apply Zj|refine Zi ?_ GE214.out|refine Zi ?_ GE217.out)|exact HB.out)):p:=h
theorem zz78 {p:Prop} (h:p:=by repeat(first|(with_reducible first|exact HB.out|apply Zh|apply Zg|apply Zj|refine Zi ?_ GE214.out|refine Zi ?_ GE226.out)|exact HB.out)):p:=h
theorem zz79 {p:Prop} (h:p:=by repeat(first|(with_reducible first|exact HB.out|apply Zh|apply Zg|apply Zj|refine Zi ?_ GE261.out|refine Zi ?_ GE268.out)|exact HB.out)):p:=h
theorem zz80 {p:Prop} (h:p:=by repeat(first|(with_reducible first|exact HB.out|apply Zh|apply Zg|apply Zj|refine Zi ?_ GE380.out|refine Zi ?_ GE382.out)|exact HB.out)):p:=h
theorem zz81 {p:Prop} (h:p:=by repeat(first|(with_reducible first|exact HB.out|apply Zh|apply Zg|apply Zj|refine Zi ?_ GE244.out|refine Zi ?_ GE250.out)|exact HB.out)):p:=h
theorem zz82 {p:Prop} (h:p:=by repeat(first|(with_reducible first|exact HB.out|apply Zh|apply Zg|apply Zj|refine Zi ?_ GE339.out|refine Zi ?_ GE395.out)|exact HB.out)):p:=h
theorem zz73 {p:Prop} (h:p:=by rw[←hq_];exact zz84):p:=h
theorem zz69 {p:Prop} (h:p:=by repeat(first|(with_reducible first|exact HB.out|apply Zh|apply Zg|apply Zj|refine Zi ?_ GE318.out|refine Zi ?_ GE319.out|refine Zi ?_ GE320.out)|exact HB.out)):p:=h
theorem zz70 {p:Prop} (h:p:=by repeat(first|(with_reducible first|exact HB.out|apply Zh|apply Zg|apply Zj|refine Zi ?_ GE288.out|refine Zi ?_ GE289.out|refine Zi ?_ GE292.out)|exact HB.out)):p:=h
theorem zz71 {p:Prop} (h:p:=by repeat(first|(with_reducible first|exact HB.out|apply Zh|apply Zg|apply Zj|refine Zi ?_ GE288.out|refine Zi ?_ GE289.out|refine Zi ?_ GE293.out)|exact HB.out)):p:=h
theorem zz72 {p:Prop} (h:p:=by repeat(first|(with_reducible first|exact HB.out|apply Zh|apply Zg|apply Zj|refine Zi ?_ GE214.out|refine Zi ?_ GE226.out|refine Zi ?_ GE228.out)|exact HB.out)):p:=h
theorem zz63 {p:Prop} (h:p:=by first|exact(Kd.V_reads' HL216_1.out).2.2|(repeat(first|(with_reducible exact HR216_1.out)|(with_reducible refine Kd.C_alloc ?_ _)|(with_reducible refine Kd.C_drewN ?_ _)|(with_reducible refine Kd.C_drew ?_)|exact HR216_1.out))):p:=h
theorem zz64 {p:Prop} (h:p:=by first|exact(Kd.V_reads' HL216_2.out).2.2|(repeat(first|(with_reducible exact HR216_2.out)|(with_reducible refine Kd.C_alloc ?_ _)|(with_reducible refine Kd.C_drewN ?_ _)|(with_reducible refine Kd.C_drew ?_)|exact HR216_2.out))):p:=h
theorem zz65 {p:Prop} (h:p:=by first|exact(Kd.V_reads' HL227_1.out).2.2|(repeat(first|(with_reducible exact HR227_1.out)|(with_reducible refine Kd.C_alloc ?_ _)|(with_reducible refine Kd.C_drewN ?_ _)|(with_reducible refine Kd.C_drew ?_)|exact HR227_1.out))):p:=h
theorem zz66 {p:Prop} (h:p:=by first|exact(Kd.V_reads' HL227_2.out).2.2|(repeat(first|(with_reducible exact HR227_2.out)|(with_reducible refine Kd.C_alloc ?_ _)|(with_reducible refine Kd.C_drewN ?_ _)|(with_reducible refine Kd.C_drew ?_)|exact HR227_2.out))):p:=h
theorem zz67 {p:Prop} (h:p:=by first|exact(Kd.V_reads' HL229_1.out).2.2|(repeat(first|(with_reducible exact HR229_1.out)|(with_reducible refine Kd.C_alloc ?_ _)|(with_reducible refine Kd.C_drewN ?_ _)|(with_reducible refine Kd.C_drew ?_)|exact HR229_1.out))):p:=h
theorem zz68 {p:Prop} (h:p:=by first|exact(Kd.V_reads' HL229_2.out).2.2|(repeat(first|(with_reducible exact HR229_2.out)|(with_reducible refine Kd.C_alloc ?_ _)|(with_reducible refine Kd.C_drewN ?_ _)|(with_reducible refine Kd.C_drew ?_)|exact HR229_2.out))):p:=h
theorem zz62 {p:Prop} (h:p:=by rw[hw];exact zz72):p:=h
theorem zz60 {p:Prop} (h:p:=by(with_reducible repeat(first|refine Zn ?_ _|refine Zp ?_|refine Zk ?_ _));refine ZD ?_ NB318_320.out _;(with_reducible repeat(first|refine Zn ?_ _|refine Zp ?_|refine Zk ?_ _));exact BK318.out):p:=h
theorem zz61 {p:Prop} (h:p:=by(with_reducible repeat(first|refine Zn ?_ _|refine Zp ?_|refine Zk ?_ _));refine ZD ?_ NB319_320.out _;(with_reducible repeat(first|refine Zn ?_ _|refine Zp ?_|refine Zk ?_ _));exact BK319.out):p:=h
theorem zz59 {p:Prop} (h:p:=by repeat(first|(with_reducible first|exact HB.out|apply Zh|apply Zg|apply Zj|refine Zi ?_ GE288.out|refine Zi ?_ GE289.out|refine Zi ?_ GE292.out|refine Zi ?_ GE293.out)|exact HB.out)):p:=h
theorem zz57 {p:Prop} (h:p:=by(with_reducible repeat(first|apply Kd.N_alloc|apply Kd.N_drewN|apply Kd.N_drew));exact(Kd.N_mono (Kd.N_far (p:=⟨gb373,1,none⟩) (Kd.N_far (p:=⟨gb373,0,none⟩) (Kd.N_mono HO371.out (fun k_ hk=>(⟨hk,hk.2.2⟩:_∧k_≠gb373))) (fun _ hk=>hk.2) (.int .i64 t368)) (fun _ hk=>hk.2) (.slice Ao20 t369.length co20)) (fun _ h_=>h_.1))):p:=h
theorem zz58 {p:Prop} (h:p:=by(with_reducible repeat(first|apply Kd.N_alloc|apply Kd.N_drewN|apply Kd.N_drew));exact(Kd.N_mono (Kd.N_far (p:=⟨gb373,1,none⟩) (Kd.N_far (p:=⟨gb373,0,none⟩) (Kd.N_mono HO371.out (fun k_ hk=>(⟨hk,hk.2.2⟩:_∧k_≠gb373))) (fun _ hk=>hk.2) (.int .i64 t368)) (fun _ hk=>hk.2) (.slice Ao33 t369.length co33)) (fun _ h_=>h_.1))):p:=h
theorem zz55 {p:Prop} (h:p:=by(with_reducible repeat(first|refine Zn ?_ _|refine Zp ?_|refine Zk ?_ _));refine ZD ?_ NB364_373.out _;(with_reducible repeat(first|refine Zn ?_ _|refine Zp ?_|refine Zk ?_ _));refine ZD ?_ NB364_373.out _;(with_reducible repeat(first|refine Zn ?_ _|refine Zp ?_|refine Zk ?_ _));exact BK364.out):p:=h
theorem zz56 {p:Prop} (h:p:=by(with_reducible repeat(first|refine Zn ?_ _|refine Zp ?_|refine Zk ?_ _));refine ZD ?_ NB214_226.out _;(with_reducible repeat(first|refine Zn ?_ _|refine Zp ?_|refine Zk ?_ _));refine ZD ?_ NB214_226.out _;(with_reducible repeat(first|refine Zn ?_ _|refine Zp ?_|refine Zk ?_ _));exact BK214.out):p:=h
theorem zz53 {p:Prop} (h:p:=by(with_reducible repeat(first|refine Zn ?_ _|refine Zp ?_|refine Zk ?_ _));refine Zz (cs:= #[.int .i64 t368,.slice none 0 0]) ?_ 1 _ rfl;(with_reducible repeat(first|refine Zn ?_ _|refine Zp ?_|refine Zk ?_ _));refine Zz (cs:= #[.int .i64 0,.slice none 0 0]) ?_ 0 _ rfl;(with_reducible repeat(first|refine Zn ?_ _|refine Zp ?_|refine Zk ?_ _));exact BK373.out):p:=h
theorem zz54 {p:Prop} (h:p:=by(with_reducible repeat(first|refine Zn ?_ _|refine Zp ?_|refine Zk ?_ _));refine Zz (cs:= #[.int .i64 t221,.slice none 0 0]) ?_ 1 _ rfl;(with_reducible repeat(first|refine Zn ?_ _|refine Zp ?_|refine Zk ?_ _));refine Zz (cs:= #[.int .i64 0,.slice none 0 0]) ?_ 0 _ rfl;(with_reducible repeat(first|refine Zn ?_ _|refine Zp ?_|refine Zk ?_ _));exact BK226.out):p:=h
theorem zz52 {p:Prop} (h:p:=by(with_reducible repeat(first|apply Kd.R_alloc|apply Kd.R_drewN|apply Kd.R_drew));exact(Kd.R_mono (Kd.R_far (p:=⟨gb250,2,none⟩) (Kd.R_far (p:=⟨gb250,1,none⟩) (Kd.R_far (p:=⟨gb250,0,none⟩) (Kd.R_types HO_5.out BK250.out (by decide)) (fun _ hk=>hk.2) (.int .i64 ((Ze l0_1 x17_1).f0))) (fun _ hk=>hk.2) (.slice A249_1 ((Ze l0_1 x17_1).f1).length c249_1)) (fun _ hk=>hk.2) (.slice A249_2 ((Ze l0_1 x17_1).f2).length c249_2)) (fun _ h_=>h_.1))):p:=h
theorem zz51 {p:Prop} (h:p:=by(with_reducible repeat(first|apply Kd.R_alloc|apply Kd.R_drewN|apply Kd.R_drew));exact(Kd.R_mono (Kd.R_far (p:=⟨gb268,2,none⟩) (Kd.R_far (p:=⟨gb268,1,none⟩) (Kd.R_far (p:=⟨gb268,0,none⟩) (Kd.R_types HO_8.out BK268.out (by decide)) (fun _ hk=>hk.2) (.int .i64 ((Ze l0_1 x35_4).f0))) (fun _ hk=>hk.2) (.slice A267_1 ((Ze l0_1 x35_4).f1).length c267_1)) (fun _ hk=>hk.2) (.slice (some ad271) ((Ze l0_1 x35_4).f2).length c267_2)) (fun _ h_=>h_.1))):p:=h
theorem zz46 {p:Prop} (h:p:=by(with_reducible repeat(first|apply Kd.V_alloc|apply Kd.V_drewN|apply Kd.V_drew));exact(Kd.V_mono (Kd.V_far (p:=⟨gb230,2,none⟩) (Kd.V_far (p:=⟨gb230,1,none⟩) (Kd.V_far (p:=⟨gb230,0,none⟩) (Kd.V_mono HL227_1.out (fun k_ hk=>(⟨hk,hk.2⟩:_∧k_≠gb230))) (fun _ hk=>hk.2) (.int .i64 ((Ze t222 x72_3).f0))) (fun _ hk=>hk.2) (.slice A229_1 ((Ze t222 x72_3).f1).length c229_1)) (fun _ hk=>hk.2) (.slice A229_2 ((Ze t222 x72_3).f2).length c229_2)) (fun _ h_=>h_.1))):p:=h
theorem zz47 {p:Prop} (h:p:=by(with_reducible repeat(first|apply Kd.V_alloc|apply Kd.V_drewN|apply Kd.V_drew));exact(Kd.V_mono (Kd.V_far (p:=⟨gb230,2,none⟩) (Kd.V_far (p:=⟨gb230,1,none⟩) (Kd.V_far (p:=⟨gb230,0,none⟩) (Kd.V_mono HL229_1.out (fun k_ hk=>(⟨hk,hk.2⟩:_∧k_≠gb230))) (fun _ hk=>hk.2) (.int .i64 ((Ze t222 x72_3).f0))) (fun _ hk=>hk.2) (.slice A229_1 ((Ze t222 x72_3).f1).length c229_1)) (fun _ hk=>hk.2) (.slice A229_2 ((Ze t222 x72_3).f2).length c229_2)) (fun _ h_=>h_.1))):p:=h
theorem zz48 {p:Prop} (h:p:=by(with_reducible repeat(first|apply Kd.V_alloc|apply Kd.V_drewN|apply Kd.V_drew));exact(Kd.V_mono (Kd.V_far (p:=⟨gb230,2,none⟩) (Kd.V_far (p:=⟨gb230,1,none⟩) (Kd.V_far (p:=⟨gb230,0,none⟩) (Kd.V_mono HL227_2.out (fun k_ hk=>(⟨hk,hk.2⟩:_∧k_≠gb230))) (fun _ hk=>hk.2) (.int .i64 ((Ze t222 x72_3).f0))) (fun _ hk=>hk.2) (.slice A229_1 ((Ze t222 x72_3).f1).length c229_1)) (fun _ hk=>hk.2) (.slice A229_2 ((Ze t222 x72_3).f2).length c229_2)) (fun _ h_=>h_.1))):p:=h
theorem zz49 {p:Prop} (h:p:=by(with_reducible repeat(first|apply Kd.V_alloc|apply Kd.V_drewN|apply Kd.V_drew));exact(Kd.V_mono (Kd.V_far (p:=⟨gb230,2,none⟩) (Kd.V_far (p:=⟨gb230,1,none⟩) (Kd.V_far (p:=⟨gb230,0,none⟩) (Kd.V_mono HL229_2.out (fun k_ hk=>(⟨hk,hk.2⟩:_∧k_≠gb230))) (fun _ hk=>hk.2) (.int .i64 ((Ze t222 x72_3).f0))) (fun _ hk=>hk.2) (.slice A229_1 ((Ze t222 x72_3).f1).length c229_1)) (fun _ hk=>hk.2) (.slice A229_2 ((Ze t222 x72_3).f2).length c229_2)) (fun _ h_=>h_.1))):p:=h
theorem zz44 {p:Prop} (h:p:=by rw[←hq_];exact(by(with_reducible repeat(first|apply Kd.R_alloc|apply Kd.R_drewN|apply Kd.R_drew));exact Kd.R_mono HO366.out (fun _ hk=>by first|exact hk.1|exact zN0))):p:=h
theorem zz40 {p:Prop} (h:p:=by(with_reducible repeat(first|refine Zn ?_ _|refine Zp ?_|refine Zk ?_ _));refine ZD ?_ NB214_217.out _;(with_reducible repeat(first|refine Zn ?_ _|refine Zp ?_|refine Zk ?_ _));refine ZD ?_ NB214_217.out _;(with_reducible repeat(first|refine Zn ?_ _|refine Zp ?_|refine Zk ?_ _));refine ZD ?_ NB214_217.out _;(with_reducible repeat(first|refine Zn ?_ _|refine Zp ?_|refine Zk ?_ _));exact BK214.out):p:=h
theorem zz43 {p:Prop} (h:p:=by(with_reducible repeat(first|refine Zn ?_ _|refine Zp ?_|refine Zk ?_ _));refine ZD ?_ NB261_268.out _;(with_reducible repeat(first|refine Zn ?_ _|refine Zp ?_|refine Zk ?_ _));refine ZD ?_ NB261_268.out _;(with_reducible repeat(first|refine Zn ?_ _|refine Zp ?_|refine Zk ?_ _));refine ZD ?_ NB261_268.out _;(with_reducible repeat(first|refine Zn ?_ _|refine Zp ?_|refine Zk ?_ _));exact BK261.out):p:=h
theorem zz38 {p:Prop} (h:p:=by rw[←hq_];exact(by(with_reducible repeat(first|apply Kd.N_alloc|apply Kd.N_drewN|apply Kd.N_drew));exact Kd.N_mono HO_6.out (fun _ hk=>by first|exact⟨hk.1.1,⟨hk.2,hk.1.2⟩⟩|exact zN0))):p:=h
theorem zz35 {p:Prop} (h:p:=by rw[hw];exact(by(with_reducible repeat(first|refine Zn ?_ _|refine Zp ?_|refine Zk ?_ _));refine ZD ?_ NB214_228.out _;(with_reducible repeat(first|refine Zn ?_ _|refine Zp ?_|refine Zk ?_ _));refine ZD ?_ NB214_228.out _;(with_reducible repeat(first|refine Zn ?_ _|refine Zp ?_|refine Zk ?_ _));refine ZD ?_ NB214_228.out _;(with_reducible repeat(first|refine Zn ?_ _|refine Zp ?_|refine Zk ?_ _));exact BK214.out)):p:=h
theorem zz36 {p:Prop} (h:p:=by rw[hw];exact(by(with_reducible repeat(first|refine Zn ?_ _|refine Zp ?_|refine Zk ?_ _));refine ZD ?_ NB226_228.out _;(with_reducible repeat(first|refine Zn ?_ _|refine Zp ?_|refine Zk ?_ _));refine ZD ?_ NB226_228.out _;(with_reducible repeat(first|refine Zn ?_ _|refine Zp ?_|refine Zk ?_ _));refine ZD ?_ NB226_228.out _;(with_reducible repeat(first|refine Zn ?_ _|refine Zp ?_|refine Zk ?_ _));exact BK226.out)):p:=h
theorem zz33 {p:Prop} (h:p:=by rw[←hq_];exact(by(with_reducible repeat(first|apply Kd.V_alloc|apply Kd.V_drewN|apply Kd.V_drew));exact Kd.V_mono HL362_0.out (fun _ hk=>by first|exact⟨hk.1.1.1,⟨hk.2,⟨hk.1.1.2,hk.1.2⟩⟩⟩|exact zN0))):p:=h
theorem zz29 {p:Prop} (h:p:=by rw[hw];exact(by(with_reducible repeat(first|apply Kd.N_alloc|apply Kd.N_drewN|apply Kd.N_drew));exact Kd.N_mono (Kd.N_far (p:=⟨gb228,2,none⟩) (Kd.N_far (p:=⟨gb228,1,none⟩) (Kd.N_far (p:=⟨gb228,0,none⟩) (Kd.N_mono HO_227001.out (fun k_ hk=>(⟨hk,hk.2⟩:_∧k_≠gb228))) (fun _ hk=>hk.2) (.int .i64 ((Ze l0_1 x72_3).f0))) (fun _ hk=>hk.2) (.slice A227_1 ((Ze l0_1 x72_3).f1).length c227_1)) (fun _ hk=>hk.2) (.slice A227_2 ((Ze l0_1 x72_3).f2).length c227_2)) (fun _ hk=>⟨hk.1.1.1,⟨hk.1.1.2.1,⟨hk.1.1.2.2,hk.1.2⟩⟩⟩))):p:=h
theorem zz28 {p:Prop} (h:p:=by(with_reducible repeat(first|apply Kd.N_alloc|apply Kd.N_drewN|apply Kd.N_drew));exact Kd.N_mono HO_320001.out (fun _ hk=>by first|exact⟨⟨hk.1,⟨hk.2.2.1,⟨hk.2.2.2.1,⟨hk.2.2.2.2.1,hk.2.2.2.2.2⟩⟩⟩⟩,hk.2.1⟩|exact zN0)):p:=h
theorem zz27 {p:Prop} (h:p:=by rw[hw];exact(by(with_reducible repeat(first|apply Kd.V_alloc|apply Kd.V_drewN|apply Kd.V_drew));exact Kd.V_mono (Kd.V_far (p:=⟨gb228,2,none⟩) (Kd.V_far (p:=⟨gb228,1,none⟩) (Kd.V_far (p:=⟨gb228,0,none⟩) (Kd.V_mono HO_70.out (fun k_ hk=>(⟨hk,hk.2⟩:_∧k_≠gb228))) (fun _ hk=>hk.2) (.int .i64 ((Ze l0_1 x72_3).f0))) (fun _ hk=>hk.2) (.slice A227_1 ((Ze l0_1 x72_3).f1).length c227_1)) (fun _ hk=>hk.2) (.slice A227_2 ((Ze l0_1 x72_3).f2).length c227_2)) (fun _ hk=>⟨hk.1.1.1,⟨hk.1.1.2.1,⟨hk.1.1.2.2.1,⟨hk.1.1.2.2.2,hk.1.2⟩⟩⟩⟩))):p:=h
theorem zz25 {p:Prop} (h:p:=by rw[hw];exact(by(with_reducible repeat(first|apply Kd.V_alloc|apply Kd.V_drewN|apply Kd.V_drew));exact Kd.V_mono (Kd.V_far (p:=⟨gb228,2,none⟩) (Kd.V_far (p:=⟨gb228,1,none⟩) (Kd.V_far (p:=⟨gb228,0,none⟩) (Kd.V_mono HL227_1.out (fun k_ hk=>(⟨hk,hk.2⟩:_∧k_≠gb228))) (fun _ hk=>hk.2) (.int .i64 ((Ze l0_1 x72_3).f0))) (fun _ hk=>hk.2) (.slice A227_1 ((Ze l0_1 x72_3).f1).length c227_1)) (fun _ hk=>hk.2) (.slice A227_2 ((Ze l0_1 x72_3).f2).length c227_2)) (fun _ hk=>⟨hk.1.1.1,⟨hk.1.1.2.1,⟨hk.1.1.2.2.1,⟨hk.1.1.2.2.2,hk.1.2⟩⟩⟩⟩))):p:=h
theorem zz26 {p:Prop} (h:p:=by rw[hw];exact(by(with_reducible repeat(first|apply Kd.V_alloc|apply Kd.V_drewN|apply Kd.V_drew));exact Kd.V_mono (Kd.V_far (p:=⟨gb228,2,none⟩) (Kd.V_far (p:=⟨gb228,1,none⟩) (Kd.V_far (p:=⟨gb228,0,none⟩) (Kd.V_mono HL227_2.out (fun k_ hk=>(⟨hk,hk.2⟩:_∧k_≠gb228))) (fun _ hk=>hk.2) (.int .i64 ((Ze l0_1 x72_3).f0))) (fun _ hk=>hk.2) (.slice A227_1 ((Ze l0_1 x72_3).f1).length c227_1)) (fun _ hk=>hk.2) (.slice A227_2 ((Ze l0_1 x72_3).f2).length c227_2)) (fun _ hk=>⟨hk.1.1.1,⟨hk.1.1.2.1,⟨hk.1.1.2.2.1,⟨hk.1.1.2.2.2,hk.1.2⟩⟩⟩⟩))):p:=h
theorem zz24 {p:Prop} (h:p:=by rw[hw];exact(by(with_reducible repeat(first|apply Kd.V_alloc|apply Kd.V_drewN|apply Kd.V_drew));exact Kd.V_mono (Kd.V_far (p:=⟨gb228,2,none⟩) (Kd.V_far (p:=⟨gb228,1,none⟩) (Kd.V_far (p:=⟨gb228,0,none⟩) (Kd.V_mono HO_215001.out (fun k_ hk=>(⟨hk,hk.2⟩:_∧k_≠gb228))) (fun _ hk=>hk.2) (.int .i64 ((Ze l0_1 x72_3).f0))) (fun _ hk=>hk.2) (.slice A227_1 ((Ze l0_1 x72_3).f1).length c227_1)) (fun _ hk=>hk.2) (.slice A227_2 ((Ze l0_1 x72_3).f2).length c227_2)) (fun _ hk=>⟨hk.1.1.1,⟨hk.1.1.2.1,⟨hk.1.1.2.2.1,⟨hk.1.1.2.2.2,hk.1.2⟩⟩⟩⟩))):p:=h
theorem zz23 {p:Prop} (h:p:=by(with_reducible repeat(first|apply Kd.V_alloc|apply Kd.V_drewN|apply Kd.V_drew));exact Kd.V_mono HO_1.out (fun _ hk=>by first|exact⟨⟨hk.1,⟨hk.2.1,⟨hk.2.2.2.1,⟨hk.2.2.2.2.1,⟨hk.2.2.2.2.2.1,hk.2.2.2.2.2.2⟩⟩⟩⟩⟩,hk.2.2.1⟩|exact zN0)):p:=h
theorem zz21 {p:Prop} (h:p:=by(with_reducible repeat(first|apply Kd.V_alloc|apply Kd.V_drewN|apply Kd.V_drew));exact Kd.V_mono HL324_0.out (fun _ hk=>by first|exact⟨⟨hk.1,⟨hk.2.1,⟨hk.2.2.2.1,⟨hk.2.2.2.2.1,⟨hk.2.2.2.2.2.1,hk.2.2.2.2.2.2⟩⟩⟩⟩⟩,hk.2.2.1⟩|exact zN0)):p:=h
theorem zz22 {p:Prop} (h:p:=by(with_reducible repeat(first|apply Kd.V_alloc|apply Kd.V_drewN|apply Kd.V_drew));exact Kd.V_mono HL326_0.out (fun _ hk=>by first|exact⟨⟨hk.1,⟨hk.2.1,⟨hk.2.2.2.1,⟨hk.2.2.2.2.1,⟨hk.2.2.2.2.2.1,hk.2.2.2.2.2.2⟩⟩⟩⟩⟩,hk.2.2.1⟩|exact zN0)):p:=h
theorem zz9 {p:Prop} (h:p:=by first|exact Nat.ne_of_lt (Nat.lt_of_lt_of_le (by have:=wB _ _ hw290_0;first|rwa [Zs] at this|exact this) GW292.out)|(rw[Zs];exact Nat.ne_of_lt (Nat.lt_of_lt_of_le (by have:=wB _ _ hw290_0;first|rwa [Zs] at this|exact this) GW292.out))|(show(Addr.add _ _).block≠_;rw[Zs];exact Nat.ne_of_lt (Nat.lt_of_lt_of_le (by have:=wB _ _ hw290_0;first|rwa [Zs] at this|exact this) GW292.out))|(dsimp only;exact Nat.ne_of_lt (Nat.lt_of_lt_of_le (by have:=wB _ _ hw290_0;first|rwa [Zs] at this|exact this) GW292.out))):p:=h
theorem zz10 {p:Prop} (h:p:=by first|exact Nat.ne_of_lt (Nat.lt_of_lt_of_le (by have:=wB _ _ hw290_1;first|rwa [Zs] at this|exact this) GW292.out)|(rw[Zs];exact Nat.ne_of_lt (Nat.lt_of_lt_of_le (by have:=wB _ _ hw290_1;first|rwa [Zs] at this|exact this) GW292.out))|(show(Addr.add _ _).block≠_;rw[Zs];exact Nat.ne_of_lt (Nat.lt_of_lt_of_le (by have:=wB _ _ hw290_1;first|rwa [Zs] at this|exact this) GW292.out))|(dsimp only;exact Nat.ne_of_lt (Nat.lt_of_lt_of_le (by have:=wB _ _ hw290_1;first|rwa [Zs] at this|exact this) GW292.out))):p:=h
theorem zz11 {p:Prop} (h:p:=by first|exact Nat.ne_of_lt (Nat.lt_of_lt_of_le (by have:=wB _ _ hw290_2;first|rwa [Zs] at this|exact this) GW292.out)|(rw[Zs];exact Nat.ne_of_lt (Nat.lt_of_lt_of_le (by have:=wB _ _ hw290_2;first|rwa [Zs] at this|exact this) GW292.out))|(show(Addr.add _ _).block≠_;rw[Zs];exact Nat.ne_of_lt (Nat.lt_of_lt_of_le (by have:=wB _ _ hw290_2;first|rwa [Zs] at this|exact this) GW292.out))|(dsimp only;exact Nat.ne_of_lt (Nat.lt_of_lt_of_le (by have:=wB _ _ hw290_2;first|rwa [Zs] at this|exact this) GW292.out))):p:=h
theorem zz12 {p:Prop} (h:p:=by first|exact Nat.ne_of_lt (Nat.lt_of_lt_of_le (by have:=wB _ _ hw291_0;first|rwa [Zs] at this|exact this) GW292.out)|(rw[Zs];exact Nat.ne_of_lt (Nat.lt_of_lt_of_le (by have:=wB _ _ hw291_0;first|rwa [Zs] at this|exact this) GW292.out))|(show(Addr.add _ _).block≠_;rw[Zs];exact Nat.ne_of_lt (Nat.lt_of_lt_of_le (by have:=wB _ _ hw291_0;first|rwa [Zs] at this|exact this) GW292.out))|(dsimp only;exact Nat.ne_of_lt (Nat.lt_of_lt_of_le (by have:=wB _ _ hw291_0;first|rwa [Zs] at this|exact this) GW292.out))):p:=h
theorem zz13 {p:Prop} (h:p:=by first|exact Nat.ne_of_lt (Nat.lt_of_lt_of_le (by have:=wB _ _ hw291_1;first|rwa [Zs] at this|exact this) GW292.out)|(rw[Zs];exact Nat.ne_of_lt (Nat.lt_of_lt_of_le (by have:=wB _ _ hw291_1;first|rwa [Zs] at this|exact this) GW292.out))|(show(Addr.add _ _).block≠_;rw[Zs];exact Nat.ne_of_lt (Nat.lt_of_lt_of_le (by have:=wB _ _ hw291_1;first|rwa [Zs] at this|exact this) GW292.out))|(dsimp only;exact Nat.ne_of_lt (Nat.lt_of_lt_of_le (by have:=wB _ _ hw291_1;first|rwa [Zs] at this|exact this) GW292.out))):p:=h
theorem zz14 {p:Prop} (h:p:=by first|exact Nat.ne_of_lt (Nat.lt_of_lt_of_le (by have:=wB _ _ hw291_2;first|rwa [Zs] at this|exact this) GW292.out)|(rw[Zs];exact Nat.ne_of_lt (Nat.lt_of_lt_of_le (by have:=wB _ _ hw291_2;first|rwa [Zs] at this|exact this) GW292.out))|(show(Addr.add _ _).block≠_;rw[Zs];exact Nat.ne_of_lt (Nat.lt_of_lt_of_le (by have:=wB _ _ hw291_2;first|rwa [Zs] at this|exact this) GW292.out))|(dsimp only;exact Nat.ne_of_lt (Nat.lt_of_lt_of_le (by have:=wB _ _ hw291_2;first|rwa [Zs] at this|exact this) GW292.out))):p:=h
theorem zz15 {p:Prop} (h:p:=by first|exact Nat.ne_of_lt (Nat.lt_of_lt_of_le (by have:=wB _ _ hw290_0;first|rwa [Zs] at this|exact this) GW293.out)|(rw[Zs];exact Nat.ne_of_lt (Nat.lt_of_lt_of_le (by have:=wB _ _ hw290_0;first|rwa [Zs] at this|exact this) GW293.out))|(show(Addr.add _ _).block≠_;rw[Zs];exact Nat.ne_of_lt (Nat.lt_of_lt_of_le (by have:=wB _ _ hw290_0;first|rwa [Zs] at this|exact this) GW293.out))|(dsimp only;exact Nat.ne_of_lt (Nat.lt_of_lt_of_le (by have:=wB _ _ hw290_0;first|rwa [Zs] at this|exact this) GW293.out))):p:=h
theorem zz16 {p:Prop} (h:p:=by first|exact Nat.ne_of_lt (Nat.lt_of_lt_of_le (by have:=wB _ _ hw290_1;first|rwa [Zs] at this|exact this) GW293.out)|(rw[Zs];exact Nat.ne_of_lt (Nat.lt_of_lt_of_le (by have:=wB _ _ hw290_1;first|rwa [Zs] at this|exact this) GW293.out))|(show(Addr.add _ _).block≠_;rw[Zs];exact Nat.ne_of_lt (Nat.lt_of_lt_of_le (by have:=wB _ _ hw290_1;first|rwa [Zs] at this|exact this) GW293.out))|(dsimp only;exact Nat.ne_of_lt (Nat.lt_of_lt_of_le (by have:=wB _ _ hw290_1;first|rwa [Zs] at this|exact this) GW293.out))):p:=h
theorem zz17 {p:Prop} (h:p:=by first|exact Nat.ne_of_lt (Nat.lt_of_lt_of_le (by have:=wB _ _ hw290_2;first|rwa [Zs] at this|exact this) GW293.out)|(rw[Zs];exact Nat.ne_of_lt (Nat.lt_of_lt_of_le (by have:=wB _ _ hw290_2;first|rwa [Zs] at this|exact this) GW293.out))|(show(Addr.add _ _).block≠_;rw[Zs];exact Nat.ne_of_lt (Nat.lt_of_lt_of_le (by have:=wB _ _ hw290_2;first|rwa [Zs] at this|exact this) GW293.out))|(dsimp only;exact Nat.ne_of_lt (Nat.lt_of_lt_of_le (by have:=wB _ _ hw290_2;first|rwa [Zs] at this|exact this) GW293.out))):p:=h
theorem zz18 {p:Prop} (h:p:=by first|exact Nat.ne_of_lt (Nat.lt_of_lt_of_le (by have:=wB _ _ hw291_0;first|rwa [Zs] at this|exact this) GW293.out)|(rw[Zs];exact Nat.ne_of_lt (Nat.lt_of_lt_of_le (by have:=wB _ _ hw291_0;first|rwa [Zs] at this|exact this) GW293.out))|(show(Addr.add _ _).block≠_;rw[Zs];exact Nat.ne_of_lt (Nat.lt_of_lt_of_le (by have:=wB _ _ hw291_0;first|rwa [Zs] at this|exact this) GW293.out))|(dsimp only;exact Nat.ne_of_lt (Nat.lt_of_lt_of_le (by have:=wB _ _ hw291_0;first|rwa [Zs] at this|exact this) GW293.out))):p:=h
theorem zz19 {p:Prop} (h:p:=by first|exact Nat.ne_of_lt (Nat.lt_of_lt_of_le (by have:=wB _ _ hw291_1;first|rwa [Zs] at this|exact this) GW293.out)|(rw[Zs];exact Nat.ne_of_lt (Nat.lt_of_lt_of_le (by have:=wB _ _ hw291_1;first|rwa [Zs] at this|exact this) GW293.out))|(show(Addr.add _ _).block≠_;rw[Zs];exact Nat.ne_of_lt (Nat.lt_of_lt_of_le (by have:=wB _ _ hw291_1;first|rwa [Zs] at this|exact this) GW293.out))|(dsimp only;exact Nat.ne_of_lt (Nat.lt_of_lt_of_le (by have:=wB _ _ hw291_1;first|rwa [Zs] at this|exact this) GW293.out))):p:=h
theorem zz20 {p:Prop} (h:p:=by first|exact Nat.ne_of_lt (Nat.lt_of_lt_of_le (by have:=wB _ _ hw291_2;first|rwa [Zs] at this|exact this) GW293.out)|(rw[Zs];exact Nat.ne_of_lt (Nat.lt_of_lt_of_le (by have:=wB _ _ hw291_2;first|rwa [Zs] at this|exact this) GW293.out))|(show(Addr.add _ _).block≠_;rw[Zs];exact Nat.ne_of_lt (Nat.lt_of_lt_of_le (by have:=wB _ _ hw291_2;first|rwa [Zs] at this|exact this) GW293.out))|(dsimp only;exact Nat.ne_of_lt (Nat.lt_of_lt_of_le (by have:=wB _ _ hw291_2;first|rwa [Zs] at this|exact this) GW293.out))):p:=h
theorem zz6 {p:Prop} (h:p:=by(with_reducible repeat(first|refine Zn ?_ _|refine Zp ?_|refine Zk ?_ _));refine Zz (cs:= #[.int .i64 ((Ze l0_1 x27_1).f0),.slice A216_1 ((Ze l0_1 x27_1).f1).length c216_1,.slice none 0 0]) ?_ 2 _ rfl;(with_reducible repeat(first|refine Zn ?_ _|refine Zp ?_|refine Zk ?_ _));refine Zz (cs:= #[.int .i64 ((Ze l0_1 x27_1).f0),.slice none 0 0,.slice none 0 0]) ?_ 1 _ rfl;(with_reducible repeat(first|refine Zn ?_ _|refine Zp ?_|refine Zk ?_ _));refine Zz (cs:= #[.int .i64 0,.slice none 0 0,.slice none 0 0]) ?_ 0 _ rfl;(with_reducible repeat(first|refine Zn ?_ _|refine Zp ?_|refine Zk ?_ _));exact BK217.out):p:=h
theorem zz8 {p:Prop} (h:p:=by(with_reducible repeat(first|refine Zn ?_ _|refine Zp ?_|refine Zk ?_ _));refine Zz (cs:= #[.int .i64 ((Ze l0_1 x35_4).f0),.slice A267_1 ((Ze l0_1 x35_4).f1).length c267_1,.slice none 0 0]) ?_ 2 _ rfl;(with_reducible repeat(first|refine Zn ?_ _|refine Zp ?_|refine Zk ?_ _));refine Zz (cs:= #[.int .i64 ((Ze l0_1 x35_4).f0),.slice none 0 0,.slice none 0 0]) ?_ 1 _ rfl;(with_reducible repeat(first|refine Zn ?_ _|refine Zp ?_|refine Zk ?_ _));refine Zz (cs:= #[.int .i64 0,.slice none 0 0,.slice none 0 0]) ?_ 0 _ rfl;(with_reducible repeat(first|refine Zn ?_ _|refine Zp ?_|refine Zk ?_ _));exact BK268.out):p:=h
theorem zz5 {p:Prop} (h:p:=by rw[hw];exact(by(with_reducible repeat(first|refine Zn ?_ _|refine Zp ?_|refine Zk ?_ _));refine Zz (cs:= #[.int .i64 ((Ze l0_1 x72_3).f0),.slice A227_1 ((Ze l0_1 x72_3).f1).length c227_1,.slice none 0 0]) ?_ 2 _ rfl;(with_reducible repeat(first|refine Zn ?_ _|refine Zp ?_|refine Zk ?_ _));refine Zz (cs:= #[.int .i64 ((Ze l0_1 x72_3).f0),.slice none 0 0,.slice none 0 0]) ?_ 1 _ rfl;(with_reducible repeat(first|refine Zn ?_ _|refine Zp ?_|refine Zk ?_ _));refine Zz (cs:= #[.int .i64 0,.slice none 0 0,.slice none 0 0]) ?_ 0 _ rfl;(with_reducible repeat(first|refine Zn ?_ _|refine Zp ?_|refine Zk ?_ _));exact BK228.out)):p:=h
theorem zz3 {p:Prop} (h:p:=by(with_reducible repeat(first|refine Zn ?_ _|refine Zp ?_|refine Zk ?_ _));refine ZD ?_ NB288_293.out _;(with_reducible repeat(first|refine Zn ?_ _|refine Zp ?_|refine Zk ?_ _));refine ZD ?_ NB288_293.out _;(with_reducible repeat(first|refine Zn ?_ _|refine Zp ?_|refine Zk ?_ _));refine ZD ?_ NB288_293.out _;(with_reducible repeat(first|refine Zn ?_ _|refine Zp ?_|refine Zk ?_ _));refine ZD ?_ NB288_292.out _;(with_reducible repeat(first|refine Zn ?_ _|refine Zp ?_|refine Zk ?_ _));refine ZD ?_ NB288_292.out _;(with_reducible repeat(first|refine Zn ?_ _|refine Zp ?_|refine Zk ?_ _));refine ZD ?_ NB288_292.out _;(with_reducible repeat(first|refine Zn ?_ _|refine Zp ?_|refine Zk ?_ _));exact BK288.out):p:=h
theorem zz4 {p:Prop} (h:p:=by(with_reducible repeat(first|refine Zn ?_ _|refine Zp ?_|refine Zk ?_ _));refine ZD ?_ NB289_293.out _;(with_reducible repeat(first|refine Zn ?_ _|refine Zp ?_|refine Zk ?_ _));refine ZD ?_ NB289_293.out _;(with_reducible repeat(first|refine Zn ?_ _|refine Zp ?_|refine Zk ?_ _));refine ZD ?_ NB289_293.out _;(with_reducible repeat(first|refine Zn ?_ _|refine Zp ?_|refine Zk ?_ _));refine ZD ?_ NB289_292.out _;(with_reducible repeat(first|refine Zn ?_ _|refine Zp ?_|refine Zk ?_ _));refine ZD ?_ NB289_292.out _;(with_reducible repeat(first|refine Zn ?_ _|refine Zp ?_|refine Zk ?_ _));refine ZD ?_ NB289_292.out _;(with_reducible repeat(first|refine Zn ?_ _|refine Zp ?_|refine Zk ?_ _));exact BK289.out):p:=h
theorem zz2 {p:Prop} (h:p:=by(with_reducible repeat(first|apply Kd.N_alloc|apply Kd.N_drewN|apply Kd.N_drew));exact(Kd.N_mono (Kd.N_far (p:=⟨gb395,1,none⟩) (Kd.N_far (p:=⟨gb395,0,none⟩) (Kd.N_mono HO_340001.out (fun k_ hk=>(⟨hk,hk.2⟩:_∧k_≠gb395))) (fun _ hk=>by first|exact hk.2|exact zN0) (.int .i64 4)) (fun _ hk=>by first|exact hk.2|exact zN0) (.slice Ao146 y392.length co146)) (fun _ h_=>h_.1))):p:=h
theorem zz0 {p:Prop} (h:p:=by(with_reducible repeat(first|refine Zn ?_ _|refine Zp ?_|refine Zk ?_ _));refine ZD ?_ NB292_293.out _;(with_reducible repeat(first|refine Zn ?_ _|refine Zp ?_|refine Zk ?_ _));refine ZD ?_ NB292_293.out _;(with_reducible repeat(first|refine Zn ?_ _|refine Zp ?_|refine Zk ?_ _));refine ZD ?_ NB292_293.out _;(with_reducible repeat(first|refine Zn ?_ _|refine Zp ?_|refine Zk ?_ _));refine Zz (cs:= #[.int .i64 ((Ze l0_1 x5_2).f0),.slice A290_1 ((Ze l0_1 x5_2).f1).length c290_1,.slice none 0 0]) ?_ 2 _ rfl;(with_reducible repeat(first|refine Zn ?_ _|refine Zp ?_|refine Zk ?_ _));refine Zz (cs:= #[.int .i64 ((Ze l0_1 x5_2).f0),.slice none 0 0,.slice none 0 0]) ?_ 1 _ rfl;(with_reducible repeat(first|refine Zn ?_ _|refine Zp ?_|refine Zk ?_ _));refine Zz (cs:= #[.int .i64 0,.slice none 0 0,.slice none 0 0]) ?_ 0 _ rfl;(with_reducible repeat(first|refine Zn ?_ _|refine Zp ?_|refine Zk ?_ _));exact BK292.out):p:=h
theorem zz1 {p:Prop} (h:p:=by(with_reducible repeat(first|refine Zn ?_ _|refine Zp ?_|refine Zk ?_ _));refine Zz (cs:= #[.int .i64 ((Ze l1_1 x5_2).f0),.slice A291_1 ((Ze l1_1 x5_2).f1).length c291_1,.slice none 0 0]) ?_ 2 _ rfl;(with_reducible repeat(first|refine Zn ?_ _|refine Zp ?_|refine Zk ?_ _));refine Zz (cs:= #[.int .i64 ((Ze l1_1 x5_2).f0),.slice none 0 0,.slice none 0 0]) ?_ 1 _ rfl;(with_reducible repeat(first|refine Zn ?_ _|refine Zp ?_|refine Zk ?_ _));refine Zz (cs:= #[.int .i64 0,.slice none 0 0,.slice none 0 0]) ?_ 0 _ rfl;(with_reducible repeat(first|refine Zn ?_ _|refine Zp ?_|refine Zk ?_ _));refine ZD ?_ NB293_292.out _;(with_reducible repeat(first|refine Zn ?_ _|refine Zp ?_|refine Zk ?_ _));refine ZD ?_ NB293_292.out _;(with_reducible repeat(first|refine Zn ?_ _|refine Zp ?_|refine Zk ?_ _));refine ZD ?_ NB293_292.out _;(with_reducible repeat(first|refine Zn ?_ _|refine Zp ?_|refine Zk ?_ _));exact BK293.out):p:=h
def perm_then.l0:Nat→List Int→List Int→List Int→Int→Int→Option (List Int)
 |0,_,_,_,_,_=>none
 |k+1,x1,x5,x11,x12,x13=>if x13<x12 then(if 0≤x13 then(if x13<(x11.length:Int) then(if 0≤(rd x11 x13) then(if(rd x11 x13)<(x1.length:Int) then(if x13<(x5.length:Int) then(perm_then.l0 k x1 (x5.set (x13:Int).toNat (rd x1 (rd x11 x13))) x11 x12 (wrap64 (x13+1))) else(none)) else(none)) else(none)) else(none)) else(none)) else(some x5)
def perm_then.f (k:Nat) (l0:List Int) (l1:List Int):Option (List Int):=if 0≤(l0.length:Int) then(if((l0.length:Int):Int).toNat≤35184372088832 then(perm_then.l0 k l1 (List.replicate ((l0.length:Int):Int).toNat 0) l0 (l0.length:Int) 0) else(none)) else(none)
theorem perm_then.mono_l:∀k,(∀y0 y1 y2 y3 y4,LeO (perm_then.l0 k y0 y1 y2 y3 y4) (perm_then.l0 (k+1) y0 y1 y2 y3 y4))
 |0=>fun _ _ _ _ _ r h=>by simp[perm_then.l0] at h
 | k +1=>by
  have e:=perm_then.mono_l k
  ·intro y0 y1 y2 y3 y4;unfold perm_then.l0
   repeat' first
   |(with_reducible exact e _ _ _ _ _)
   |(with_reducible exact LeO.refl _)
   |(with_reducible exact LeO.none _)
   |(with_reducible refine LeO.ite ?_ ?_)
   |(with_reducible refine LeO.bind ?_ (fun _=> ?_))
theorem perm_then.mono:∀a0 a1 k,LeO (perm_then.f k a0 a1) (perm_then.f (k+1) a0 a1):=by
 intro a0 a1 k
 have e:=perm_then.mono_l k
 unfold perm_then.f
 repeat' first
     |(with_reducible exact e _ _ _ _ _)
     |(with_reducible exact LeO.refl _)
     |(with_reducible exact LeO.none _)
     |(with_reducible refine LeO.ite ?_ ?_)
     |(with_reducible refine LeO.bind ?_ (fun _=> ?_))
theorem perm_then.calls (k:Nat) (A0:Option Addr) (c0:Nat) (l0:List Int) (A1:Option Addr) (c1:Nat) (l1:List Int) (r:List Int) (w:World) (aB:Kd.C (Kd.int .i64) w A0 l0.length l0) (az:l0.length≤c0) (aC:Kd.C (Kd.int .i64) w A1 l1.length l1) (aA:l1.length≤c1) (h:perm_then.f k l0 l1=some r):
    Calls Tryz.prog 35 #[.slice A0 l0.length c0,.slice A1 l1.length c1] w fun e w'=>∃aD:Value,e= .returned (aD)∧Kd.R (Kd.int .i64) 3 w' w.heap.size (fun _=>True) aD r∧Below w.heap.size w w':=by
 have aH:=aM aB
 have aU:=aM az
 clear aB az
 have aI:=aM aC
 have aV:=aM aA
 clear aC aA
 have HB:=aM (Below.refl w.heap.size w)
 have H:(if 0≤(l0.length:Int) then(if((l0.length:Int):Int).toNat≤35184372088832 then(perm_then.l0 k l1 (List.replicate ((l0.length:Int):Int).toNat 0) l0 (l0.length:Int) 0) else(none)) else(none))=some r:=h
 clear h
 by_cases c3:0≤(l0.length:Int)
 ·rw [if_pos c3] at H
  have an:=eq_true c3;have ao:=dT c3;clear c3
  by_cases c4:((l0.length:Int):Int).toNat≤35184372088832
  ·rw [if_pos c4] at H;have aq:=eq_true c4;have ar:=dT c4;clear c4;obtain⟨ag,B⟩:∃y_:List Int,y_=(List.replicate ((l0.length:Int):Int).toNat 0):=⟨_,rfl⟩;replace H:(perm_then.l0 k l1 ag l0 (l0.length:Int) 0)=some r:=by first|(rw[B];with_reducible exact H)|(have H2_:=(Option.bind_some _ _).symm.trans H;rw[B];with_reducible exact H2_)|(have H2_:=(Option.bind_some _ _).symm.trans H;with_reducible exact H2_)|with_reducible exact H|(rw[B];exact H)|exact H
   have L:=aM B;clear B;have H':=aM H;clear H
   go_enter Tryz.func35,Tryz.ntmps35
   go_wp2_with (first|((with_reducible refine Zq (N:=10) rfl ?_);refine Kd.R_make (Kd.int .i64) _ 3 rfl (N:=10) rfl 32 _ _ rfl (l0.length:Int) rfl rfl Tryz.underlying32 (.int .i64 0) 8 info3 rfl (by decide) (by omega) 0 (ok:=fun _=>True) (okp:=fun _=>True) rfl (fun _ hk=>hk) trivial (oD zz156) (Nat.le_trans (Nat.mul_le_mul_right _ (oD zz156:(l0.length:Int).toNat≤35184372088832)) (by omega)) (Below.refl _ _) (Nat.le_refl _) ?_;intro aE w5 P hb hg_ hnew_;clear hg_ hnew_;(first|rw[←L.out] at P|(simp only[Int.reduceToNat] at P;rw[←L.out] at P));have ah:=aM (Kd.R_lower P (Zc zz128));replace HB:=aM (Zd zz128 hb);clear hb P))
   go_loopg [13] k (fun kq aP w'=>∃(I:List Int) (m:Int),aP= .int .i64 m∧Aside0 (perm_then.l0 kq l1 I l0 (l0.length:Int) m=some r)∧Aside0 (kq≤k)∧Aside0 (Kd.R (Kd.int .i64) 3 w' w.heap.size (fun _=>True) aE I)∧Aside0 (Below w.heap.size w w'))
   case atStart=>exact⟨(ag),(0),zz157,H',⟨Nat.le_refl _⟩,⟨(zR ah)⟩,⟨zz128⟩⟩
   case round =>
    clear H';(try clear c1);(try clear p2);(try clear c3);(try clear an);(try clear ao);(try clear c4);(try clear aq);(try clear ar);obtain⟨I,m,rfl,HA,HK1,HO_5,HB⟩:=hrel
    cases gk with
    |zero=>exact absurd HA.out (by simp[perm_then.l0])
    | succ k1=>
     have H:=HA.out;clear HA;simp only[perm_then.l0] at H
     by_cases c7:m<(l0.length:Int)
     ·rw [if_pos c7] at H;have au:=dT c7;clear c7
      by_cases c8:0≤m
      ·rw [if_pos c8] at H;have aR:=dT c8;clear c8
       by_cases c9:m<(l0.length:Int)
       ·rw [if_pos c9] at H;have aS:=dT c9;clear c9
        by_cases c10:0≤(rd l0 m)
        ·rw [if_pos c10] at H;have aL:=dT c10;clear c10
         by_cases ab:(rd l0 m)<(l1.length:Int)
         ·rw [if_pos ab] at H;have aN:=dT ab;clear ab
          by_cases ac:m<(I.length:Int)
          ·rw[if_pos ac] at H;have aO:=dT ac;clear ac;obtain⟨aa,D⟩:∃y_:List Int,y_=(I.set (m:Int).toNat (rd l1 (rd l0 m))):=⟨_,rfl⟩;replace H:(perm_then.l0 k1 l1 aa l0 (l0.length:Int) (wrap64 (m+1)))=some r:=by first|(rw[D];with_reducible exact H)|(have H2_:=(Option.bind_some _ _).symm.trans H;rw[D];with_reducible exact H2_)|(have H2_:=(Option.bind_some _ _).symm.trans H;with_reducible exact H2_)|with_reducible exact H|(rw[D];exact H)|exact H
           have ai:=aM D;clear D;have H':=aM H;clear H;have U:0≤(m:Int):=oD zz156;have Y:m<(l0.length:Int):=oD zz156;obtain⟨aJ,aw,o⟩:=Kd.at_int aH.out m U Y
           cases aw;replace o:=(HB.out.cell (wB w _ o)).trans o;replace U:=eq_true U;replace Y:=eq_true Y;have X:0≤((rd l0 m):Int):=oD zz156;have Z:(rd l0 m)<(l1.length:Int):=oD zz156;obtain⟨aK,ax,z⟩:=Kd.at_int aI.out (rd l0 m) X Z
           cases ax;replace z:=(HB.out.cell (wB w _ z)).trans z;replace X:=eq_true X;replace Z:=eq_true Z;have aj:0≤(m:Int):=oD zz156;have ak:(m:Int)<((I.length:Int):Int):=oD zz156;obtain⟨O,av,ae,af,ay,aT,ad⟩:=Kd.R_form HO_5.out (by omega)
           (first|cases ae|(injection ae with ea_ en_ ec_;(first|subst ea_|(injection ea_ with ea_;subst ea_));subst ec_;clear en_))
           have am:=aM af;have aQ:=aM ad;clear af ay ad;obtain⟨aG,aF⟩:=Kd.R_celln 0 HO_5.out (m:Int) aj ak;replace aj:=eq_true aj;replace ak:=eq_true ak;have J:=Kd.R_putg HO_5.out (m:Int) (rd l1 (rd l0 m))
           go_wp2_with (first|((with_reducible refine ZO (t:=3) (p:=24) rfl ?_);refine ZM (t:=3) (p:=24) (v:= ?vo_w15) (w1:=(wr.setCell ⟨O,(m:Int).toNat,none⟩ (.int .i64 (rd l1 (rd l0 m))))) ?hg ?ho ?hn ?hr ?_;(case ho=>rfl);(case hg=>rfl);(case hn=>rfl);(case hr=>first|(go_simp;done)|(go_simp;rfl));intro al hw;have hg:wr.grownBy al (some O):=(by rw[hw];exact J.2);have hp_:Kd.R (Kd.int .i64) 3 al w.heap.size (fun _=>True) (.slice (some ⟨O,0,none⟩) I.length av) aa:=(by rw[hw,ai.out];exact J.1);clear J;replace HO_5:=aM (hp_);replace HB:=aM ((by rw[hw];exact Zi (HB.out) am.out:Below w.heap.size w al));clear hg hw hp_))
           go_roundg k1
           case measure=>have:=HK1.out;omega
           case rel=>exact⟨(aa),(wrap64 (m+1)),zz157,H',⟨zz167⟩,⟨(zR HO_5)⟩,⟨zz128⟩⟩
          rw[if_neg ac] at H
          exact absurd H (by simp)
         rw[if_neg ab] at H
         exact absurd H (by simp)
        rw[if_neg c10] at H
        exact absurd H (by simp)
       rw[if_neg c9] at H
       exact absurd H (by simp)
      rw[if_neg c8] at H
      exact absurd H (by simp)
     rw[if_neg c7] at H;have au:=dF c7;clear c7;obtain rfl:=oI H;go_wp2;go_ret
     exact⟨_,by first|rfl|(simp[Zm,Zl]<;>rfl)|(simp[*,Zm,Zl]<;>rfl),by(with_reducible repeat(first|apply Kd.R_alloc|apply Kd.R_drewN|apply Kd.R_drew));exact HO_5.out,by repeat(first|(with_reducible first|exact HB.out|apply Zh|apply Zg|apply Zj)|exact HB.out)⟩
  rw[if_neg c4] at H
  exact absurd H (by simp)
 rw[if_neg c3] at H
 exact absurd H (by simp)
def perm_inverse.l0:Nat→List Int→List Int→Int→Int→Option (List Int)
 |0,_,_,_,_=>none
 |k+1,x3,x9,x10,x11=>if x11<x10 then(if 0≤x11 then(if x11<(x9.length:Int) then(if 0≤(rd x9 x11) then(if(rd x9 x11)<(x3.length:Int) then(perm_inverse.l0 k (x3.set ((rd x9 x11):Int).toNat x11) x9 x10 (wrap64 (x11+1))) else(none)) else(none)) else(none)) else(none)) else(some x3)
def perm_inverse.f (k:Nat) (l0:List Int):Option (List Int):=if 0≤(l0.length:Int) then(if((l0.length:Int):Int).toNat≤35184372088832 then(perm_inverse.l0 k (List.replicate ((l0.length:Int):Int).toNat 0) l0 (l0.length:Int) 0) else(none)) else(none)
theorem perm_inverse.mono_l:∀k,(∀y0 y1 y2 y3,LeO (perm_inverse.l0 k y0 y1 y2 y3) (perm_inverse.l0 (k+1) y0 y1 y2 y3))
 |0=>fun _ _ _ _ r h=>by simp[perm_inverse.l0] at h
 | k +1=>by
  have e:=perm_inverse.mono_l k
  ·intro y0 y1 y2 y3;unfold perm_inverse.l0
   repeat' first
   |(with_reducible exact e _ _ _ _)
   |(with_reducible exact LeO.refl _)
   |(with_reducible exact LeO.none _)
   |(with_reducible refine LeO.ite ?_ ?_)
   |(with_reducible refine LeO.bind ?_ (fun _=> ?_))
theorem perm_inverse.mono:∀a0 k,LeO (perm_inverse.f k a0) (perm_inverse.f (k+1) a0):=by
 intro a0 k
 have e:=perm_inverse.mono_l k
 unfold perm_inverse.f
 repeat' first
     |(with_reducible exact e _ _ _ _)
     |(with_reducible exact LeO.refl _)
     |(with_reducible exact LeO.none _)
     |(with_reducible refine LeO.ite ?_ ?_)
     |(with_reducible refine LeO.bind ?_ (fun _=> ?_))
theorem perm_inverse.calls (k:Nat) (A0:Option Addr) (c0:Nat) (l0:List Int) (r:List Int) (w:World) (au:Kd.C (Kd.int .i64) w A0 l0.length l0) (ar:l0.length≤c0) (h:perm_inverse.f k l0=some r):
    Calls Tryz.prog 43 #[.slice A0 l0.length c0] w fun e w'=>∃av:Value,e= .returned (av)∧Kd.R (Kd.int .i64) 3 w' w.heap.size (fun _=>True) av r∧Below w.heap.size w w':=by
 have az:=aM au
 have aI:=aM ar
 clear au ar
 have HB:=aM (Below.refl w.heap.size w)
 have H:(if 0≤(l0.length:Int) then(if((l0.length:Int):Int).toNat≤35184372088832 then(perm_inverse.l0 k (List.replicate ((l0.length:Int):Int).toNat 0) l0 (l0.length:Int) 0) else(none)) else(none))=some r:=h
 clear h
 by_cases c2:0≤(l0.length:Int)
 ·rw [if_pos c2] at H
  have ai:=eq_true c2;have aj:=dT c2;clear c2
  by_cases c3:((l0.length:Int):Int).toNat≤35184372088832
  ·rw [if_pos c3] at H;have ak:=eq_true c3;have al:=dT c3;clear c3;obtain⟨ab,z⟩:∃y_:List Int,y_=(List.replicate ((l0.length:Int):Int).toNat 0):=⟨_,rfl⟩;replace H:(perm_inverse.l0 k ab l0 (l0.length:Int) 0)=some r:=by first|(rw[z];with_reducible exact H)|(have H2_:=(Option.bind_some _ _).symm.trans H;rw[z];with_reducible exact H2_)|(have H2_:=(Option.bind_some _ _).symm.trans H;with_reducible exact H2_)|with_reducible exact H|(rw[z];exact H)|exact H
   have J:=aM z;clear z;have H':=aM H;clear H
   go_enter Tryz.func43,Tryz.ntmps43
   go_wp2_with (first|((with_reducible refine Zq (N:=8) rfl ?_);refine Kd.R_make (Kd.int .i64) _ 3 rfl (N:=8) rfl 32 _ _ rfl (l0.length:Int) rfl rfl Tryz.underlying32 (.int .i64 0) 8 info3 rfl (by decide) (by omega) 0 (ok:=fun _=>True) (okp:=fun _=>True) rfl (fun _ hk=>hk) trivial (oD zz156) (Nat.le_trans (Nat.mul_le_mul_right _ (oD zz156:(l0.length:Int).toNat≤35184372088832)) (by omega)) (Below.refl _ _) (Nat.le_refl _) ?_;intro aw w4 O hb hg_ hnew_;clear hg_ hnew_;(first|rw[←J.out] at O|(simp only[Int.reduceToNat] at O;rw[←J.out] at O));have ac:=aM (Kd.R_lower O (Zc zz128));replace HB:=aM (Zd zz128 hb);clear hb O))
   go_loopg [11] k (fun kq aC w'=>∃(D:List Int) (m:Int),aC= .int .i64 m∧Aside0 (perm_inverse.l0 kq D l0 (l0.length:Int) m=some r)∧Aside0 (kq≤k)∧Aside0 (Kd.R (Kd.int .i64) 3 w' w.heap.size (fun _=>True) aw D)∧Aside0 (Below w.heap.size w w'))
   case atStart=>exact⟨(ab),(0),zz157,H',⟨Nat.le_refl _⟩,⟨(zR ac)⟩,⟨zz128⟩⟩
   case round =>
    clear H';(try clear c2);(try clear ai);(try clear aj);(try clear p2);(try clear c3);(try clear ak);(try clear al);(try clear c4);obtain⟨D,m,rfl,HA,HK1,HO_3,HB⟩:=hrel
    cases gk with
    |zero=>exact absurd HA.out (by simp[perm_inverse.l0])
    | succ k1=>
     have H:=HA.out;clear HA;simp only[perm_inverse.l0] at H
     by_cases c6:m<(l0.length:Int)
     ·rw [if_pos c6] at H;have am:=dT c6;clear c6
      by_cases c7:0≤m
      ·rw [if_pos c7] at H;have aE:=dT c7;clear c7
       by_cases c8:m<(l0.length:Int)
       ·rw [if_pos c8] at H;have aF:=dT c8;clear c8
        by_cases c9:0≤(rd l0 m)
        ·rw [if_pos c9] at H;have aG:=dT c9;clear c9
         by_cases c10:(rd l0 m)<(D.length:Int)
         ·rw[if_pos c10] at H;have aB:=dT c10;clear c10;obtain⟨X,B⟩:∃y_:List Int,y_=(D.set ((rd l0 m):Int).toNat m):=⟨_,rfl⟩;replace H:(perm_inverse.l0 k1 X l0 (l0.length:Int) (wrap64 (m+1)))=some r:=by first|(rw[B];with_reducible exact H)|(have H2_:=(Option.bind_some _ _).symm.trans H;rw[B];with_reducible exact H2_)|(have H2_:=(Option.bind_some _ _).symm.trans H;with_reducible exact H2_)|with_reducible exact H|(rw[B];exact H)|exact H
          have ad:=aM B;clear B;have H':=aM H;clear H;have P:0≤(m:Int):=oD zz156;have U:m<(l0.length:Int):=oD zz156;obtain⟨aA,ao,o⟩:=Kd.at_int az.out m P U
          cases ao;replace o:=(HB.out.cell (wB w _ o)).trans o;replace P:=eq_true P;replace U:=eq_true U;have ae:0≤((rd l0 m):Int):=oD zz156;have af:((rd l0 m):Int)<((D.length:Int):Int):=oD zz156;obtain⟨L,an,Z,aa,aq,aH,Y⟩:=Kd.R_form HO_3.out (by omega)
          (first|cases Z|(injection Z with ea_ en_ ec_;(first|subst ea_|(injection ea_ with ea_;subst ea_));subst ec_;clear en_))
          have ah:=aM aa;have aD:=aM Y;clear aa aq Y;obtain⟨ay,ax⟩:=Kd.R_celln 0 HO_3.out ((rd l0 m):Int) ae af;replace ae:=eq_true ae;replace af:=eq_true af;have I:=Kd.R_putg HO_3.out ((rd l0 m):Int) m
          go_wp2_with (first|((with_reducible refine ZO (t:=3) (p:=19) rfl ?_);refine ZM (t:=3) (p:=19) (v:= ?vo_w13) (w1:=(wr.setCell ⟨L,((rd l0 m):Int).toNat,none⟩ (.int .i64 m))) ?hg ?ho ?hn ?hr ?_;(case ho=>rfl);(case hg=>rfl);(case hn=>rfl);(case hr=>first|(go_simp;done)|(go_simp;rfl));intro ag hw;have hg:wr.grownBy ag (some L):=(by rw[hw];exact I.2);have hp_:Kd.R (Kd.int .i64) 3 ag w.heap.size (fun _=>True) (.slice (some ⟨L,0,none⟩) D.length an) X:=(by rw[hw,ad.out];exact I.1);clear I;replace HO_3:=aM (hp_);replace HB:=aM ((by rw[hw];exact Zi (HB.out) ah.out:Below w.heap.size w ag));clear hg hw hp_))
          go_roundg k1
          case measure=>have:=HK1.out;omega
          case rel=>exact⟨(X),(wrap64 (m+1)),zz157,H',⟨zz167⟩,⟨(zR HO_3)⟩,⟨zz128⟩⟩
         rw[if_neg c10] at H
         exact absurd H (by simp)
        rw[if_neg c9] at H
        exact absurd H (by simp)
       rw[if_neg c8] at H
       exact absurd H (by simp)
      rw[if_neg c7] at H
      exact absurd H (by simp)
     rw[if_neg c6] at H;have am:=dF c6;clear c6;obtain rfl:=oI H;go_wp2;go_ret
     exact⟨_,by first|rfl|(simp[Zm,Zl]<;>rfl)|(simp[*,Zm,Zl]<;>rfl),by(with_reducible repeat(first|apply Kd.R_alloc|apply Kd.R_drewN|apply Kd.R_drew));exact HO_3.out,by repeat(first|(with_reducible first|exact HB.out|apply Zh|apply Zg|apply Zj)|exact HB.out)⟩
  rw[if_neg c3] at H
  exact absurd H (by simp)
 rw[if_neg c2] at H
 exact absurd H (by simp)
end
structure Tw where
 n:Nat
 reps:List (List (List Int))
 gens:List (List (List Int))
def Tw.row (T:Tw) (b:Int):List (List Int):=T.reps.getD b.toNat []
def Tw.rep (T:Tw) (b x:Int):List Int:=(T.row b).getD x.toNat []
def Tw.gen (T:Tw) (b:Int):List (List Int):=T.gens.getD b.toNat []
def Lok (base:Nat) (w:World) (k:Nat):Prop:=k<base∨∃cs fr,w.heap[k]? =some (.cells cs 3 fr)
def Leaf (base:Nat) (w:World) (v:Value) (l:List Int):Prop:=
 ∃A c,v= .slice A l.length c∧l.length≤c∧Kd.F (Kd.int .i64) w (Lok base w) A l.length l∧(l= []→v= .slice none 0 0)
structure Keep (base:Nat) (w w1:World):Prop where
 below:Below base w w1
 ints:∀(k:Nat) (cs:Array Value) (fr:Nat×Nat),w.heap[k]? =some (Obj.cells cs 3 fr)→w1.heap[k]? =w.heap[k]?
theorem Keep.refl (base:Nat) (w:World):Keep base w w:=⟨Below.refl _ _,fun _ _ _ _=>rfl⟩
theorem Keep.trans {base:Nat} {w w1 w2:World} (h:Keep base w w1) (k:Keep base w1 w2):Keep base w w2:=
 ⟨h.below.trans k.below,fun i cs fr hi=>by
  have h1:=h.ints i cs fr hi;rw[k.ints i cs fr (h1.trans hi),h1]⟩
theorem lt_of_some {w:World} {k:Nat} {o:Obj} (h:w.heap[k]? =some o):k<w.heap.size:=(Array.getElem?_eq_some_iff.1 h).1
theorem Keep.of_below {base:Nat} {w w1:World} (hb:base≤w.heap.size) (h:Below w.heap.size w w1):Keep base w w1:=
 ⟨⟨h.os,h.tape,h.output,h.size,fun i hi=>h.block i (Nat.lt_of_lt_of_le hi hb)⟩,fun k _ _ hk=>h.block k (lt_of_some hk)⟩
theorem Keep.lok {base:Nat} {w w1:World} (h:Keep base w w1) {k:Nat} (hk:Lok base w k):Lok base w1 k:=by
 rcases hk with hk|⟨cs,fr,hk⟩
 ·exact .inl hk
 ·exact .inr ⟨cs,fr,(h.ints k cs fr hk).trans hk⟩
theorem Leaf.keep {base:Nat} {w w1:World} {v:Value} {l:List Int} (h:Leaf base w v l) (hk:Keep base w w1):Leaf base w1 v l:=by
 obtain⟨A,c,rfl,hl,hf,hn⟩:=h
 refine⟨A,c,rfl,hl,?_,hn⟩
 refine Kd.F_mono (Kd.F_step hf (fun k hk' hlt=> ?_)) (fun k hk'=>hk.lok hk')
 rcases hk' with hk'|⟨cs,fr,hk'⟩
 ·exact hk.below.block k hk'
 ·exact hk.ints k cs fr hk'
theorem Leaf.reads {base:Nat} {w:World} {v:Value} {l:List Int} (h:Leaf base w v l):∃A c,v= .slice A l.length c∧l.length≤c∧(Kd.int .i64).C w A l.length l:=by
 obtain⟨A,c,rfl,hl,hf,_⟩:=h
 exact⟨A,c,rfl,hl,Kd.F_now hf⟩
theorem Leaf.of_R {base b:Nat} {w:World} {ok:Nat→Prop} {v:Value} {l:List Int} (h:(Kd.int .i64).R 3 w b ok v l) (hl:l≠ []):Leaf base w v l:=by
 obtain⟨A,c,rfl,hc,hr⟩:=Kd.R_reads h
 refine⟨A,c,rfl,hc,Kd.F_mono (Kd.R_F (Kd.R_bound h)) (fun k hk=> ?_),fun h0=>absurd h0 hl⟩
 obtain⟨_,_,_,q,hq,cells,hcell⟩:=hk
 have:q=3:=by
  rcases List.mem_cons.1 hq with h1|h1
  ·exact h1
  ·exact absurd h1 zz165
 subst this
 exact .inr ⟨cells,_,hcell⟩
def LeafN (base:Nat) (w:World) (v:Value) (l:List Int):Prop:=
 ∃A c,v= .slice A l.length c∧l.length≤c∧Kd.F (Kd.int .i64) w (fun k=>base≤k∧∃cs fr,w.heap[k]? =some (Obj.cells cs 3 fr)) A l.length l∧(l= []→v= .slice none 0 0)
theorem LeafN.leaf {base:Nat} {w:World} {v:Value} {l:List Int} (h:LeafN base w v l):Leaf base w v l:=by
 obtain⟨A,c,rfl,hl,hf,hn⟩:=h
 exact⟨A,c,rfl,hl,Kd.F_mono hf (fun k hk=> .inr hk.2),hn⟩
theorem LeafN.keep {base:Nat} {w w1:World} {v:Value} {l:List Int} (h:LeafN base w v l) (hk:Keep base w w1):LeafN base w1 v l:=by
 obtain⟨A,c,rfl,hl,hf,hn⟩:=h
 refine⟨A,c,rfl,hl,?_,hn⟩
 refine Kd.F_mono (Kd.F_step hf (fun k hk' hlt=> ?_)) (fun k hk'=>⟨hk'.1,?_⟩)
 ·obtain⟨_,cs,fr,hk'⟩:=hk'
  exact hk.ints k cs fr hk'
 ·obtain⟨_,cs,fr,hk'⟩:=hk'
  exact⟨cs,fr,(hk.ints k cs fr hk').trans hk'⟩
theorem LeafN.of_R {base b:Nat} {w:World} {ok:Nat→Prop} {v:Value} {l:List Int} (h:(Kd.int .i64).R 3 w b ok v l) (hb:base≤b) (hl:l≠ []):LeafN base w v l:=by
 obtain⟨A,c,rfl,hc,hr⟩:=Kd.R_reads h
 refine⟨A,c,rfl,hc,Kd.F_mono (Kd.R_F (Kd.R_bound h)) (fun k hk=> ?_),fun h0=>absurd h0 hl⟩
 obtain⟨_,h2,_,q,hq,cells,hcell⟩:=hk
 have:q=3:=by
  rcases List.mem_cons.1 hq with h1|h1
  ·exact h1
  ·exact absurd h1 zz165
 subst this
 exact⟨Nat.le_trans hb h2,cells,_,hcell⟩
theorem LeafN.none_ (base:Nat) (w:World):LeafN base w (.slice none 0 0) []:=⟨none,0,rfl,Nat.le_refl _,Kd.F_nil _ _ _,fun _=>rfl⟩
theorem Leaf.C {base:Nat} {w:World} {A:Option Addr} {c:Nat} {l:List Int} (h:Leaf base w (.slice A l.length c) l):(Kd.int .i64).C w A l.length l∧l.length≤c:=by
 obtain⟨A',c',e,hl,hr⟩:=h.reads
 injection e with ea eb ec
 subst ea ec
 exact⟨hr,hl⟩
structure TwAt (base:Nat) (w:World) (bt bR bG:Nat) (rb:Nat→Nat) (vr:Nat→Nat→Value) (vg:Nat→Value) (T:Tw):Prop where
 n1:1≤T.n
 n64:T.n≤64
 lr:T.reps.length=T.n
 lrr:∀i,i<T.n→(T.reps.getD i []).length=T.n
 lg:T.gens.length=T.n
 gt:base≤bt
 gR:base≤bR
 gG:base≤bG
 grb:∀i,i<T.n→base≤rb i
 ht:w.heap[bt]? =some (.cells #[.int .i64 T.n,.slice (some ⟨bR,0,none⟩) T.n T.n,.slice (some ⟨bG,0,none⟩) T.n T.n] 104 (0,0))
 hR:w.heap[bR]? =some (.cells ((List.range T.n).map (fun i=>Value.slice (some ⟨rb i,0,none⟩) T.n T.n)).toArray 46 (0,0))
 hr:∀i,i<T.n→w.heap[rb i]? =some (.cells ((List.range T.n).map (vr i)).toArray 32 (0,0))
 hG:w.heap[bG]? =some (.cells ((List.range T.n).map vg).toArray 46 (0,0))
 hg:∀i,i<T.n→∃inner,w.ownsRow base 32 1 (vg i) (T.gens.getD i []).length inner∧∀(j:Nat) (l:List Int),(T.gens.getD i [])[j]? =some l→∃v,inner[j]? =some v∧Leaf base w v l
 leaf:∀i x,i<T.n→x<T.n→LeafN base w (vr i x) ((T.reps.getD i []).getD x [])
 dRG:bR≠bG
 drb:∀i j,i<T.n→j<T.n→rb i=rb j→i=j
 drg:∀i j,i<T.n→j<T.n→(vg j).ownBlock≠some (rb i)
 dgg:∀i j,i<T.n→j<T.n→i≠j→(vg i).ownBlock=none∨(vg i).ownBlock≠(vg j).ownBlock
section
variable {base:Nat} {w w1:World} {bt bR bG:Nat} {rb:Nat→Nat} {vr:Nat→Nat→Value} {vg:Nat→Value} {T:Tw}
theorem Yc {n i:Nat} (f:Nat→Value) (h:i<n):((List.range n).map f).toArray[i]? =some (f i):=by simp[h]
theorem TwAt.cell0 (h:TwAt base w bt bR bG rb vr vg T):w.cell? ⟨bt,0,none⟩=some (.int .i64 T.n):=(Za h.ht 0).trans rfl
theorem TwAt.cell1 (h:TwAt base w bt bR bG rb vr vg T):w.cell? ⟨bt,1,none⟩=some (.slice (some ⟨bR,0,none⟩) T.n T.n):=(Za h.ht 1).trans rfl
theorem TwAt.cell2 (h:TwAt base w bt bR bG rb vr vg T):w.cell? ⟨bt,2,none⟩=some (.slice (some ⟨bG,0,none⟩) T.n T.n):=(Za h.ht 2).trans rfl
theorem TwAt.cellR (h:TwAt base w bt bR bG rb vr vg T) {b:Int} (h0:0≤b) (h1:b<T.n):w.cell? ⟨bR,b.toNat,none⟩=some (.slice (some ⟨rb b.toNat,0,none⟩) T.n T.n):=
 (Za h.hR b.toNat).trans (Yc _ (by omega))
theorem TwAt.cellG (h:TwAt base w bt bR bG rb vr vg T) {b:Int} (h0:0≤b) (h1:b<T.n):w.cell? ⟨bG,b.toNat,none⟩=some (vg b.toNat):=
 (Za h.hG b.toNat).trans (Yc _ (by omega))
theorem TwAt.cellr (h:TwAt base w bt bR bG rb vr vg T) {b x:Int} (h0:0≤b) (h1:b<T.n) (h2:0≤x) (h3:x<T.n):w.cell? ⟨rb b.toNat,x.toNat,none⟩=some (vr b.toNat x.toNat):=
 (Za (h.hr b.toNat (by omega)) x.toNat).trans (Yc _ (by omega))
theorem TwAt.leafr (h:TwAt base w bt bR bG rb vr vg T) {b x:Int} (h0:0≤b) (h1:b<T.n) (h2:0≤x) (h3:x<T.n):Leaf base w (vr b.toNat x.toNat) (T.rep b x):=
 (h.leaf b.toNat x.toNat (by omega) (by omega)).leaf
theorem TwAt.base_le (h:TwAt base w bt bR bG rb vr vg T):base≤w.heap.size:=Nat.le_trans h.gt (Nat.le_of_lt (lt_of_some h.ht))
theorem TwAt.below (h:TwAt base w bt bR bG rb vr vg T) (hb:Below w.heap.size w w1):TwAt base w1 bt bR bG rb vr vg T:=by
 have hk:=Keep.of_below h.base_le hb
 exact { h with
  ht:=(hb.block _ (lt_of_some h.ht)).trans h.ht
  hR:=(hb.block _ (lt_of_some h.hR)).trans h.hR
  hr:=fun i hi=>(hb.block _ (lt_of_some (h.hr i hi))).trans (h.hr i hi)
  hG:=(hb.block _ (lt_of_some h.hG)).trans h.hG
  hg :=fun i hi=>by
   obtain⟨inner,ho,hl⟩:=h.hg i hi
   exact⟨inner,pw_own_below ho hb,fun j l hj=>by obtain⟨v,hv,hf⟩:=hl j l hj;exact⟨v,hv,hf.keep hk⟩⟩
  leaf:=fun i x hi hx=>(h.leaf i x hi hx).keep hk }
end
def stripL:Nat→Tw→List Int→Int→Option Int
 |0,_,_,_=>none
 | k +1,T,p,b=>
  if b<T.n then(if 0≤b then(if b<(p.length:Int) then(if 0≤rd p b then(if rd p b<T.n then(
   if T.rep b (rd p b)= [] then some b else(perm_inverse.f k (T.rep b (rd p b))).bind fun i=>(perm_then.f k p i).bind fun q=>stripL k T q (b+1))
   else none) else none) else none) else none) else some T.n
theorem run_eql_nil (w:World) (a:Option Addr) (n c:Nat):(binOp .eql 32 (.slice a n c) (.slice none 0 0)).run Tryz.prog w= .ok (.bool a.isNone) w:=Lib.run_eql_slice_nil w 32 3 a n c 0 0 Tryz.underlying32
theorem Ya (w:World) (a:Option Addr) (n c:Nat):(binOp .neq 32 (.slice a n c) (.slice none 0 0)).run Tryz.prog w= .ok (.bool (!a.isNone)) w:=run_neq_slice_nil_any w 32 3 a n c 0 0 Tryz.underlying32
theorem C_some {w:World} {A:Option Addr} {l:List Int} (h:Kd.C (Kd.int .i64) w A l.length l) (hl:l≠ []):∃ad,A=some ad:=by
 have h0:0<l.length:=List.length_pos_iff.2 hl
 obtain⟨ad,e,_⟩:=Kd.at_int h 0 (by omega) (by omega)
 exact⟨ad,e⟩
theorem strip_calls {base:Nat} {bt bR bG:Nat} {rb:Nat→Nat} {vr:Nat→Nat→Value} {vg:Nat→Value} {T:Tw} (k:Nat) (A0:Option Addr) (c0:Nat) (p:List Int) (b:Int) (r:Int) (w:World)
    (hT:TwAt base w bt bR bG rb vr vg T) (ab:Kd.C (Kd.int .i64) w A0 p.length p) (P:p.length≤c0) (h:stripL k T p b=some r):
    Calls Tryz.prog 68 #[.pointer (some ⟨bt,0,none⟩),.slice A0 p.length c0,.int .i64 b] w fun e w'=>∃av:Value,e= .returned (.tuple #[av,.int .i64 r])∧Below w.heap.size w w':=by
 have HT:=aM hT
 have L:=aM ab
 have I:=aM P
 have HB:=aM (Below.refl w.heap.size w)
 have H':=aM h
 clear hT ab P h
 go_enter Tryz.func68,Tryz.ntmps68
 go_wp2
 go_loopg [1,2] k (fun kq v1 v2 w'=>∃(q:List Int) (A1:Option Addr) (c1:Nat) (b1:Int),v1= .slice A1 q.length c1∧v2= .int .i64 b1∧Aside0 (stripL kq T q b1=some r)∧Aside0 (kq≤k)∧Aside0 (Kd.C (Kd.int .i64) w' A1 q.length q)∧Aside0 (q.length≤c1)∧Aside0 (Below w.heap.size w w'))
 case atStart=>exact⟨p,A0,c0,b,rfl,rfl,H',⟨Nat.le_refl _⟩,L,I,HB⟩
 case round =>
  clear H' HB L I;obtain⟨q,A1,c1,b1,rfl,rfl,HA,HK1,HR,HC,HB⟩:=hrel
  cases gk with
  |zero=>exact absurd HA.out (by simp[stripL])
  | succ k1=>
   have H:=HA.out;clear HA;simp only[stripL] at H;have aw:=HT.out.n64;have HTr:=aM (HT.out.below HB.out);have ax:=HTr.out.cell0
   by_cases c7:b1<(T.n:Int)
   ·rw [if_pos c7] at H;have ar:decide (b1<(T.n:Int))=true:=dT c7;have ay:=HTr.out.cell1
    by_cases c8:0≤b1
    ·rw [if_pos c8] at H
     by_cases c9:b1<(q.length:Int)
     ·rw [if_pos c9] at H
      by_cases c10:0≤rd q b1
      ·rw [if_pos c10] at H
       by_cases o:rd q b1<(T.n:Int)
       ·rw [if_pos o] at H;have az:=HTr.out.cellR c8 c7;have ag:=HTr.out.cellr c8 c7 c10 o;obtain⟨ad,e1,aA⟩:=Kd.at_int HR.out b1 c8 c9
        cases e1;have hL:=HTr.out.leafr c8 c7 c10 o;have p8:=eq_true c8;have p9:=eq_true c9;have p7:=eq_true c7;have aB:=eq_true c10;have aC:=eq_true o
        by_cases m:T.rep b1 (rd q b1)= []
        ·rw[if_pos m] at H;obtain rfl:=oI H;obtain⟨A2,c2,hv,z,au,hnil⟩:=hL;have af:=hnil m;rw[af] at ag;have hq:=fun W=>run_eql_nil W none 0 0
         clear hv af hnil au z m H;go_wp2
         go_quiet (fail)
         go_wp2
         go_ret2
         exact⟨_,rfl,Zg HB.out _⟩
        ·rw [if_neg m] at H;replace H:=oB H;obtain⟨i,hi,H⟩:=H;replace H:=oB H;obtain⟨q2,aa,H⟩:=H;obtain⟨A2,c2,hv,z,B⟩:=hL.reads;obtain⟨aq,rfl⟩:=C_some B m;rw[hv] at ag;have hq:=fun W=>run_eql_nil W (some aq) (T.rep b1 (rd q b1)).length c2
         have Hi:=aM hi;have ao:=aM aa;have H':=aM H;have J:=aM B;have ai:=aM z;clear hv m H hi aa B z hL;go_wp2
         go_quiet (fail)
         have HCr:=aM (Kd.C_below J.out (Below.refl _ _))
         go_wp2_with (first
          |(go_at_call 43;(with_reducible refine(perm_inverse.calls k1 _ _ (T.rep b1 (rd q b1)) i _ ?s1 ?s2 Hi.out).mono ?_);(case s1=>exact Kd.C_drewN J.out _);(case s2=>exact ai.out);rintro e w3 ⟨v3,rfl,Y,D⟩;obtain⟨A3,c3,rfl,U,ac⟩:=Kd.R_reads Y;have am:=aM ac;have aj:=aM U;have HB3:=aM (Zd (Zg HB.out nq) D);have al:=aM (Kd.C_below (Kd.C_drewN HR.out nq) D);clear Y D ac U)
          |(go_at_call 35;(with_reducible refine(perm_then.calls k1 _ _ q _ _ i q2 _ ?s1 ?s2 ?s3 ?s4 ao.out).mono ?_);(case s1=>exact al.out);(case s2=>exact HC.out);(case s3=>exact am.out);(case s4=>exact aj.out);rintro e w4 ⟨v4,rfl,Z,O⟩;obtain⟨A4,c4,rfl,X,ae⟩:=Kd.R_reads Z;have an:=aM ae;have ak:=aM X;have ah:=aM (Zd HB3.out O);clear Z O ae X))
         go_roundg k1
         case measure=>have:=HK1.out;omega
         case rel=>exact⟨q2,A4,c4,b1+1,rfl,rfl,H',⟨by have:=HK1.out;omega⟩,an,ak,ah⟩
       ·rw[if_neg o] at H
        cases H
      ·rw[if_neg c10] at H
       cases H
     ·rw[if_neg c9] at H
      cases H
    ·rw[if_neg c8] at H
     cases H
   ·rw[if_neg c7] at H;obtain rfl:=oI H;have ar:decide (b1<(T.n:Int))=false:=dF c7;go_wp2
    go_quiet (fail)
    go_wp2
    go_ret2
    exact⟨_,rfl,Zg HB.out _⟩
theorem run_eql_nil28 (w:World) (a:Option Addr) (n c:Nat):(binOp .eql 46 (.slice a n c) (.slice none 0 0)).run Tryz.prog w= .ok (.bool a.isNone) w:=Lib.run_eql_slice_nil w 46 32 a n c 0 0 Tryz.underlying46
theorem raw_reads {w:World} {g n:Nat} {vals:List Value} (hl:vals.length=n) (hn:n≤64) (hone:∀v∈vals,v.oneCell'=true) (hc:∀(j:Nat) (u:Value),vals[j]? =some u→w.cell? ⟨g,j,none⟩=some u):
    ReadsRow (fun x cs=>cs=x∧cs.length=1∧∀u∈cs,u.oneCell'=true) 1 w (some ⟨g,0,none⟩) n (vals.map (fun v=> [v])):=by
 refine⟨by simpa using hl,by omega,fun h0=>⟨_,rfl,fun j p hj=> ?_⟩⟩
 rw[List.getElem?_map] at hj
 obtain⟨v,hv,rfl⟩:=Option.map_eq_some_iff.1 hj
 refine⟨[v],rfl,⟨rfl,rfl,fun u hu=> ?_⟩,fun i u hu=> ?_⟩
 ·rw[List.mem_singleton.1 hu];exact hone v (List.mem_of_getElem? hv)
 ·match i,hu with
  | 0,hu=>
   obtain rfl:=oI hu;rw[Z5,Nat.mul_one,Nat.add_zero]
   exact hc j v hv
theorem raw_cells {w:World} {b e:Nat} {ok:Nat→Prop} {v:Value} {vals:List Value} (h:(Kd.raw 1).R e w b ok v (vals.map (fun v=> [v]))) (h0:0<vals.length):
    ∃g c,v= .slice (some ⟨g,0,none⟩) vals.length c∧b≤g∧g<w.heap.size∧∀(j:Nat) (u:Value),vals[j]? =some u→w.cell? ⟨g,j,none⟩=some u:=by
 obtain⟨_,inner,ho,hr⟩:=h
 rw[List.length_map] at ho
 obtain⟨g,cap,he,hbg,hlg⟩:=ho.form h0
 subst he
 refine⟨g,cap,rfl,hbg,hlg,fun j u hu=> ?_⟩
 have h1:=hr.2 j [u] (by rw[List.getElem?_map,hu];rfl)
 have h2:((inner.drop (j*1)).take 1)= [u]:=h1.1
 have h3:inner[j]? =some u:=by
  have:=congrArg List.head? h2;rw[Nat.mul_one] at this
  simpa[List.head?_take,List.head?_drop] using this
 have h4:=ho.cells (g:=g) rfl j u h3
 rwa [Z5] at h4
theorem clone84_calls (g n:Nat) (vals:List Value) (w:World) (hl:vals.length=n) (h1:1≤n) (hn:n≤64) (hone:∀v∈vals,v.oneCell'=true) (hc:∀(j:Nat) (u:Value),vals[j]? =some u→w.cell? ⟨g,j,none⟩=some u):
    Calls Tryz.prog 69 #[.slice (some ⟨g,0,none⟩) n n] w fun e w'=>∃g' c,e= .returned (.slice (some ⟨g',0,none⟩) n c)∧w.heap.size≤g'∧g'<w'.heap.size∧(∀(j:Nat) (u:Value),vals[j]? =some u→w'.cell? ⟨g',j,none⟩=some u)∧Below w.heap.size w w':=by
 have HRR:=aM (raw_reads hl hn hone hc)
 have HL:=aM hl
 have HB:=aM (Below.refl w.heap.size w)
 have hq:=fun W=>run_eql_nil28 W (some ⟨g,0,none⟩) n n
 clear hl hone hc
 go_enter Tryz.func69,Tryz.ntmps69
 go_wp2_with (first
  |((with_reducible refine Zq (N:=5) rfl ?_);refine Kd.R_lit (Kd.raw 1) _ 32 ?hg (N:=5) ?hd (xs:=([]:List (List Value))) (inner:= []) (ok:=fun _=>True) (okp:=fun _=>True) ?hr ?hp (fun _ hk=>hk) trivial (Below.refl _ _) (Nat.le_refl _) (by simp) ?_;(case hd=>rfl);(case hg=>rfl);(case hr=>first|(go_simp;done)|(go_simp;rfl));(case hp=>exact(Reps.none _ _));intro v1 w1 I B hg_ hnew_;clear hg_ hnew_;have L:=aM I;have o:=aM B;clear I B)
  |((with_reducible refine ZQ (b:= .append) (xs:= #[.tmp 5,.tmp 6]) rfl ?_);at_builtin;refine Kd.R_append_rows (Kd.raw 1) (w0:=w) w.heap.size rfl (.tmp 5) (.tmp 6) 46 32 (.slice none 0 0) 24 rfl Tryz.underlying46 info32 rfl (by decide) (by omega) v1 [] (vals.map (fun v=> [v])) _ _ _ (fun _=>True) (fun _=>False) rfl rfl ?aO ?aR (fun _ _ h=>h) (fun _ h=>h.elim) ?aF ?aB ?aS ?aL ?_;(case aR=>exact HRR.out.imp_ (o.out) (fun _ _ h=>h));(case aB=>exact o.out);(case aF=>exact(fun _ _=>trivial));(case aO=>exact L.out);(case aS=>exact o.out.size);(case aL=>simp only[List.length_nil];omega);intro v2 w2 m D P z;have O:=aM m;have J:=aM D;clear m D P z))
 go_ret
 have m:=O.out
 rw[List.nil_append] at m
 obtain⟨g',c,hv,hbg,hlg,hcc⟩:=raw_cells m (by rw[HL.out];omega)
 rw[HL.out] at hv
 exact⟨g',c,by rw[←hv];rfl,hbg,hlg,hcc,J.out⟩
def Tw.setRep (T:Tw) (b x:Int) (p:List Int):Tw:= { T with reps:=T.reps.set b.toNat ((T.row b).set x.toNat p) }
def Tw.addGen (T:Tw) (b:Int) (p:List Int):Tw:= { T with gens:=T.gens.set b.toNat (T.gen b++ [p]) }
theorem range_set {n x:Nat} (f:Nat→Value) (v:Value):((List.range n).map f).toArray.setIfInBounds x v=((List.range n).map (fun y=>if y=x then v else f y)).toArray:=by
 apply Array.ext
 ·simp
 ·intro i h1 h2
  simp only[sA,List.getElem_toArray,List.getElem_set,List.getElem_map,List.getElem_range]
  by_cases h:x=i
  ·simp[h]
  rw[if_neg h,if_neg (fun e=>h e.symm)]
theorem Yg {α:Type} {l:List α} {i:Nat} {a d:α} (h:i<l.length):(l.set i a).getD i d=a:=by simp[List.getD_eq_getElem?_getD,h]
theorem getD_set_ne {α:Type} {l:List α} {i j:Nat} {a d:α} (h:i≠j):(l.set i a).getD j d=l.getD j d:=by simp[List.getD_eq_getElem?_getD,List.getElem?_set_ne h]
theorem ZS {w:World} {g g' t t':Nat} {cs cs':Array Value} {fr fr':Nat×Nat} (h:w.heap[g]? =some (Obj.cells cs t fr)) (h':w.heap[g']? =some (Obj.cells cs' t' fr')) (ht:t≠t'):g≠g':=by
 rintro rfl
 rw[h] at h'
 injection h' with h'
 injection h' with _ h2
 exact ht h2
theorem Keep.set_ {base:Nat} {w:World} {g x t:Nat} {cs:Array Value} {fr:Nat×Nat} (hg:base≤g) (hb:w.heap[g]? =some (Obj.cells cs t fr)) (ht:t≠3) (v:Value):Keep base w (w.setCell ⟨g,x,none⟩ v):=
 ⟨(Below.refl base w).setCell hg v,fun k cs' fr' hk=>Below.heap_setCell w ⟨g,x,none⟩ v k (fun e=>ZS hk hb (Ne.symm ht) e)⟩
def Own (n:Nat) (rb:Nat→Nat) (bG:Nat) (vg:Nat→Value) (k:Nat):Prop:=(∃i,i<n∧k=rb i)∨k=bG∨∃i,i<n∧(vg i).ownBlock=some k
structure TwFr (n:Nat) (rb:Nat→Nat) (bG:Nat) (vg:Nat→Value) (w:World) (vg':Nat→Value) (w':World):Prop where
 size:w.heap.size≤w'.heap.size
 same:∀k,k<w.heap.size→¬Own n rb bG vg k→w'.heap[k]? =w.heap[k]?
 own:∀k,k<w.heap.size→Own n rb bG vg' k→Own n rb bG vg k
theorem TwFr.of_below {n:Nat} {rb:Nat→Nat} {bG:Nat} {vg:Nat→Value} {w w':World} (h:Below w.heap.size w w'):TwFr n rb bG vg w vg w':=⟨h.size,fun k hk _=>h.block k hk,fun _ _ h=>h⟩
theorem TwFr.refl {n:Nat} {rb:Nat→Nat} {bG:Nat} {vg:Nat→Value} {w:World} :TwFr n rb bG vg w vg w:=⟨Nat.le_refl _,fun _ _ _=>rfl,fun _ _ h=>h⟩
theorem TwFr.trans {n:Nat} {rb:Nat→Nat} {bG:Nat} {vg e m:Nat→Value} {w w1 w2:World} (h:TwFr n rb bG vg w e w1) (k:TwFr n rb bG e w1 m w2):TwFr n rb bG vg w m w2:=
 ⟨Nat.le_trans h.size k.size,fun i hi hn=>(k.same i (Nat.lt_of_lt_of_le hi h.size) (fun ho=>hn (h.own i hi ho))).trans (h.same i hi hn),fun i hi ho=>h.own i hi (k.own i (Nat.lt_of_lt_of_le hi h.size) ho)⟩
section
variable {base:Nat} {w w1:World} {bt bR bG:Nat} {rb:Nat→Nat} {vr:Nat→Nat→Value} {vg:Nat→Value} {T:Tw}
theorem TwAt.set_rep (h:TwAt base w bt bR bG rb vr vg T) {b x:Int} (h0:0≤b) (h1:b<T.n) (h2:0≤x) (h3:x<T.n) {v:Value} {p:List Int} (hv:LeafN base w v p):
    TwAt base (w.setCell ⟨rb b.toNat,x.toNat,none⟩ v) bt bR bG rb (fun i y=>if i=b.toNat∧y=x.toNat then v else vr i y) vg (T.setRep b x p)∧Keep base w (w.setCell ⟨rb b.toNat,x.toNat,none⟩ v)∧TwFr T.n rb bG vg w vg (w.setCell ⟨rb b.toNat,x.toNat,none⟩ v):=by
 have hbn:b.toNat<T.n:=by omega
 have hk:Keep base w (w.setCell ⟨rb b.toNat,x.toNat,none⟩ v):=Keep.set_ (h.grb _ hbn) (h.hr _ hbn) (by decide) v
 have hrow:T.row b=T.reps.getD b.toNat []:=rfl
 refine⟨{ h with lr:= ?_,lrr:= ?_,ht:= ?_,hR:= ?_,hr:= ?_,hG:= ?_,hg:= ?_,leaf:= ?_ },hk,⟨by simp[World.setCell],fun k m hn=>Below.heap_setCell w ⟨rb b.toNat,x.toNat,none⟩ v k (fun e=>hn (.inl ⟨b.toNat,hbn,e⟩)),fun _ _ h=>h⟩⟩
 ·simp[Tw.setRep,h.lr]
 ·intro i hi
  by_cases e:b.toNat=i
  ·subst e;simp only[Tw.setRep];rw[Yg (by rw[h.lr];exact hbn),List.length_set,hrow]
   exact h.lrr _ hbn
  simp only[Tw.setRep];rw[getD_set_ne e]
  exact h.lrr i hi
 ·exact(Below.heap_setCell w _ v bt (ZS h.ht (h.hr _ hbn) (by decide))).trans h.ht
 ·exact(Below.heap_setCell w _ v bR (ZS h.hR (h.hr _ hbn) (by decide))).trans h.hR
 ·intro i hi
  by_cases e:b.toNat=i
  ·subst e;have:=blk_set (h.hr _ hbn) x.toNat v;rw[range_set] at this
   simpa[Tw.setRep] using this
  have:=(Below.heap_setCell w ⟨rb b.toNat,x.toNat,none⟩ v (rb i) (fun e2=>e (h.drb _ _ hbn hi e2.symm))).trans (h.hr i hi);rw[this];have e':¬i=b.toNat:=fun z=>e z.symm
  simp[e',Tw.setRep]
 ·exact(Below.heap_setCell w _ v bG (ZS h.hG (h.hr _ hbn) (by decide))).trans h.hG
 ·intro i hi
  obtain⟨inner,ho,hl⟩:=h.hg i hi
  refine⟨inner,own_move ho (fun k hk'=>Below.heap_setCell w ⟨rb b.toNat,x.toNat,none⟩ v k (fun e=> ?_)),fun j l hj=> ?_⟩
  ·subst e
   exact h.drg b.toNat i hbn hi hk'
  ·obtain⟨u,hu,hf⟩:=hl j l hj
   exact⟨u,hu,hf.keep hk⟩
 ·intro i y hi hy
  by_cases e:b.toNat=i
  ·subst e
   have hl:(T.setRep b x p).reps.getD b.toNat []=(T.row b).set x.toNat p:=by
    simp only[Tw.setRep];rw[Yg (by rw[h.lr];exact hbn)]
   rw[hl]
   by_cases e2:x.toNat=y
   ·subst e2;rw[Yg (by rw[hrow,h.lrr _ hbn];omega),if_pos ⟨rfl,rfl⟩]
    exact hv.keep hk
   rw[getD_set_ne e2,if_neg (fun z=>e2 z.2.symm)]
   exact(h.leaf _ y hi hy).keep hk
  have hl:(T.setRep b x p).reps.getD i []=T.reps.getD i []:=by
   simp only[Tw.setRep];rw[getD_set_ne e]
  rw[hl,if_neg (fun z=>e z.1.symm)]
  exact(h.leaf i y hi hy).keep hk
theorem TwAt.add_gen (h:TwAt base w bt bR bG rb vr vg T) {b:Int} (h0:0≤b) (h1:b<T.n) {v v1:Value} {p:List Int} {inner:List Value} (hv:Leaf base w v p)
    (hin:∀(j:Nat) (l:List Int),(T.gen b)[j]? =some l→∃u,inner[j]? =some u∧Leaf base w u l) (hl:inner.length=(T.gen b).length)
    (hown:w1.ownsRow base 32 1 v1 ((T.gen b).length+1) (inner++ [v])) (hg:w.grownBy w1 (vg b.toNat).ownBlock) (hat:v1.ownBlock=(vg b.toNat).ownBlock∨∃g,v1.ownBlock=some g∧w.heap.size≤g):
    TwAt base (w1.setCell ⟨bG,b.toNat,none⟩ v1) bt bR bG rb vr (fun i=>if i=b.toNat then v1 else vg i) (T.addGen b p)∧Keep base w (w1.setCell ⟨bG,b.toNat,none⟩ v1)∧TwFr T.n rb bG vg w (fun i=>if i=b.toNat then v1 else vg i) (w1.setCell ⟨bG,b.toNat,none⟩ v1):=by
 have hbn:b.toNat<T.n:=by omega
 obtain⟨inner0,ho0,U⟩:=h.hg _ hbn
 -- the blocks that the append may have written are of type 32, from base on
 have hob:∀k,(vg b.toNat).ownBlock=some k→base≤k∧∃cs,w.heap[k]? =some (Obj.cells cs 32 (0,0)):=fun k hk=>⟨own_base ho0 k hk,Ye ho0 k hk⟩
 have hsame:∀(k t:Nat) (cs:Array Value) (fr:Nat×Nat),w.heap[k]? =some (Obj.cells cs t fr)→t≠32→w1.heap[k]? =w.heap[k]? :=fun k t cs fr hk ht=>
  hg.block k (lt_of_some hk) (fun e=>by
   obtain⟨_,cs',hc⟩:=hob k e.symm
   exact ZS hk hc ht rfl)
 have L:Keep base w w1:=⟨(Below.refl base w).grown hg h.base_le (fun k hk=>(hob k hk).1),fun k cs fr hk=>hsame k 3 cs fr hk (by decide)⟩
 have o:w1.heap[bG]? =some (.cells ((List.range T.n).map vg).toArray 46 (0,0)):=(hsame bG 46 _ _ h.hG (by decide)).trans h.hG
 have B:Keep base w1 (w1.setCell ⟨bG,b.toNat,none⟩ v1):=Keep.set_ h.gG o (by decide) v1
 have hk:=L.trans B
 have far:∀(k t:Nat) (cs:Array Value) (fr:Nat×Nat),w.heap[k]? =some (Obj.cells cs t fr)→t≠32→t≠46→(w1.setCell ⟨bG,b.toNat,none⟩ v1).heap[k]? =w.heap[k]? :=fun k t cs fr hk ht P=>
  (Below.heap_setCell w1 ⟨bG,b.toNat,none⟩ v1 k (ZS ((hsame k t cs fr hk ht).trans hk) o P)).trans (hsame k t cs fr hk ht)
 have hrb:∀i,i<T.n→(w1.setCell ⟨bG,b.toNat,none⟩ v1).heap[rb i]? =w.heap[rb i]? :=fun i hi=>by
  have e1:w1.heap[rb i]? =w.heap[rb i]? :=hg.block _ (lt_of_some (h.hr i hi)) (fun e=>h.drg i b.toNat hi hbn e.symm)
  exact(Below.heap_setCell w1 ⟨bG,b.toNat,none⟩ v1 (rb i) (ZS (e1.trans (h.hr i hi)) o (by decide))).trans e1
 have hgen:T.gen b=T.gens.getD b.toNat []:=rfl
 have hsz:∀i,i<T.n→rb i<w.heap.size:=fun i hi=>lt_of_some (h.hr i hi)
 refine⟨{ h with lg:= ?_,ht:= ?_,hR:= ?_,hr:= ?_,hG:= ?_,hg:= ?_,leaf:= ?_,drg:= ?_,dgg:= ?_ },hk,⟨?_,?_,?_⟩⟩
 ·simp[Tw.addGen,h.lg]
 ·exact(far bt 104 _ _ h.ht (by decide) (by decide)).trans h.ht
 ·have e1:=hsame bR 46 _ _ h.hR (by decide)
  exact(Below.heap_setCell w1 ⟨bG,b.toNat,none⟩ v1 bR h.dRG).trans (e1.trans h.hR)
 ·exact fun i hi=>(hrb i hi).trans (h.hr i hi)
 ·have:=blk_set o b.toNat v1
  rw[range_set] at this
  exact this
 ·intro i hi
  by_cases e:b.toNat=i
  ·subst e
   have I:(T.addGen b p).gens.getD b.toNat []=T.gen b++ [p]:=by
    simp only[Tw.addGen];rw[Yg (by rw[h.lg];exact hbn)]
   rw[I,if_pos rfl]
   refine⟨inner++ [v],?_,fun j l hj=> ?_⟩
   ·rw[List.length_append,List.length_singleton]
    refine own_move hown (fun k hk'=>Below.heap_setCell w1 ⟨bG,b.toNat,none⟩ v1 k ?_);obtain⟨cs,hc⟩:=Ye hown k hk'
    exact ZS hc o (by decide)
   ·rcases Nat.lt_or_ge j (T.gen b).length with D|D
    ·rw[List.getElem?_append_left D] at hj;obtain⟨u,hu,hf⟩:=hin j l hj
     exact⟨u,by rw[List.getElem?_append_left (by omega)];exact hu,hf.keep hk⟩
    ·rw [List.getElem?_append_right D] at hj
     have J:j=(T.gen b).length:=by
      have:=(List.getElem?_eq_some_iff.1 hj).1;simp at this;omega
     subst J;simp at hj;subst hj
     exact⟨v,by rw[←hl];simp,hv.keep hk⟩
  ·have I:(T.addGen b p).gens.getD i []=T.gens.getD i []:=by
      simp only[Tw.addGen];rw[getD_set_ne e]
   rw[I,if_neg (fun z=>e z.symm)];obtain⟨inn,ho,O⟩:=h.hg i hi
   refine⟨inn,own_move ho (fun k hk'=> ?_),fun j l hj=> ?_⟩
   ·have hlt:=own_lt ho k hk'
    have e1:w1.heap[k]? =w.heap[k]? :=hg.block k hlt (fun e2=>by
     rcases h.dgg i b.toNat hi hbn (fun z=>e z.symm) with h5|h5
     ·rw[hk'] at h5;cases h5
     ·exact h5 (hk'.trans e2))
    obtain⟨cs,hc⟩:=Ye ho k hk'
    exact(Below.heap_setCell w1 ⟨bG,b.toNat,none⟩ v1 k (ZS (e1.trans hc) o (by decide))).trans e1
   ·obtain⟨u,hu,hf⟩:=O j l hj
    exact⟨u,hu,hf.keep hk⟩
 ·exact fun i x hi hx=>(h.leaf i x hi hx).keep hk
 ·intro i j hi hj
  by_cases e:j=b.toNat
  ·rw [if_pos e]
   rcases hat with hat|⟨g,m,hle⟩
   ·rw[hat];exact h.drg i b.toNat hi hbn
   ·rw[m];intro e2;injection e2 with e2
    have:=hsz i hi;omega
  ·rw[if_neg e]
   exact h.drg i j hi hj
 ·intro i j hi hj hne
  have hlt:∀i,i<T.n→∀k,(vg i).ownBlock=some k→k<w.heap.size:=fun i hi k hk=>by
   obtain⟨inn,ho,_⟩:=h.hg i hi
   exact own_lt ho k hk
  by_cases e:i=b.toNat
  ·have e':¬j=b.toNat:=fun z=>hne (e.trans z.symm)
   rw[if_pos e,if_neg e']
   rcases hat with hat|⟨g,m,hle⟩
   ·rw[hat,←e];exact h.dgg i j hi hj hne
   ·refine .inr (fun e2=> ?_);rw[m] at e2;have:=hlt j hj g e2.symm;omega
  ·rw [if_neg e]
   by_cases e':j=b.toNat
   ·rw[if_pos e']
    rcases hat with hat|⟨g,m,hle⟩
    ·rw[hat,←e'];exact h.dgg i j hi hj hne
    ·refine .inr (fun e2=> ?_);rw[m] at e2;have:=hlt i hi g e2;omega
   ·rw[if_neg e']
    exact h.dgg i j hi hj hne
 ·have:=hg.size
  simpa[World.setCell] using this
 ·intro k B hn
  have e1:w1.heap[k]? =w.heap[k]? :=hg.block k B (fun e=>hn (.inr (.inr ⟨b.toNat,hbn,e.symm⟩)))
  exact(Below.heap_setCell w1 ⟨bG,b.toNat,none⟩ v1 k (fun e=>hn (.inr (.inl e)))).trans e1
 ·intro k B ho
  rcases ho with ho|ho|⟨i,hi,ho⟩
  ·exact .inl ho
  ·exact .inr (.inl ho)
  ·dsimp only at ho
   by_cases e:i=b.toNat
   ·rw [if_pos e] at ho
    rcases hat with hat|⟨g,m,hle⟩
    ·exact .inr (.inr ⟨b.toNat,hbn,hat▸ho⟩)
    ·rw[m] at ho;injection ho with ho
     omega
   ·rw[if_neg e] at ho
    exact .inr (.inr ⟨i,hi,ho⟩)
end
end Go.Proofs.YtjjlhbgpdncpcaaGreat.P
namespace Go.Proofs.YtjjlhbgpdncpcaaGreat.P.M
def Fx (b:Int) (p:List Int):Prop:=∀i:Int,0≤i→i<b→ap p i=i
theorem Fx.id (n:Nat) {b:Int} (hb:b≤n):Fx b (idL n):=fun i h0 h1=>ap_id h0 (by omega)
theorem Fx.mul {n:Nat} {b:Int} {p q:List Int} (hp:Pm n p) (hq:Pm n q) (hb:b≤n) (h:Fx b p) (k:Fx b q):Fx b (mulL p q):=
 fun i h0 h1=>by rw[hp.ap_mul h0 (by omega),h i h0 h1,k i h0 h1]
theorem Fx.inv {n:Nat} {b:Int} {p:List Int} (hp:Pm n p) (hb:b≤n) (h:Fx b p):Fx b (invL p):=fun i h0 h1=>by
 have e:ap (mulL (invL p) p) i=i:=by rw[inv_mul hp,ap_id h0 (by omega)]
 rw[hp.inv.ap_mul h0 (by omega)] at e
 have hr:=hp.inv.rng h0 (show i<n by omega)
 exact hp.inj hr.1 hr.2 h0 (by omega) (e.trans (h i h0 h1).symm)
theorem Fx.up {b:Int} {p:List Int} (h:Fx b p) (e:ap p b=b):Fx (b+1) p:=fun i h0 h1=>by
 by_cases k:i<b
 ·exact h i h0 k
 ·have:i=b:=by omega
  rw[this,e]
theorem Fx.ge {n:Nat} {b:Int} {p:List Int} (hp:Pm n p) (h:Fx b p) (h0:0≤b) (h1:b<n):b≤ap p b:=by
 apply Classical.byContradiction
 intro hc
 have hr:=hp.rng h0 h1
 have:=hp.inj h0 h1 hr.1 hr.2 (h _ hr.1 (by omega)).symm
 omega
theorem Fx.all {n:Nat} {p:List Int} (hp:Pm n p) (h:Fx n p):p=idL n:=
 ap_ext hp.1 (idL_len n) (fun i h0 h1=>by rw[h i h0 h1,ap_id h0 h1])
def Sf (n:Nat) (rep:Int→Int→List Int):Nat→Int→List Int→Prop
 |0,_,p=>p=idL n
 |m+1,b,p=>rep b (ap p b)≠ []∧Sf n rep m (b+1) (mulL p (invL (rep b (ap p b))))
structure Wf (T:Tw):Prop where
 n1:1≤T.n
 n64:T.n≤64
 lr:T.reps.length=T.n
 lrr:∀b:Int,0≤b→b<T.n→(T.row b).length=T.n
 lg:T.gens.length=T.n
 one:∀b:Int,0≤b→b<T.n→T.rep b b=idL T.n
 rep:∀b x:Int,0≤b→b<T.n→0≤x→x<T.n→T.rep b x≠ []→Pm T.n (T.rep b x)∧Fx b (T.rep b x)∧ap (T.rep b x) b=x
 gen:∀b:Int,0≤b→b<T.n→∀g∈T.gen b,Pm T.n g∧Fx b g
def G (T:Tw) (b:Int):List Int→Prop:=Cl T.n (fun g=>g∈T.gen b)
theorem Wf.gpm {T:Tw} (h:Wf T) {b:Int} (h0:0≤b) (h1:b≤T.n):∀g,g∈T.gen b→Pm T.n g:=fun g hg=>by
 by_cases k:b<T.n
 ·exact(h.gen b h0 k g hg).1
 ·have:b.toNat=T.n:=by omega
  rw[Tw.gen,this,List.getD_eq_getElem?_getD,List.getElem?_eq_none (by rw[h.lg];exact Nat.le_refl _)] at hg;simp at hg
theorem Wf.gfx {T:Tw} (h:Wf T) {b:Int} (h0:0≤b) (h1:b≤T.n) {p:List Int} (hp:G T b p):Pm T.n p∧Fx b p:=by
 refine⟨hp.pm (h.gpm h0 h1),?_⟩
 have :Pm T.n p∧Fx b p:=by
  refine Cl.least (H:=fun p=>Pm T.n p∧Fx b p) ⟨Pm_id _,Fx.id _ h1⟩ ?_ hp;rintro p g ⟨hp,hf⟩ hg
  by_cases k:b<T.n
  ·have:=h.gen b h0 k g hg
   exact⟨hp.mul this.1,hf.mul hp this.1 h1 this.2⟩
  ·have hb:b.toNat=T.n:=by omega
   rw[Tw.gen,hb,List.getD_eq_getElem?_getD,List.getElem?_eq_none (by rw[h.lg];exact Nat.le_refl _)] at hg;simp at hg
 exact this.2
theorem Wf.g_end {T:Tw} (h:Wf T) {p:List Int} (hp:G T T.n p):p=idL T.n:=by
 have:=h.gfx (by omega) (by omega) hp
 exact this.2.all this.1
structure Lv (T:Tw) (b:Int):Prop where
 reps:∀x:Int,0≤x→x<T.n→T.rep b x≠ []→G T b (T.rep b x)
 gens:∀g∈T.gen (b+1),G T b g
 pairs:∀x:Int,0≤x→x<T.n→T.rep b x≠ []→∀g∈T.gen b,Sf T.n T.rep (T.n-b).toNat b (mulL (T.rep b x) g)
def Comp (T:Tw) (b:Int):Prop:=∀c:Int,b≤c→c<T.n→Lv T c
theorem sf_iff {T:Tw} (h:Wf T):∀(m:Nat) (b:Int),0≤b→b+m=T.n→Comp T b→∀p,Pm T.n p→Fx b p→(Sf T.n T.rep m b p↔G T b p)
 | 0,b,h0,hb,hc,p,hp,hf=>by
  have:b=T.n:=by omega
  subst this
  refine⟨fun e=> ?_,fun e=>h.g_end e⟩;rw[Sf] at e;rw[e];exact .one
 | m + 1, b,h0,hb,hc,p,hp,hf=>by
  have o:b<T.n:=by omega
  have hl:=hc b (Int.le_refl _) o;have ih:=sf_iff h m (b+1) (by omega) (by omega) (fun c h1 h2=>hc c (by omega) h2);have hgp:=h.gpm h0 (Int.le_of_lt o)
  have strip:∀q,Pm T.n q→Fx b q→∀r,Pm T.n r→Fx b r→ap r b=ap q b→Pm T.n (mulL q (invL r))∧Fx (b+1) (mulL q (invL r)):=by
   intro q hq hqf r hr hrf e
   refine⟨hq.mul hr.inv,(hqf.mul hq hr.inv (Int.le_of_lt o) (hrf.inv hr (Int.le_of_lt o))).up ?_⟩;rw[hq.ap_mul h0 o,←e,←hr.ap_mul h0 o,mul_inv hr,ap_id h0 o]
  constructor
  ·rintro ⟨h1,h2⟩;have hx:=hp.rng h0 o;have hr:=h.rep b _ h0 o hx.1 hx.2 h1;have hs:=strip p hp hf _ hr.1 hr.2.1 hr.2.2;have hg:=(ih _ hs.1 hs.2).1 h2;have hg':G T b (mulL p (invL (T.rep b (ap p b)))):=Cl.sub hgp hl.gens hg;have:=Cl.mul' hgp hg' (hl.reps _ hx.1 hx.2 h1)
   rwa [mul_inv_cancel hp hr.1] at this
  ·intro hg
   have key:Pm T.n p∧Fx b p∧Sf T.n T.rep (m+1) b p:=by
    refine Cl.least (H:=fun p=>Pm T.n p∧Fx b p∧Sf T.n T.rep (m+1) b p) ?_ ?_ hg
    ·refine⟨Pm_id _,Fx.id _ (Int.le_of_lt o),?_⟩;have hi:ap (idL T.n) b=b:=ap_id h0 o
     refine⟨by rw[hi,h.one b h0 o];intro e;have:=congrArg List.length e;rw[idL_len] at this;simp at this;omega,?_⟩;rw[hi,h.one b h0 o,mul_inv (Pm_id _)]
     exact(ih _ (Pm_id _) (Fx.id _ (by omega))).2 .one
    ·rintro p g ⟨hp,hf,h1,h2⟩ hgb;have hgg:=h.gen b h0 o g hgb;have hx:=hp.rng h0 o;have hr:=h.rep b _ h0 o hx.1 hx.2 h1;have hs:=strip p hp hf _ hr.1 hr.2.1 hr.2.2;have hsG:=(ih _ hs.1 hs.2).1 h2;have hpr:=hl.pairs _ hx.1 hx.2 h1 g hgb;rw[show(T.n-b).toNat=m+1 by omega] at hpr;obtain⟨k1,k2⟩:=hpr;have hrg:ap (mulL (T.rep b (ap p b)) g) b=ap (mulL p g) b:=by rw[hr.1.ap_mul h0 o,hp.ap_mul h0 o,hr.2.2]
     rw[hrg] at k1 k2;have hpg:=hp.mul hgg.1;have hpf:=hf.mul hp hgg.1 (Int.le_of_lt o) hgg.2;have hy:=hpg.rng h0 o;have hr':=h.rep b _ h0 o hy.1 hy.2 k1;have hs':=strip _ (hr.1.mul hgg.1) (hr.2.1.mul hr.1 hgg.1 (Int.le_of_lt o) hgg.2) _ hr'.1 hr'.2.1 (hr'.2.2.trans hrg.symm);have hsG':=(ih _ hs'.1 hs'.2).1 k2;have hz:=strip _ hpg hpf _ hr'.1 hr'.2.1 hr'.2.2
     refine⟨hpg,hpf,k1,(ih _ hz.1 hz.2).2 ?_⟩;have:=Cl.mul' (h.gpm (by omega) (by omega)) hsG hsG';rw[←mul_assoc hs.1 (hr.1.mul hgg.1) hr'.1.inv,←mul_assoc hs.1 hr.1 hgg.1,mul_inv_cancel hp hr.1] at this
     exact this
   exact key.2.2
def Ext (T T':Tw):Prop:=T'.n=T.n∧∀b x:Int,0≤b→b<T.n→0≤x→x<T.n→T.rep b x≠ []→T'.rep b x=T.rep b x
theorem Ext.refl (T:Tw):Ext T T:=⟨rfl,fun _ _ _ _ _ _ _=>rfl⟩
theorem Ext.trans {T T' T'':Tw} (h:Ext T T') (k:Ext T' T''):Ext T T'':=by
 refine⟨k.1.trans h.1,fun b x h0 h1 h2 h3 hr=> ?_⟩
 have e:=h.2 b x h0 h1 h2 h3 hr
 rw[←e]
 exact k.2 b x h0 (by rw[h.1];exact h1) h2 (by rw[h.1];exact h3) (by rw[e];exact hr)
theorem Sf.ext {T T':Tw} (hw:Wf T) (h:Ext T T'):∀(m:Nat) (b:Int) (p:List Int),0≤b→b+m=T.n→Pm T.n p→Sf T.n T.rep m b p→Sf T'.n T'.rep m b p
 |0,b,p,h0,hb,hp,hs=>by rw[Sf] at hs⊢;rw[h.1];exact hs
 | m+1,b,p,h0,hb,hp,hs=>by
  obtain⟨h1,h2⟩:=hs;have hx:=hp.rng h0 (show b<T.n by omega);have e:=h.2 b _ h0 (by omega) hx.1 hx.2 h1
  refine⟨by rw[e];exact h1,?_⟩;rw[e]
  exact Sf.ext hw h m (b+1) _ (by omega) (by omega) (hp.mul (hw.rep b _ h0 (by omega) hx.1 hx.2 h1).1.inv) h2
theorem Sf.same {T T':Tw} (hw':Wf T') (h:Ext T T') (b0:Int) (hn:∀b x:Int,b0≤b→b<T.n→0≤x→x<T.n→T.rep b x= []→T'.rep b x= []):∀(m:Nat) (b:Int) (p:List Int),0≤b→b0≤b→b+m=T.n→Pm T.n p→Sf T'.n T'.rep m b p→Sf T.n T.rep m b p
 |0,b,p,h0,o,hb,hp,hs=>by rw[Sf] at hs⊢;rw[←h.1];exact hs
 | m+1,b,p,h0,o,hb,hp,hs=>by
  obtain⟨h1,h2⟩:=hs;have hx:=hp.rng h0 (show b<T.n by omega);have h1':T.rep b (ap p b)≠ []:=fun e=>h1 (hn b _ o (by omega) hx.1 hx.2 e)
  have e:=h.2 b _ h0 (by omega) hx.1 hx.2 h1';rw[e] at h2;have hr:=hw'.rep b _ h0 (by rw[h.1];omega) hx.1 (by rw[h.1];exact hx.2) h1;rw[e,h.1] at hr
  exact⟨h1',Sf.same hw' h b0 hn m (b+1) _ (by omega) (by omega) (by omega) (hp.mul hr.1.inv) h2⟩
theorem sf_id {T:Tw} (hw:Wf T):∀(m:Nat) (b:Int),0≤b→b+m=T.n→Sf T.n T.rep m b (idL T.n)
 |0,b,h0,hb=>rfl
 | m+1,b,h0,hb=>by
  have hi:ap (idL T.n) b=b:=ap_id h0 (by omega)
  refine⟨by rw[hi,hw.one b h0 (by omega)];intro e;have:=congrArg List.length e;rw[idL_len] at this;simp at this;omega,?_⟩;rw[hi,hw.one b h0 (by omega),mul_inv (Pm_id _)]
  exact sf_id hw m (b+1) (by omega) (by omega)
theorem rep_set {T:Tw} (hw:Wf T) {b x:Int} (h0:0≤b) (h1:b<T.n) (h2:0≤x) (h3:x<T.n) (p:List Int) {c y:Int} (k0:0≤c) (k2:0≤y):
    (T.setRep b x p).rep c y=if c=b∧y=x then p else T.rep c y:=by
 have hl:b.toNat<T.reps.length:=by rw[hw.lr];omega
 have m:x.toNat<(T.row b).length:=by rw[hw.lrr b h0 h1];omega
 simp only[Tw.rep,Tw.setRep,Tw.row]
 by_cases e:c=b
 ·subst e
  have:(T.reps.set c.toNat ((T.reps.getD c.toNat []).set x.toNat p)).getD c.toNat []=(T.reps.getD c.toNat []).set x.toNat p:=by
   rw[List.getD_eq_getElem?_getD,List.getElem?_set_self hl];rfl
  rw[this]
  by_cases e2:y=x
  ·subst e2;rw[List.getD_eq_getElem?_getD,List.getElem?_set_self (show y.toNat<(T.reps.getD c.toNat []).length from m)];simp
  rw[List.getD_eq_getElem?_getD,List.getElem?_set_ne (by omega),←List.getD_eq_getElem?_getD,if_neg (fun k=>e2 k.2)]
 have:(T.reps.set b.toNat ((T.reps.getD b.toNat []).set x.toNat p)).getD c.toNat []=T.reps.getD c.toNat []:=by
  rw[List.getD_eq_getElem?_getD,List.getElem?_set_ne (by omega),←List.getD_eq_getElem?_getD]
 rw[this,if_neg (fun k=>e k.1)]
theorem gen_add {T:Tw} (hw:Wf T) {b:Int} (h0:0≤b) (h1:b<T.n) (p:List Int) {c:Int} (k0:0≤c):(T.addGen b p).gen c=if c=b then T.gen b++ [p] else T.gen c:=by
 have hl:b.toNat<T.gens.length:=by rw[hw.lg];omega
 simp only[Tw.gen,Tw.addGen]
 by_cases e:c=b
 ·subst e
  rw[List.getD_eq_getElem?_getD,List.getElem?_set_self hl,if_pos rfl];rfl
 rw[List.getD_eq_getElem?_getD,List.getElem?_set_ne (by omega),←List.getD_eq_getElem?_getD,if_neg e]
theorem Wf.setRep {T:Tw} (hw:Wf T) {b x:Int} (h0:0≤b) (h1:b<T.n) (h2:0≤x) (h3:x<T.n) {p:List Int} (hp:Pm T.n p) (hf:Fx b p) (hx:ap p b=x) (hn:T.rep b x= []):Wf (T.setRep b x p):=by
 have hl:b.toNat<T.reps.length:=by rw[hw.lr];omega
 have hne:∀c:Int,0≤c→c<T.n→¬(c=b∧c=x):=by
  rintro c k0 k1 ⟨rfl,rfl⟩;have:=hw.one c k0 k1;rw[hn] at this;have:=congrArg List.length this;rw[idL_len] at this;simp at this;omega
 refine⟨hw.n1,hw.n64,by simp[Tw.setRep,hw.lr],?_,hw.lg,?_,?_,hw.gen⟩
 ·intro c k0 k1
  show(List.getD (T.reps.set b.toNat ((T.row b).set x.toNat p)) c.toNat []).length=T.n
  by_cases e:c=b
  ·subst e;rw[List.getD_eq_getElem?_getD,List.getElem?_set_self hl,Option.getD_some,List.length_set]
   exact hw.lrr c k0 k1
  rw[List.getD_eq_getElem?_getD,List.getElem?_set_ne (by omega),←List.getD_eq_getElem?_getD]
  exact hw.lrr c k0 k1
 ·intro c k0 k1
  rw[rep_set hw h0 h1 h2 h3 p k0 k0,if_neg (hne c k0 k1)]
  exact hw.one c k0 k1
 ·intro c y k0 k1 k2 k3
  rw[rep_set hw h0 h1 h2 h3 p k0 k2]
  by_cases e:c=b∧y=x
  ·rw[if_pos e];intro _;obtain⟨rfl,rfl⟩:=e
   exact⟨hp,hf,hx⟩
  rw[if_neg e]
  exact hw.rep c y k0 k1 k2 k3
theorem Wf.addGen {T:Tw} (hw:Wf T) {b:Int} (h0:0≤b) (h1:b<T.n) {p:List Int} (hp:Pm T.n p) (hf:Fx b p):Wf (T.addGen b p):=by
 refine⟨hw.n1,hw.n64,hw.lr,hw.lrr,by simp[Tw.addGen,hw.lg],hw.one,hw.rep,?_⟩
 intro c k0 k1 g
 rw[gen_add hw h0 h1 p k0]
 by_cases e:c=b
 ·subst e
  rw[if_pos rfl,List.mem_append,List.mem_singleton];rintro (h|rfl)
  ·exact hw.gen c k0 k1 g h
  ·exact⟨hp,hf⟩
 rw[if_neg e];exact hw.gen c k0 k1 g
end Go.Proofs.YtjjlhbgpdncpcaaGreat.P.M
namespace Go.Proofs.YtjjlhbgpdncpcaaGreat.P
section
attribute [local go_sem] ZH ZF ZL ZK ZB ZA ZG ZE
def perm_identity.l0:Nat→List Int→Int→Int→Option (List Int)
 |0,_,_,_=>none
 |k+1,x3,x8,x9=>if x9<x8 then(if 0≤x9 then(if x9<(x3.length:Int) then(perm_identity.l0 k (x3.set (x9:Int).toNat x9) x8 (wrap64 (x9+1))) else(none)) else(none)) else(some x3)
def perm_identity.f (k:Nat) (a0:Int):Option (List Int):=if 0≤a0 then(if(a0:Int).toNat≤35184372088832 then((some (List.replicate (a0:Int).toNat 0:List Int)).bind fun y107=>(perm_identity.l0 k y107 (y107.length:Int) 0)) else(none)) else(none)
theorem perm_identity.mono_l:∀k,(∀y0 y1 y2,LeO (perm_identity.l0 k y0 y1 y2) (perm_identity.l0 (k+1) y0 y1 y2))
 |0=>fun _ _ _ r h=>by simp[perm_identity.l0] at h
 | k +1=>by
  have e:=perm_identity.mono_l k
  ·intro y0 y1 y2;unfold perm_identity.l0
   repeat' first
   |(with_reducible exact e _ _ _)
   |(with_reducible exact LeO.refl _)
   |(with_reducible exact LeO.none _)
   |(with_reducible refine LeO.ite ?_ ?_)
   |(with_reducible refine LeO.bind ?_ (fun _=> ?_))
theorem perm_identity.mono:∀a0 k,LeO (perm_identity.f k a0) (perm_identity.f (k+1) a0):=by
 intro a0 k
 have e:=perm_identity.mono_l k
 unfold perm_identity.f
 repeat' first
     |(with_reducible exact e _ _ _)
     |(with_reducible exact LeO.refl _)
     |(with_reducible exact LeO.none _)
     |(with_reducible refine LeO.ite ?_ ?_)
     |(with_reducible refine LeO.bind ?_ (fun _=> ?_))
theorem perm_identity.calls (k:Nat) (a0:Int) (r:List Int) (w:World) (h:perm_identity.f k a0=some r):
    Calls Tryz.prog 36 #[.int .i64 a0] w fun e w'=>∃an:Value,e= .returned (an)∧Kd.R (Kd.int .i64) 3 w' w.heap.size (fun _=>True) an r∧Below w.heap.size w w':=by
 have HB:=aM (Below.refl w.heap.size w)
 have H:(if 0≤a0 then(if(a0:Int).toNat≤35184372088832 then((some (List.replicate (a0:Int).toNat 0:List Int)).bind fun o=>(perm_identity.l0 k o (o.length:Int) 0)) else(none)) else(none))=some r:=h
 clear h
 by_cases c2:0≤a0
 ·rw [if_pos c2] at H
  have ah:=eq_true c2;have ai:=dT c2;clear c2
  by_cases c3:(a0:Int).toNat≤35184372088832
  ·rw [if_pos c3] at H;have aj:=eq_true c3;have ak:=dT c3;clear c3;obtain⟨o,D⟩:∃y_:List Int,y_=(List.replicate (a0:Int).toNat 0):=⟨_,rfl⟩;replace H:(perm_identity.l0 k o (o.length:Int) 0)=some r:=by first|(rw[D];with_reducible exact H)|(have H2_:=(Option.bind_some _ _).symm.trans H;rw[D];with_reducible exact H2_)|(have H2_:=(Option.bind_some _ _).symm.trans H;with_reducible exact H2_)|with_reducible exact H|(rw[D];exact H)|exact H
   have O:=aM D;clear D;have H':=aM H;clear H
   go_enter Tryz.func36,Tryz.ntmps36
   go_wp2_with (first|((with_reducible refine Zq (N:=6) rfl ?_);refine Kd.R_make (Kd.int .i64) _ 3 rfl (N:=6) rfl 32 _ _ rfl a0 rfl rfl Tryz.underlying32 (.int .i64 0) 8 info3 rfl (by decide) (by omega) 0 (ok:=fun _=>True) (okp:=fun _=>True) rfl (fun _ hk=>hk) trivial (oD zz156) (Nat.le_trans (Nat.mul_le_mul_right _ (oD zz156:a0.toNat≤35184372088832)) (by omega)) (Below.refl _ _) (Nat.le_refl _) ?_;intro aB w4 U hb hg_ hnew_;clear hg_ hnew_;(first|rw[←O.out] at U|(simp only[Int.reduceToNat] at U;rw[←O.out] at U));have J:=aM (Kd.R_lower U (Zc zz128));replace HB:=aM (Zd zz128 hb);clear hb U;obtain⟨ar,al,au⟩:=Kd.R_slice J.out;subst au))
   go_loopg [9] k (fun kq v9 w'=>∃(z:List Int) (m:Int),v9= .int .i64 m∧Aside0 (perm_identity.l0 kq z (o.length:Int) m=some r)∧Aside0 (kq≤k)∧Aside0 (Kd.R (Kd.int .i64) 3 w' w.heap.size (fun _=>True) (.slice ar o.length al) z)∧Aside0 (Below w.heap.size w w'))
   case atStart=>exact⟨(o),(0),zz157,H',⟨Nat.le_refl _⟩,⟨(zR J)⟩,⟨zz128⟩⟩
   case round =>
    clear H';(try clear c2);(try clear ah);(try clear ai);(try clear p2);(try clear c3);(try clear aj);(try clear ak);obtain⟨z,m,rfl,HA,HK1,HO_3,HB⟩:=hrel;have B:=(Kd.R_reads' HO_3.out).1;rw[B] at HO_3
    (try simp only[B])
    cases gk with
    |zero=>exact absurd HA.out (by simp[perm_identity.l0])
    | succ k1=>
     have H:=HA.out;clear HA;simp only[perm_identity.l0] at H
     by_cases c7:m<(o.length:Int)
     ·rw [if_pos c7] at H;have Z:=dT c7;clear c7
      by_cases c8:0≤m
      ·rw [if_pos c8] at H;have ax:=dT c8;clear c8
       by_cases c9:m<(z.length:Int)
       ·rw[if_pos c9] at H;have ay:=dT c9;clear c9;obtain⟨X,I⟩:∃y_:List Int,y_=(z.set (m:Int).toNat m):=⟨_,rfl⟩;replace H:(perm_identity.l0 k1 X (o.length:Int) (wrap64 (m+1)))=some r:=by first|(rw[I];with_reducible exact H)|(have H2_:=(Option.bind_some _ _).symm.trans H;rw[I];with_reducible exact H2_)|(have H2_:=(Option.bind_some _ _).symm.trans H;with_reducible exact H2_)|with_reducible exact H|(rw[I];exact H)|exact H
        have ac:=aM I;clear I;have H':=aM H;clear H;have ad:0≤(m:Int):=oD zz156;have ae:(m:Int)<((z.length:Int):Int):=oD zz156;obtain⟨P,aA,aa,ab,am,az,Y⟩:=Kd.R_form HO_3.out (by omega)
        (first|cases aa|(injection aa with ea_ en_ ec_;(first|subst ea_|(injection ea_ with ea_;subst ea_));subst ec_;clear en_))
        have ag:=aM ab;have av:=aM Y;clear ab am Y;obtain⟨aq,ao⟩:=Kd.R_celln 0 HO_3.out (m:Int) ad ae;replace ad:=eq_true ad;replace ae:=eq_true ae;have L:=Kd.R_putg HO_3.out (m:Int) m
        go_wp2_with (first|((with_reducible refine ZO (t:=3) (p:=15) rfl ?_);refine ZM (t:=3) (p:=15) (v:= ?vo_w12) (w1:=(wr.setCell ⟨P,(m:Int).toNat,none⟩ (.int .i64 m))) ?hg ?ho ?hn ?hr ?_;(case ho=>rfl);(case hg=>rfl);(case hn=>rfl);(case hr=>first|(go_simp;done)|(go_simp;rfl));intro af hw;have hg:wr.grownBy af (some P):=(by rw[hw];exact L.2);have hp_:Kd.R (Kd.int .i64) 3 af w.heap.size (fun _=>True) (.slice (some ⟨P,0,none⟩) z.length al) X:=(by rw[hw,ac.out];exact L.1);clear L;replace HO_3:=aM (hp_);replace HB:=aM ((by rw[hw];exact Zi (HB.out) ag.out:Below w.heap.size w af));clear hg hw hp_))
        (try simp only[←B])
        go_roundg k1
        case measure=>have:=HK1.out;omega
        case rel=>exact⟨(X),(wrap64 (m+1)),zz157,H',⟨zz167⟩,⟨(by(try simp only[B]);(with_reducible repeat(first|apply Kd.R_alloc|apply Kd.R_drewN|apply Kd.R_drew));exact HO_3.out)⟩,⟨zz128⟩⟩
       rw[if_neg c9] at H
       exact absurd H (by simp)
      rw[if_neg c8] at H
      exact absurd H (by simp)
     rw[if_neg c7] at H;have Z:=dF c7;have aw:decide (m<(z.length:Int))=false:=by rw[←B];exact Z
     clear c7;obtain rfl:=oI H;go_wp2;go_ret
     exact⟨_,by first|rfl|(simp[Zm,Zl]<;>rfl)|(simp[*,Zm,Zl]<;>rfl),by(with_reducible repeat(first|apply Kd.R_alloc|apply Kd.R_drewN|apply Kd.R_drew));exact HO_3.out,by repeat(first|(with_reducible first|exact HB.out|apply Zh|apply Zg|apply Zj)|exact HB.out)⟩
  rw[if_neg c3] at H
  exact absurd H (by simp)
 rw[if_neg c2] at H
 exact absurd H (by simp)
def perm_degree.f (a0:Int):Option (Int):=if a0<1 then(some 4) else(if a0>64 then(some 4) else(some 0))
theorem perm_degree.calls (a0:Int) (r:Int) (w:World) (h:perm_degree.f a0=some r):
    Calls Tryz.prog 54 #[.int .i64 a0] w fun e w'=>e= .returned (.int .i64 r)∧Drawn0 w w':=by
 have H:(if a0<1 then(some 4) else(if a0>64 then(some 4) else(some 0)))=some r:=h
 clear h
 by_cases c2:a0<1
 ·rw[if_pos c2] at H
  have m:=dT c2;clear c2;obtain rfl:=oI H
  go_enter Tryz.func54,Tryz.ntmps54
  go_wp2;go_ret
  exact⟨by first|rfl|(simp;done)|(simp[*];done),by repeat(first|exact Drawn0.refl _|apply Drawn0.step)⟩
 rw[if_neg c2] at H
 have m:=dF c2
 clear c2
 by_cases c3:a0>64
 ·rw[if_pos c3] at H
  have o:=dT c3;clear c3;obtain rfl:=oI H
  go_enter Tryz.func54,Tryz.ntmps54
  go_wp2;go_ret
  exact⟨by first|rfl|(simp;done)|(simp[*];done),by repeat(first|exact Drawn0.refl _|apply Drawn0.step)⟩
 rw[if_neg c3] at H
 have o:=dF c3
 clear c3
 obtain rfl:=oI H
 go_enter Tryz.func54,Tryz.ntmps54
 go_wp2
 go_ret
 exact⟨by first|rfl|(simp;done)|(simp[*];done),by repeat(first|exact Drawn0.refl _|apply Drawn0.step)⟩
end
def permOk (n:Nat) (l:List Int):Prop:=l.length=n∧(∀x∈l,0≤x∧x<n)∧l.Nodup
instance (n:Nat) (l:List Int):Decidable (permOk n l):=by unfold permOk;infer_instance
def Z0 (l:List Int):Int:=if l.length<1∨64<l.length then 4 else if∃x∈l,x<0∨(l.length:Int)≤x then 6 else if l.Nodup then 0 else 18
def perm_Check.f (l0:List Int):Option Int:=some (Z0 l0)
def outB (n:Nat) (x:Int):Bool:=decide (x<0)||decide ((n:Int)≤x)
theorem check1_lo (x:Int) (g n c:Nat) (A:Option Addr) (w:World) (hcell:w.cell? ⟨g,0,none⟩=some (.slice A n c)) (hx:x<0):
    Calls Tryz.prog 57 #[.int .i64 x,.pointer (some ⟨g,0,none⟩)] w fun e w'=>e= .returned (.bool true)∧w=w':=by
 have h1:decide (x<0)=true:=dT hx
 go_enter Tryz.func57,Tryz.ntmps57
 go_wp2
 go_ret
 exact⟨rfl,rfl⟩
theorem check1_hi (x:Int) (g n c:Nat) (A:Option Addr) (w:World) (hcell:w.cell? ⟨g,0,none⟩=some (.slice A n c)) (hx:0≤x) (b:Bool) (hb:decide ((n:Int)≤x)=b):
    Calls Tryz.prog 57 #[.int .i64 x,.pointer (some ⟨g,0,none⟩)] w fun e w'=>e= .returned (.bool b)∧w=w':=by
 have h1:decide (x<0)=false:=dF (by omega)
 have Hb:=aM hb
 clear hb
 go_enter Tryz.func57,Tryz.ntmps57
 go_wp2
 go_ret
 exact⟨by rw[←Hb.out];rfl,rfl⟩
theorem check1 (x:Int) (g n c:Nat) (A:Option Addr) (w:World) (hcell:w.cell? ⟨g,0,none⟩=some (.slice A n c)):
    Calls Tryz.prog 57 #[.int .i64 x,.pointer (some ⟨g,0,none⟩)] w fun e w'=>e= .returned (.bool (outB n x))∧w=w':=by
 unfold outB
 by_cases hx:x<0
 ·rw[dT hx];exact check1_lo x g n c A w hcell hx
 rw[dF hx,Bool.false_or];exact check1_hi x g n c A w hcell (by omega) _ rfl
theorem rd_mem {l:List Int} {i:Int} (h0:0≤i) (h1:i<(l.length:Int)):rd l i∈l:=by
 unfold rd
 rw[List.getD_eq_getElem?_getD,List.getElem?_eq_getElem (by omega)]
 exact List.getElem_mem _
theorem take_rd {l:List Int} {i:Int} (h0:0≤i) (h1:i<(l.length:Int)):l.take (i+1).toNat=l.take i.toNat++ [rd l i]:=by
 have e:(i+1).toNat=i.toNat+1:=by omega
 rw[e,List.take_succ_eq_append_getElem (by omega)]
 congr 2
 unfold rd
 rw[List.getD_eq_getElem?_getD,List.getElem?_eq_getElem (by omega)]
 rfl
def IdxPost (p:Int→Bool) (l:List Int) (w:World) (e:Ending) (w':World):Prop:=∃r:Int,e= .returned (.int .i64 r)∧decide (0≤r)=l.any p∧Drawn0 w w'
theorem idx75_calls (A0:Option Addr) (c0:Nat) (l0:List Int) (g n c:Nat) (A:Option Addr) (w:World) (J:Kd.C (Kd.int .i64) w A0 l0.length l0) (hcell:w.cell? ⟨g,0,none⟩=some (.slice A n c)):
    Calls Tryz.prog 75 #[.slice A0 l0.length c0,.func (Fn.func 57) #[] #[.pointer (some ⟨g,0,none⟩)]] w (IdxPost (outB n) l0 w):=by
 have HR:=aM J
 have HC:=aM hcell
 clear J hcell
 go_enter Tryz.func75,Tryz.ntmps75
 go_wp2
 go_loopg [8] l0.length (fun kq v8 w'=>∃i:Int,v8= .int .i64 i∧Aside0 (0≤i)∧Aside0 (i.toNat+kq=l0.length)∧Aside0 ((l0.take i.toNat).any (outB n)=false)∧Aside0 (Drawn0 w w'))
 case atStart=>exact⟨0,rfl,⟨by omega⟩,⟨by simp⟩,⟨by simp⟩,⟨Drawn0.refl _⟩⟩
 case round=>
  obtain⟨i,rfl,o,D,HA,HD⟩:=hrel;have i0:=o.out
  by_cases d1:i<(l0.length:Int)
  ·have O:decide (i<(l0.length:Int))=true:=dT d1;have q0:=eq_true i0;have q1:=eq_true d1;have hmax:l0.length≤9223372036854775807:=HR.out.2.1;obtain⟨ad,ea,z⟩:=Kd.at_int HR.out i i0 d1
   cases ea;replace z:=(HD.out.below.cell (wB w _ z)).trans z;have I:=(HD.out.below.cell (wB w _ HC.out)).trans HC.out;have B:=aM I;clear I
   cases hb:outB n (rd l0 i) with
   | true=>
    have HBo:=aM hb;clear hb
    go_wp2_with (first
     |(go_at_call 57;(with_reducible refine(check1 (rd l0 i) g n c A _ B.out).mono ?_);rintro e w5 ⟨rfl,rfl⟩;rw[HBo.out]))
    go_ret
    exact⟨i,rfl,by rw[dT o.out];exact(List.any_eq_true.2 ⟨_,rd_mem o.out d1,HBo.out⟩).symm,HD.out⟩
   | false=>
    have HBo:=aM hb;clear hb
    go_wp2_with (first
     |(go_at_call 57;(with_reducible refine(check1 (rd l0 i) g n c A _ B.out).mono ?_);rintro e w5 ⟨rfl,rfl⟩;rw[HBo.out]))
    obtain⟨k1,rfl⟩:∃m,gk=m+1:=⟨gk-1,by have:=D.out;omega⟩
    go_roundg k1
    case measure=>omega
    case rel=>exact⟨i+1,rfl,⟨by have:=o.out;omega⟩,⟨by have:=D.out;have:=o.out;omega⟩,⟨by rw[take_rd o.out d1,List.any_append,HA.out];simp[HBo.out]⟩,HD⟩
  have O:decide (i<(l0.length:Int))=false:=dF d1;have ha:=HA.out;rw[List.take_of_length_le (by omega)] at ha;have L:=aM ha;clear ha;go_wp2;go_ret
  exact⟨-1,rfl,by rw[L.out];rfl,HD.out⟩
def ContPost (p:Int→Bool) (l:List Int) (w:World) (e:Ending) (w':World):Prop:=e= .returned (.bool (l.any p))∧Drawn0 w w'
theorem cont53_calls (A0:Option Addr) (c0:Nat) (l0:List Int) (g n c:Nat) (A:Option Addr) (w:World) (m:Kd.C (Kd.int .i64) w A0 l0.length l0) (hcell:w.cell? ⟨g,0,none⟩=some (.slice A n c)):
    Calls Tryz.prog 56 #[.slice A0 l0.length c0,.func (Fn.func 57) #[] #[.pointer (some ⟨g,0,none⟩)]] w (ContPost (outB n) l0 w):=by
 have HR:=aM m
 have HC:=aM hcell
 clear m hcell
 go_enter Tryz.func56,Tryz.ntmps56
 go_wp2_with (first
  |(go_at_call 75;(with_reducible refine(idx75_calls _ _ l0 g n c A _ HR.out HC.out).mono ?_);rintro e w5 ⟨r,rfl,hr,hd⟩;have HDr:=aM (And.intro hr hd);clear hr hd))
 go_ret
 exact⟨by rw[←HDr.out.1];rfl,HDr.out.2⟩
theorem any_out (l:List Int):l.any (outB l.length)=true↔∃x∈l,x<0∨(l.length:Int)≤x:=by
 simp[List.any_eq_true,outB]
def SeenOk (l:List Int) (i:Int) (sx:List Bool):Prop:=sx.length=l.length∧(l.take i.toNat).Nodup∧∀y:Int,0≤y→y<l.length→(rdOf false sx y=true↔y∈l.take i.toNat)
theorem seen_start (l:List Int):SeenOk l 0 (List.replicate l.length false):=by
 refine⟨by simp,by simp,fun y h0 h1=> ?_⟩
 simp[rdOf,List.getD_eq_getElem?_getD,show y.toNat<l.length by omega]
theorem seen_next {l:List Int} {i:Int} {sx:List Bool} (h:SeenOk l i sx) (h0:0≤i) (h1:i<l.length) (m:0≤rd l i) (o:rd l i<l.length) (hs:rdOf false sx (rd l i)=false):SeenOk l (i+1) (sx.set (rd l i).toNat true):=by
 obtain⟨hl,hn,hy⟩:=h
 have hnot:rd l i∉l.take i.toNat:=fun hm=>by
  have:=(hy (rd l i) m o).2 hm;rw[hs] at this
  cases this
 refine⟨by simpa using hl,?_,fun y y0 y1=> ?_⟩
 ·rw[take_rd h0 h1,List.nodup_append]
  exact⟨hn,by simp,fun a ha b hb=>by rw[List.mem_singleton.1 hb];exact fun e=>hnot (e▸ha)⟩
 ·rw[take_rd h0 h1,List.mem_append,List.mem_singleton]
  by_cases e:y=rd l i
  ·subst e;simp[rdOf,List.getD_eq_getElem?_getD,show(rd l i).toNat<sx.length by omega]
  have e':(rd l i).toNat≠y.toNat:=by omega
  have:=hy y y0 y1;simp only[rdOf,List.getD_eq_getElem?_getD] at this⊢;rw[List.getElem?_set_ne e'];rw[this];simp[e]
theorem seen_dup {l:List Int} {i:Int} {sx:List Bool} (h:SeenOk l i sx) (h0:0≤i) (h1:i<l.length) (e:0≤rd l i) (m:rd l i<l.length) (hs:rdOf false sx (rd l i)=true):¬l.Nodup:=by
 obtain⟨hl,hn,hy⟩:=h
 have hm:=(hy (rd l i) e m).1 hs
 intro hd
 have h2:(l.take (i+1).toNat).Nodup:=hd.sublist (List.take_sublist _ _)
 rw[take_rd h0 h1,List.nodup_append] at h2
 exact h2.2.2 _ hm _ (List.mem_singleton.2 rfl) rfl
theorem degree_ok (n:Int) (h1:1≤n) (h2:n≤64):perm_degree.f n=some 0:=by
 unfold perm_degree.f
 rw[if_neg (by omega),if_neg (by omega)]
theorem degree_bad (n:Int) (h:n<1∨64<n):perm_degree.f n=some 4:=by
 unfold perm_degree.f
 by_cases h1:n<1
 ·rw[if_pos h1]
 rw[if_neg h1,if_pos (by omega)]
theorem check_bad (A0:Option Addr) (c0:Nat) (l0:List Int) (w:World) (z:Kd.C (Kd.int .i64) w A0 l0.length l0) (hb:l0.length<1∨64<l0.length):
    Calls Tryz.prog 28 #[.slice A0 l0.length c0] w fun e w'=>e= .returned (.int .i64 4)∧Below w.heap.size w w':=by
  have hd:=degree_bad l0.length (by omega)
  have HD:=aM hd
  clear hd hb z
  go_enter Tryz.func28,Tryz.ntmps28
  go_wp2_with (first
   |((with_reducible refine Zq (N:=1) rfl ?_);refine Zx ?hg (N:=1) ?hd (cs:= #[.slice A0 l0.length c0]) (t:=32) ?hr ?_;(case hd=>rfl);(case hg=>rfl);(case hr=>first|(go_simp;done)|(go_simp;rfl));intro g hgr w3 m o;have hz:w3.cell? ⟨g,0,none⟩=some (.slice A0 l0.length c0):=(Za m 0).trans rfl;have HB3:=aM o;clear hgr o m)
   |(go_at_call 54;(with_reducible refine(perm_degree.calls l0.length 4 _ HD.out).mono ?_);rintro e w5 ⟨rfl,⟨nd,rfl⟩⟩))
  go_ret
  exact⟨rfl,Zg HB3.out _⟩
theorem check_range (A0:Option Addr) (c0:Nat) (l0:List Int) (w:World) (B:Kd.C (Kd.int .i64) w A0 l0.length l0) (h1:1≤l0.length) (h2:l0.length≤64) (ho:l0.any (outB l0.length)=true):
    Calls Tryz.prog 28 #[.slice A0 l0.length c0] w fun e w'=>e= .returned (.int .i64 6)∧Below w.heap.size w w':=by
  have HD:=aM (degree_ok l0.length (by omega) (by omega))
  have HO:=aM ho
  have HR:=aM B
  clear ho B
  go_enter Tryz.func28,Tryz.ntmps28
  go_wp2_with (first
   |((with_reducible refine Zq (N:=1) rfl ?_);refine Zx ?hg (N:=1) ?hd (cs:= #[.slice A0 l0.length c0]) (t:=32) ?hr ?_;(case hd=>rfl);(case hg=>rfl);(case hr=>first|(go_simp;done)|(go_simp;rfl));intro g hgr w3 m o;have hz:w3.cell? ⟨g,0,none⟩=some (.slice A0 l0.length c0):=(Za m 0).trans rfl;have HZ:=aM hz;have HB3:=aM o;clear hgr o m)
   |(go_at_call 54;(with_reducible refine(perm_degree.calls l0.length 0 _ HD.out).mono ?_);rintro e w5 ⟨rfl,⟨nd,rfl⟩⟩)
   |(go_at_call 56;(with_reducible refine(cont53_calls _ _ l0 g l0.length c0 A0 _ ?s1 ?s2).mono ?_);(case s1=>exact Kd.C_drewN (Kd.C_below HR.out HB3.out) _);(case s2=>exact HZ.out);rintro e w6 ⟨rfl,z⟩;rw[HO.out];have D:=aM (Zd (Zg HB3.out nd) z.below);clear z))
  go_ret
  exact⟨rfl,D.out⟩
theorem perm_Check.calls (A0:Option Addr) (c0:Nat) (l0:List Int) (r:Int) (w:World) (D:Kd.C (Kd.int .i64) w A0 l0.length l0) (Y:l0.length≤c0) (h:perm_Check.f l0=some r):
    Calls Tryz.prog 28 #[.slice A0 l0.length c0] w fun e w'=>e= .returned (.int .i64 r)∧Below w.heap.size w w':=by
  unfold perm_Check.f at h
  obtain rfl:=oI h
  clear h
  unfold Z0
  by_cases hb:l0.length<1∨64<l0.length
  · rw[if_pos hb]
    exact check_bad A0 c0 l0 w D hb
  rw[if_neg hb]
  have h1:1≤l0.length:=by omega
  have h2:l0.length≤64:=by omega
  clear hb
  cases ho:l0.any (outB l0.length) with
  | true=>
    rw[if_pos ((any_out l0).1 ho)]
    exact check_range A0 c0 l0 w D h1 h2 ho
  |false=>
  have hno:¬∃x∈l0,x<0∨(l0.length:Int)≤x:=fun h=>by rw[(any_out l0).2 h] at ho;cases ho
  rw[if_neg hno]
  have HIN:=aM (show∀i:Int,0≤i→i<l0.length→0≤rd l0 i∧rd l0 i<l0.length from fun i a b=>by
    have hm:=rd_mem a b
    refine⟨?_,?_⟩
    · apply Classical.byContradiction;intro hc;exact hno ⟨_,hm,.inl (by omega)⟩
    · apply Classical.byContradiction;intro hc;exact hno ⟨_,hm,.inr (by omega)⟩)
  have HD:=aM (degree_ok l0.length (by omega) (by omega))
  have HO:=aM ho
  have HR:=aM D
  have HC:=aM Y
  have HST:=aM (seen_start l0)
  clear ho D hno Y
  generalize hres:(if l0.Nodup then(0:Int) else 18)=res
  have HRES:=aM hres
  clear hres
  go_enter Tryz.func28,Tryz.ntmps28
  go_wp2_with (first
   |((with_reducible refine Zq (N:=1) rfl ?_);refine Zx ?hg (N:=1) ?hd (cs:= #[.slice A0 l0.length c0]) (t:=32) ?hr ?_;(case hd=>rfl);(case hg=>rfl);(case hr=>first|(go_simp;done)|(go_simp;rfl));intro g hgr w3 B X;have hz:w3.cell? ⟨g,0,none⟩=some (.slice A0 l0.length c0):=(Za B 0).trans rfl;have HZ:=aM hz;have HB3:=aM X;clear hgr X B)
   |(go_at_call 54;(with_reducible refine(perm_degree.calls l0.length 0 _ HD.out).mono ?_);rintro e w5 ⟨rfl,⟨nd,rfl⟩⟩)
   |(go_at_call 56;(with_reducible refine(cont53_calls _ _ l0 g l0.length c0 A0 _ ?s1 ?s2).mono ?_);(case s1=>exact Kd.C_drewN (Kd.C_below HR.out HB3.out) _);(case s2=>exact HZ.out);rintro e w6 ⟨rfl,⟨af,rfl⟩⟩;rw[HO.out])
   |((with_reducible refine Zq (N:=18) rfl ?_);refine Kd.R_make Kd.bool _ 4 rfl (N:=18) rfl 81 _ _ rfl (l0.length:Int) rfl rfl Tryz.underlying81 (.bool false) 1 info4 rfl (by decide) (by omega) false (ok:=fun _=>True) (okp:=fun _=>True) rfl (fun _ hk=>hk) trivial (by omega) (by omega) (Below.refl _ _) (Nat.le_refl _) ?_;intro v7 w7 L J hg_ hnew_;clear hg_ hnew_;rw[Int.toNat_natCast] at L;have z:=aM (Kd.R_lower L (show w.heap.size≤w3.heap.size from HB3.out.size));have o:=aM (Zd (Zg HB3.out _) J);have ab:=(J.cell (wB _ _ HZ.out)).trans HZ.out;clear L J))
  go_loopg [21] l0.length (fun kq ac w'=>∃(i:Int) (sx:List Bool),ac= .int .i64 i∧Aside0 (0≤i)∧Aside0 (i.toNat+kq=l0.length)∧Aside0 (SeenOk l0 i sx)∧Aside0 (Kd.R Kd.bool 4 w' w.heap.size (fun _=>True) v7 sx)∧Aside0 (Below w.heap.size w w'))
  case atStart=>exact⟨0,_,rfl,⟨by omega⟩,⟨by simp⟩,HST,z,o⟩
  case round=>
    clear z o ab hz;obtain⟨i,sx,rfl,I,P,HS,z,o⟩:=hrel;have i0:=I.out
    by_cases d1:i<(l0.length:Int)
    · have aa:decide (i<(l0.length:Int))=true:=dT d1;have q0:=eq_true i0;have q1:=eq_true d1;obtain⟨ad,ea,O⟩:=Kd.at_int HR.out i i0 d1
      cases ea;replace O:=(o.out.cell (wB w _ O)).trans O;obtain⟨x0,x1⟩:=HIN.out i i0 d1;have hsl:=HS.out.1;have x2:rd l0 i<(sx.length:Int):=by omega
      obtain⟨go,co,eo,gb,gl,cl,HG⟩:=Kd.R_form z.out (by omega);subst eo;obtain⟨Z,ae⟩:=Kd.R_celln false z.out (rd l0 i) x0 x2;have GB:=aM gb;have HSL:=aM hsl;have p0:=eq_true x0;have p2:=eq_true x2;clear gb gl HG hsl
      cases hb:rdOf false sx (rd l0 i) with
      | true=>
        rw[hb] at Z;have HBo:=aM hb;clear hb;go_wp2;go_ret
        exact⟨by rw[←HRES.out,if_neg (seen_dup HS.out i0 d1 x0 x1 HBo.out)];rfl,o.out⟩
      | false=>
        rw[hb] at Z;have HBo:=aM hb;clear hb;have U:=aM (Kd.R_putg z.out (rd l0 i) true);have HSn:=aM (seen_next HS.out i0 d1 x0 x1 HBo.out);go_wp2;obtain⟨k1,rfl⟩:∃m,gk=m+1:=⟨gk-1,by have:=P.out;omega⟩
        go_roundg k1
        case measure=>omega
        case rel=>exact⟨i+1,_,rfl,⟨by have:=I.out;omega⟩,⟨by have:=P.out;have:=I.out;omega⟩,HSn,⟨U.out.1⟩,⟨Zi o.out GB.out⟩⟩
    have aa:decide (i<(l0.length:Int))=false:=dF d1;have hn:=HS.out.2.1;rw[List.take_of_length_le (by omega)] at hn;have HN:=aM hn;clear hn;go_wp2;go_ret
    exact⟨by rw[←HRES.out,if_pos HN.out];rfl,o.out⟩
section
attribute [local go_sem] ZH ZF ZL ZK ZB ZA ZG ZE
def perm_Inverse.f (k:Nat) (l0:List Int):Option (List Int×Int):=(perm_Check.f l0).bind fun t126=>(if t126=0 then((perm_inverse.f k l0).bind fun t127=>(some (t127,0))) else(some (([]:List Int),t126)))
theorem perm_Inverse.calls (k:Nat) (A0:Option Addr) (c0:Nat) (l0:List Int) (r1:List Int) (r2:Int) (w:World) (X:Kd.C (Kd.int .i64) w A0 l0.length l0) (U:l0.length≤c0) (h:perm_Inverse.f k l0=some (r1,r2)):
    Calls Tryz.prog 15 #[.slice A0 l0.length c0] w fun e w'=>∃Y:Value,e= .returned (.tuple #[Y,.int .i64 r2])∧Kd.R (Kd.int .i64) 3 w' w.heap.size (fun _=>True) Y r1∧Below w.heap.size w w':=by
 have D:=aM X
 have z:=aM U
 clear X U
 have HB:=aM (Below.refl w.heap.size w)
 have H:((perm_Check.f l0).bind fun m=>(if m=0 then((perm_inverse.f k l0).bind fun o=>(some (o,0))) else(some (([]:List Int),m))))=some (r1,r2):=h
 clear h
 replace H:=oB H
 obtain⟨m,I,H⟩:=H
 replace H:(if m=0 then((perm_inverse.f k l0).bind fun o=>(some (o,0))) else(some (([]:List Int),m)))=some (r1,r2):=H
 have A2:=aM I
 clear I
 by_cases c3:m=0
 ·rw[if_pos c3] at H
  have L:=beq_iff_eq.mpr c3;have O:=bne_eq_false_iff_eq.mpr c3;clear c3;replace H:=oB H;obtain⟨o,J,H⟩:=H;replace H:(some (o,0))=some (r1,r2):=H;have A4:=aM J;clear J;simp only[Option.some.injEq,Prod.mk.injEq] at H;obtain⟨rfl,rfl⟩:=H
  go_enter Tryz.func15,Tryz.ntmps15
  go_wp2_with (first|((with_reducible refine Zr (f:=28) rfl ?_);refine ZI (some 6) rfl rfl Tryz.func28 (by kernel_rfl) rfl #[.slice A0 l0.length c0] rfl zz127 ?_;(with_reducible refine(perm_Check.calls _ _ l0 m _ ?sa ?sb A2.out).mono ?_);(case sa=>exact zC D.out);(case sb=>exact z.out);rintro e w5 ⟨rfl,hb⟩;refine⟨_,rfl,?_⟩;replace HB:=aM (Zd zz128 hb);(try clear hb);(try clear P);(try clear hk);(try clear hi))|((with_reducible refine Zr (f:=43) rfl ?_);refine ZI (some 11) rfl rfl Tryz.func43 (by kernel_rfl) rfl #[.slice A0 l0.length c0] rfl zz127 ?_;(with_reducible refine(perm_inverse.calls k _ _ l0 o _ ?sa ?sb A4.out).mono ?_);(case sa=>exact zC (Kd.C_below D.out HB.out));(case sb=>exact z.out);rintro e w6 ⟨Z,rfl,ho0,hb⟩;refine⟨_,rfl,?_⟩;have B:=aM (Kd.R_lower ho0 (Zc zz128));replace HB:=aM (Zd zz128 hb);(try clear hb);(try clear P);(try clear hk);(try clear hi);(try clear ho0)))
  go_ret2
  exact⟨_,by first|rfl|(simp[Zm,Zl]<;>rfl)|(simp[*,Zm,Zl]<;>rfl),by(with_reducible repeat(first|apply Kd.R_alloc|apply Kd.R_drewN|apply Kd.R_drew));exact B.out,by repeat(first|(with_reducible first|exact HB.out|apply Zh|apply Zg|apply Zj)|exact HB.out)⟩
 rw[if_neg c3] at H
 have L:=beq_eq_false_iff_ne.mpr c3
 have O:=bne_iff_ne.mpr c3
 simp only[Option.some.injEq,Prod.mk.injEq] at H
 obtain⟨rfl,rfl⟩:=H
 go_enter Tryz.func15,Tryz.ntmps15
 go_wp2_with (first|((with_reducible refine Zr (f:=28) rfl ?_);refine ZI (some 6) rfl rfl Tryz.func28 (by kernel_rfl) rfl #[.slice A0 l0.length c0] rfl zz127 ?_;(with_reducible refine(perm_Check.calls _ _ l0 m _ ?sa ?sb A2.out).mono ?_);(case sa=>exact zC D.out);(case sb=>exact z.out);rintro e w7 ⟨rfl,hb⟩;refine⟨_,rfl,?_⟩;replace HB:=aM (Zd zz128 hb);(try clear hb);(try clear P);(try clear hk);(try clear hi)))
 go_ret2
 exact⟨_,by first|rfl|(simp[Zm,Zl]<;>rfl)|(simp[*,Zm,Zl]<;>rfl),by first|exact Kd.R_nil _ _ _ _ _|exact Kd.N_nil _ _ _ _ _|exact Kd.V_nil _ _ _ _ _|exact Kd.Q_nil _ _ _ _ _|exact Kd.S_nil _ _ _ _ _,by repeat(first|(with_reducible first|exact HB.out|apply Zh|apply Zg|apply Zj)|exact HB.out)⟩
mutual
def perm_Compose.l0:Nat→List (List Int)→List (List Int)→Int→Int→Option (List Int×Int)
 |0,_,_,_,_=>none
 |k+1,x0,x13,x14,x15=>if x15<x14 then(if 0≤x15 then(if x15<(x13.length:Int) then((perm_Check.f (Zo x13 x15)).bind fun t112=>(if t112=0 then(perm_Compose.l0 k x0 x13 x14 (wrap64 (x15+1))) else(some (([]:List Int),t112)))) else(none)) else(none)) else(if 0<(x0.length:Int) then((perm_identity.f k ((Zo x0 0).length:Int)).bind fun t114=>(perm_Compose.l1 k t114 x0 (x0.length:Int) 0)) else(none))
def perm_Compose.l1:Nat→List Int→List (List Int)→Int→Int→Option (List Int×Int)
 |0,_,_,_,_=>none
 |k+1,x7,x30,x31,x32=>if x32<x31 then(if 0≤x32 then(if x32<(x30.length:Int) then(if((Zo x30 x32).length:Int)=(x7.length:Int) then((perm_then.f k x7 (Zo x30 x32)).bind fun t118=>(perm_Compose.l1 k t118 x30 x31 (wrap64 (x32+1)))) else(some (([]:List Int),10))) else(none)) else(none)) else(some (x7,0))
end
def perm_Compose.f (k:Nat) (l0:List (List Int)):Option (List Int×Int):=if(l0.length:Int)=0 then(some (([]:List Int),11)) else(perm_Compose.l0 k l0 l0 (l0.length:Int) 0)
theorem perm_Compose.calls (k:Nat) (A0:Option Addr) (c0:Nat) (l0:List (List Int)) (r1:List Int) (r2:Int) (w:World) (a5:Kd.C (Kd.slice 3 (Kd.int .i64)) w A0 l0.length l0) (a4:l0.length≤c0) (h:perm_Compose.f k l0=some (r1,r2)):
    Calls Tryz.prog 14 #[.slice A0 l0.length c0] w fun e w'=>∃a6:Value,e= .returned (.tuple #[a6,.int .i64 r2])∧Kd.R (Kd.int .i64) 3 w' w.heap.size (fun _=>True) a6 r1∧Below w.heap.size w w':=by
 have ar:=aM a5
 have bo:=aM a4
 clear a5 a4
 have HB:=aM (Below.refl w.heap.size w)
 have H:(if(l0.length:Int)=0 then(some (([]:List Int),11)) else(perm_Compose.l0 k l0 l0 (l0.length:Int) 0))=some (r1,r2):=h
 clear h
 by_cases c2:(l0.length:Int)=0
 ·rw[if_pos c2] at H
  have av:=beq_iff_eq.mpr c2;have aw:=bne_eq_false_iff_eq.mpr c2;clear c2;simp only[Option.some.injEq,Prod.mk.injEq] at H;obtain⟨rfl,rfl⟩:=H
  go_enter Tryz.func14,Tryz.ntmps14
  go_wp2
  go_ret2
  exact⟨_,by first|rfl|(simp[Zm,Zl]<;>rfl)|(simp[*,Zm,Zl]<;>rfl),by first|exact Kd.R_nil _ _ _ _ _|exact Kd.N_nil _ _ _ _ _|exact Kd.V_nil _ _ _ _ _|exact Kd.Q_nil _ _ _ _ _|exact Kd.S_nil _ _ _ _ _,by repeat(first|(with_reducible first|exact HB.out|apply Zh|apply Zg|apply Zj)|exact HB.out)⟩
 rw[if_neg c2] at H
 have av:=beq_eq_false_iff_ne.mpr c2
 have aw:=bne_iff_ne.mpr c2
 have aF:¬(l0= []):=fun h_=>c2 (by rw[h_];rfl)
 have H':=aM H
 clear H
 go_enter Tryz.func14,Tryz.ntmps14
 go_wp2
 go_loopg [15] k (fun kq bh w'=>∃(o:Int),bh= .int .i64 o∧Aside0 (perm_Compose.l0 kq l0 l0 (l0.length:Int) o=some (r1,r2))∧Aside0 (kq≤k)∧Aside0 (Below w.heap.size w w'))
 case atStart=>exact⟨(0),zz157,H',⟨Nat.le_refl _⟩,⟨zz128⟩⟩
 case round =>
  clear H';(try clear c1);(try clear c2);(try clear av);(try clear aw);(try clear aF);(try clear p2);obtain⟨o,rfl,HA,HK1,HB⟩:=hrel
  cases gk with
  |zero=>exact absurd HA.out (by simp[perm_Compose.l0])
  | succ k1=>
   have H:=HA.out;clear HA;simp only[perm_Compose.l0] at H
   by_cases c3:o<(l0.length:Int)
   ·rw [if_pos c3] at H;have aG:=dT c3;clear c3
    by_cases c4:0≤o
    ·rw [if_pos c4] at H;have aY:=dT c4;clear c4
     by_cases c5:o<(l0.length:Int)
     ·rw [if_pos c5] at H;have aZ:=dT c5;clear c5;replace H:=oB H;obtain⟨aj,aU,H⟩:=H;replace H:(if aj=0 then(perm_Compose.l0 k1 l0 l0 (l0.length:Int) (wrap64 (o+1))) else(some (([]:List Int),aj)))=some (r1,r2):=H;have A6:=aM aU;clear aU
      by_cases c7:aj=0
      ·rw[if_pos c7] at H;have aH:=beq_iff_eq.mpr c7;have aI:=bne_eq_false_iff_eq.mpr c7;clear c7;have H':=aM H;clear H;have P:0≤(o:Int):=oD zz156;have U:o<(l0.length:Int):=oD zz156;obtain⟨aL,ad,ae,ax,z,L,I⟩:=ZY ar.out o P U
       cases ax;replace z:=(HB.out.cell (wB w _ z)).trans z;have Z:=aM I;have Y:=aM L;clear I L;replace P:=eq_true P;replace U:=eq_true U
       go_wp2_with (first|((with_reducible refine Zr (f:=28) rfl ?_);refine ZI (some 20) rfl rfl Tryz.func28 (by kernel_rfl) rfl #[.slice ad (Zo l0 o).length ae] rfl zz127 ?_;(with_reducible refine(perm_Check.calls _ _ (Zo l0 o) aj _ ?sa ?sb A6.out).mono ?_);(case sa=>exact zC (Kd.C_below Z.out HB.out));(case sb=>exact Y.out);rintro e w8 ⟨rfl,hb⟩;refine⟨_,rfl,?_⟩;replace HB:=aM (Zd zz128 hb);(try clear hb);(try clear aT);(try clear hk);(try clear hi)))
       go_roundg k1
       case measure=>have:=HK1.out;omega
       case rel=>exact⟨(wrap64 (o+1)),zz157,H',⟨zz167⟩,⟨zz128⟩⟩
      rw[if_neg c7] at H;have aH:=beq_eq_false_iff_ne.mpr c7;have aI:=bne_iff_ne.mpr c7;simp only[Option.some.injEq,Prod.mk.injEq] at H;obtain⟨rfl,rfl⟩:=H;have P:0≤(o:Int):=oD zz156;have U:o<(l0.length:Int):=oD zz156;obtain⟨aL,ad,ae,ax,z,L,I⟩:=ZY ar.out o P U
      cases ax;replace z:=(HB.out.cell (wB w _ z)).trans z;have Z:=aM I;have Y:=aM L;clear I L;replace P:=eq_true P;replace U:=eq_true U
      go_wp2_with (first|((with_reducible refine Zr (f:=28) rfl ?_);refine ZI (some 20) rfl rfl Tryz.func28 (by kernel_rfl) rfl #[.slice ad (Zo l0 o).length ae] rfl zz127 ?_;(with_reducible refine(perm_Check.calls _ _ (Zo l0 o) aj _ ?sa ?sb A6.out).mono ?_);(case sa=>exact zC (Kd.C_below Z.out HB.out));(case sb=>exact Y.out);rintro e w9 ⟨rfl,hb⟩;refine⟨_,rfl,?_⟩;replace HB:=aM (Zd zz128 hb);(try clear hb);(try clear aT);(try clear hk);(try clear hi)))
      go_ret2
      exact⟨_,by first|rfl|(simp[Zm,Zl]<;>rfl)|(simp[*,Zm,Zl]<;>rfl),by first|exact Kd.R_nil _ _ _ _ _|exact Kd.N_nil _ _ _ _ _|exact Kd.V_nil _ _ _ _ _|exact Kd.Q_nil _ _ _ _ _|exact Kd.S_nil _ _ _ _ _,by repeat(first|(with_reducible first|exact HB.out|apply Zh|apply Zg|apply Zj)|exact HB.out)⟩
     rw[if_neg c5] at H
     exact absurd H (by simp)
    rw[if_neg c4] at H
    exact absurd H (by simp)
   rw[if_neg c3] at H;have aG:=dF c3;clear c3
   by_cases c10:0<(l0.length:Int)
   ·rw [if_pos c10] at H;have aN:=dT c10;have aO:decide (0<l0.length)=true:=dT (by omega);clear c10;replace H:=oB H;obtain⟨az,aD,H⟩:=H;replace H:(perm_Compose.l1 k1 az l0 (l0.length:Int) 0)=some (r1,r2):=H;have a9:=aM aD;clear aD;have H':=aM H;clear H;have an:0≤(0:Int):=(by omega);have ao:0<(l0.length:Int):=oD zz156;obtain⟨au,a7,a8,a1,D,ai,ah⟩:=ZY ar.out 0 an ao
    cases a1;have bg:(0<l0.length)=True:=eq_true (by omega)
    (try rw[show((0:Int)).toNat=0 from rfl] at D)
    (try rw[Addr.add_zero'] at D)
    replace D:=(HB.out.cell (wB w _ D)).trans D;have aX:=aM ah;have aW:=aM ai;clear ah ai;replace an:=eq_true an;replace ao:=eq_true ao
    go_wp2_with (first|((with_reducible refine Zr (f:=36) rfl ?_);refine ZI (some 29) rfl rfl Tryz.func36 (by kernel_rfl) rfl #[.int .i64 ((Zo l0 0).length:Int)] rfl zz127 ?_;(with_reducible refine(perm_identity.calls k1 ((Zo l0 0).length:Int) az _ a9.out).mono ?_);rintro e bv ⟨bm,rfl,ho0,hb⟩;refine⟨_,rfl,?_⟩;have aJ:=aM (Kd.R_lower ho0 (Zc zz128));replace HB:=aM (Zd zz128 hb);(try clear hb);(try clear aT);(try clear hk);(try clear hi);(try clear ho0)))
    go_loopg [7,32] k1 (fun kq v7 bi w'=>∃(X:List Int) (m:Int),bi= .int .i64 m∧Aside0 (perm_Compose.l1 kq X l0 (l0.length:Int) m=some (r1,r2))∧Aside0 (kq≤k1)∧Aside0 (Kd.R (Kd.int .i64) 3 w' w.heap.size (fun _=>True) v7 X)∧Aside0 (Below w.heap.size w w'))
    case atStart=>exact⟨(az),(0),zz157,H',⟨Nat.le_refl _⟩,⟨(zR aJ)⟩,⟨zz128⟩⟩
    case round =>
     clear H';(try clear c1);(try clear p1);(try clear q1);(try clear bq);(try clear bu);(try clear c2);(try clear av);(try clear aw);(try clear aF);(try clear p2);(try clear c3);(try clear aG);(try clear c4);(try clear aY);(try clear c5);(try clear aZ);(try clear p6);(try clear c7);(try clear aH);(try clear aI);(try clear c10);(try clear aN);(try clear aO);(try clear bp);(try clear br);(try clear bs);(try clear bj);(try clear bk);(try clear z);(try clear D);(try clear P);(try clear an);(try clear p2);(try clear U);(try clear ao);obtain⟨X,m,rfl,HA,HK2,HO_7,HB⟩:=hrel
     cases gk with
     |zero=>exact absurd HA.out (by simp[perm_Compose.l1])
     | succ k2=>
      have H:=HA.out;clear HA;simp only[perm_Compose.l1] at H
      by_cases aq:m<(l0.length:Int)
      ·rw [if_pos aq] at H;have aP:=dT aq;clear aq
       by_cases aB:0≤m
       ·rw [if_pos aB] at H;have bb:=dT aB;clear aB
        by_cases aC:m<(l0.length:Int)
        ·rw [if_pos aC] at H;have bc:=dT aC;clear aC
         by_cases aa:((Zo l0 m).length:Int)=(X.length:Int)
         ·rw[if_pos aa] at H;have aQ:=beq_iff_eq.mpr aa;have aR:=bne_eq_false_iff_eq.mpr aa;have aS:((Zo l0 m).length==X.length)=true:=by first|simpa using aa|(simp at aa⊢;omega)
          clear aa;replace H:=oB H;obtain⟨aA,aE,H⟩:=H;replace H:(perm_Compose.l1 k2 aA l0 (l0.length:Int) (wrap64 (m+1)))=some (r1,r2):=H;have ba:=aM aE;clear aE;have H':=aM H;clear H;have ab:0≤(m:Int):=oD zz156;have ac:m<(l0.length:Int):=oD zz156;obtain⟨ak,al,am,ay,B,O,J⟩:=ZY ar.out m ab ac;obtain rfl:au=ak:=(by injection ay);replace B:=(HB.out.cell (wB w _ B)).trans B;have ag:=aM J;have af:=aM O;clear J O;replace ab:=eq_true ab;replace ac:=eq_true ac;obtain⟨aV,a0,a2⟩:=Kd.R_slice HO_7.out;subst a2
          go_wp2_with (first|((with_reducible refine Zr (f:=35) rfl ?_);refine ZI (some 43) rfl rfl Tryz.func35 (by kernel_rfl) rfl #[.slice aV X.length a0,.slice al (Zo l0 m).length am] rfl zz127 ?_;(with_reducible refine(perm_then.calls k2 _ _ X _ _ (Zo l0 m) aA _ ?sa ?sb ?sc ?sd ba.out).mono ?_);(case sa=>exact zC ((Kd.R_reads' HO_7.out).2.2));(case sb=>exact(Kd.R_reads' HO_7.out).2.1);(case sc=>exact zC (Kd.C_below ag.out HB.out));(case sd=>exact af.out);rintro e bw ⟨bn,rfl,ho0,hb⟩;refine⟨_,rfl,?_⟩;have aK:=aM (Kd.R_lower (Kd.R_new' ho0 (Kd.R_lt (zR HO_7))) (Zc zz128));replace HO_7:=aM (Kd.R_elder' (zR HO_7) (Kd.R_base ho0) hb);replace HB:=aM (Zd zz128 hb);(try clear hb);(try clear aT);(try clear hk);(try clear hi);(try clear ho0)))
          go_roundg k2
          case measure=>have:=HK1.out;have:=HK2.out;omega
          case rel=>exact⟨(aA),(wrap64 (m+1)),zz157,H',⟨zz159⟩,⟨(by(with_reducible repeat(first|apply Kd.R_alloc|apply Kd.R_drewN|apply Kd.R_drew));exact Kd.R_mono aK.out (fun _ hk=>trivial))⟩,⟨zz128⟩⟩
         rw[if_neg aa] at H;have aQ:=beq_eq_false_iff_ne.mpr aa;have aR:=bne_iff_ne.mpr aa;have aS:((Zo l0 m).length==X.length)=false:=by first|simpa using aa|(simp at aa⊢;omega)
         simp only[Option.some.injEq,Prod.mk.injEq] at H;obtain⟨rfl,rfl⟩:=H;have ab:0≤(m:Int):=oD zz156;have ac:m<(l0.length:Int):=oD zz156;obtain⟨ak,al,am,ay,B,O,J⟩:=ZY ar.out m ab ac;obtain rfl:au=ak:=(by injection ay);replace B:=(HB.out.cell (wB w _ B)).trans B;have ag:=aM J;have af:=aM O;clear J O;replace ab:=eq_true ab;replace ac:=eq_true ac;obtain⟨Ao20,co20,a3⟩:=Kd.R_slice HO_7.out;subst a3;go_wp2
         go_ret2
         exact⟨_,by first|rfl|(simp[Zm,Zl]<;>rfl)|(simp[*,Zm,Zl]<;>rfl),by first|exact Kd.R_nil _ _ _ _ _|exact Kd.N_nil _ _ _ _ _|exact Kd.V_nil _ _ _ _ _|exact Kd.Q_nil _ _ _ _ _|exact Kd.S_nil _ _ _ _ _,by repeat(first|(with_reducible first|exact HB.out|apply Zh|apply Zg|apply Zj)|exact HB.out)⟩
        rw[if_neg aC] at H
        exact absurd H (by simp)
       rw[if_neg aB] at H
       exact absurd H (by simp)
      rw[if_neg aq] at H;have aP:=dF aq;clear aq;simp only[Option.some.injEq,Prod.mk.injEq] at H;obtain⟨rfl,rfl⟩:=H;go_wp2
      go_ret2
      exact⟨_,by first|rfl|(simp[Zm,Zl]<;>rfl)|(simp[*,Zm,Zl]<;>rfl),by(with_reducible repeat(first|apply Kd.R_alloc|apply Kd.R_drewN|apply Kd.R_drew));exact HO_7.out,by repeat(first|(with_reducible first|exact HB.out|apply Zh|apply Zg|apply Zj)|exact HB.out)⟩
   rw[if_neg c10] at H
   exact absurd H (by simp)
def r30_Then.l0:Nat→List Int→List Int→List Int→Int→Option (List Int)
 |0,_,_,_,_=>none
 |k+1,x0,x1,x5,x6=>if x6<(x0.length:Int) then(if 0≤x6 then(if 0≤(rd x0 x6) then(if(rd x0 x6)<(x1.length:Int) then(if x6<(x5.length:Int) then(r30_Then.l0 k x0 x1 (x5.set (x6:Int).toNat (rd x1 (rd x0 x6))) (wrap64 (x6+1))) else(none)) else(none)) else(none)) else(none)) else(some x5)
def r30_Then.f (k:Nat) (l0:List Int) (l1:List Int):Option (List Int):=if 0≤(l0.length:Int) then(if((l0.length:Int):Int).toNat≤35184372088832 then(r30_Then.l0 k l0 l1 (List.replicate ((l0.length:Int):Int).toNat 0) 0) else(none)) else(none)
theorem r30_Then.calls (k:Nat) (A0:Option Addr) (c0:Nat) (l0:List Int) (A1:Option Addr) (c1:Nat) (l1:List Int) (r:List Int) (w:World) (aA:Kd.C (Kd.int .i64) w A0 l0.length l0) (ay:l0.length≤c0) (aB:Kd.C (Kd.int .i64) w A1 l1.length l1) (az:l1.length≤c1) (h:r30_Then.f k l0 l1=some r):
    Calls Tryz.prog 63 #[.slice A0 l0.length c0,.slice A1 l1.length c1] w fun e w'=>∃aC:Value,e= .returned (aC)∧Kd.R (Kd.int .i64) 3 w' w.heap.size (fun _=>True) aC r∧Below w.heap.size w w':=by
 have aG:=aM aA
 have aR:=aM ay
 clear aA ay
 have aH:=aM aB
 have aS:=aM az
 clear aB az
 have HB:=aM (Below.refl w.heap.size w)
 have H:(if 0≤(l0.length:Int) then(if((l0.length:Int):Int).toNat≤35184372088832 then(r30_Then.l0 k l0 l1 (List.replicate ((l0.length:Int):Int).toNat 0) 0) else(none)) else(none))=some r:=h
 clear h
 by_cases c3:0≤(l0.length:Int)
 ·rw [if_pos c3] at H
  have am:=eq_true c3;have an:=dT c3;clear c3
  by_cases c4:((l0.length:Int):Int).toNat≤35184372088832
  ·rw [if_pos c4] at H;have ao:=eq_true c4;have aq:=dT c4;clear c4;obtain⟨af,B⟩:∃y_:List Int,y_=(List.replicate ((l0.length:Int):Int).toNat 0):=⟨_,rfl⟩;replace H:(r30_Then.l0 k l0 l1 af 0)=some r:=by first|(rw[B];with_reducible exact H)|(have H2_:=(Option.bind_some _ _).symm.trans H;rw[B];with_reducible exact H2_)|(have H2_:=(Option.bind_some _ _).symm.trans H;with_reducible exact H2_)|with_reducible exact H|(rw[B];exact H)|exact H
   have L:=aM B;clear B;have H':=aM H;clear H
   go_enter Tryz.func63,Tryz.ntmps63
   go_wp2_with (first|((with_reducible refine Zq (N:=9) rfl ?_);refine Kd.R_make (Kd.int .i64) _ 3 rfl (N:=9) rfl 32 _ _ rfl (l0.length:Int) rfl rfl Tryz.underlying32 (.int .i64 0) 8 info3 rfl (by decide) (by omega) 0 (ok:=fun _=>True) (okp:=fun _=>True) rfl (fun _ hk=>hk) trivial (oD zz156) (Nat.le_trans (Nat.mul_le_mul_right _ (oD zz156:(l0.length:Int).toNat≤35184372088832)) (by omega)) (Below.refl _ _) (Nat.le_refl _) ?_;intro aD w5 P hb hg_ hnew_;clear hg_ hnew_;(first|rw[←L.out] at P|(simp only[Int.reduceToNat] at P;rw[←L.out] at P));have ag:=aM (Kd.R_lower P (Zc zz128));replace HB:=aM (Zd zz128 hb);clear hb P))
   go_loopg [6] k (fun kq v6 w'=>∃(I:List Int) (m:Int),v6= .int .i64 m∧Aside0 (r30_Then.l0 kq l0 l1 I m=some r)∧Aside0 (kq≤k)∧Aside0 (Kd.R (Kd.int .i64) 3 w' w.heap.size (fun _=>True) aD I)∧Aside0 (Below w.heap.size w w'))
   case atStart=>exact⟨(af),(0),zz157,H',⟨Nat.le_refl _⟩,⟨(zR ag)⟩,⟨zz128⟩⟩
   case round =>
    clear H';(try clear c1);(try clear p2);(try clear c3);(try clear am);(try clear an);(try clear c4);(try clear ao);(try clear aq);(try clear c6);obtain⟨I,m,rfl,HA,HK1,HO_5,HB⟩:=hrel
    cases gk with
    |zero=>exact absurd HA.out (by simp[r30_Then.l0])
    | succ k1=>
     have H:=HA.out;clear HA;simp only[r30_Then.l0] at H
     by_cases c7:m<(l0.length:Int)
     ·rw [if_pos c7] at H;have ar:=dT c7;clear c7
      by_cases c8:0≤m
      ·rw [if_pos c8] at H;have aO:=dT c8;clear c8
       by_cases c9:0≤(rd l0 m)
       ·rw [if_pos c9] at H;have aP:=dT c9;clear c9
        by_cases c10:(rd l0 m)<(l1.length:Int)
        ·rw [if_pos c10] at H;have aK:=dT c10;clear c10
         by_cases ab:m<(I.length:Int)
         ·rw[if_pos ab] at H;have aL:=dT ab;clear ab;obtain⟨aa,D⟩:∃y_:List Int,y_=(I.set (m:Int).toNat (rd l1 (rd l0 m))):=⟨_,rfl⟩;replace H:(r30_Then.l0 k1 l0 l1 aa (wrap64 (m+1)))=some r:=by first|(rw[D];with_reducible exact H)|(have H2_:=(Option.bind_some _ _).symm.trans H;rw[D];with_reducible exact H2_)|(have H2_:=(Option.bind_some _ _).symm.trans H;with_reducible exact H2_)|with_reducible exact H|(rw[D];exact H)|exact H
          have ah:=aM D;clear D;have H':=aM H;clear H;have U:0≤(m:Int):=oD zz156;have Y:m<(l0.length:Int):=oD zz156;obtain⟨aI,av,o⟩:=Kd.at_int aG.out m U Y
          cases av;replace o:=(HB.out.cell (wB w _ o)).trans o;replace U:=eq_true U;replace Y:=eq_true Y;have X:0≤((rd l0 m):Int):=oD zz156;have Z:(rd l0 m)<(l1.length:Int):=oD zz156;obtain⟨aJ,aw,z⟩:=Kd.at_int aH.out (rd l0 m) X Z
          cases aw;replace z:=(HB.out.cell (wB w _ z)).trans z;replace X:=eq_true X;replace Z:=eq_true Z;have ai:0≤(m:Int):=oD zz156;have aj:(m:Int)<((I.length:Int):Int):=oD zz156;obtain⟨O,au,ad,ae,ax,aQ,ac⟩:=Kd.R_form HO_5.out (by omega)
          (first|cases ad|(injection ad with ea_ en_ ec_;(first|subst ea_|(injection ea_ with ea_;subst ea_));subst ec_;clear en_))
          have al:=aM ae;have aN:=aM ac;clear ae ax ac;obtain⟨aF,aE⟩:=Kd.R_celln 0 HO_5.out (m:Int) ai aj;replace ai:=eq_true ai;replace aj:=eq_true aj;have J:=Kd.R_putg HO_5.out (m:Int) (rd l1 (rd l0 m))
          go_wp2_with (first|((with_reducible refine ZO (t:=3) (p:=25) rfl ?_);refine ZM (t:=3) (p:=25) (v:= ?vo_w14) (w1:=(wr.setCell ⟨O,(m:Int).toNat,none⟩ (.int .i64 (rd l1 (rd l0 m))))) ?hg ?ho ?hn ?hr ?_;(case ho=>rfl);(case hg=>rfl);(case hn=>rfl);(case hr=>first|(go_simp;done)|(go_simp;rfl));intro ak hw;have hg:wr.grownBy ak (some O):=(by rw[hw];exact J.2);have hp_:Kd.R (Kd.int .i64) 3 ak w.heap.size (fun _=>True) (.slice (some ⟨O,0,none⟩) I.length au) aa:=(by rw[hw,ah.out];exact J.1);clear J;replace HO_5:=aM (hp_);replace HB:=aM ((by rw[hw];exact Zi (HB.out) al.out:Below w.heap.size w ak));clear hg hw hp_))
          go_roundg k1
          case measure=>have:=HK1.out;omega
          case rel=>exact⟨(aa),(wrap64 (m+1)),zz157,H',⟨zz167⟩,⟨(zR HO_5)⟩,⟨zz128⟩⟩
         rw[if_neg ab] at H
         exact absurd H (by simp)
        rw[if_neg c10] at H
        exact absurd H (by simp)
       rw[if_neg c9] at H
       exact absurd H (by simp)
      rw[if_neg c8] at H
      exact absurd H (by simp)
     rw[if_neg c7] at H;have ar:=dF c7;clear c7;obtain rfl:=oI H;go_wp2;go_ret
     exact⟨_,by first|rfl|(simp[Zm,Zl]<;>rfl)|(simp[*,Zm,Zl]<;>rfl),by(with_reducible repeat(first|apply Kd.R_alloc|apply Kd.R_drewN|apply Kd.R_drew));exact HO_5.out,by repeat(first|(with_reducible first|exact HB.out|apply Zh|apply Zg|apply Zj)|exact HB.out)⟩
  rw[if_neg c4] at H
  exact absurd H (by simp)
 rw[if_neg c3] at H
 exact absurd H (by simp)
def r30_Unit.l0:Nat→Int→List Int→Int→Option (List Int)
 |0,_,_,_=>none
 |k+1,x0,x3,x4=>if x4<x0 then(if 0≤x4 then(if x4<(x3.length:Int) then(r30_Unit.l0 k x0 (x3.set (x4:Int).toNat x4) (wrap64 (x4+1))) else(none)) else(none)) else(some x3)
def r30_Unit.f (k:Nat) (a0:Int):Option (List Int):=if 0≤a0 then(if(a0:Int).toNat≤35184372088832 then(r30_Unit.l0 k a0 (List.replicate (a0:Int).toNat 0) 0) else(none)) else(none)
theorem r30_Unit.calls (k:Nat) (a0:Int) (r:List Int) (w:World) (h:r30_Unit.f k a0=some r):
    Calls Tryz.prog 40 #[.int .i64 a0] w fun e w'=>∃ah:Value,e= .returned (ah)∧Kd.R (Kd.int .i64) 3 w' w.heap.size (fun _=>True) ah r∧Below w.heap.size w w':=by
 have HB:=aM (Below.refl w.heap.size w)
 have H:(if 0≤a0 then(if(a0:Int).toNat≤35184372088832 then(r30_Unit.l0 k a0 (List.replicate (a0:Int).toNat 0) 0) else(none)) else(none))=some r:=h
 clear h
 by_cases c2:0≤a0
 ·rw [if_pos c2] at H
  have aa:=eq_true c2;have ab:=dT c2;clear c2
  by_cases c3:(a0:Int).toNat≤35184372088832
  ·rw [if_pos c3] at H;have ac:=eq_true c3;have ad:=dT c3;clear c3;obtain⟨O,o⟩:∃y_:List Int,y_=(List.replicate (a0:Int).toNat 0):=⟨_,rfl⟩;replace H:(r30_Unit.l0 k a0 O 0)=some r:=by first|(rw[o];with_reducible exact H)|(have H2_:=(Option.bind_some _ _).symm.trans H;rw[o];with_reducible exact H2_)|(have H2_:=(Option.bind_some _ _).symm.trans H;with_reducible exact H2_)|with_reducible exact H|(rw[o];exact H)|exact H
   have I:=aM o;clear o;have H':=aM H;clear H
   go_enter Tryz.func40,Tryz.ntmps40
   go_wp2_with (first|((with_reducible refine Zq (N:=6) rfl ?_);refine Kd.R_make (Kd.int .i64) _ 3 rfl (N:=6) rfl 32 _ _ rfl a0 rfl rfl Tryz.underlying32 (.int .i64 0) 8 info3 rfl (by decide) (by omega) 0 (ok:=fun _=>True) (okp:=fun _=>True) rfl (fun _ hk=>hk) trivial (oD zz156) (Nat.le_trans (Nat.mul_le_mul_right _ (oD zz156:a0.toNat≤35184372088832)) (by omega)) (Below.refl _ _) (Nat.le_refl _) ?_;intro ai w4 J hb hg_ hnew_;clear hg_ hnew_;(first|rw[←I.out] at J|(simp only[Int.reduceToNat] at J;rw[←I.out] at J));have P:=aM (Kd.R_lower J (Zc zz128));replace HB:=aM (Zd zz128 hb);clear hb J))
   go_loopg [4] k (fun kq v4 w'=>∃(B:List Int) (m:Int),v4= .int .i64 m∧Aside0 (r30_Unit.l0 kq a0 B m=some r)∧Aside0 (kq≤k)∧Aside0 (Kd.R (Kd.int .i64) 3 w' w.heap.size (fun _=>True) ai B)∧Aside0 (Below w.heap.size w w'))
   case atStart=>exact⟨(O),(0),zz157,H',⟨Nat.le_refl _⟩,⟨(zR P)⟩,⟨zz128⟩⟩
   case round =>
    clear H';(try clear c2);(try clear aa);(try clear ab);(try clear p2);(try clear c3);(try clear ac);(try clear ad);(try clear c4);obtain⟨B,m,rfl,HA,HK1,HO_3,HB⟩:=hrel
    cases gk with
    |zero=>exact absurd HA.out (by simp[r30_Unit.l0])
    | succ k1=>
     have H:=HA.out;clear HA;simp only[r30_Unit.l0] at H
     by_cases c6:m<a0
     ·rw [if_pos c6] at H;have ae:=dT c6;clear c6
      by_cases c7:0≤m
      ·rw [if_pos c7] at H;have ao:=dT c7;clear c7
       by_cases c8:m<(B.length:Int)
       ·rw[if_pos c8] at H;have aq:=dT c8;clear c8;obtain⟨L,z⟩:∃y_:List Int,y_=(B.set (m:Int).toNat m):=⟨_,rfl⟩;replace H:(r30_Unit.l0 k1 a0 L (wrap64 (m+1)))=some r:=by first|(rw[z];with_reducible exact H)|(have H2_:=(Option.bind_some _ _).symm.trans H;rw[z];with_reducible exact H2_)|(have H2_:=(Option.bind_some _ _).symm.trans H;with_reducible exact H2_)|with_reducible exact H|(rw[z];exact H)|exact H
        have U:=aM z;clear z;have H':=aM H;clear H;have p9:0≤(m:Int):=oD zz156;have q9:(m:Int)<((B.length:Int):Int):=oD zz156;obtain⟨X,ak,af,ag,al,au,Z⟩:=Kd.R_form HO_3.out (by omega)
        (first|cases af|(injection af with ea_ en_ ec_;(first|subst ea_|(injection ea_ with ea_;subst ea_));subst ec_;clear en_))
        have aj:=aM ag;have ar:=aM Z;clear ag al Z;obtain⟨an,am⟩:=Kd.R_celln 0 HO_3.out (m:Int) p9 q9;replace p9:=eq_true p9;replace q9:=eq_true q9;have D:=Kd.R_putg HO_3.out (m:Int) m
        go_wp2_with (first|((with_reducible refine ZO (t:=3) (p:=15) rfl ?_);refine ZM (t:=3) (p:=15) (v:= ?vo_w11) (w1:=(wr.setCell ⟨X,(m:Int).toNat,none⟩ (.int .i64 m))) ?hg ?ho ?hn ?hr ?_;(case ho=>rfl);(case hg=>rfl);(case hn=>rfl);(case hr=>first|(go_simp;done)|(go_simp;rfl));intro Y hw;have hg:wr.grownBy Y (some X):=(by rw[hw];exact D.2);have hp_:Kd.R (Kd.int .i64) 3 Y w.heap.size (fun _=>True) (.slice (some ⟨X,0,none⟩) B.length ak) L:=(by rw[hw,U.out];exact D.1);clear D;replace HO_3:=aM (hp_);replace HB:=aM ((by rw[hw];exact Zi (HB.out) aj.out:Below w.heap.size w Y));clear hg hw hp_))
        go_roundg k1
        case measure=>have:=HK1.out;omega
        case rel=>exact⟨(L),(wrap64 (m+1)),zz157,H',⟨zz167⟩,⟨(zR HO_3)⟩,⟨zz128⟩⟩
       rw[if_neg c8] at H
       exact absurd H (by simp)
      rw[if_neg c7] at H
      exact absurd H (by simp)
     rw[if_neg c6] at H;have ae:=dF c6;clear c6;obtain rfl:=oI H;go_wp2;go_ret
     exact⟨_,by first|rfl|(simp[Zm,Zl]<;>rfl)|(simp[*,Zm,Zl]<;>rfl),by(with_reducible repeat(first|apply Kd.R_alloc|apply Kd.R_drewN|apply Kd.R_drew));exact HO_3.out,by repeat(first|(with_reducible first|exact HB.out|apply Zh|apply Zg|apply Zj)|exact HB.out)⟩
  rw[if_neg c3] at H
  exact absurd H (by simp)
 rw[if_neg c2] at H
 exact absurd H (by simp)
def r30_Back.l0:Nat→List Int→List Int→Int→Option (List Int)
 |0,_,_,_=>none
 |k+1,x0,x3,x4=>if x4<(x0.length:Int) then(if 0≤x4 then(if 0≤(rd x0 x4) then(if(rd x0 x4)<(x3.length:Int) then(r30_Back.l0 k x0 (x3.set ((rd x0 x4):Int).toNat x4) (wrap64 (x4+1))) else(none)) else(none)) else(none)) else(some x3)
def r30_Back.f (k:Nat) (l0:List Int):Option (List Int):=if 0≤(l0.length:Int) then(if((l0.length:Int):Int).toNat≤35184372088832 then(r30_Back.l0 k l0 (List.replicate ((l0.length:Int):Int).toNat 0) 0) else(none)) else(none)
theorem r30_Back.calls (k:Nat) (A0:Option Addr) (c0:Nat) (l0:List Int) (r:List Int) (w:World) (au:Kd.C (Kd.int .i64) w A0 l0.length l0) (ar:l0.length≤c0) (h:r30_Back.f k l0=some r):
    Calls Tryz.prog 64 #[.slice A0 l0.length c0] w fun e w'=>∃av:Value,e= .returned (av)∧Kd.R (Kd.int .i64) 3 w' w.heap.size (fun _=>True) av r∧Below w.heap.size w w':=by
 have az:=aM au
 have aG:=aM ar
 clear au ar
 have HB:=aM (Below.refl w.heap.size w)
 have H:(if 0≤(l0.length:Int) then(if((l0.length:Int):Int).toNat≤35184372088832 then(r30_Back.l0 k l0 (List.replicate ((l0.length:Int):Int).toNat 0) 0) else(none)) else(none))=some r:=h
 clear h
 by_cases c2:0≤(l0.length:Int)
 ·rw [if_pos c2] at H
  have ai:=eq_true c2;have aj:=dT c2;clear c2
  by_cases c3:((l0.length:Int):Int).toNat≤35184372088832
  ·rw [if_pos c3] at H;have ak:=eq_true c3;have al:=dT c3;clear c3;obtain⟨ab,z⟩:∃y_:List Int,y_=(List.replicate ((l0.length:Int):Int).toNat 0):=⟨_,rfl⟩;replace H:(r30_Back.l0 k l0 ab 0)=some r:=by first|(rw[z];with_reducible exact H)|(have H2_:=(Option.bind_some _ _).symm.trans H;rw[z];with_reducible exact H2_)|(have H2_:=(Option.bind_some _ _).symm.trans H;with_reducible exact H2_)|with_reducible exact H|(rw[z];exact H)|exact H
   have J:=aM z;clear z;have H':=aM H;clear H
   go_enter Tryz.func64,Tryz.ntmps64
   go_wp2_with (first|((with_reducible refine Zq (N:=7) rfl ?_);refine Kd.R_make (Kd.int .i64) _ 3 rfl (N:=7) rfl 32 _ _ rfl (l0.length:Int) rfl rfl Tryz.underlying32 (.int .i64 0) 8 info3 rfl (by decide) (by omega) 0 (ok:=fun _=>True) (okp:=fun _=>True) rfl (fun _ hk=>hk) trivial (oD zz156) (Nat.le_trans (Nat.mul_le_mul_right _ (oD zz156:(l0.length:Int).toNat≤35184372088832)) (by omega)) (Below.refl _ _) (Nat.le_refl _) ?_;intro aw w4 O hb hg_ hnew_;clear hg_ hnew_;(first|rw[←J.out] at O|(simp only[Int.reduceToNat] at O;rw[←J.out] at O));have ac:=aM (Kd.R_lower O (Zc zz128));replace HB:=aM (Zd zz128 hb);clear hb O))
   go_loopg [4] k (fun kq v4 w'=>∃(D:List Int) (m:Int),v4= .int .i64 m∧Aside0 (r30_Back.l0 kq l0 D m=some r)∧Aside0 (kq≤k)∧Aside0 (Kd.R (Kd.int .i64) 3 w' w.heap.size (fun _=>True) aw D)∧Aside0 (Below w.heap.size w w'))
   case atStart=>exact⟨(ab),(0),zz157,H',⟨Nat.le_refl _⟩,⟨(zR ac)⟩,⟨zz128⟩⟩
   case round =>
    clear H';(try clear c2);(try clear ai);(try clear aj);(try clear p2);(try clear c3);(try clear ak);(try clear al);obtain⟨D,m,rfl,HA,HK1,HO_3,HB⟩:=hrel
    cases gk with
    |zero=>exact absurd HA.out (by simp[r30_Back.l0])
    | succ k1=>
     have H:=HA.out;clear HA;simp only[r30_Back.l0] at H
     by_cases c6:m<(l0.length:Int)
     ·rw [if_pos c6] at H;have am:=dT c6;clear c6
      by_cases c7:0≤m
      ·rw [if_pos c7] at H;have aC:=dT c7;clear c7
       by_cases c8:0≤(rd l0 m)
       ·rw [if_pos c8] at H;have aD:=dT c8;clear c8
        by_cases c9:(rd l0 m)<(D.length:Int)
        ·rw[if_pos c9] at H;have aE:=dT c9;clear c9;obtain⟨X,B⟩:∃y_:List Int,y_=(D.set ((rd l0 m):Int).toNat m):=⟨_,rfl⟩;replace H:(r30_Back.l0 k1 l0 X (wrap64 (m+1)))=some r:=by first|(rw[B];with_reducible exact H)|(have H2_:=(Option.bind_some _ _).symm.trans H;rw[B];with_reducible exact H2_)|(have H2_:=(Option.bind_some _ _).symm.trans H;with_reducible exact H2_)|with_reducible exact H|(rw[B];exact H)|exact H
         have ad:=aM B;clear B;have H':=aM H;clear H;have P:0≤(m:Int):=oD zz156;have U:m<(l0.length:Int):=oD zz156;obtain⟨aA,ao,o⟩:=Kd.at_int az.out m P U
         cases ao;replace o:=(HB.out.cell (wB w _ o)).trans o;replace P:=eq_true P;replace U:=eq_true U;have ae:0≤((rd l0 m):Int):=oD zz156;have af:((rd l0 m):Int)<((D.length:Int):Int):=oD zz156;obtain⟨L,an,Z,aa,aq,aF,Y⟩:=Kd.R_form HO_3.out (by omega)
         (first|cases Z|(injection Z with ea_ en_ ec_;(first|subst ea_|(injection ea_ with ea_;subst ea_));subst ec_;clear en_))
         have ah:=aM aa;have aB:=aM Y;clear aa aq Y;obtain⟨ay,ax⟩:=Kd.R_celln 0 HO_3.out ((rd l0 m):Int) ae af;replace ae:=eq_true ae;replace af:=eq_true af;have I:=Kd.R_putg HO_3.out ((rd l0 m):Int) m
         go_wp2_with (first|((with_reducible refine ZO (t:=3) (p:=20) rfl ?_);refine ZM (t:=3) (p:=20) (v:= ?vo_w12) (w1:=(wr.setCell ⟨L,((rd l0 m):Int).toNat,none⟩ (.int .i64 m))) ?hg ?ho ?hn ?hr ?_;(case ho=>rfl);(case hg=>rfl);(case hn=>rfl);(case hr=>first|(go_simp;done)|(go_simp;rfl));intro ag hw;have hg:wr.grownBy ag (some L):=(by rw[hw];exact I.2);have hp_:Kd.R (Kd.int .i64) 3 ag w.heap.size (fun _=>True) (.slice (some ⟨L,0,none⟩) D.length an) X:=(by rw[hw,ad.out];exact I.1);clear I;replace HO_3:=aM (hp_);replace HB:=aM ((by rw[hw];exact Zi (HB.out) ah.out:Below w.heap.size w ag));clear hg hw hp_))
         go_roundg k1
         case measure=>have:=HK1.out;omega
         case rel=>exact⟨(X),(wrap64 (m+1)),zz157,H',⟨zz167⟩,⟨(zR HO_3)⟩,⟨zz128⟩⟩
        rw[if_neg c9] at H
        exact absurd H (by simp)
       rw[if_neg c8] at H
       exact absurd H (by simp)
      rw[if_neg c7] at H
      exact absurd H (by simp)
     rw[if_neg c6] at H;have am:=dF c6;clear c6;obtain rfl:=oI H;go_wp2;go_ret
     exact⟨_,by first|rfl|(simp[Zm,Zl]<;>rfl)|(simp[*,Zm,Zl]<;>rfl),by(with_reducible repeat(first|apply Kd.R_alloc|apply Kd.R_drewN|apply Kd.R_drew));exact HO_3.out,by repeat(first|(with_reducible first|exact HB.out|apply Zh|apply Zg|apply Zj)|exact HB.out)⟩
  rw[if_neg c3] at H
  exact absurd H (by simp)
 rw[if_neg c2] at H
 exact absurd H (by simp)
mutual
def r30_Check.j0:Nat→List Int→Int→Bool→Option (Int)
 |0,_,_,_=>none
 |k+1,x0,x3,x14=>if x14=true then(some 4) else(r30_Check.l0 k x0 x3 0)
def r30_Check.l0:Nat→List Int→Int→Int→Option (Int)
 |0,_,_,_=>none
 |k+1,x0,x3,x4=>if x4<x3 then(if 0≤x4 then(if x4<(x0.length:Int) then(if(rd x0 x4)<0 then(some 6) else(if(rd x0 x4)≥x3 then(some 6) else(r30_Check.l0 k x0 x3 (wrap64 (x4+1))))) else(none)) else(none)) else(r30_Check.l1 k x0 x3 0)
def r30_Check.l1:Nat→List Int→Int→Int→Option (Int)
 |0,_,_,_=>none
 |k+1,x0,x3,x5=>if x5<x3 then(r30_Check.l2 k x0 x3 x5 0) else(some 0)
def r30_Check.l2:Nat→List Int→Int→Int→Int→Option (Int)
 |0,_,_,_,_=>none
 |k+1,x0,x3,x5,x6=>if x6<x5 then(if 0≤x5 then(if x5<(x0.length:Int) then(if 0≤x6 then(if x6<(x0.length:Int) then(if(rd x0 x5)=(rd x0 x6) then(some 18) else(r30_Check.l2 k x0 x3 x5 (wrap64 (x6+1)))) else(none)) else(none)) else(none)) else(none)) else(r30_Check.l1 k x0 x3 (wrap64 (x5+1)))
end
def r30_Check.f (k:Nat) (l0:List Int):Option (Int):=if(l0.length:Int)<1 then(r30_Check.j0 k l0 (l0.length:Int) true) else(r30_Check.j0 k l0 (l0.length:Int) (decide ((l0.length:Int)>64)))
theorem r30_Check.calls (k : Nat) (A0:Option Addr) (c0:Nat) (l0:List Int) (r:Int) (w:World) (aI:Kd.C (Kd.int .i64) w A0 l0.length l0) (aH:l0.length≤c0) (h:r30_Check.f k l0=some r):
    Calls Tryz.prog 8 #[.slice A0 l0.length c0] w fun e w'=>e= .returned (.int .i64 r)∧Drawn0 w w':=by
 have aa:=aM aI
 have aQ:=aM aH
 clear aI aH
 have H:(if(l0.length:Int)<1 then(r30_Check.j0 k l0 (l0.length:Int) true) else(r30_Check.j0 k l0 (l0.length:Int) (decide ((l0.length:Int)>64))))=some r:=h
 clear h
 have aC:=aM H
 clear H
 go_enter Tryz.func8,Tryz.ntmps8
 go_upto_region 2 with(fail)
 repeat(go_quiet (fail);go_upto_region 2 with(fail))
 go_cut [14] (fun aP wc=>∃(kq:Nat) (ac:Bool),aP= .bool ac∧Aside0 (r30_Check.j0 kq l0 (l0.length:Int) ac=some r)∧Aside0 (kq≤k)∧Drawn0 w wc)
 case first=>
  have H:=aC.out;clear aC
  by_cases c3:(l0.length:Int)<1
  ·rw[if_pos c3] at H;have I:=dT c3;have ad:decide (l0.length<1)=true:=dT (by omega);clear c3
   (first|rw[I]|(simp only[Zt,Zu];rw[I])|skip)
   have H':=aM H;clear H;go_wp2
   repeat(go_quiet (fail);try go_wp2)
   go_meet
   case rel=>exact⟨_,(true),zz157,H',⟨zz160⟩,by repeat(first|exact Drawn0.refl _|apply Drawn0.step)⟩
  rw[if_neg c3] at H;have I:=dF c3;have ad:decide (l0.length<1)=false:=dF (by omega);clear c3
  (first|rw[I]|(simp only[Zt,Zu];rw[I])|skip)
  have H':=aM H;clear H;go_wp2
  repeat(go_quiet (fail);try go_wp2)
  go_meet
  case rel=>exact⟨_,(decide ((l0.length:Int)>64)),zz157,H',⟨zz160⟩,by repeat(first|exact Drawn0.refl _|apply Drawn0.step)⟩
 case rest=>
  clear aC;(try clear p2);(try clear c3);(try clear I);(try clear ad);obtain⟨kq,ac,rfl,HA,HJ1,⟨aR,rfl⟩⟩:=hcut
  cases kq with
  |zero=>exact absurd HA.out (by simp[r30_Check.j0])
  | succ aG =>
   have H:=HA.out;clear HA;simp only[r30_Check.j0] at H
   by_cases c4:ac=true
   ·subst c4;have H1:(some 4)=some r:=by rw[if_pos rfl] at H;exact H
    clear H;have H:=H1;clear H1;obtain rfl:=oI H;go_wp2
    repeat(go_quiet (fail);try go_wp2)
    go_ret
    exact⟨by first|rfl|(simp;done)|(simp[*];done),by repeat(first|exact Drawn0.refl _|apply Drawn0.step)⟩
   replace c4:=Bool.eq_false_iff.mpr c4;subst c4;have H1:(r30_Check.l0 aG l0 (l0.length:Int) 0)=some r:=by rw[if_neg (show¬(false=true) by decide)] at H;exact H
   clear H;have H:=H1;clear H1;have H':=aM H;clear H;go_wp2
   repeat(go_quiet (fail);try go_wp2)
   go_loopg [4] aG (fun kq v4 w'=>∃(m:Int),v4= .int .i64 m∧Aside0 (r30_Check.l0 kq l0 (l0.length:Int) m=some r)∧Aside0 (kq≤aG)∧Drawn0 w w')
   case atStart=>exact⟨(0),zz157,H',⟨Nat.le_refl _⟩,by repeat(first|exact Drawn0.refl _|apply Drawn0.step)⟩
   case round =>
    clear H';(try clear c1);(try clear p2);(try clear c3);(try clear I);(try clear ad);(try clear c4);(try clear p2);obtain⟨m,rfl,HA,HK2,⟨m2,rfl⟩⟩:=hrel
    cases gk with
    |zero=>exact absurd HA.out (by simp[r30_Check.l0])
    | succ k2=>
     have H:=HA.out;clear HA;simp only[r30_Check.l0] at H
     by_cases c5:m<(l0.length:Int)
     ·rw [if_pos c5] at H;have al:=dT c5;clear c5
      by_cases c6:0≤m
      ·rw [if_pos c6] at H;have aA:=dT c6;clear c6
       by_cases c7:m<(l0.length:Int)
       ·rw [if_pos c7] at H;have aB:=dT c7;clear c7
        by_cases c8:(rd l0 m)<0
        ·rw[if_pos c8] at H;have am:=dT c8;clear c8;obtain rfl:=oI H;have B:0≤(m:Int):=oD zz156;have D:m<(l0.length:Int):=oD zz156;obtain⟨ab,ae,J⟩:=Kd.at_int aa.out m B D
         cases ae;replace B:=eq_true B;replace D:=eq_true D;go_wp2
         repeat(go_quiet (fail);try go_wp2)
         go_ret
         exact⟨by first|rfl|(simp;done)|(simp[*];done),by repeat(first|exact Drawn0.refl _|apply Drawn0.step)⟩
        rw[if_neg c8] at H;have am:=dF c8;clear c8
        by_cases c9:(rd l0 m)≥(l0.length:Int)
        ·rw[if_pos c9] at H;have an:=dT c9;clear c9;obtain rfl:=oI H;have B:0≤(m:Int):=oD zz156;have D:m<(l0.length:Int):=oD zz156;obtain⟨ab,ae,J⟩:=Kd.at_int aa.out m B D
         cases ae;replace B:=eq_true B;replace D:=eq_true D;have L:0≤(m:Int):=oD zz156;have O:m<(l0.length:Int):=oD zz156;obtain⟨af,ao,P⟩:=Kd.at_int aa.out m L O;obtain rfl:ab=af:=(by injection ao);replace L:=eq_true L;replace O:=eq_true O;go_wp2
         repeat(go_quiet (fail);try go_wp2)
         go_ret
         exact⟨by first|rfl|(simp;done)|(simp[*];done),by repeat(first|exact Drawn0.refl _|apply Drawn0.step)⟩
        rw[if_neg c9] at H;have an:=dF c9;clear c9;have H':=aM H;clear H;have B:0≤(m:Int):=oD zz156;have D:m<(l0.length:Int):=oD zz156;obtain⟨ab,ae,J⟩:=Kd.at_int aa.out m B D
        cases ae;replace B:=eq_true B;replace D:=eq_true D;have L:0≤(m:Int):=oD zz156;have O:m<(l0.length:Int):=oD zz156;obtain⟨af,ao,P⟩:=Kd.at_int aa.out m L O;obtain rfl:ab=af:=(by injection ao);replace L:=eq_true L;replace O:=eq_true O;go_wp2
        repeat(go_quiet (fail);try go_wp2)
        go_roundg k2
        case measure=>have:=HJ1.out;have:=HK2.out;omega
        case rel=>exact⟨(wrap64 (m+1)),zz157,H',⟨(by have:=HJ1.out;have:=HK2.out;omega)⟩,by repeat(first|exact Drawn0.refl _|apply Drawn0.step)⟩
       rw[if_neg c7] at H
       exact absurd H (by simp)
      rw[if_neg c6] at H
      exact absurd H (by simp)
     rw[if_neg c5] at H;have al:=dF c5;clear c5;have H':=aM H;clear H;go_wp2
     repeat(go_quiet (fail);try go_wp2)
     go_loopg [5] k2 (fun kq v5 w'=>∃(o:Int),v5= .int .i64 o∧Aside0 (r30_Check.l1 kq l0 (l0.length:Int) o=some r)∧Aside0 (kq≤k2)∧Drawn0 w w')
     case atStart=>exact⟨(0),zz157,H',⟨Nat.le_refl _⟩,by repeat(first|exact Drawn0.refl _|apply Drawn0.step)⟩
     case round =>
      clear H';(try clear c1);(try clear p2);(try clear c3);(try clear I);(try clear ad);(try clear p3);(try clear q3);(try clear aO);(try clear c4);(try clear c5);(try clear al);(try clear c6);(try clear aA);(try clear p6);(try clear c7);(try clear aB);(try clear c8);(try clear am);(try clear c9);(try clear an);(try clear J);(try clear P);(try clear p2);(try clear B);(try clear L);(try clear D);(try clear O);obtain⟨o,rfl,HA,HK3,⟨m3,rfl⟩⟩:=hrel
      cases gk with
      |zero=>exact absurd HA.out (by simp[r30_Check.l1])
      | succ k3=>
       have H:=HA.out;clear HA;simp only[r30_Check.l1] at H
       by_cases c10:o<(l0.length:Int)
       ·rw [if_pos c10] at H;have ak:=dT c10;clear c10;have H':=aM H;clear H;go_wp2
        repeat(go_quiet (fail);try go_wp2)
        go_loopg [6] k3 (fun kq v6 w'=>∃(z:Int),v6= .int .i64 z∧Aside0 (r30_Check.l2 kq l0 (l0.length:Int) o z=some r)∧Aside0 (kq≤k3)∧Drawn0 w w')
        case atStart=>exact⟨(0),zz157,H',⟨Nat.le_refl _⟩,by repeat(first|exact Drawn0.refl _|apply Drawn0.step)⟩
        case round =>
         clear H';(try clear c1);(try clear p2);(try clear c3);(try clear I);(try clear ad);(try clear p3);(try clear q3);(try clear aO);(try clear c4);(try clear c5);(try clear al);(try clear c6);(try clear aA);(try clear p6);(try clear c7);(try clear aB);(try clear c8);(try clear am);(try clear c9);(try clear an);(try clear c10);(try clear ak);(try clear J);(try clear P);(try clear p2);(try clear p3);(try clear B);(try clear L);(try clear p6);(try clear q3);(try clear D);(try clear O);obtain⟨z,rfl,HA,HK4,⟨m4,rfl⟩⟩:=hrel
         cases gk with
         |zero=>exact absurd HA.out (by simp[r30_Check.l2])
         | succ k4=>
          have H:=HA.out;clear HA;simp only[r30_Check.l2] at H
          by_cases aj:z<o
          ·rw [if_pos aj] at H;have aD:=dT aj;clear aj
           by_cases aw:0≤o
           ·rw [if_pos aw] at H;have aJ:=dT aw;clear aw
            by_cases ax:o<(l0.length:Int)
            ·rw [if_pos ax] at H;have aK:=dT ax;clear ax
             by_cases ay:0≤z
             ·rw [if_pos ay] at H;have aL:=dT ay;clear ay
              by_cases az:z<(l0.length:Int)
              ·rw [if_pos az] at H;have aN:=dT az;clear az
               by_cases ai:(rd l0 o)=(rd l0 z)
               ·rw[if_pos ai] at H;have aE:=beq_iff_eq.mpr ai;have aF:=bne_eq_false_iff_eq.mpr ai;clear ai;obtain rfl:=oI H;have U:0≤(o:Int):=oD zz156;have Y:o<(l0.length:Int):=oD zz156;obtain⟨ag,aq,au⟩:=Kd.at_int aa.out o U Y
                cases aq;replace U:=eq_true U;replace Y:=eq_true Y;have X:0≤(z:Int):=oD zz156;have Z:z<(l0.length:Int):=oD zz156;obtain⟨ah,ar,av⟩:=Kd.at_int aa.out z X Z;obtain rfl:ag=ah:=(by injection ar);replace X:=eq_true X;replace Z:=eq_true Z;go_wp2
                repeat(go_quiet (fail);try go_wp2)
                go_ret
                exact⟨by first|rfl|(simp;done)|(simp[*];done),by repeat(first|exact Drawn0.refl _|apply Drawn0.step)⟩
               rw[if_neg ai] at H;have aE:=beq_eq_false_iff_ne.mpr ai;have aF:=bne_iff_ne.mpr ai;have H':=aM H;clear H;have U:0≤(o:Int):=oD zz156;have Y:o<(l0.length:Int):=oD zz156;obtain⟨ag,aq,au⟩:=Kd.at_int aa.out o U Y
               cases aq;replace U:=eq_true U;replace Y:=eq_true Y;have X:0≤(z:Int):=oD zz156;have Z:z<(l0.length:Int):=oD zz156;obtain⟨ah,ar,av⟩:=Kd.at_int aa.out z X Z;obtain rfl:ag=ah:=(by injection ar);replace X:=eq_true X;replace Z:=eq_true Z;go_wp2
               repeat(go_quiet (fail);try go_wp2)
               go_roundg k4
               case measure=>have:=HJ1.out;have:=HK2.out;have:=HK3.out;have:=HK4.out;omega
               case rel=>exact⟨(wrap64 (z+1)),zz157,H',⟨zz149⟩,by repeat(first|exact Drawn0.refl _|apply Drawn0.step)⟩
              rw[if_neg az] at H
              exact absurd H (by simp)
             rw[if_neg ay] at H
             exact absurd H (by simp)
            rw[if_neg ax] at H
            exact absurd H (by simp)
           rw[if_neg aw] at H
           exact absurd H (by simp)
          rw[if_neg aj] at H;have aD:=dF aj;clear aj;have H':=aM H;clear H;go_wp2
          repeat(go_quiet (fail);try go_wp2)
          go_roundg k4
          case measure=>have:=HJ1.out;have:=HK2.out;have:=HK3.out;have:=HK4.out;omega
          case rel=>exact⟨(wrap64 (o+1)),zz157,H',⟨zz149⟩,by repeat(first|exact Drawn0.refl _|apply Drawn0.step)⟩
       rw[if_neg c10] at H;have ak:=dF c10;clear c10;obtain rfl:=oI H;go_wp2
       repeat(go_quiet (fail);try go_wp2)
       go_ret
       exact⟨by first|rfl|(simp;done)|(simp[*];done),by repeat(first|exact Drawn0.refl _|apply Drawn0.step)⟩
def r09_SameInts.l0:Nat→List Int→List Int→Int→Option (Bool)
 |0,_,_,_=>none
 |k+1,x0,x1,x5=>if x5<(x0.length:Int) then(if 0≤x5 then(if x5<(x1.length:Int) then(if(rd x0 x5)=(rd x1 x5) then(r09_SameInts.l0 k x0 x1 (wrap64 (x5+1))) else(some false)) else(none)) else(none)) else(some true)
def r09_SameInts.f (k:Nat) (l0:List Int) (l1:List Int):Option (Bool):=if(l0.length:Int)=(l1.length:Int) then(r09_SameInts.l0 k l0 l1 0) else(some false)
theorem r09_SameInts.calls (k:Nat) (A0:Option Addr) (c0:Nat) (l0:List Int) (A1:Option Addr) (c1:Nat) (l1:List Int) (r:Bool) (w:World) (ah:Kd.C (Kd.int .i64) w A0 l0.length l0) (af:l0.length≤c0) (ai:Kd.C (Kd.int .i64) w A1 l1.length l1) (ag:l1.length≤c1) (h:r09_SameInts.f k l0 l1=some r):
    Calls Tryz.prog 20 #[.slice A0 l0.length c0,.slice A1 l1.length c1] w fun e w'=>e= .returned (.bool r)∧Drawn0 w w':=by
 have aa:=aM ah
 have al:=aM af
 clear ah af
 have ab:=aM ai
 have am:=aM ag
 clear ai ag
 have H:(if(l0.length:Int)=(l1.length:Int) then(r09_SameInts.l0 k l0 l1 0) else(some false))=some r:=h
 clear h
 by_cases c3:(l0.length:Int)=(l1.length:Int)
 ·rw [if_pos c3] at H
  have P:=beq_iff_eq.mpr c3;have U:=bne_eq_false_iff_eq.mpr c3;have X:(l0.length==l1.length)=true:=by first|simpa using c3|(simp at c3⊢;omega)
  clear c3;have H':=aM H;clear H
  go_enter Tryz.func20,Tryz.ntmps20
  go_wp2
  repeat(go_quiet (fail);try go_wp2)
  go_loopg [5] k (fun kq v5 w'=>∃(m:Int),v5= .int .i64 m∧Aside0 (r09_SameInts.l0 kq l0 l1 m=some r)∧Aside0 (kq≤k)∧Drawn0 w w')
  case atStart=>exact⟨(0),zz157,H',⟨Nat.le_refl _⟩,by repeat(first|exact Drawn0.refl _|apply Drawn0.step)⟩
  case round =>
   clear H';(try clear c1);(try clear c2);(try clear p2);(try clear c3);(try clear P);(try clear U);(try clear X);obtain⟨m,rfl,HA,HK1,⟨m1,rfl⟩⟩:=hrel
   cases gk with
   |zero=>exact absurd HA.out (by simp[r09_SameInts.l0])
   | succ k1=>
    have H:=HA.out;clear HA;simp only[r09_SameInts.l0] at H
    by_cases c4:m<(l0.length:Int)
    ·rw [if_pos c4] at H;have ac:=dT c4;clear c4
     by_cases c5:0≤m
     ·rw [if_pos c5] at H;have aj:=dT c5;clear c5
      by_cases c6:m<(l1.length:Int)
      ·rw [if_pos c6] at H;have ak:=dT c6;clear c6
       by_cases c7:(rd l0 m)=(rd l1 m)
       ·rw[if_pos c7] at H;have ad:=beq_iff_eq.mpr c7;have ae:=bne_eq_false_iff_eq.mpr c7;clear c7;have H':=aM H;clear H;have o:0≤(m:Int):=oD zz156;have B:m<(l0.length:Int):=oD zz156;obtain⟨Y,I,L⟩:=Kd.at_int aa.out m o B
        cases I;replace o:=eq_true o;replace B:=eq_true B;have z:0≤(m:Int):=oD zz156;have D:m<(l1.length:Int):=oD zz156;obtain⟨Z,J,O⟩:=Kd.at_int ab.out m z D
        cases J;replace z:=eq_true z;replace D:=eq_true D;go_wp2
        repeat(go_quiet (fail);try go_wp2)
        go_roundg k1
        case measure=>have:=HK1.out;omega
        case rel=>exact⟨(wrap64 (m+1)),zz157,H',⟨zz167⟩,by repeat(first|exact Drawn0.refl _|apply Drawn0.step)⟩
       rw[if_neg c7] at H;have ad:=beq_eq_false_iff_ne.mpr c7;have ae:=bne_iff_ne.mpr c7;obtain rfl:=oI H;have o:0≤(m:Int):=oD zz156;have B:m<(l0.length:Int):=oD zz156;obtain⟨Y,I,L⟩:=Kd.at_int aa.out m o B
       cases I;replace o:=eq_true o;replace B:=eq_true B;have z:0≤(m:Int):=oD zz156;have D:m<(l1.length:Int):=oD zz156;obtain⟨Z,J,O⟩:=Kd.at_int ab.out m z D
       cases J;replace z:=eq_true z;replace D:=eq_true D;go_wp2
       repeat(go_quiet (fail);try go_wp2)
       go_ret
       exact⟨by first|rfl|(simp;done)|(simp[*];done),by repeat(first|exact Drawn0.refl _|apply Drawn0.step)⟩
      rw[if_neg c6] at H
      exact absurd H (by simp)
     rw[if_neg c5] at H
     exact absurd H (by simp)
    rw[if_neg c4] at H;have ac:=dF c4;clear c4;obtain rfl:=oI H;go_wp2
    repeat(go_quiet (fail);try go_wp2)
    go_ret
    exact⟨by first|rfl|(simp;done)|(simp[*];done),by repeat(first|exact Drawn0.refl _|apply Drawn0.step)⟩
 rw[if_neg c3] at H
 have P:=beq_eq_false_iff_ne.mpr c3
 have U:=bne_iff_ne.mpr c3
 have X:(l0.length==l1.length)=false:=by first|simpa using c3|(simp at c3⊢;omega)
 obtain rfl:=oI H
 go_enter Tryz.func20,Tryz.ntmps20
 go_wp2
 repeat(go_quiet (fail);try go_wp2)
 go_ret
 exact⟨by first|rfl|(simp;done)|(simp[*];done),by repeat(first|exact Drawn0.refl _|apply Drawn0.step)⟩
def r09_SameRows.l0:Nat→List (List Int)→List (List Int)→Int→Option (Bool)
 |0,_,_,_=>none
 |k+1,x0,x1,x5=>if x5<(x0.length:Int) then(if 0≤x5 then(if x5<(x1.length:Int) then((r09_SameInts.f k (Zo x0 x5) (Zo x1 x5)).bind fun t211=>(if t211=true then(r09_SameRows.l0 k x0 x1 (wrap64 (x5+1))) else(some false))) else(none)) else(none)) else(some true)
def r09_SameRows.f (k:Nat) (l0:List (List Int)) (l1:List (List Int)):Option (Bool):=if(l0.length:Int)=(l1.length:Int) then(r09_SameRows.l0 k l0 l1 0) else(some false)
theorem r09_SameRows.calls (k:Nat) (A0:Option Addr) (c0:Nat) (l0:List (List Int)) (A1:Option Addr) (c1:Nat) (l1:List (List Int)) (r:Bool) (w:World) (aw:Kd.C (Kd.slice 3 (Kd.int .i64)) w A0 l0.length l0) (au:l0.length≤c0) (ax:Kd.C (Kd.slice 3 (Kd.int .i64)) w A1 l1.length l1) (av:l1.length≤c1) (h:r09_SameRows.f k l0 l1=some r):
    Calls Tryz.prog 21 #[.slice A0 l0.length c0,.slice A1 l1.length c1] w fun e w'=>e= .returned (.bool r)∧Drawn0 w w':=by
 have ao:=aM aw
 have aA:=aM au
 clear aw au
 have aq:=aM ax
 have aB:=aM av
 clear ax av
 have H:(if(l0.length:Int)=(l1.length:Int) then(r09_SameRows.l0 k l0 l1 0) else(some false))=some r:=h
 clear h
 by_cases c3:(l0.length:Int)=(l1.length:Int)
 ·rw [if_pos c3] at H
  have ah:=beq_iff_eq.mpr c3;have ai:=bne_eq_false_iff_eq.mpr c3;have aj:(l0.length==l1.length)=true:=by first|simpa using c3|(simp at c3⊢;omega)
  clear c3;have H':=aM H;clear H
  go_enter Tryz.func21,Tryz.ntmps21
  go_wp2
  repeat(go_quiet (fail);try go_wp2)
  go_loopg [5] k (fun kq v5 w'=>∃(m:Int),v5= .int .i64 m∧Aside0 (r09_SameRows.l0 kq l0 l1 m=some r)∧Aside0 (kq≤k)∧Drawn0 w w')
  case atStart=>exact⟨(0),zz157,H',⟨Nat.le_refl _⟩,by repeat(first|exact Drawn0.refl _|apply Drawn0.step)⟩
  case round =>
   clear H';(try clear c1);(try clear c2);(try clear p2);(try clear c3);(try clear ah);(try clear ai);(try clear aj);obtain⟨m,rfl,HA,HK1,⟨m1,rfl⟩⟩:=hrel
   cases gk with
   |zero=>exact absurd HA.out (by simp[r09_SameRows.l0])
   | succ k1=>
    have H:=HA.out;clear HA;simp only[r09_SameRows.l0] at H
    by_cases c4:m<(l0.length:Int)
    ·rw [if_pos c4] at H;have ar:=dT c4;clear c4
     by_cases c5:0≤m
     ·rw [if_pos c5] at H;have ay:=dT c5;clear c5
      by_cases c6:m<(l1.length:Int)
      ·rw [if_pos c6] at H;have az:=dT c6;clear c6;replace H:=oB H;obtain⟨ak,an,H⟩:=H;replace H:(if ak=true then(r09_SameRows.l0 k1 l0 l1 (wrap64 (m+1))) else(some false))=some r:=H;have A7:=aM an;clear an
       by_cases c8:ak=true
       ·subst c8;have H1:(r09_SameRows.l0 k1 l0 l1 (wrap64 (m+1)))=some r:=by rw[if_pos rfl] at H;exact H
        clear H;have H:=H1;clear H1;have H':=aM H;clear H;have P:0≤(m:Int):=oD zz156;have X:m<(l0.length:Int):=oD zz156;obtain⟨al,ad,af,Z,ab,L,I⟩:=ZY ao.out m P X
        cases Z;have B:=aM I;have o:=aM L;clear I L;replace P:=eq_true P;replace X:=eq_true X;have U:0≤(m:Int):=oD zz156;have Y:m<(l1.length:Int):=oD zz156;obtain⟨am,ae,ag,aa,ac,O,J⟩:=ZY aq.out m U Y
        cases aa;have D:=aM J;have z:=aM O;clear J O;replace U:=eq_true U;replace Y:=eq_true Y
        go_wp2_with (first|(go_at_call 20;(with_reducible refine(r09_SameInts.calls k1 _ _ (Zo l0 m) _ _ (Zo l1 m) true _ ?sa ?sb ?sc ?sd A7.out).mono ?_);(case sa=>exact zC B.out);(case sb=>exact o.out);(case sc=>exact zC D.out);(case sd=>exact z.out);rintro e w' ⟨rfl,⟨nd,rfl⟩⟩;(try first|exact⟨rfl,_,World.drewN_drewN _ _ _⟩|exact⟨rfl,_,Eq.trans (World.drewN_drewN _ _ _) (congrArg (World.drewN _) (Nat.add_assoc _ _ _))⟩)))
        repeat(go_quiet (first|(go_at_call 20;(with_reducible refine(r09_SameInts.calls k1 _ _ (Zo l0 m) _ _ (Zo l1 m) true _ ?sa ?sb ?sc ?sd A7.out).mono ?_);(case sa=>exact zC B.out);(case sb=>exact o.out);(case sc=>exact zC D.out);(case sd=>exact z.out);rintro e w' ⟨rfl,⟨nd,rfl⟩⟩;(try first|exact⟨rfl,_,World.drewN_drewN _ _ _⟩|exact⟨rfl,_,Eq.trans (World.drewN_drewN _ _ _) (congrArg (World.drewN _) (Nat.add_assoc _ _ _))⟩)));try go_wp2_with (first|(go_at_call 20;(with_reducible refine(r09_SameInts.calls k1 _ _ (Zo l0 m) _ _ (Zo l1 m) true _ ?sa ?sb ?sc ?sd A7.out).mono ?_);(case sa=>exact zC B.out);(case sb=>exact o.out);(case sc=>exact zC D.out);(case sd=>exact z.out);rintro e w' ⟨rfl,⟨nd,rfl⟩⟩;(try first|exact⟨rfl,_,World.drewN_drewN _ _ _⟩|exact⟨rfl,_,Eq.trans (World.drewN_drewN _ _ _) (congrArg (World.drewN _) (Nat.add_assoc _ _ _))⟩))))
        go_roundg k1
        case measure=>have:=HK1.out;omega
        case rel=>exact⟨(wrap64 (m+1)),zz157,H',⟨zz167⟩,by repeat(first|exact Drawn0.refl _|apply Drawn0.step)⟩
       replace c8:=Bool.eq_false_iff.mpr c8;subst c8;have H1:(some false)=some r:=by rw[if_neg (show¬(false=true) by decide)] at H;exact H
       clear H;have H:=H1;clear H1;obtain rfl:=oI H;have P:0≤(m:Int):=oD zz156;have X:m<(l0.length:Int):=oD zz156;obtain⟨al,ad,af,Z,ab,L,I⟩:=ZY ao.out m P X
       cases Z;have B:=aM I;have o:=aM L;clear I L;replace P:=eq_true P;replace X:=eq_true X;have U:0≤(m:Int):=oD zz156;have Y:m<(l1.length:Int):=oD zz156;obtain⟨am,ae,ag,aa,ac,O,J⟩:=ZY aq.out m U Y
       cases aa;have D:=aM J;have z:=aM O;clear J O;replace U:=eq_true U;replace Y:=eq_true Y
       go_wp2_with (first|(go_at_call 20;(with_reducible refine(r09_SameInts.calls k1 _ _ (Zo l0 m) _ _ (Zo l1 m) false _ ?sa ?sb ?sc ?sd A7.out).mono ?_);(case sa=>exact zC B.out);(case sb=>exact o.out);(case sc=>exact zC D.out);(case sd=>exact z.out);rintro e w' ⟨rfl,⟨nd,rfl⟩⟩;(try first|exact⟨rfl,_,World.drewN_drewN _ _ _⟩|exact⟨rfl,_,Eq.trans (World.drewN_drewN _ _ _) (congrArg (World.drewN _) (Nat.add_assoc _ _ _))⟩)))
       repeat(go_quiet (first|(go_at_call 20;(with_reducible refine(r09_SameInts.calls k1 _ _ (Zo l0 m) _ _ (Zo l1 m) false _ ?sa ?sb ?sc ?sd A7.out).mono ?_);(case sa=>exact zC B.out);(case sb=>exact o.out);(case sc=>exact zC D.out);(case sd=>exact z.out);rintro e w' ⟨rfl,⟨nd,rfl⟩⟩;(try first|exact⟨rfl,_,World.drewN_drewN _ _ _⟩|exact⟨rfl,_,Eq.trans (World.drewN_drewN _ _ _) (congrArg (World.drewN _) (Nat.add_assoc _ _ _))⟩)));try go_wp2_with (first|(go_at_call 20;(with_reducible refine(r09_SameInts.calls k1 _ _ (Zo l0 m) _ _ (Zo l1 m) false _ ?sa ?sb ?sc ?sd A7.out).mono ?_);(case sa=>exact zC B.out);(case sb=>exact o.out);(case sc=>exact zC D.out);(case sd=>exact z.out);rintro e w' ⟨rfl,⟨nd,rfl⟩⟩;(try first|exact⟨rfl,_,World.drewN_drewN _ _ _⟩|exact⟨rfl,_,Eq.trans (World.drewN_drewN _ _ _) (congrArg (World.drewN _) (Nat.add_assoc _ _ _))⟩))))
       go_ret
       exact⟨by first|rfl|(simp;done)|(simp[*];done),by repeat(first|exact Drawn0.refl _|apply Drawn0.step)⟩
      rw[if_neg c6] at H
      exact absurd H (by simp)
     rw[if_neg c5] at H
     exact absurd H (by simp)
    rw[if_neg c4] at H;have ar:=dF c4;clear c4;obtain rfl:=oI H;go_wp2
    repeat(go_quiet (fail);try go_wp2)
    go_ret
    exact⟨by first|rfl|(simp;done)|(simp[*];done),by repeat(first|exact Drawn0.refl _|apply Drawn0.step)⟩
 rw[if_neg c3] at H
 have ah:=beq_eq_false_iff_ne.mpr c3
 have ai:=bne_iff_ne.mpr c3
 have aj:(l0.length==l1.length)=false:=by first|simpa using c3|(simp at c3⊢;omega)
 obtain rfl:=oI H
 go_enter Tryz.func21,Tryz.ntmps21
 go_wp2
 repeat(go_quiet (fail);try go_wp2)
 go_ret
 exact⟨by first|rfl|(simp;done)|(simp[*];done),by repeat(first|exact Drawn0.refl _|apply Drawn0.step)⟩
end
end Go.Proofs.YtjjlhbgpdncpcaaGreat.P
namespace Go.Proofs.YtjjlhbgpdncpcaaGreat.P.M
def Tells {α:Type} (g:Nat→Option α) (v:α):Prop:=∃k0,∀k,k0≤k→g k=some v
theorem Tells.now {α:Type} {v:α} :Tells (fun _=>some v) v:=⟨0,fun _ _=>rfl⟩
theorem Tells.now' {α:Type} {v u:α} (h:v=u):Tells (fun _=>some v) u:=⟨0,fun _ _=>by rw[h]⟩
theorem Tells.eq {α:Type} {g:Nat→Option α} {v u:α} (h:Tells g v) (e:v=u):Tells g u:=e▸h
theorem Tells.step {α:Type} {g F:Nat→Option α} {v:α} (hg:∀k,g (k+1)=F k) (h:Tells F v):Tells g v:=by
 obtain⟨k0,h⟩:=h
 refine⟨k0+1,fun k hk=> ?_⟩
 obtain⟨j,rfl⟩:∃j,k=j+1:=⟨k-1,by omega⟩
 rw[hg,h j (by omega)]
theorem Tells.shift {α:Type} {g:Nat→Option α} {v:α} (h:Tells (fun k=>g (k+1)) v):Tells g v:=Tells.step (fun _=>rfl) h
theorem Tells.bind {α β:Type} {g:Nat→Option α} {h:Nat→α→Option β} {a:α} {v:β} (h1:Tells g a) (h2:Tells (fun k=>h k a) v):Tells (fun k=>(g k).bind (fun x=>h k x)) v:=by
 obtain⟨k1,h1⟩:=h1
 obtain⟨k2,h2⟩:=h2
 refine⟨max k1 k2,fun k hk=> ?_⟩
 show(g k).bind _=_
 rw[h1 k (by omega)]
 exact h2 k (by omega)
theorem Tells.pos {α:Type} {c:Prop} [Decidable c] {A B:Nat→Option α} {v:α} (hc:c) (h:Tells A v):Tells (fun k=>if c then A k else B k) v:=by simpa only[if_pos hc] using h
theorem Tells.neg {α:Type} {c:Prop} [Decidable c] {A B:Nat→Option α} {v:α} (hc:¬c) (h:Tells B v):Tells (fun k=>if c then A k else B k) v:=by simpa only[if_neg hc] using h
theorem Tells.mono {α:Type} {g:Nat→Option α} {v:α} (hm:∀k,LeO (g k) (g (k+1))) {k:Nat} (h:g k=some v):Tells g v:=by
 refine⟨k,fun j hj=> ?_⟩
 obtain⟨d,rfl⟩:∃d,j=k+d:=⟨j-k,by omega⟩
 clear hj
 induction d with
 |zero=>exact h
 |succ d ih=>exact hm _ _ ih
theorem Tells.some {α:Type} {g:Nat→Option α} {v:α} (h:Tells g v):∃k,g k=some v:=h.elim fun k hk=>⟨k,hk k (Nat.le_refl _)⟩
theorem rd_ap (l:List Int) (i:Int):rd l i=ap l i:=rfl
theorem w64 {n:Int} (h0: -9223372036854775808≤n) (h1:n≤9223372036854775807):wrap64 n=n:=by unfold wrap64;omega
theorem ap_set {l:List Int} {i:Int} (v:Int) (h0:0≤i) (h1:i<(l.length:Int)) {j:Int} (k0:0≤j):ap (l.set i.toNat v) j=if j=i then v else ap l j:=by
 have hi:i.toNat<l.length:=by omega
 by_cases e:j=i
 ·subst e
  rw[if_pos rfl,ap,List.getD_eq_getElem?_getD,List.getElem?_set_self hi];rfl
 rw[if_neg e,ap,List.getD_eq_getElem?_getD,List.getElem?_set_ne (by omega),←List.getD_eq_getElem?_getD];rfl
def Rg (n:Nat) (p:List Int):Prop:=∀x∈p,0≤x∧x<(n:Int)
theorem Rg.ap {n:Nat} {p:List Int} (h:Rg n p) {i:Int} (h0:0≤i) (h1:i<(p.length:Int)):0≤M.ap p i∧M.ap p i<n:=h _ (ap_mem h0 h1)
theorem Pm.rg {n:Nat} {p:List Int} (h:Pm n p):Rg n p:=h.2.1
theorem then_loop (p q:List Int) (hl:p.length≤4611686018427387904) (hr:Rg q.length p):∀(m i:Nat) (x:List Int),i+m=p.length→x.length=p.length→(∀j:Int,0≤j→j<i→ap x j=ap q (ap p j))→Tells (fun k=>perm_then.l0 k q x p (p.length:Int) (i:Int)) (mulL p q)
 | 0,i,x,hi,hx,hv=>by
  refine Tells.shift ?_;simp only[perm_then.l0]
  refine Tells.neg (by omega) (Tells.now' ?_)
  exact ap_ext hx (mul_len p q) (fun j h0 h1=>by rw[hv j h0 (by omega),ap_mul h0 h1])
 | m+1,i,x,hi,hx,hv=>by
  refine Tells.shift ?_;simp only[perm_then.l0];have hr':=hr.ap (i:=(i:Int)) (by omega) (by omega);simp only[rd_ap]
  refine Tells.pos (by omega) (Tells.pos (by omega) (Tells.pos (by omega) (Tells.pos hr'.1 (Tells.pos hr'.2 (Tells.pos (by omega) ?_)))));rw[w64 (n:=(i:Int)+1) (by omega) (by omega)]
  refine then_loop p q hl hr m (i+1) _ (by omega) zz164 (fun j h0 h1=> ?_);rw[ap_set _ (by omega) (by omega) h0]
  by_cases e:j=i
  ·rw[if_pos e,e]
  ·rw[if_neg e,hv j h0 (by omega)]
theorem then_tells (p q:List Int) (hl:p.length≤1000000) (hr:Rg q.length p):Tells (fun k=>perm_then.f k p q) (mulL p q):=by
 unfold perm_then.f
 refine Tells.pos (by omega) (Tells.pos (by omega) ?_)
 exact then_loop p q (by omega) hr p.length 0 _ (by omega) (by simp) (fun j h0 h1=>by omega)
theorem Then_loop (p q:List Int) (hl:p.length≤4611686018427387904) (hr:Rg q.length p):∀(m i:Nat) (x:List Int),i+m=p.length→x.length=p.length→(∀j:Int,0≤j→j<i→ap x j=ap q (ap p j))→Tells (fun k=>r30_Then.l0 k p q x (i:Int)) (mulL p q)
 | 0,i,x,hi,hx,hv=>by
  refine Tells.shift ?_;simp only[r30_Then.l0]
  refine Tells.neg (by omega) (Tells.now' ?_)
  exact ap_ext hx (mul_len p q) (fun j h0 h1=>by rw[hv j h0 (by omega),ap_mul h0 h1])
 | m+1,i,x,hi,hx,hv=>by
  refine Tells.shift ?_;simp only[r30_Then.l0];have hr':=hr.ap (i:=(i:Int)) (by omega) (by omega);simp only[rd_ap]
  refine Tells.pos (by omega) (Tells.pos (by omega) (Tells.pos hr'.1 (Tells.pos hr'.2 (Tells.pos (by omega) ?_))));rw[w64 (n:=(i:Int)+1) (by omega) (by omega)]
  refine Then_loop p q hl hr m (i+1) _ (by omega) zz164 (fun j h0 h1=> ?_);rw[ap_set _ (by omega) (by omega) h0]
  by_cases e:j=i
  ·rw[if_pos e,e]
  ·rw[if_neg e,hv j h0 (by omega)]
theorem Then_tells (p q:List Int) (hl:p.length≤1000000) (hr:Rg q.length p):Tells (fun k=>r30_Then.f k p q) (mulL p q):=by
 unfold r30_Then.f
 refine Tells.pos (by omega) (Tells.pos (by omega) ?_)
 exact Then_loop p q (by omega) hr p.length 0 _ (by omega) (by simp) (fun j h0 h1=>by omega)
theorem identity_loop (n:Nat) (hl:n≤4611686018427387904):∀(m i:Nat) (x:List Int),i+m=n→x.length=n→(∀j:Int,0≤j→j<i→ap x j=j)→Tells (fun k=>perm_identity.l0 k x (n:Int) (i:Int)) (idL n)
 | 0,i,x,hi,hx,hv=>by
  refine Tells.shift ?_;simp only[perm_identity.l0]
  refine Tells.neg (by omega) (Tells.now' ?_)
  exact ap_ext hx (idL_len n) (fun j h0 h1=>by rw[hv j h0 (by omega),ap_id h0 h1])
 | m+1,i,x,hi,hx,hv=>by
  refine Tells.shift ?_;simp only[perm_identity.l0]
  refine Tells.pos (by omega) (Tells.pos (by omega) (Tells.pos (by omega) ?_));rw[w64 (n:=(i:Int)+1) (by omega) (by omega)]
  refine identity_loop n hl m (i+1) _ (by omega) zz164 (fun j h0 h1=> ?_);rw[ap_set _ (by omega) (by omega) h0]
  by_cases e:j=i
  ·rw[if_pos e,e]
  ·rw[if_neg e,hv j h0 (by omega)]
theorem identity_tells (n:Nat) (hl:n≤1000000):Tells (fun k=>perm_identity.f k (n:Int)) (idL n):=by
 unfold perm_identity.f
 refine Tells.pos (by omega) (Tells.pos (by omega) (Tells.bind Tells.now ?_))
 rw[List.length_replicate,show((n:Int)).toNat=n by omega]
 exact identity_loop n (by omega) n 0 _ (by omega) (by simp) (fun j h0 h1=>by omega)
theorem Unit_loop (n:Nat) (hl:n≤4611686018427387904):∀(m i:Nat) (x:List Int),i+m=n→x.length=n→(∀j:Int,0≤j→j<i→ap x j=j)→Tells (fun k=>r30_Unit.l0 k (n:Int) x (i:Int)) (idL n)
 | 0,i,x,hi,hx,hv=>by
  refine Tells.shift ?_;simp only[r30_Unit.l0]
  refine Tells.neg (by omega) (Tells.now' ?_)
  exact ap_ext hx (idL_len n) (fun j h0 h1=>by rw[hv j h0 (by omega),ap_id h0 h1])
 | m+1,i,x,hi,hx,hv=>by
  refine Tells.shift ?_;simp only[r30_Unit.l0]
  refine Tells.pos (by omega) (Tells.pos (by omega) (Tells.pos (by omega) ?_));rw[w64 (n:=(i:Int)+1) (by omega) (by omega)]
  refine Unit_loop n hl m (i+1) _ (by omega) zz164 (fun j h0 h1=> ?_);rw[ap_set _ (by omega) (by omega) h0]
  by_cases e:j=i
  ·rw[if_pos e,e]
  ·rw[if_neg e,hv j h0 (by omega)]
theorem Unit_tells (n:Nat) (hl:n≤1000000):Tells (fun k=>r30_Unit.f k (n:Int)) (idL n):=by
 unfold r30_Unit.f
 refine Tells.pos (by omega) (Tells.pos (by omega) ?_)
 rw[show((n:Int)).toNat=n by omega]
 exact Unit_loop n (by omega) n 0 _ (by omega) (by simp) (fun j h0 h1=>by omega)
theorem inv_end {n:Nat} {p x:List Int} (hp:Pm n p) (hx:x.length=n) (hv:∀j:Int,0≤j→j<n→ap x (ap p j)=j):x=invL p:=by
 refine ap_ext hx hp.inv.1 (fun i h0 h1=> ?_)
 rw[hp.ap_inv h0 h1]
 have h:=hp.idx h0 h1
 conv=>lhs;rw[←h.2]
 exact hv _ (by omega) (by omega)
theorem inverse_loop {n:Nat} {p:List Int} (hp:Pm n p) (hl:n≤4611686018427387904):∀(m i:Nat) (x:List Int),i+m=n→x.length=n→(∀j:Int,0≤j→j<i→ap x (ap p j)=j)→Tells (fun k=>perm_inverse.l0 k x p (n:Int) (i:Int)) (invL p)
 | 0,i,x,hi,hx,hv=>by
  refine Tells.shift ?_;simp only[perm_inverse.l0]
  exact Tells.neg (by omega) (Tells.now' (inv_end hp hx (fun j h0 h1=>hv j h0 (by omega))))
 | m+1,i,x,hi,hx,hv=>by
  refine Tells.shift ?_;simp only[perm_inverse.l0];have hr:=hp.rng (i:=(i:Int)) (by omega) (by omega);have hpl:=hp.1;simp only[rd_ap]
  refine Tells.pos (by omega) (Tells.pos (by omega) (Tells.pos (by omega) (Tells.pos hr.1 (Tells.pos (by omega) ?_))));rw[w64 (n:=(i:Int)+1) (by omega) (by omega)]
  refine inverse_loop hp hl m (i+1) _ (by omega) zz164 (fun j h0 h1=> ?_);have hj:=hp.rng (i:=j) h0 (by omega);rw[ap_set _ hr.1 (by omega) hj.1]
  by_cases e:j=i
  ·rw[if_pos (by rw[e]),e]
  ·rw[if_neg (fun k=>e (hp.inj h0 (by omega) (by omega) (by omega) k)),hv j h0 (by omega)]
theorem inverse_tells {n:Nat} {p:List Int} (hp:Pm n p) (hl:n≤1000000):Tells (fun k=>perm_inverse.f k p) (invL p):=by
 unfold perm_inverse.f
 have hpl:=hp.1
 refine Tells.pos (by omega) (Tells.pos (by omega) ?_)
 rw[hpl]
 exact inverse_loop hp (by omega) n 0 _ (by omega) (by simp) (fun j h0 h1=>by omega)
theorem Back_loop {n:Nat} {p:List Int} (hp:Pm n p) (hl:n≤4611686018427387904):∀(m i:Nat) (x:List Int),i+m=n→x.length=n→(∀j:Int,0≤j→j<i→ap x (ap p j)=j)→Tells (fun k=>r30_Back.l0 k p x (i:Int)) (invL p)
 | 0,i,x,hi,hx,hv=>by
  refine Tells.shift ?_;simp only[r30_Back.l0];have hpl:=hp.1
  exact Tells.neg (by omega) (Tells.now' (inv_end hp hx (fun j h0 h1=>hv j h0 (by omega))))
 | m+1,i,x,hi,hx,hv=>by
  refine Tells.shift ?_;simp only[r30_Back.l0];have hr:=hp.rng (i:=(i:Int)) (by omega) (by omega);have hpl:=hp.1;simp only[rd_ap]
  refine Tells.pos (by omega) (Tells.pos (by omega) (Tells.pos hr.1 (Tells.pos (by omega) ?_)));rw[w64 (n:=(i:Int)+1) (by omega) (by omega)]
  refine Back_loop hp hl m (i+1) _ (by omega) zz164 (fun j h0 h1=> ?_);have hj:=hp.rng (i:=j) h0 (by omega);rw[ap_set _ hr.1 (by omega) hj.1]
  by_cases e:j=i
  ·rw[if_pos (by rw[e]),e]
  ·rw[if_neg (fun k=>e (hp.inj h0 (by omega) (by omega) (by omega) k)),hv j h0 (by omega)]
theorem Back_tells {n:Nat} {p:List Int} (hp:Pm n p) (hl:n≤1000000):Tells (fun k=>r30_Back.f k p) (invL p):=by
 unfold r30_Back.f
 have hpl:=hp.1
 refine Tells.pos (by omega) (Tells.pos (by omega) ?_)
 rw[hpl]
 exact Back_loop hp (by omega) n 0 _ (by omega) (by simp) (fun j h0 h1=>by omega)
theorem take_succ_ap {x y:List Int} {i:Nat} (hx:i<x.length) (hy:i<y.length):x.take (i+1)=y.take (i+1)↔x.take i=y.take i∧ap x i=ap y i:=by
 rw[ap_nat,ap_nat,List.take_succ_eq_append_getElem hx,List.take_succ_eq_append_getElem hy,List.getD_eq_getElem?_getD,List.getD_eq_getElem?_getD,List.getElem?_eq_getElem hx,List.getElem?_eq_getElem hy,Option.getD_some,Option.getD_some]
 constructor
 ·intro h
  have:=List.append_inj h (by rw[List.length_take,List.length_take];omega)
  exact⟨this.1,by simpa using this.2⟩
 ·rintro ⟨h1,h2⟩;rw[h1,h2]
theorem same_loop (x y:List Int) (hxy:x.length=y.length) (hl:x.length≤4611686018427387904):∀(m i:Nat),i+m=x.length→x.take i=y.take i→Tells (fun k=>r09_SameInts.l0 k x y (i:Int)) (decide (x=y))
 | 0,i,hi,ht=>by
  refine Tells.shift ?_;simp only[r09_SameInts.l0]
  refine Tells.neg (by omega) (Tells.now' ?_);rw[List.take_of_length_le (by omega),List.take_of_length_le (by omega)] at ht
  exact(dT ht).symm
 | m +1,i,hi,ht=>by
  refine Tells.shift ?_;simp only[r09_SameInts.l0];simp only[rd_ap]
  refine Tells.pos (by omega) (Tells.pos (by omega) (Tells.pos (by omega) ?_))
  by_cases e:ap x i=ap y i
  ·refine Tells.pos e ?_;rw[w64 (n:=(i:Int)+1) (by omega) (by omega)]
   exact same_loop x y hxy hl m (i+1) (by omega) ((take_succ_ap (by omega) (by omega)).2 ⟨ht,e⟩)
  ·refine Tells.neg e (Tells.now' ?_)
   refine(dF (fun h=>e ?_)).symm;rw[h]
theorem SameInts_tells (x y:List Int) (hl:x.length≤4611686018427387904):Tells (fun k=>r09_SameInts.f k x y) (decide (x=y)):=by
 unfold r09_SameInts.f
 by_cases h:x.length=y.length
 ·exact Tells.pos (by omega) (same_loop x y h hl x.length 0 (by omega) rfl)
 exact Tells.neg (by omega) (Tells.now' (dF (fun e=>h (by rw[e]))).symm)
theorem rows_loop (x y:List (List Int)) (hxy:x.length=y.length) (hl:x.length≤4611686018427387904) (hr:∀r∈x,r.length≤4611686018427387904):∀(m i:Nat),i+m=x.length→x.take i=y.take i→Tells (fun k=>r09_SameRows.l0 k x y (i:Int)) (decide (x=y))
 | 0,i,hi,ht=>by
  refine Tells.shift ?_;simp only[r09_SameRows.l0]
  refine Tells.neg (by omega) (Tells.now' ?_);rw[List.take_of_length_le (by omega),List.take_of_length_le (by omega)] at ht
  exact(dT ht).symm
 | m +1,i,hi,ht=>by
  refine Tells.shift ?_;simp only[r09_SameRows.l0];have hx:i<x.length:=by omega
  have hy:i<y.length:=by omega
  have ex:Zo x (i:Int)=x[i]:=by simp[Zo,hx]
  have ey:Zo y (i:Int)=y[i]:=by simp[Zo,hy]
  rw[ex,ey]
  refine Tells.pos (by omega) (Tells.pos (by omega) (Tells.pos (by omega) (Tells.bind (SameInts_tells _ _ (hr _ (List.getElem_mem hx))) ?_)))
  by_cases e:x[i]=y[i]
  ·refine Tells.pos (by rw[dT e]) ?_;rw[w64 (n:=(i:Int)+1) (by omega) (by omega)]
   refine rows_loop x y hxy hl hr m (i+1) (by omega) ?_;rw[List.take_succ_eq_append_getElem hx,List.take_succ_eq_append_getElem hy,ht,e]
  ·refine Tells.neg (by rw[dF e];decide) (Tells.now' ?_)
   refine(dF (fun h=>e ?_)).symm;simp only[h]
theorem SameRows_tells (x y:List (List Int)) (hl:x.length≤4611686018427387904) (hr:∀r∈x,r.length≤4611686018427387904):Tells (fun k=>r09_SameRows.f k x y) (decide (x=y)):=by
 unfold r09_SameRows.f
 by_cases h:x.length=y.length
 ·exact Tells.pos (by omega) (rows_loop x y h hl hr x.length 0 (by omega) rfl)
 exact Tells.neg (by omega) (Tells.now' (dF (fun e=>h (by rw[e]))).symm)
end Go.Proofs.YtjjlhbgpdncpcaaGreat.P.M
namespace Go.Proofs.YtjjlhbgpdncpcaaGreat.P
mutual
def visitL:Nat→Tw→List Int→Int→Option Tw
 |0,_,_,_=>none
 | k +1,T,p,b=>if 0≤b then(if b<(p.length:Int) then(if 0≤rd p b then(if rd p b<T.n then(if b<T.n then(
     if T.rep b (rd p b)= [] then visitLoop k (T.setRep b (rd p b) p) p b 0
     else(perm_inverse.f k (T.rep b (rd p b))).bind fun i=>(perm_then.f k p i).bind fun q=>insertL k T q (b+1))
     else none) else none) else none) else none) else none
def visitLoop:Nat→Tw→List Int→Int→Int→Option Tw
 |0,_,_,_,_=>none
 |k+1,T,p,b,j=>if b<T.n then(if j<((T.gen b).length:Int) then(perm_then.f k p (Zo (T.gen b) j)).bind fun q=>(visitL k T q b).bind fun T'=>visitLoop k T' p b (j+1) else some T) else none
def insertL:Nat→Tw→List Int→Int→Option Tw
 |0,_,_,_=>none
 |k+1,T,p,b=>(stripL k T p b).bind fun e=>if e=T.n then some T else(if 0≤b then(if b<T.n then(if(T.gen b).length<1000000 then insertLoop k (T.addGen b p) (T.row b) p b 0 else none) else none) else none)
def insertLoop:Nat→Tw→List (List Int)→List Int→Int→Int→Option Tw
 |0,_,_,_,_,_=>none
 |k+1,T,rs,p,b,i=>if i<(rs.length:Int) then(if Zo rs i= [] then insertLoop k T rs p b (i+1) else(perm_then.f k (Zo rs i) p).bind fun q=>(visitL k T q b).bind fun T'=>insertLoop k T' rs p b (i+1)) else some T
end
theorem own_max {w:World} {base:Nat} {e:TypeId} {n:Nat} {v:Value} {xs:List Value} (h:w.ownsRow base e 1 v n xs):n≤9223372036854775807:=by
 rcases h.2 with⟨_,h1⟩|⟨g',cap',cur,he,_,_,h1,h2,_⟩
 ·have:=h.1
  rw[h1] at this;simp at this;omega
 ·simp only[maxLen] at h2
  omega
theorem then_len0:∀(k:Nat) (l1 x5 l0:List Int) (n j:Int) (r:List Int),perm_then.l0 k l1 x5 l0 n j=some r→r.length=x5.length:=by
 intro k
 induction k with
 |zero=>intro l1 x5 l0 n j r h;simp[perm_then.l0] at h
 | succ k ih=>
  intro l1 x5 l0 n j r h;simp only[perm_then.l0] at h
  repeat' split at h
  all_goals first
   |(cases h;done)
   |(have:=ih _ _ _ _ _ _ h;simpa using this)
   |(obtain rfl:=oI h;rfl)
theorem then_len {k:Nat} {p q r:List Int} (h:perm_then.f k p q=some r):r.length=p.length:=by
 unfold perm_then.f at h
 repeat' split at h
 all_goals first
  |(cases h;done)
  |(have:=then_len0 _ _ _ _ _ _ _ h;simpa using this)
def TwPost (base:Nat) (w:World) (bt bR bG:Nat) (rb:Nat→Nat) (n:Nat) (vg:Nat→Value) (T':Tw) (e:Ending) (w':World):Prop:=e= .returned (.tuple #[])∧∃vr' vg',TwAt base w' bt bR bG rb vr' vg' T'∧Keep base w w'∧TwFr n rb bG vg w vg' w'∧T'.n=n
abbrev VisitOk (k:Nat):Prop:=∀ {base bt bR bG:Nat} {rb:Nat→Nat} {vr:Nat→Nat→Value} {vg:Nat→Value} {T:Tw} (A0:Option Addr) (c0:Nat) (p:List Int) (b:Int) (T':Tw) (w:World),
    TwAt base w bt bR bG rb vr vg T→LeafN base w (.slice A0 p.length c0) p→visitL k T p b=some T'→
    Calls Tryz.prog 70 #[.pointer (some ⟨bt,0,none⟩),.slice A0 p.length c0,.int .i64 b] w (TwPost base w bt bR bG rb T.n vg T')
abbrev InsertOk (k:Nat):Prop:=∀ {base bt bR bG:Nat} {rb:Nat→Nat} {vr:Nat→Nat→Value} {vg:Nat→Value} {T:Tw} (A0:Option Addr) (c0:Nat) (p:List Int) (b:Int) (T':Tw) (w:World),
    TwAt base w bt bR bG rb vr vg T→Leaf base w (.slice A0 p.length c0) p→insertL k T p b=some T'→
    Calls Tryz.prog 47 #[.pointer (some ⟨bt,0,none⟩),.slice A0 p.length c0,.int .i64 b] w (TwPost base w bt bR bG rb T.n vg T')
theorem visit_step (k : Nat) (ihv:∀m,m≤k→VisitOk m) (ihi:∀m,m≤k→InsertOk m):VisitOk (k+1):=by
 intro base bt bR bG rb vr vg T A0 c0 p b T' w hT hp h
 have HT:=aM hT
 have HP:=aM hp
 have IHV:=aM ihv
 have IHI:=aM ihi
 clear hT ihv ihi
 obtain⟨A0',c0',aJ,au,ay⟩:=hp.leaf.reads
 injection aJ with ea eb ec
 subst ea ec
 have HR:=aM ay
 have HC:=aM au
 clear ay au hp eb
 simp only[visitL] at h
 by_cases c1:0≤b
 ·rw [if_pos c1] at h
  by_cases c2:b<(p.length:Int)
  ·rw [if_pos c2] at h
   by_cases c3:0≤rd p b
   ·rw [if_pos c3] at h
    by_cases c4:rd p b<(T.n:Int)
    ·rw [if_pos c4] at h
     by_cases c5:b<(T.n:Int)
     ·rw [if_pos c5] at h;obtain⟨ad,e1,aR⟩:=Kd.at_int HR.out b c1 c2
      cases e1;have aL:=HT.out.cell1;have aN:=HT.out.cellR c1 c5;have al:=HT.out.cellr c1 c5 c3 c4;have hL:=HT.out.leafr c1 c5 c3 c4;have aQ:=HT.out.n64;have p1:=eq_true c1;have p2:=eq_true c2;have p3:=eq_true c3;have p4:=eq_true c4;have p5:=eq_true c5
      by_cases c6:T.rep b (rd p b)= []
      ·rw [if_pos c6] at h;obtain⟨A2,c2',hv,X,aK,hnil⟩:=hL;have aA:=hnil c6;rw[aA] at al;have hq:=fun W=>Ya W none 0 0
       clear hv aA hnil aK X c6;have H':=aM h;clear h;have hfz:w.frozen? ⟨rb b.toNat,(rd p b).toNat,none⟩=false:=Zb (HT.out.hr b.toNat (by omega)) _
       go_enter Tryz.func70,Tryz.ntmps70
       go_wp2_with (fail)
       have hS:=HT.out.set_rep c1 c5 c3 c4 HP.out;generalize hwq:w.setCell ⟨rb b.toNat,(rd p b).toNat,none⟩ (Value.slice (some ad) p.length c0)=wq at hS⊢;clear hwq;have HTq:=aM hS.1;have HKq:=aM hS.2.1;have HFq:=aM hS.2.2;clear hS aL aN al hfz hq
       go_loopg [7] k (fun kq v7 w'=>∃(T1:Tw) (j:Int) (an:Nat→Nat→Value) (U:Nat→Value),v7= .int .i64 j∧Aside0 (0≤j)∧Aside0 (visitLoop kq T1 p b j=some T')∧Aside0 (kq≤k)∧Aside0 (TwAt base w' bt bR bG rb an U T1)∧Aside0 (Keep base w w')∧Aside0 (TwFr T.n rb bG vg w U w')∧Aside0 (T1.n=T.n))
       case atStart=>exact⟨_,0,_,_,rfl,⟨by omega⟩,H',⟨Nat.le_refl _⟩,HTq,HKq,HFq,⟨rfl⟩⟩
       case round =>
        clear H' HTq HKq HFq;obtain⟨T1,j,an,U,rfl,aq,HA,HK1,o,HKe,HFe,ac⟩:=hrel
        cases gk with
        |zero=>exact absurd HA.out (by simp[visitLoop])
        | succ k1=>
         have H:=HA.out;clear HA;simp only[visitLoop] at H;have j0:=aq.out;have aS:=o.out.cell2
         by_cases d1:b<(T1.n:Int)
         ·rw [if_pos d1] at H;have aB:=o.out.cellG c1 d1;have q1:=eq_true d1;obtain⟨inner,ho,hin⟩:=o.out.hg b.toNat (by omega);have hgen:T1.gens.getD b.toNat []=T1.gen b:=rfl;rw[hgen] at ho hin;clear hgen
          by_cases d2:j<((T1.gen b).length:Int)
          ·rw [if_pos d2] at H;have q0:=eq_true j0;have q2:=eq_true d2;have aP:decide (j<((T1.gen b).length:Int))=true:=dT d2;obtain⟨g,cap,hvg,hgb,hgl⟩:=ho.form (show 0<(T1.gen b).length by omega);have hmax:(T1.gen b).length≤9223372036854775807:=own_max ho;obtain⟨u,hu,hfu⟩:=hin j.toNat (Zo (T1.gen b) j) (by simp[Zo,List.getD_eq_getElem?_getD,List.getElem?_eq_getElem (show j.toNat<(T1.gen b).length by omega)]);have aO:=ho.cells (g:=g) (by rw[hvg];rfl) j.toNat u hu;rw[Z5] at aO;obtain⟨Au,cu,rfl,hlu,hru⟩:=hfu.reads;have hvg':U b.toNat= .slice (some ⟨g,0,none⟩) (T1.gen b).length cap:=hvg;rw[hvg'] at aB;have HRu:=aM hru;have HLu:=aM hlu;clear hvg hvg' hru hlu hfu hu hin ho hgb hgl;replace H:=oB H;obtain⟨q,P,H⟩:=H;replace H:=oB H;obtain⟨T2,ax,H⟩:=H;have H':=aM H;have D:=aM P;have aH:=aM ax;clear H P ax
           go_wp2_with (first
            |(go_at_call 35;(with_reducible refine(perm_then.calls k1 _ _ p _ _ (Zo (T1.gen b) j) q _ ?s1 ?s2 ?s3 ?s4 D.out).mono ?_);(case s1=>exact(HP.out.keep HKe.out).leaf.C.1);(case s2=>exact HC.out);(case s3=>exact HRu.out);(case s4=>exact HLu.out);rintro e w4 ⟨v4,rfl,B,z⟩;have HLf:=aM (LeafN.of_R (base:=base) B o.out.base_le (by rw[←List.length_pos_iff,then_len D.out];omega));obtain⟨A4,c4,rfl,aj,ak⟩:=Kd.R_reads B;have af:=aM (o.out.below z);have HK4:=aM (HKe.out.trans (Keep.of_below o.out.base_le z));have Z:=aM (HFe.out.trans (TwFr.of_below z));clear B z ak aj)
            |(go_at_call 70;(with_reducible refine(IHV.out k1 zz167 A4 c4 q b T2 _ af.out HLf.out aH.out).mono ?_);rintro e w5 ⟨rfl,ao,am,L,J,I,O⟩;have ag:=aM L;have ab:=aM (HK4.out.trans J);have aa:=aM (Z.out.trans (ac.out▸I));have ae:=aM (O.trans ac.out);clear L J I O))
           go_roundg k1
           case measure=>have:=HK1.out;omega
           case rel=>exact⟨T2,j+1,ao,am,rfl,⟨by have:=aq.out;omega⟩,H',⟨by have:=HK1.out;omega⟩,ag,ab,aa,ae⟩
          rw[if_neg d2] at H;obtain rfl:=oI H;have aP:decide (j<((T1.gen b).length:Int))=false:=dF d2;obtain⟨Ag,cg,hvg⟩:=own_slice ho;rw[hvg] at aB;have q0:=eq_true j0;clear hvg;go_wp2
          go_end0
          exact⟨rfl,an,U,o.out,HKe.out,HFe.out,ac.out⟩
         rw[if_neg d1] at H;cases H
      rw[if_neg c6] at h;replace h:=oB h;obtain⟨i1,ar,h⟩:=h;replace h:=oB h;obtain⟨q,P,h⟩:=h;obtain⟨A2,c2',hv,X,ah⟩:=hL.reads;obtain⟨aI,rfl⟩:=C_some ah c6;rw[hv] at al;have hq:=fun W=>Ya W (some aI) (T.rep b (rd p b)).length c2'
      have Hi:=aM ar;have D:=aM P;have H':=aM h;have aC:=aM ah;have aD:=aM X;clear hv c6 h ar P ah X hL
      go_enter Tryz.func70,Tryz.ntmps70
      go_wp2_with (first
       |(go_at_call 43;(with_reducible refine(perm_inverse.calls k _ _ (T.rep b (rd p b)) i1 _ ?s1 ?s2 Hi.out).mono ?_);(case s1=>exact aC.out);(case s2=>exact aD.out);rintro e w3 ⟨v3,rfl,aw,ai⟩;obtain⟨A3,c3',rfl,av,az⟩:=Kd.R_reads aw;have aG:=aM az;have aE:=aM av;have HB3:=aM ai;have aF:=aM (Kd.C_below HR.out ai);clear aw ai az av)
       |(go_at_call 35;(with_reducible refine(perm_then.calls k _ _ p _ _ i1 q _ ?s1 ?s2 ?s3 ?s4 D.out).mono ?_);(case s1=>exact aF.out);(case s2=>exact HC.out);(case s3=>exact aG.out);(case s4=>exact aE.out);rintro e w4 ⟨v4,rfl,B,z⟩;have HLf:=aM (Leaf.of_R (base:=base) B (by rw[←List.length_pos_iff,then_len D.out];omega));obtain⟨A4,c4',rfl,aj,ak⟩:=Kd.R_reads B;have Y:=aM (Zd HB3.out z);have af:=aM (HT.out.below Y.out);have HK4:=aM (Keep.of_below HT.out.base_le Y.out);have Z:=aM (TwFr.of_below (n:=T.n) (rb:=rb) (bG:=bG) (vg:=vg) Y.out);clear B z ak aj)
       |(go_at_call 47;(with_reducible refine(IHI.out k (Nat.le_refl _) A4 c4' q (b+1) T' _ af.out HLf.out H'.out).mono ?_);rintro e w5 ⟨rfl,ao,am,L,J,I,O⟩;have ag:=aM L;have ab:=aM (HK4.out.trans J);have aa:=aM (Z.out.trans I);have ae:=aM O;clear L J I O))
      go_end0
      exact⟨rfl,ao,am,ag.out,ab.out,aa.out,ae.out⟩
     rw[if_neg c5] at h;cases h
    rw[if_neg c4] at h;cases h
   rw[if_neg c3] at h;cases h
  rw[if_neg c2] at h;cases h
 rw[if_neg c1] at h;cases h
def bestL:Nat→Tw→Int→List Int→Int→Int→Option Int
 |0,_,_,_,_,_=>none
 |k+1,T,c,p,x,best=>if x<T.n then(if T.rep c x= [] then bestL k T c p (x+1) best else(if x<(p.length:Int) then(if 0≤best then(if best<(p.length:Int) then(if rd p x<rd p best then bestL k T c p (x+1) x else bestL k T c p (x+1) best) else none) else none) else none)) else some best
def canonL:Nat→Tw→List Int→Int→Option (List Int)
 |0,_,_,_=>none
 |k+1,T,p,c=>if c<T.n then(if 0≤c then((bestL k T c p 0 c).bind fun best=>if 0≤best then(if best<T.n then((perm_then.f k (T.rep c best) p).bind fun q=>canonL k T q (c+1)) else none) else none) else none) else some p
def LeafOk (ok:Nat→Prop) (w:World) (v:Value) (l:List Int):Prop:=∃A c,v= .slice A l.length c∧l.length≤c∧Kd.F (Kd.int .i64) w ok A l.length l
theorem LeafOk.below {ok:Nat→Prop} {w w1:World} {v:Value} {l:List Int} (h:LeafOk ok w v l) (hb:Below w.heap.size w w1):LeafOk ok w1 v l:=by
 obtain⟨A,c,rfl,hl,hf⟩:=h
 exact⟨A,c,rfl,hl,Kd.F_below hf hb⟩
theorem LeafOk.mono {ok ok':Nat→Prop} {w:World} {v:Value} {l:List Int} (h:LeafOk ok w v l) (hk:∀k,ok k→ok' k):LeafOk ok' w v l:=by
 obtain⟨A,c,rfl,hl,hf⟩:=h
 exact⟨A,c,rfl,hl,Kd.F_mono hf hk⟩
theorem LeafOk.C {ok:Nat→Prop} {w:World} {A:Option Addr} {c:Nat} {l:List Int} (h:LeafOk ok w (.slice A l.length c) l):(Kd.int .i64).C w A l.length l∧l.length≤c:=by
 obtain⟨A',c',e,hl,hr⟩:=h
 injection e with ea eb ec
 subst ea ec
 exact⟨Kd.F_now hr,hl⟩
theorem LeafOk.of_R {b:Nat} {w:World} {ok:Nat→Prop} {v:Value} {l:List Int} (h:(Kd.int .i64).R 3 w b ok v l):LeafOk (fun k=>b≤k) w v l:=by
 obtain⟨A,c,rfl,hc,hr⟩:=Kd.R_reads h
 exact⟨A,c,rfl,hc,Kd.F_mono (Kd.R_F (Kd.R_bound h)) (fun k hk=>hk.2.1)⟩
theorem LeafN.ok {base:Nat} {w:World} {v:Value} {l:List Int} (h:LeafN base w v l):LeafOk (fun k=>base≤k∧k<w.heap.size) w v l:=by
 obtain⟨A,c,rfl,hl,hf,_⟩:=h
 exact⟨A,c,rfl,hl,Kd.F_mono (Kd.F_bound hf) (fun k hk=>⟨hk.1.1,hk.2⟩)⟩
def CanonPost (okp:Nat→Prop) (w:World) (r:List Int) (e:Ending) (w':World):Prop:=∃v,e= .returned v∧LeafOk (fun k=>okp k∨w.heap.size≤k) w' v r∧Below w.heap.size w w'
theorem canon_calls {base:Nat} {bt bR bG:Nat} {rb:Nat→Nat} {vr:Nat→Nat→Value} {vg:Nat→Value} {T:Tw} (k:Nat) (A0:Option Addr) (c0:Nat) (p:List Int) (b:Int) (r:List Int) (w:World)
    (okp:Nat→Prop) (hT:TwAt base w bt bR bG rb vr vg T) (hp:LeafOk okp w (.slice A0 p.length c0) p) (ag:0≤b) (ah:b<T.n) (h:canonL k T p (b+1)=some r):
    Calls Tryz.prog 71 #[.pointer (some ⟨bt,0,none⟩),.slice A0 p.length c0,.int .i64 b] w (CanonPost okp w r):=by
 have HT:=aM hT
 have HP:=aM (hp.mono (ok':=fun k=>okp k∨w.heap.size≤k) (fun k hk=> .inl hk))
 have H':=aM h
 have HB:=aM (Below.refl w.heap.size w)
 have ao:=hT.n64
 clear hT hp h
 go_enter Tryz.func71,Tryz.ntmps71
 go_wp2
 go_loopg [1,7] k (fun kq v1 v7 w'=>∃(q:List Int) (A1:Option Addr) (c1:Nat) (c:Int),v1= .slice A1 q.length c1∧v7= .int .i64 c∧Aside0 (0≤c)∧Aside0 (canonL kq T q c=some r)∧Aside0 (kq≤k)∧Aside0 (LeafOk (fun k=>okp k∨w.heap.size≤k) w' (.slice A1 q.length c1) q)∧Aside0 (Below w.heap.size w w'))
 case atStart=>exact⟨p,A0,c0,b+1,rfl,rfl,⟨by omega⟩,H',⟨Nat.le_refl _⟩,HP,HB⟩
 case round =>
  clear H' HB HP ag ah;obtain⟨q,A1,c1,c,rfl,rfl,D,HA,HK1,HP,HB⟩:=hrel;obtain⟨wo,rfl⟩:∃wo:World,wo=wr:=⟨_,rfl⟩
  cases gk with
  |zero=>exact absurd HA.out (by simp[canonL])
  | succ k1=>
   have H:=HA.out;clear HA;simp only[canonL] at H;have HTr:=aM (HT.out.below HB.out);have al:=HTr.out.cell0;have c0':=D.out;have HR:=aM HP.out.C.1;have HC:=aM HP.out.C.2
   by_cases d1:c<(T.n:Int)
   ·rw [if_pos d1, if_pos c0'] at H;have ac:decide (c<(T.n:Int))=true:=dT d1;have p0:=eq_true c0';have p1:=eq_true d1;replace H:=oB H;obtain⟨best,hbest,H⟩:=H;have HH:=aM H;have HBE:=aM hbest;have O:=HTr.out.cell1;have P:=HTr.out.cellR c0' d1;have aq:=HTr.out.n1;clear H hbest;go_wp2
    go_loopg [8,30] k1 (fun kq v8 an w'=>∃(x be:Int),v8= .int .i64 be∧an= .int .i64 x∧Aside0 (0≤x)∧Aside0 (bestL kq T c q x be=some best)∧Aside0 (kq≤k1)∧Aside0 (Drawn0 wo w'))
    case atStart=>exact⟨0,c,rfl,rfl,⟨by omega⟩,HBE,⟨Nat.le_refl _⟩,⟨Drawn0.refl _⟩⟩
    case round =>
     clear HBE al O P;obtain⟨x,be,rfl,rfl,z,HA,HK2,HD⟩:=hrel
     cases gk with
     |zero=>exact absurd HA.out (by simp[bestL])
     | succ k2=>
      have H:=HA.out;clear HA;simp only[bestL] at H;have x0:=z.out;have HTw:=aM (HTr.out.below HD.out.below);have HRw:=aM (Kd.C_below HR.out HD.out.below)
      by_cases e1:x<(T.n:Int)
      ·rw [if_pos e1] at H;have ae:decide (x<(T.n:Int))=true:=dT e1;have q0:=eq_true x0;have q1:=eq_true e1;have U:=HTw.out.cellr c0' d1 x0 e1;have hL:=HTw.out.leafr c0' d1 x0 e1
       by_cases e2:T.rep c x= []
       ·rw[if_pos e2] at H;obtain⟨A2,c2',hv,m,ai,hnil⟩:=hL;have L:=hnil e2;rw[L] at U;have hq:=fun W=>Ya W none 0 0
        have H':=aM H;clear hv L hnil ai m e2 H;go_wp2
        go_quiet (fail)
        go_wp2
        go_roundg k2
        case measure=>omega
        case rel=>exact⟨x+1,be,rfl,rfl,⟨by have:=z.out;omega⟩,H',⟨by have:=HK2.out;omega⟩,⟨HD.out.step _⟩⟩
       ·rw [if_neg e2] at H;obtain⟨A2,c2',hv,m,o⟩:=hL.reads;obtain⟨ab,rfl⟩:=C_some o e2;rw[hv] at U;have hq:=fun W=>Ya W (some ab) (T.rep c x).length c2'
        clear hv m o e2 hL
        by_cases e3:x<(q.length:Int)
        ·rw [if_pos e3] at H
         by_cases e4:0≤be
         ·rw [if_pos e4] at H
          by_cases e5:be<(q.length:Int)
          ·rw [if_pos e5] at H;obtain⟨ad,ea,ar⟩:=Kd.at_int HRw.out x x0 e3
           cases ea;obtain⟨ad',ea,au⟩:=Kd.at_int HRw.out be e4 e5;injection ea with ea
           subst ea;have q3:=eq_true e3;have q4:=eq_true e4;have q5:=eq_true e5
           by_cases e6:rd q x<rd q be
           ·rw[if_pos e6] at H;have af:decide (rd q x<rd q be)=true:=dT e6;have H':=aM H;clear H e6;go_wp2
            go_quiet (fail)
            go_wp2
            go_roundg k2
            case measure=>omega
            case rel=>exact⟨x+1,x,rfl,rfl,⟨by have:=z.out;omega⟩,H',⟨by have:=HK2.out;omega⟩,⟨HD.out.step _⟩⟩
           ·rw[if_neg e6] at H;have af:decide (rd q x<rd q be)=false:=dF e6;have H':=aM H;clear H e6;go_wp2
            go_quiet (fail)
            go_wp2
            go_roundg k2
            case measure=>omega
            case rel=>exact⟨x+1,be,rfl,rfl,⟨by have:=z.out;omega⟩,H',⟨by have:=HK2.out;omega⟩,⟨HD.out.step _⟩⟩
          ·rw[if_neg e5] at H;cases H
         ·rw[if_neg e4] at H;cases H
        ·rw[if_neg e3] at H;cases H
      ·rw [if_neg e1] at H;obtain rfl:=oI H;have ae:decide (x<(T.n:Int))=false:=dF e1;have H:=HH.out
       by_cases f1:0≤be
       ·rw [if_pos f1] at H
        by_cases f2:be<(T.n:Int)
        ·rw [if_pos f2] at H;replace H:=oB H;obtain⟨q2,J,H⟩:=H
         ·
          have H':=aM H;have aa:=aM J;have O:=HTw.out.cell1;have P:=HTw.out.cellR c0' d1;have am:=HTw.out.cellr c0' d1 f1 f2;obtain⟨A2,c2',hv,m,o⟩:=(HTw.out.leafr c0' d1 f1 f2).reads;rw[hv] at am;have Y:=aM o;have Z:=aM m;have q1:=eq_true f1;have q2':=eq_true f2;clear H J hv o m
          go_wp2_with (first
           |(go_at_call 35;(with_reducible refine(perm_then.calls k1 _ _ (T.rep c be) _ _ q q2 _ ?s1 ?s2 ?s3 ?s4 aa.out).mono ?_);(case s1=>exact Y.out);(case s2=>exact Z.out);(case s3=>exact HRw.out);(case s4=>exact HC.out);rintro e w7 ⟨v7,rfl,B,I⟩;have HLf:=aM ((LeafOk.of_R B).mono (ok':=fun k=>okp k∨w.heap.size≤k) (fun k hk=> .inr (Nat.le_trans (Nat.le_trans HB.out.size HD.out.below.size) hk)));obtain⟨A7,c7,rfl,aj,ak⟩:=Kd.R_reads B;have X:=aM (Zd (ZT HB.out HB.out.size HD.out.below) I);clear B I ak aj))
          go_roundg k1
          case measure=>omega
          case rel=>exact⟨q2,A7,c7,c+1,rfl,rfl,⟨by have:=D.out;omega⟩,H',⟨by have:=HK1.out;omega⟩,HLf,X⟩
        ·rw[if_neg f2] at H;cases H
       ·rw[if_neg f1] at H;cases H
   ·rw[if_neg d1] at H;obtain rfl:=oI H;have ac:decide (c<(T.n:Int))=false:=dF d1;go_wp2;go_ret
    exact⟨_,rfl,HP.out,HB.out⟩
end Go.Proofs.YtjjlhbgpdncpcaaGreat.P