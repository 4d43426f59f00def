/- The law of the claim, proved for every input: the last of its texts. -/
import Derived.Test.YtjjlhbgpdncpcaaGreatRows
import Derived.Deep.Matrix
import Derived.WalkKit
import Derived.ProofKit
import Derived.OpenShut
import Derived.Deep.Strs
import Derived.ChangeSame
import Derived.ShutString
import Derived.ChangeOld
import Derived.Below
import Derived.SizedLaws
import Derived.Carry
import Derived.Test.YtjjlhbgpdncpcaaGreatE7
import Derived.Test.YtjjlhbgpdncpcaaGreatE5
import Derived.Test.YtjjlhbgpdncpcaaGreatE6
import Derived.Test.YtjjlhbgpdncpcaaGreatE3
import Derived.Test.YtjjlhbgpdncpcaaGreatE2
set_option linter.unusedVariables false
set_option linter.unusedSimpArgs false
namespace Go.Proofs.YtjjlhbgpdncpcaaGreat.P
open Go.RowKit Go.Sort Go.Shelf Go.Proofs.YtjjlhbgpdncpcaaGreatW.PrintWords Go.Proofs.YtjjlhbgpdncpcaaGreatW.PrintLast Go.Proofs.YtjjlhbgpdncpcaaGreatW.PrintMore
open M (Pm GoodE ZU ordL idL mulL)
attribute [local go_sem] Oper.semAt_some
structure LawF (deg:Int) (ls:List S56) (ec:Int) (n:Nat):Prop where
 hn:n≤12
 hl:ls.length≤1000
 pc:∃k,perm_CheckChain.f k deg ls=some ec
 rc:∃k,r30_CheckChain.f k deg ls=some ec
 good:ec=0→deg=(n:Int)∧∀x∈ls,GoodE n x
 round:ec=0→∀pre q,pre++ [q]<+:ZU ls (idL n)→(∃k,r30_Check.f k q=some 0)∧(∃k,r30_Has.f k deg ls q=some true)∧(pre≠ []→∃k,r30_Less.f k (pre.getLastD []) q=some true)
 fin:ec=0→∃s t,(∃k,r30_Size.f k deg ls=some s)∧r01_Of.f (IntKind.u64.wrap ((ZU ls (idL n)).length:Int))=some t∧∃k,r01_Same.f k s t=some true
 pos:ec=0→1≤n
 cnt:ec=0→(ZU ls (idL n)).length≤1000000
theorem run_equalIn_fn (w:World) (d:Nat) (bs:Array Value):(Op.equalIn (d+1) 28 (.func (.func 30) #[] bs) .nilFunc).run Tryz.prog w= .ok false w:=by
 simp[Op.equalIn,run_underlying Tryz.underlying28]
theorem run_eql_fn (w:World) (bs:Array Value):(binOp .eql 28 (.func (.func 30) #[] bs) .nilFunc).run Tryz.prog w= .ok (.bool false) w:=by
 simp only[binOp]
 simp[Op.equal,Op.maxDepth,run_equalIn_fn w 9999 bs]
theorem law_boxes (w:World) (o1 o2 o3:Obj):Go.RowKit.Below w.heap.size w (((w.alloc o1).alloc o2).alloc o3)∧(((w.alloc o1).alloc o2).alloc o3).heap[w.heap.size]? =some o1∧(((w.alloc o1).alloc o2).alloc o3).heap[w.heap.size+1]? =some o2∧(((w.alloc o1).alloc o2).alloc o3).heap[w.heap.size+1+1]? =some o3∧(((w.alloc o1).alloc o2).alloc o3).heap.size=w.heap.size+3:=by
 have h1:=World.alloc_heap_new w o1
 have h2:=World.alloc_heap_new (w.alloc o1) o2
 have h3:=World.alloc_heap_new ((w.alloc o1).alloc o2) o3
 simp only[World.size_alloc] at h2 h3
 refine⟨Zh (Zh (Zh (Go.RowKit.Below.refl _ _) _) _) _,?_,?_,h3,by simp⟩
 ·exact(Go.RowKit.Below.heap_alloc _ _ _ (by simp;omega)).trans ((Go.RowKit.Below.heap_alloc _ _ _ (by simp)).trans h1)
 ·exact(Go.RowKit.Below.heap_alloc _ _ _ (by simp)).trans h2
theorem row_of {w1:World} {B r:Nat} {v:Value} {q:List Int} (h:w1.ownsRow B 3 1 v (0+q.length) ([]++q.map (Value.int .i64))) (hB:r+2≤B):Kd.R (Kd.int .i64) 3 w1 r (fun k=>r+2≤k) v q:=by
 rw[Nat.zero_add,List.nil_append] at h
 have h1:Kd.R (Kd.int .i64) 3 w1 B (fun _=>True) v q:=Kd.R_of_own h (fun _ _=>trivial)
 exact Kd.R_lower (Kd.R_mono (Kd.R_bound h1) (fun k hk=>Nat.le_trans hB hk.2.1)) (by omega)
theorem empty_own (w:World) (B:Nat) (h:B≤w.heap.size):(w.alloc (.cells #[] 3)).ownsRow B 3 1 (.slice (some ⟨w.heap.size,0,none⟩) 0 0) 0 []:=
 ⟨rfl,.inr ⟨w.heap.size,0, #[],rfl,h,World.alloc_heap_new _ _,Nat.le_refl _,by simp[maxLen],rfl,rfl⟩⟩
theorem cells_of {w:World} {ad:Addr} {q:List Int} (h:Kd.C (Kd.int .i64) w (some ad) q.length q):∀j u,(q.map (Value.int .i64))[j]? =some u→w.cell? (ad.add j)=some u:=fun j u hu=>by
 rw[List.getElem?_map] at hu
 obtain⟨x,hx,rfl⟩:=Option.map_eq_some_iff.1 hu
 obtain⟨hj,rfl⟩:=List.getElem?_eq_some_iff.1 hx
 obtain⟨m,e,hc⟩:=Kd.at_int h (j:Int) (by omega) (by omega)
 cases e
 rw[Int.toNat_natCast] at hc
 rw[hc]
 show some (Value.int .i64 (q.getD (j:Int).toNat 0))=_
 rw[Int.toNat_natCast,List.getD_eq_getElem?_getD,List.getElem?_eq_getElem hj];rfl
theorem law_results (tmps:Array Value) (W:World) (gr:Nat) (hp:tmps.getD 4 undef= .pointer (some ⟨gr,0,none⟩)) (h:W.cell? ⟨gr,0,none⟩=some (.bool true)):(results Tryz.f3 tmps).run Tryz.prog W= .ok (.bool true) W:=by
 have hp':tmps[4]?.getD undef= .pointer (some ⟨gr,0,none⟩):=by simpa using hp
 have hr:Tryz.f3.results= #[.cell 4 4]:=rfl
 simp[results,hr,hp',asAddr,go_sem,h,Tryz.underlying4]
theorem law_leaves (tmps:Array Value) (w W:World) (gr r:Nat) (hp:tmps.getD 4 undef= .pointer (some ⟨gr,0,none⟩)) (h:W.heap[gr]? =some (.cells #[.bool true] 4 (0,0))) (hb:Go.RowKit.Below w.heap.size w W) (hr:w.heap.size≤r) (hd:W.heap[r]? =some (.deferred (some []))):
    LeavesInM Fence.wide 3 Tryz.prog Tryz.f3 tmps (fun e w'=>e=Ending.returned (Value.bool true)∧Go.RowKit.Below w.heap.size w w') [{ target:= .collected r,args:= #[] }] .returning W:=by
 refine⟨by simp,.inl ⟨_,_,rfl,run_takeDeferred hd,?_⟩⟩
 have hne:gr≠r:=fun e=>by rw[e,hd] at h;cases h
 have h2:(W.putObj r (.deferred none)).heap[gr]? =some (.cells #[.bool true] 4 (0,0)):=(World.putObj_heap_other hne).trans h
 refine⟨_,law_results tmps _ gr hp ((Za h2 0).trans rfl),rfl,?_⟩
 exact hb.grown (grownBy_putObj' W r (.deferred none)) hb.size (fun k e=>by cases e;exact hr)
def noPanic (Q:Exit→Act→World→Prop):Exit→Act→World→Prop
 | .panic _,_,_=>False
 |e,a,w=>Q e a w
theorem wp_noPanic {P:Program} {c:Code} {K:Act→World→Prop} {Q:Exit→Act→World→Prop} {a:Act} {w:World} (h:c.wp P (Exit.then K (noPanic Q)) a w):c.wp P (Exit.then K Q) a w:=
 Code.wp_mono (fun e a w h=>by cases e<;>first|exact h|exact h.elim) h
structure LI (n3 gch gm gr bch gok gcn gla r:Nat) (deg most:Int) (A:Option Addr) (len c:Nat) (okv:Bool) (pre:List (List Int)) (W:World):Prop where
 ord:n3≤gch∧gch<gm∧gm<gr∧gr<bch∧bch<gok∧gok<gcn∧gcn<gla∧gla<r
 ch:W.heap[gch]? =some (.cells #[.int .i64 deg,.slice A len c] 24 (0,0))
 mo:W.heap[gm]? =some (.cells #[.int .u8 most] 5 (0,0))
 re:W.heap[gr]? =some (.cells #[.bool false] 4 (0,0))
 ok:W.heap[gok]? =some (.cells #[.bool okv] 4 (0,0))
 cn:W.heap[gcn]? =some (.cells #[.int .i64 (pre.length:Int)] 3 (0,0))
 la:∃v,W.heap[gla]? =some (.cells #[v] 32 (0,0))∧Kd.R (Kd.int .i64) 3 W r (fun k=>r+2≤k) v (pre.getLastD [])
 sz:r≤W.heap.size
theorem LI.step {n3 gch gm gr bch gok gcn gla r:Nat} {deg most:Int} {A:Option Addr} {len c:Nat} {okv:Bool} {pre:List (List Int)} {W W2:World} (h:LI n3 gch gm gr bch gok gcn gla r deg most A len c okv pre W) (hk:Kept W W2 (fun k=>k=r∨k=r+1)):LI n3 gch gm gr bch gok gcn gla r deg most A len c okv pre W2:=by
 have ho:=h.ord
 obtain⟨v,hv,hr⟩:=h.la
 exact⟨ho,Z3 h.ch hk (by omega),Z3 h.mo hk (by omega),Z3 h.re hk (by omega),Z3 h.ok hk (by omega),Z3 h.cn hk (by omega),⟨v,Z3 hv hk (by omega),Kd.R_kept hr hk (fun k h1 h2=>by omega)⟩,Nat.le_trans h.sz hk.1⟩
theorem put_ne {W:World} {g g2:Nat} {o:Obj} {v:Value} (h:W.heap[g]? =some o) (hne:g≠g2):(W.setCell ⟨g2,0,none⟩ v).heap[g]? =some o:=(Go.RowKit.Below.heap_setCell W ⟨g2,0,none⟩ v g hne).trans h
theorem Kr.set {n3 r bch g:Nat} {W w:World} {v:Value} (h:Kr n3 r bch W w) (h0:n3≤g) (h1:g<r) (h2:g≠bch):Kr n3 r bch W (w.setCell ⟨g,0,none⟩ v):=
 ⟨h.below.setCell (p:=⟨g,0,none⟩) h0 v,h.kept.setCell (p:=⟨g,0,none⟩) (.inl ⟨h0,h1,h2⟩) v⟩
theorem LI.next {n3 gch gm gr bch gok gcn gla r:Nat} {deg most:Int} {A:Option Addr} {len c:Nat} {okv:Bool} {pre:List (List Int)} {W w8:World} (h:LI n3 gch gm gr bch gok gcn gla r deg most A len c okv pre W) (hs:r+2≤W.heap.size) (hb:Go.RowKit.Below W.heap.size W w8) (v8:Value) (q:List Int)
    (hr:Kd.R (Kd.int .i64) 3 w8 r (fun k=>r+2≤k) v8 q):
    LI n3 gch gm gr bch gok gcn gla r deg most A len c okv (pre++ [q]) ((w8.setCell ⟨gla,0,none⟩ v8).setCell ⟨gcn,0,none⟩ (.int .i64 ((pre.length:Int)+1)))∧Kr n3 r bch W ((w8.setCell ⟨gla,0,none⟩ v8).setCell ⟨gcn,0,none⟩ (.int .i64 ((pre.length:Int)+1))):=by
 have ho:=h.ord
 obtain⟨v,hv,m⟩:=h.la
 have hla:=Zz (Zf hv hb) 0 v8 rfl
 have hcn:=Zz (put_ne (v:=v8) (g2:=gla) (Zf h.cn hb) (by omega)) 0 (.int .i64 ((pre.length:Int)+1)) rfl
 have e:Kr n3 r bch W w8:=Kr.of_below hb (by omega)
 refine⟨⟨ho,put_ne (put_ne (Zf h.ch hb) (by omega)) (by omega),put_ne (put_ne (Zf h.mo hb) (by omega)) (by omega),put_ne (put_ne (Zf h.re hb) (by omega)) (by omega),put_ne (put_ne (Zf h.ok hb) (by omega)) (by omega),?_,⟨v8,put_ne hla (by omega),?_⟩,?_⟩,(e.set (by omega) (by omega) (by omega)).set (by omega) (by omega) (by omega)⟩
 ·rw[List.length_append];exact hcn
 ·rw[List.getLastD_concat]
  have k1:Kept w8 ((w8.setCell ⟨gla,0,none⟩ v8).setCell ⟨gcn,0,none⟩ (.int .i64 ((pre.length:Int)+1))) (fun k=>k=gla∨k=gcn):=((Kept.refl w8 _).setCell (p:=⟨gla,0,none⟩) (.inl (.inl rfl)) _).setCell (p:=⟨gcn,0,none⟩) (.inl (.inr rfl)) _
  exact Kd.R_kept hr k1 (fun k h1 h2=>by omega)
 ·have:=hb.size
  have:=h.sz;simp only[World.size_setCell];omega
set_option maxHeartbeats 1000000 in
set_option maxRecDepth 100000 in
theorem law_calls (deg:Int) (A:Option Addr) (c:Nat) (ls:List S56) (most:Int) (w:World) (hr:Kd.C k56 w A ls.length ls) (hlc:ls.length≤c) (kf:Nat) (b:Bool) (hfew:r30_Few.f kf deg ls 6=some b) (hm:0≤most∧most<256) (hF:b=true→∃ec n,LawF deg ls ec n):
    Calls Tryz.prog 3 #[.agg #[.int .i64 deg,.slice A ls.length c],.int .u8 most] w fun e w'=>e= .returned (.bool true)∧Go.RowKit.Below w.heap.size w w':=by
 have HR:=aM hr
 have HLC:=aM hlc
 have HFW:=aM hfew
 have HF:=aM hF
 clear hr hlc hfew hF
 refine(callsIn_wide (n:=3)).1 ?_
 refine callsIn_of_wp_marks Tryz.func3 rfl trivial ?_ rfl
 simp only[Tryz.ntmps3,List.size_toArray,List.length_cons,List.length_nil,Nat.reduceAdd,Nat.reduceSub,Array.replicate_succ,Array.replicate_zero,List.push_toArray,List.append_toArray,List.nil_append,List.cons_append]
 by_cases hb:b=true
 ·subst hb
  obtain⟨ec,n,hL⟩:=HF.out rfl;have HL:=aM hL;clear HF hL;have hqf:=fun(W:World) (bs:Array Value)=>run_eql_fn W bs
  obtain⟨q0,q1,q2,q3,q4⟩:=law_boxes w (.cells #[.int .i64 deg,.slice A ls.length c] 24) (.cells #[.int .u8 most] 5) (.cells #[.bool false] 4)
  gi_wp2_with (first
   |(generalize au:((w.alloc (.cells #[.int .i64 deg,.slice A ls.length c] 24)).alloc (.cells #[.int .u8 most] 5)).alloc (.cells #[.bool false] 4)=W3 at q0 q1 q2 q3 q4⊢;clear au;have HB3:=aM q0;have ab:=aM q1;have ay:=aM q2;have ar:=aM q3;have az:=aM q4;clear q0 q1 q2 q3 q4;refine⟨trivial,?_⟩;gi_at_call 4;refine(callsIn_wide.2 (l30_awake.calls true _ rfl)).mono ?_;rintro e w4 ⟨rfl,D⟩;have U:w4.cell? ⟨w.heap.size,0,none⟩=some (.int .i64 deg):=(Za (Zf ab.out D) 0).trans rfl;have X:w4.cell? ⟨w.heap.size,1,none⟩=some (.slice A ls.length c):=(Za (Zf ab.out D) 1).trans rfl;have I:=aM D;clear D)
   |(refine⟨trivial,?_⟩;gi_at_call 5;refine(callsIn_wide.2 (r30_Few.calls kf deg A c ls 6 true _ ?s1 HLC.out HFW.out)).mono ?_;(case s1=>exact Kd.C_below HR.out (Zd HB3.out I.out));rintro e w5 ⟨rfl,P⟩;have ai:=(P.cell (wB _ _ U)).trans U;have aj:=(P.cell (wB _ _ X)).trans X;have aa:=aM P;clear P U X)
   |(refine⟨trivial,?_⟩;gi_at_call 6;refine(callsIn_wide.2 (elements_calls deg A ls.length c _)).mono ?_;rintro e w6 ⟨rfl,hbx,J⟩;have U:=(J.cell (wB _ _ ai)).trans ai;have X:=(J.cell (wB _ _ aj)).trans aj;have al:=aM J;have HBX:=aM hbx;clear J hbx ai aj)
   |(refine⟨trivial,?_⟩;gi_at_call 7;obtain⟨kr,hkr⟩:=HL.out.rc;refine(callsIn_wide.2 (r30_CheckChain.calls kr deg A c ls ec _ ?s1 HLC.out hkr)).mono ?_;(case s1=>exact Kd.C_below HR.out (Zd HB3.out (Zd I.out (Zd aa.out al.out))));rintro e w7 ⟨rfl,aD⟩;have ao:=aM aD;clear aD U X hkr))
  obtain⟨kc,hkc⟩:=HL.out.pc;have an:=Zd (Zd (Zd I.out aa.out) al.out) ao.out;have aC:=Zd HB3.out an;obtain⟨q0,q1,q2,q3,q4⟩:=law_boxes w7 (.cells #[.bool (ec==0)] 4) (.cells #[.int .i64 0] 3) (.cells #[.slice none 0 0] 32);generalize aN:((w7.alloc (.cells #[.bool (ec==0)] 4)).alloc (.cells #[.int .i64 0] 3)).alloc (.cells #[.slice none 0 0] 32)=W0 at q0 q1 q2 q3 q4⊢;clear aN;have af:=Zd an q0;have aE:=Zd aC q0;have s3:=az.out;have s4:=I.out.size;have s5:=aa.out.size;have s6:=Zw HBX.out;have s7:=ao.out.size;have aF:=Zf (Zf HBX.out ao.out) q0
  have aL:LI w.heap.size w.heap.size (w.heap.size+1) (w.heap.size+1+1) w5.heap.size w7.heap.size (w7.heap.size+1) (w7.heap.size+1+1) W0.heap.size deg most A ls.length c (ec==0) [] W0:=
   ⟨by omega,Zf ab.out af,Zf ay.out af,Zf ar.out af,q1,q2,⟨.slice none 0 0,q3,Kd.R_nil _ _ _ _ _⟩,Nat.le_refl _⟩
  refine range_elems w5.heap.size deg A c ls w n HL.out.hn rfl (enters_of Tryz.func30 (by kernel_rfl) rfl) rfl HR.out HL.out.hl HLC.out kc ec hkc HL.out.good aE aF (by omega)
   (fun pre W=>LI w.heap.size w.heap.size (w.heap.size+1) (w.heap.size+1+1) w5.heap.size w7.heap.size (w7.heap.size+1) (w7.heap.size+1+1) W0.heap.size deg most A ls.length c (ec==0) pre W)
   (fun pre W=>W.heap[w.heap.size+1+1]? =some (.cells #[.bool true] 4 (0,0)))
   (fun pre W W2 h hk=>h.step hk) (fun pre W W2 h hk=>Z3 h hk (by omega)) aL (fun v=> { tmps:= #[.agg #[.int .i64 deg,.slice A ls.length c],.int .u8 most,.pointer (some ⟨w.heap.size,0,none⟩),.pointer (some ⟨w.heap.size+1,0,none⟩),.pointer (some ⟨w.heap.size+1+1,0,none⟩),.func (.func 30) #[] #[.pointer (some ⟨w5.heap.size,0,none⟩)],.pointer (some ⟨w7.heap.size,0,none⟩),.pointer (some ⟨w7.heap.size+1,0,none⟩),.pointer (some ⟨w7.heap.size+1+1,0,none⟩),v,.bool true,.bool false,.bool false,.agg #[.int .i64 deg,.slice A ls.length c],.bool true,.bool false,.bool false,undef,.agg #[.int .i64 deg,.slice A ls.length c],.func (.func 30) #[] #[.pointer (some ⟨w5.heap.size,0,none⟩)],.func (.func 30) #[] #[.pointer (some ⟨w5.heap.size,0,none⟩)],.bool false,.agg #[.int .i64 deg,.slice A ls.length c],.int .i64 ec,.bool (ec==0),.func (.func 30) #[] #[.pointer (some ⟨w5.heap.size,0,none⟩)],v,undef,undef,undef,undef,undef,undef,undef,undef,undef,undef,undef,undef,undef,undef,undef,undef,undef,undef,undef,undef,undef,undef,undef,undef,undef,undef,undef,undef,undef,undef,undef,undef,undef,undef,undef,undef,undef,undef,undef,undef,undef,undef,undef,undef,undef,undef,undef,undef,undef,undef,undef,undef,undef,undef,undef,undef],defers:= [] }) ?assign ?body ?done ?stop
  case assign=>
   intro l m v W K hK
   gi_wp2
   exact hK
  case body=>
   rintro l m pre v q W rfl hq hpre hI hbW hR hsz;obtain⟨aP,aQ,av⟩:=HL.out.round rfl pre q hpre;obtain⟨kk,hkk⟩:=aP;obtain⟨kh,hkh⟩:=aQ;obtain⟨hdeg,_⟩:=HL.out.good rfl;obtain⟨vl,hvl,hRl⟩:=hI.la;obtain⟨lv,hlv⟩:∃lv,pre.getLastD []=lv:=⟨_,rfl⟩;rw[hlv] at hRl av;obtain⟨pl,hpl⟩:∃pl:Int,(pre.length:Int)=pl:=⟨_,rfl⟩;obtain⟨Al,cl,rfl⟩:=Kd.R_slice hRl;obtain⟨Aq,cq,rfl⟩:=Kd.R_slice hR;have c0:=(Za hI.ch 0).trans rfl;have c1:=(Za hI.ch 1).trans rfl;have c2:=(Za hI.mo 0).trans rfl;have c4:=(Za hI.ok 0).trans rfl;have c5:W.cell? ⟨w7.heap.size+1,0,none⟩=some (.int .i64 pl):=by rw[←hpl];exact(Za hI.cn 0).trans rfl
   have c6:=(Za hvl 0).trans rfl;have hql:=hq.1;have aR:=HL.out.pos rfl;obtain⟨ad,eA,_⟩:=Kd.at_int (Kd.R_reads' hR).2.2 0 (by omega) (by omega)
   cases eA;obtain⟨i0,aG,hz_⟩:=Option.map_eq_some_iff.1 info3;simp only[Prod.mk.injEq] at hz_;obtain⟨aH,aI,aJ⟩:=hz_;have HIN:=aM (And.intro aG (And.intro aH (And.intro aI aJ)));clear aG aH aI aJ aR;have n0:(q.length:Int)=deg:=by omega
   have HQL:=aM hql;have HPL:=aM hpl;clear hql hdeg hlv;have HI:=aM hI;have HRq:=aM hR;have HRl:=aM hRl;have HBW:=aM hbW;have HKK:=aM hkk;have HKH:=aM hkh;have HVL:=aM hvl;have HK3:=aM av;have HSZ:=aM hsz;clear hI hR hRl hbW hkk hkh hvl av hsz
   by_cases Z:pre= []
   ·have p0:decide ((0:Int)<pl)=false:=by rw[←hpl,Z];rfl
    have aK:=aM Z;clear Z hpl
    gi_wp2_with (first
     |(refine⟨trivial,fun h=>(by cases h),?_⟩;gi_at_call 8;refine(CallsIn.inRound l (callsIn_wide.2 (r30_Check.calls kk (some ad) cq q 0 W ?s1 ?s2 HKK.out))).mono ?_;(case s1=>exact(Kd.R_reads' HRq.out).2.2);(case s2=>exact(Kd.R_reads' HRq.out).2.1);rintro e w8 ⟨rfl,⟨nd,rfl⟩⟩)
     |(refine⟨trivial,fun h=>(by cases h),?_⟩;gi_at_call 9;refine(CallsIn.inRound l (callsIn_wide.2 (r30_Has.calls kh deg A c ls (some ad) cq q true _ ?s1 HLC.out ?s2 ?s3 HKH.out))).mono ?_;(case s1=>exact Kd.C_drewN (Kd.C_below HR.out HBW.out) _);(case s2=>exact Kd.C_drewN (Kd.R_reads' HRq.out).2.2 _);(case s3=>exact(Kd.R_reads' HRq.out).2.1);rintro e w9 ⟨rfl,hb9⟩;replace hb9:=Zd (Zg (Go.RowKit.Below.refl _ W) nd) hb9;have d2:=(Za (Zf HI.out.mo hb9) 0).trans rfl;have d5:w9.cell? ⟨w7.heap.size+1,0,none⟩=some (.int .i64 pl):=zz152;have d6:=(Za (Zf HVL.out hb9) 0).trans rfl;have o:=aM hb9;clear hb9 c0 c1 c2 c4 c5 c6))
    refine⟨trivial,?_⟩
    gi_wp2_with (first
     |(gi_at_builtin;refine wpListIn_append_own _ rfl (.tmp 57) (.tmp 58) 32 rfl W.heap.size 3 i0 (.int .i64 0) 1 8 Tryz.underlying32 HIN.out.1 HIN.out.2.1 HIN.out.2.2.1 HIN.out.2.2.2 rfl (by decide) _ 0 [] rfl (empty_own w9 W.heap.size o.out.size) ad q.length cq (q.map (Value.int .i64)) rfl (by simp) ?hc ?h1 ?b1 ?b2 ?b3 ?_;(case hc=>exact cells_of (Kd.C_below (Kd.R_reads' HRq.out).2.2 (Zh o.out _)));(case h1=>intro u hu;rw[List.mem_map] at hu;obtain⟨x,_,rfl⟩:=hu;rfl);(case b1=>have:=HQL.out;have:=HL.out.hn;simp only[maxLen];omega);(case b2=>have:=HQL.out;have:=HL.out.hn;omega);(case b3=>exact(Zh o.out _).size);intro v9 am O L Y;clear Y;have hb10:=(Zh o.out (.cells #[] 3)).grown L (Zh o.out _).size (fun k e=>by cases e;exact o.out.size);have B:=row_of O HSZ.out;obtain⟨A9,c9,rfl⟩:=Kd.R_slice B;have f2:=(Za (Zf HI.out.mo hb10) 0).trans rfl;have f5:am.cell? ⟨w7.heap.size+1,0,none⟩=some (.int .i64 pl):=zz150;have f6:=(Za (Zf HVL.out hb10) 0).trans rfl;have f3:=(Za (Zf HI.out.re hb10) 0).trans rfl;have z3:=Zb (Zf HI.out.re hb10) 0;have z5:=Zb (Zf HI.out.cn hb10) 0;have z6:=Zb (Zf HVL.out hb10) 0;have ac:=aM hb10;have ae:=aM B;clear hb10 B O L d2 d5 d6))
    all_goals
     obtain⟨hLI,hKr⟩:=LI.next HI.out HSZ.out ac.out (.slice A9 q.length c9) q ae.out
     have hle:=hpre.length_le;have hcnt:=HL.out.cnt rfl;have hplo:=HPL.out;rw[List.length_append,List.length_cons,List.length_nil] at hle;rw[show wrap64 (pl+1)=(pre.length:Int)+1 by rw[←hplo];exact M.w64 (by omega) (by omega)]
    ·exact⟨hKr.set (by omega) (by omega) (by omega),Zz hLI.re 0 _ rfl⟩
    ·exact⟨hKr,hLI⟩
   have p0:decide ((0:Int)<pl)=true:=dT (by have:=List.length_pos_iff.2 Z;omega);obtain⟨ke,hke⟩:=HK3.out Z;have HKE:=aM hke;clear hke;have aK:=aM Z;clear Z hpl
   gi_wp2_with (first
    |(refine⟨trivial,fun h=>(by cases h),?_⟩;gi_at_call 8;refine(CallsIn.inRound l (callsIn_wide.2 (r30_Check.calls kk (some ad) cq q 0 W ?s1 ?s2 HKK.out))).mono ?_;(case s1=>exact(Kd.R_reads' HRq.out).2.2);(case s2=>exact(Kd.R_reads' HRq.out).2.1);rintro e w8 ⟨rfl,⟨nd,rfl⟩⟩)
    |(refine⟨trivial,fun h=>(by cases h),?_⟩;gi_at_call 9;refine(CallsIn.inRound l (callsIn_wide.2 (r30_Has.calls kh deg A c ls (some ad) cq q true _ ?s1 HLC.out ?s2 ?s3 HKH.out))).mono ?_;(case s1=>exact Kd.C_drewN (Kd.C_below HR.out HBW.out) _);(case s2=>exact Kd.C_drewN (Kd.R_reads' HRq.out).2.2 _);(case s3=>exact(Kd.R_reads' HRq.out).2.1);rintro e w9 ⟨rfl,hb9⟩;replace hb9:=Zd (Zg (Go.RowKit.Below.refl _ W) nd) hb9;have d2:=(Za (Zf HI.out.mo hb9) 0).trans rfl;have d5:w9.cell? ⟨w7.heap.size+1,0,none⟩=some (.int .i64 pl):=zz152;have d6:=(Za (Zf HVL.out hb9) 0).trans rfl;have o:=aM hb9;clear hb9 c0 c1 c2 c4 c5 c6)
    |(refine⟨trivial,fun h=>(by cases h),?_⟩;gi_at_call 10;refine(CallsIn.inRound l (callsIn_wide.2 (r30_Less.calls ke Al cl lv (some ad) cq q true _ ?s1 ?s2 ?s3 ?s4 HKE.out))).mono ?_;(case s1=>exact Kd.C_below (Kd.R_reads' HRl.out).2.2 o.out);(case s2=>exact(Kd.R_reads' HRl.out).2.1);(case s3=>exact Kd.C_below (Kd.R_reads' HRq.out).2.2 o.out);(case s4=>exact(Kd.R_reads' HRq.out).2.1);rintro e aS ⟨rfl,⟨ak,rfl⟩⟩)
    |(gi_at_builtin;refine wpListIn_append_own _ rfl (.tmp 57) (.tmp 58) 32 rfl W.heap.size 3 i0 (.int .i64 0) 1 8 Tryz.underlying32 HIN.out.1 HIN.out.2.1 HIN.out.2.2.1 HIN.out.2.2.2 rfl (by decide) _ 0 [] rfl (empty_own (w9.drewN ak) W.heap.size o.out.size) ad q.length cq (q.map (Value.int .i64)) rfl (by simp) ?hc ?h1 ?b1 ?b2 ?b3 ?_;(case hc=>exact cells_of (Kd.C_below (Kd.R_reads' HRq.out).2.2 (Zh (Zg o.out ak) _)));(case h1=>intro u hu;rw[List.mem_map] at hu;obtain⟨x,_,rfl⟩:=hu;rfl);(case b1=>have:=HQL.out;have:=HL.out.hn;simp only[maxLen];omega);(case b2=>have:=HQL.out;have:=HL.out.hn;omega);(case b3=>exact(Zh (Zg o.out ak) _).size);intro v9 am O L Y;clear Y;have hb10:=(Zh (Zg o.out ak) (.cells #[] 3)).grown L (Zh (Zg o.out ak) _).size (fun k e=>by cases e;exact o.out.size);have B:=row_of O HSZ.out;obtain⟨A9,c9,rfl⟩:=Kd.R_slice B;have f2:=(Za (Zf HI.out.mo hb10) 0).trans rfl;have f5:am.cell? ⟨w7.heap.size+1,0,none⟩=some (.int .i64 pl):=zz150;have f6:=(Za (Zf HVL.out hb10) 0).trans rfl;have f3:=(Za (Zf HI.out.re hb10) 0).trans rfl;have z3:=Zb (Zf HI.out.re hb10) 0;have z5:=Zb (Zf HI.out.cn hb10) 0;have z6:=Zb (Zf HVL.out hb10) 0;have ac:=aM hb10;have ae:=aM B;clear hb10 B O L d2 d5 d6))
   all_goals
    obtain⟨hLI,hKr⟩:=LI.next HI.out HSZ.out ac.out (.slice A9 q.length c9) q ae.out
    have hle:=hpre.length_le;have hcnt:=HL.out.cnt rfl;have hplo:=HPL.out;rw[List.length_append,List.length_cons,List.length_nil] at hle;rw[show wrap64 (pl+1)=(pre.length:Int)+1 by rw[←hplo];exact M.w64 (by omega) (by omega)]
   ·exact⟨hKr.set (by omega) (by omega) (by omega),Zz hLI.re 0 _ rfl⟩
   ·exact⟨hKr,hLI⟩
  case stop=>
   intro W' z h0 hz hx hb hd;have z0:=hx
   gi_wp2
   exact law_leaves _ w W' (w.heap.size+1+1) _ rfl hx hb (by omega) hd
  case done=>
   rintro W' (⟨h0,hI⟩|⟨h0,hI⟩) hb hd
   ·have e0:(ec==0)=false:=beq_eq_false_iff_ne.2 h0;have c4:W'.cell? ⟨w7.heap.size,0,none⟩=some (.bool false):=(Za hI.ok 0).trans (by rw[e0];rfl);have c5:W'.cell? ⟨w7.heap.size+1,0,none⟩=some (.int .i64 0):=(Za hI.cn 0).trans rfl;have c6:W'.cell? ⟨w.heap.size+1+1,0,none⟩=some (.bool false):=(Za hI.re 0).trans rfl;have z6:=Zb hI.re 0;have hmix:Tryz.prog.follows .mixedOrders=true:=by kernel_rfl
    have HI:=aM hI;have HBB:=aM hb;have HDD:=aM hd;clear hI hb hd
    gi_wp2
    refine wpIn_wide.2 ?_
    go_region
    all_goals
     go_wp2
     gi_wp2
     exact law_leaves _ w _ (w.heap.size+1+1) _ rfl (Zz (w:=W') HI.out.re 0 (.bool true) rfl) (Go.RowKit.Below.drew (HBB.out.setCell (p:=⟨w.heap.size+1+1,0,none⟩) zz158 _)) (by omega) (put_ne HDD.out (by omega))
   ·subst h0;obtain⟨sv,tv,⟨ks,hks⟩,hkt,⟨km,hkm⟩⟩:=HL.out.fin rfl;obtain⟨cl,hcl⟩:∃cl:Int,((ZU ls (idL n)).length:Int)=cl:=⟨_,rfl⟩;rw[hcl] at hkt;have c4:W'.cell? ⟨w7.heap.size,0,none⟩=some (.bool true):=(Za hI.ok 0).trans rfl;have c5:W'.cell? ⟨w7.heap.size+1,0,none⟩=some (.int .i64 cl):=by rw[←hcl];exact(Za hI.cn 0).trans rfl
    have c6:W'.cell? ⟨w.heap.size+1+1,0,none⟩=some (.bool false):=(Za hI.re 0).trans rfl;have z6:=Zb hI.re 0;have c0:W'.cell? ⟨w.heap.size,0,none⟩=some (.int .i64 deg):=(Za hI.ch 0).trans rfl;have c1:W'.cell? ⟨w.heap.size,1,none⟩=some (.slice A ls.length c):=(Za hI.ch 1).trans rfl;have hmix:Tryz.prog.follows .mixedOrders=true:=by kernel_rfl
    have HI:=aM hI;have HBB:=aM hb;have HDD:=aM hd;have HKS:=aM hks;have HKT:=aM hkt;have HKM:=aM hkm;have HCL:=aM hcl;clear hI hb hd hks hkt hkm hcl
    gi_wp2
    refine wpIn_wide.2 (wp_noPanic ?_)
    go_region_with_o (first
     |(go_at_call 12;refine(r30_Size.calls ks deg A c ls sv _ ?s1 HLC.out HKS.out).mono ?_;(case s1=>repeat(first|exact Kd.C_below HR.out HBB.out|(with_reducible refine Kd.C_drewN ?_ _)|(with_reducible refine Kd.C_drew ?_)));rintro e w8 ⟨v8,rfl,aw,ag⟩;replace ag:Go.RowKit.Below W'.heap.size W' w8:=Zd zz136 ag;obtain⟨A8,c8,rfl⟩:=Kd.R_slice aw;have d5:w8.cell? ⟨w7.heap.size+1,0,none⟩=some (.int .i64 cl):=(by rw[←HCL.out];exact(Za (Zf HI.out.cn ag) 0).trans rfl);have aA:=aM aw;have aq:=aM ag;clear aw ag)
     |(go_at_call 13;refine(r01_Of.calls _ tv _ HKT.out).mono ?_;rintro e w9 ⟨v9,rfl,ax,hb9⟩;replace hb9:Go.RowKit.Below w8.heap.size w8 w9:=Zd zz136 hb9;obtain⟨A9,c9,rfl⟩:=Kd.R_slice ax;have f6:w9.cell? ⟨w.heap.size+1+1,0,none⟩=some (.bool false):=(Za (Zf (Zf HI.out.re aq.out) hb9) 0).trans rfl;have y6:=Zb (Zf (Zf HI.out.re aq.out) hb9) 0;have aB:=aM ax;have o:=aM hb9;clear ax hb9)
     |(go_at_call 11;refine(r01_Same.calls km A8 c8 sv A9 c9 tv true _ ?s1 ?s2 ?s3 ?s4 HKM.out).mono ?_;(case s1=>repeat(first|exact Kd.C_below (Kd.R_reads' aA.out).2.2 o.out|(with_reducible refine Kd.C_drewN ?_ _)|(with_reducible refine Kd.C_drew ?_)));(case s2=>exact(Kd.R_reads' aA.out).2.1);(case s3=>repeat(first|exact(Kd.R_reads' aB.out).2.2|(with_reducible refine Kd.C_drewN ?_ _)|(with_reducible refine Kd.C_drew ?_)));(case s4=>exact(Kd.R_reads' aB.out).2.1);rintro e am ⟨rfl,⟨nd,rfl⟩⟩))
    all_goals
     go_wp2
     gi_wp2
     have ah:=Zd aq.out o.out
     exact law_leaves _ w _ (w.heap.size+1+1) _ rfl (Zz (w:=w9.drewN nd) (Zf HI.out.re (Zg ah nd)) 0 (.bool true) rfl) ((HBB.out.trans ((Zg ah nd).mono HBB.out.size)).setCell (p:=⟨w.heap.size+1+1,0,none⟩) zz158 _) (by omega) (put_ne (by have h_:=Zf HDD.out (Zg ah nd);rw[q4] at h_;exact h_) (by omega))
 have aO:b=false:=by cases b<;>simp_all
 subst aO
 clear HF hb
 obtain⟨q0,q1,q2,q3,q4⟩:=law_boxes w (.cells #[.int .i64 deg,.slice A ls.length c] 24) (.cells #[.int .u8 most] 5) (.cells #[.bool false] 4)
 gi_wp2_with (first
  |(generalize au:((w.alloc (.cells #[.int .i64 deg,.slice A ls.length c] 24)).alloc (.cells #[.int .u8 most] 5)).alloc (.cells #[.bool false] 4)=W3 at q0 q1 q2 q3 q4⊢;clear au;have HB3:=aM q0;have ab:=aM q1;have ay:=aM q2;have ar:=aM q3;have az:=aM q4;clear q0 q1 q2 q3 q4;refine⟨trivial,?_⟩;gi_at_call 4;refine(callsIn_wide.2 (l30_awake.calls true _ rfl)).mono ?_;rintro e w4 ⟨rfl,D⟩;have U:w4.cell? ⟨w.heap.size,0,none⟩=some (.int .i64 deg):=(Za (Zf ab.out D) 0).trans rfl;have X:w4.cell? ⟨w.heap.size,1,none⟩=some (.slice A ls.length c):=(Za (Zf ab.out D) 1).trans rfl;have I:=aM D;clear D)
  |(refine⟨trivial,?_⟩;gi_at_call 5;refine(callsIn_wide.2 (r30_Few.calls kf deg A c ls 6 false _ ?s1 HLC.out HFW.out)).mono ?_;(case s1=>exact Kd.C_below HR.out (Zd HB3.out I.out));rintro e w5 ⟨rfl,P⟩;have aa:=aM P;clear P U X)
  |(refine⟨trivial,?_⟩;gi_at_call 4;refine(callsIn_wide.2 (l30_awake.calls true _ rfl)).mono ?_;rintro e w6 ⟨rfl,J⟩;have hre:=Zf ar.out (Zd (Zd I.out aa.out) J);have f6:=(Za hre 0).trans rfl;have y6:=Zb hre 0;have HRE:=aM hre;have al:=aM J;clear J hre))
 refine⟨_,law_results _ _ (w.heap.size+1+1) rfl ((Za (Zz (w:=w6) HRE.out 0 (.bool true) rfl) 0).trans rfl),rfl,?_⟩
 exact(Zd HB3.out (Zd (Zd I.out aa.out) al.out)).setCell (p:=⟨w.heap.size+1+1,0,none⟩) zz158 _
end Go.Proofs.YtjjlhbgpdncpcaaGreat.P
namespace Go.Proofs.YtjjlhbgpdncpcaaGreat.P.M
open Go.RowKit Go.Proofs.YtjjlhbgpdncpcaaGreatW.PrintWords Go.Proofs.YtjjlhbgpdncpcaaGreatW.PrintLast Go.Proofs.YtjjlhbgpdncpcaaGreatW.PrintMore
theorem foldl_mul:∀(l:List Nat) (a:Nat),l.foldl (· *·) a=a*l.foldr (· *·) 1
 | [],a=>by simp
 |x::l,a=>by rw[List.foldl_cons,List.foldr_cons,foldl_mul l,Nat.mul_assoc]
theorem prodS_foldr (L:List S56):prodS L=(L.map (fun x=>x.f1.length)).foldr (· *·) 1:=by
 unfold prodS
 rw[foldl_mul,Nat.one_mul]
theorem RHas_tells {m:Nat} {G:List Int→Prop} (hG:IsG m G) {p:List Int} (hp:G p):Tells (fun k=>r30_Has.f k (m:Int) (ZR m G) p) true:=by
 have hpm:=hG.pm hp
 have e:=hG.n64
 have hpl:=hpm.1
 have hc:=(chainP_small (n:=m) (G:=G) (fun p hp=>hG.pm hp)).1
 have good:∀x∈ZR m G,GoodL m x:=fun x hx=>GoodL.of hG hx
 have hrs:Tells (fun k=>r30_Sift.f k (m:Int) (ZR m G) p) (siftS (ZR m G) 0 p):=RSift_loop e (m:Int) (l:=ZR m G) (by omega) good (ZR m G).length 0 p (by omega) hpm
 have hh:=has_elem hG hp
 unfold hasS at hh
 rw[Bool.and_eq_true] at hh
 have hd:=oD hh.1
 have he:=oD hh.2
 unfold r30_Has.f
 refine Tells.bind hrs (Tells.pos hd ?_)
 rw[hpl]
 refine Tells.bind (Unit_tells m (by omega)) (Tells.bind (SameInts_tells _ _ (by rw[he];simp[idL];omega)) (Tells.now' ?_))
 rw[he,hpl]
 simp
open Classical in
theorem law_facts (n:Int) (l:List S56):∃kf b,r30_Few.f kf n l 6=some b∧(b=true→∃ec m,LawF n l ec m):=by
 obtain⟨b,hb,hbs⟩:=RFew_tells n l
 obtain⟨kf,hkf⟩:=hb.some
 refine⟨kf,b,hkf,fun e=> ?_⟩
 obtain⟨hs,hn⟩:=hbs e
 have hp:=(PCheck_tells n hs).some
 have hr:=(RCheck_tells n hs hn).some
 by_cases hc:ccL n l=0
 ·rw [hc] at hp hr
  obtain⟨m,G,rfl,hG,rfl⟩:=ccL_zero hc;have o:=hG.n64;have h1:=hG.n1;have D:m≤6:=by omega
  have hcs:=chainP_small (n:=m) (G:=G) (fun p hp=>hG.pm hp);have hch:ChL m 0 (ZR m G):=chL_lvs hG m 0 (by omega);have hid:=Pm_id m;have hsrt:=elems_sorted (ZR m G) 0 (Int.le_refl _) hch (idL m) hid
  have hGl:∀z∈ZU (ZR m G) (idL m),G z:=elems_G (fun p q hp hq=>hG.mul hp hq) (ZR m G) (fun x hx j h0 h1=>by
   obtain⟨c,hc,rfl,_⟩:=Yd hx
   exact(rep_is h0 h1).1) (idL m) hG.one
  have hlen:(ZU (ZR m G) (idL m)).length=prodS (ZR m G):=by rw[elems_len,prodS_foldr]
  have B:∀x∈ZR m G,1≤x.f1.length∧x.f1.length≤6:=by
   intro x hx;have h1:=hcs.2 x hx;obtain⟨c,_,_,h2⟩:=Yd hx;omega
  have hps:=prodS_small B (by omega) (ZR m G).length (Nat.le_refl _);rw[List.take_length] at hps
  refine⟨0,m, { hn:=by omega,hl:=by omega,pc:=hp,rc:=hr,good:=fun _=>⟨rfl,fun x hx=> ?_⟩,round:=fun _ pre q hpre=> ?_,fin:=fun _=> ?_,pos:=fun _=>h1,cnt:=fun _=>by omega }⟩
  ·obtain⟨c,hc,rfl,hlen⟩:=Yd hx
   refine⟨GoodL.of hG hx,fun y hy=> ?_,by omega⟩;have:=orbF_mem.1 (show y∈orbF m G (c:Int) 0 m from hy)
   exact⟨this.1,this.2.1⟩
  ·have hq:q∈ZU (ZR m G) (idL m):=hpre.subset (by simp);have hqG:=hGl q hq;have hqp:=hG.pm hqG;have hck:Z0 q=0:=checkL_zero.2 ⟨by rw[hqp.1];exact hqp,by have:=hqp.1;omega,by have:=hqp.1;omega⟩;have ht:=(Check_tells q).some;rw[hck] at ht
   refine⟨ht,(RHas_tells hG hqG).some,fun hne=> ?_⟩;obtain⟨a,t,rfl⟩:∃a t,pre=a++ [t]:=⟨pre.dropLast,pre.getLast hne,(List.dropLast_concat_getLast hne).symm⟩;rw[List.getLastD_concat];have htm:t∈ZU (ZR m G) (idL m):=hpre.subset (by simp);have htp:=hG.pm (hGl t htm);have hpw:=hsrt.sublist hpre.sublist
   have hlx:Lx m t q:=by
    rw[List.pairwise_append] at hpw
    exact hpw.2.2 t (by simp) q (by simp)
   have hl:=(less_tells o htp.1 hqp.1).some;rw[dT hlx] at hl
   exact hl
  ·refine⟨[((prodS (ZR m G):Nat):Int)],[((prodS (ZR m G):Nat):Int)],(RSize_tells hG D).some,?_,(RSame_tells _).some⟩;rw[hlen]
   exact rof1 _ hps.1 (by omega)
 exact⟨ccL n l,0, { hn:=by omega,hl:=by have:=hs.1;omega,pc:=hp,rc:=hr,good:=fun h=>absurd h hc,round:=fun h=>absurd h hc,fin:=fun h=>absurd h hc,pos:=fun h=>absurd h hc,cnt:=fun h=>absurd h hc }⟩
end Go.Proofs.YtjjlhbgpdncpcaaGreat.P.M
namespace Go.Proofs.YtjjlhbgpdncpcaaGreat.P
open Go.ChangeShapes Go.WideShapes Go.ChangeAt Go.RowKit Go.Proofs.YtjjlhbgpdncpcaaGreatW.PrintWords Go.Proofs.YtjjlhbgpdncpcaaGreatW.PrintLast Go.Proofs.YtjjlhbgpdncpcaaGreatW.PrintMore
section
variable {H:Type} {enc:TypeId×Value→H} {W:World} {v:Value} {d:DataW H} {ps:List MemPlace} {held:Bool}
theorem list_of_cells {A:Option Addr} {L C:Nat} {Z:List Int} (hl:L≤C) (hm:C≤maxLen) (hz:Z.length=C) (hn:A=none→C=0) (hc:∀a',A=some a'→∀c,c<C→W.cell? (a'.add c)=some (.int .i64 (Z.getD c 0))) (hw:∀n∈Z,(Lit.int .i64 n).wf=true):
    (Kd.slice 3 (Kd.int .i64)).K W (Z.take L) [.slice A L C]:=by
 have key:(A=none∧L=0∧C=0∧Z= [])∨∃x,A=some x∧L≤C∧C≤maxLen∧Z.length=C∧(∀i,i<Z.length→W.cell? (x.add i)=some (.int .i64 (Z.getD i 0)))∧∀n∈Z,(Lit.int .i64 n).wf=true:=by
  cases A with
  | none=>
   have h0:=hn rfl;subst h0
   exact .inl ⟨rfl,by omega,rfl,List.eq_nil_of_length_eq_zero hz⟩
  |some x=>exact .inr ⟨x,rfl,hl,hm,hz,fun i hi=>hc x rfl i (by omega),hw⟩
 have hlen:(Z.take L).length=L:=by rw[List.length_take];omega
 refine⟨A,C,by rw[hlen],by omega,?_⟩
 rw[hlen]
 refine⟨hlen,Nat.le_trans (Nat.le_trans hl hm) (by decide),fun h0=> ?_⟩
 rcases key with⟨_,h2,_⟩|⟨x,rfl,_⟩
 ·omega
 ·refine⟨x,rfl,fun j p hj=>⟨[.int .i64 p],rfl,rfl,fun i u hu=> ?_⟩⟩
  have hi:i=0∧u= .int .i64 p:=by
   cases i with
   |zero=>simp at hu;exact⟨rfl,hu.symm⟩
   |succ i=>simp at hu
  obtain⟨rfl,rfl⟩:=hi
  have hj':j<L:=by
   have:=(List.getElem?_eq_some_iff.1 hj).1;omega
  have hg:Z.getD j 0=p:=by
   rw[List.getElem?_take_of_lt hj'] at hj;rw[List.getD_eq_getElem?_getD,hj];rfl
  have:=hc x rfl j (by omega);rw[hg] at this
  show W.cell? (x.add (j*1+0))=_
  rw[Nat.mul_one,Nat.add_zero]
  exact this
end
open Go.ChangeShapes Go.WideShapes Go.ChangeAt Go.RowKit Go.Deep Go.Proofs.YtjjlhbgpdncpcaaGreatW.PrintWords Go.Proofs.YtjjlhbgpdncpcaaGreatW.PrintLast Go.Proofs.YtjjlhbgpdncpcaaGreatW.PrintMore
section
variable {H:Type} {enc:TypeId×Value→H} {W:World} {held:Bool}
set_option maxRecDepth 100000 in
theorem slice_of_cells {fuel:Nat} {u:Value} {y:DataW H×List MemPlace} {t e:TypeId} (ht:Tryz.prog.underlying t=some (.slice e)) (h:DataW.trod enc Tryz.prog W 0 (fun _=>true) held fuel t [u]=some y):∃a n c,u= .slice a n c:=by
 rcases open_slice ht h with⟨hcs,_⟩|⟨x,l,c,_,_,_,_,hcs,_⟩
 ·simp at hcs;exact⟨_,_,_,hcs⟩
 ·simp at hcs;exact⟨_,_,_,hcs⟩
set_option maxRecDepth 100000 in
theorem list_at {fuel:Nat} {u:Value} {y:DataW H×List MemPlace} (h:DataW.trod enc Tryz.prog W 0 (fun _=>true) held fuel 32 [u]=some y):∃(a:Option Addr) (c:Nat) (l:List Int),u= .slice a l.length c∧(Kd.int .i64).C W a l.length l∧l.length≤c:=by
 obtain⟨a,len,cap,rfl⟩:=slice_of_cells Tryz.underlying32 h
 have key:∃zs:List Int,(a=none∧len=0∧cap=0∧zs= [])∨∃x,a=some x∧len≤cap∧cap≤maxLen∧zs.length=cap∧(∀i,i<zs.length→W.cell? (x.add i)=some (.int .i64 (zs.getD i 0)))∧∀n∈zs,(Lit.int .i64 n).wf=true:=by
  rcases open_ints Tryz.underlying32 Tryz.underlying3 (by kernel_rfl) h with⟨hcs,_⟩|⟨x,l,c,zs,hcs,_,hl,hm,hz,_,hcell,hwz⟩
  ·simp at hcs;obtain⟨rfl,rfl,rfl⟩:=hcs
   exact⟨[],.inl ⟨rfl,rfl,rfl,rfl⟩⟩
  ·simp at hcs;obtain⟨rfl,rfl,rfl⟩:=hcs
   exact⟨zs,.inr ⟨_,rfl,hl,hm,by simpa using hz,hcell,hwz⟩⟩
 obtain⟨zs,hz⟩:=key
 obtain⟨l,rfl,hr,hm,hw,hc⟩:=ReadsInt.ofRowC hz
 exact⟨a,cap,l,rfl,Kd.C_of_reads (d:=(0:Int)) (h1:=fun _=>rfl) hr,hc⟩
set_option maxRecDepth 100000 in
theorem rows_at {fuel:Nat} {u:Value} {y:DataW H×List MemPlace} (h:DataW.trod enc Tryz.prog W 0 (fun _=>true) held fuel 46 [u]=some y):∃(a:Option Addr) (c:Nat) (l:List (List Int)),u= .slice a l.length c∧(Kd.slice 3 (Kd.int .i64)).C W a l.length l∧l.length≤c:=by
 obtain⟨a,len,cap,rfl⟩:=slice_of_cells Tryz.underlying46 h
 rcases Go.Deep.open_int_rows Tryz.underlying46 Tryz.underlying32 Tryz.underlying3 (by kernel_rfl) (by kernel_rfl) h with⟨hcs,_⟩|⟨x,l,c,A,L,C,Z,hcs,_,hl,hm,_,hr⟩
 ·simp at hcs
  obtain⟨rfl,rfl,rfl⟩:=hcs
  exact⟨none,0,[],rfl,Kd.C_nil _ _,Nat.le_refl _⟩
 ·simp at hcs
  obtain⟨rfl,rfl,rfl⟩:=hcs
  refine⟨some x,cap,(List.range len).map (fun r=>(Z r).take (L r)),by simp,?_,by simp;exact hl⟩;rw[List.length_map,List.length_range]
  refine⟨by simp,Nat.le_trans (Nat.le_trans hl hm) (by decide),fun h0=>⟨x,rfl,fun j p hj=> ?_⟩⟩
  have hj':j<len:=by
   have:=(List.getElem?_eq_some_iff.1 hj).1
   simpa using this
  have hp:p=(Z j).take (L j):=by
   have:=(List.getElem?_eq_some_iff.1 hj).2
   simpa using this.symm
  subst hp;obtain⟨h1,h2,h3,h4,h5,h6,h7⟩:=hr j (by omega)
  refine⟨_,rfl,list_of_cells h2 h3 h4 h6 (fun a' e c hc=>(h7 a' e).2 c hc) h5,fun i u hu=> ?_⟩
  have hi:i=0∧u= .slice (A j) (L j) (C j):=by
   cases i with
   |zero=>simp at hu;exact⟨rfl,hu.symm⟩
   |succ i=>simp at hu
  obtain⟨rfl,rfl⟩:=hi
  show W.cell? (x.add (j*1+0))=_
  rw[Nat.mul_one,Nat.add_zero]
  exact h1
set_option maxRecDepth 100000 in
theorem level_at {fuel:Nat} {cs:List Value} {y:DataW H×List MemPlace} (h:DataW.trod enc Tryz.prog W 0 (fun _=>true) held fuel 56 cs=some y):∃x:S56,k56.K W x cs:=by
 obtain⟨y0,y1,y2,n,_,hl,h0,h1,h2⟩:=trod_struct3 Tryz.underlying56 h
 have hc:Tryz.prog.cellsOf 56=3:=by kernel_rfl
 have c3:Tryz.prog.cellsOf 3=1:=by kernel_rfl
 have e:Tryz.prog.cellsOf 32=1:=by kernel_rfl
 have o:Tryz.prog.cellsOf 46=1:=by kernel_rfl
 rw[hc] at hl
 match cs,hl with
 | [u0,u1,u2],_=>
  have h0':DataW.trod enc Tryz.prog W 0 (fun _=>true) held n 3 ((List.drop 0 [u0,u1,u2]).take (Tryz.prog.cellsOf 3))=some y0:=h0;have h1':DataW.trod enc Tryz.prog W 0 (fun _=>true) held n 32 ((List.drop 1 [u0,u1,u2]).take (Tryz.prog.cellsOf 32))=some y1:=h1;have h2':DataW.trod enc Tryz.prog W 0 (fun _=>true) held n 46 ((List.drop 2 [u0,u1,u2]).take (Tryz.prog.cellsOf 46))=some y2:=h2;rw[c3] at h0';rw[e] at h1';rw[o] at h2';obtain⟨m,e0,_,_⟩:=DataW.trod_int Tryz.underlying3 h0';have e0':u0= .int .i64 m:=by simpa using e0
  obtain⟨A1,c1,l1,rfl,g1,k1⟩:=list_at (u:=u1) h1';obtain⟨A2,c2,l2,rfl,g2,k2⟩:=rows_at (u:=u2) h2';subst e0'
  exact⟨⟨m,l1,l2⟩,k56_mk W ⟨m,l1,l2⟩ k1 g1 k2 g2⟩
set_option maxRecDepth 100000 in
theorem open_chain {base:Nat} {v:Value} {d:DataW H} {ps:List MemPlace} (hv:Value.okWide Tryz.prog W .any base 24 v) (h:DataW.Trod enc Tryz.prog W 0 (fun _=>true) held 24 v d ps):
    ∃(n:Int) (a:Option Addr) (c:Nat) (l:List S56),v= .agg #[.int .i64 n,.slice a l.length c]∧k56.C W a l.length l∧l.length≤c∧(Lit.int .i64 n).wf=true:=by
 obtain⟨cs,rfl,hsz⟩:=okWide_struct Tryz.underlying24 hv
 obtain⟨fuel,hf⟩:=h
 obtain⟨y0,y1,n,_,hl,h0,h1⟩:=trod_struct2 Tryz.underlying24 hf
 have hc:Tryz.prog.cellsOf 24=2:=by kernel_rfl
 have c3:Tryz.prog.cellsOf 3=1:=by kernel_rfl
 have e:Tryz.prog.cellsOf 22=1:=by kernel_rfl
 have o:Tryz.prog.cellsOf 56=3:=by kernel_rfl
 rw[hc] at hl hsz
 obtain⟨L⟩:=cs
 match L,hsz with
 | [u0, u1],_=>
  have h0':DataW.trod enc Tryz.prog W 0 (fun _=>true) held n 3 ((List.drop 0 [u0,u1]).take (Tryz.prog.cellsOf 3))=some y0:=h0;have h1':DataW.trod enc Tryz.prog W 0 (fun _=>true) held n 22 ((List.drop 1 [u0,u1]).take (Tryz.prog.cellsOf 22))=some y1:=h1;rw[c3] at h0';rw[e] at h1';obtain⟨m,e0,_,hw⟩:=DataW.trod_int Tryz.underlying3 h0';have e0':u0= .int .i64 m:=by simpa using e0
  subst e0'
  rcases open_slice Tryz.underlying22 (show DataW.trod enc Tryz.prog W 0 (fun _=>true) held n 22 [u1]=some y1 from h1') with⟨hcs,_⟩|⟨x,len,cap,mm,n',D,Pl,hcs,_,hl,hm,hmm,_,hx⟩
  ·simp at hcs;subst hcs
   exact⟨m,none,0,[],rfl,Kd.C_nil _ _,Nat.le_refl _,hw⟩
  ·simp at hcs;subst hcs;simp only[if_true] at hmm;subst hmm;rw[o] at hx
   have ex:∀i,i<len→∃p:S56×List Value,k56.K W p.1 p.2∧p.2.length=3∧∀j,j<3→W.cell? ((x.add (i*3)).add j)=p.2[j]? :=by
    intro i hi;obtain⟨cs',g1,g2⟩:=hx i (by omega);obtain⟨_,g3,g4⟩:=World.cells?_some g1;obtain⟨p,hp⟩:=level_at g2
    exact⟨(p,cs'),hp,g3,g4⟩
   haveI:Inhabited S56:=⟨⟨0,[],[]⟩⟩
   obtain⟨F,hF⟩:=choose_lt ex
   refine⟨m,some x,mm,(List.range len).map (fun i=>(F i).1),by simp,?_,by simp;omega,hw⟩;rw[List.length_map,List.length_range]
   refine⟨by simp,Nat.le_trans (Nat.le_trans (by assumption) hm) (by decide),fun h0=>⟨x,rfl,fun j p hj=> ?_⟩⟩
   have hj':j<len:=by
    have:=(List.getElem?_eq_some_iff.1 hj).1
    simpa using this
   have hp:p=(F j).1:=by
    have:=(List.getElem?_eq_some_iff.1 hj).2
    simpa using this.symm
   subst hp;obtain⟨g1,g2,g3⟩:=hF j hj'
   refine⟨(F j).2,g2,g1,fun i u hu=> ?_⟩
   have hi:i<3:=by
    have:=(List.getElem?_eq_some_iff.1 hu).1;omega
   have:=g3 i hi;rw[hu,Deep.add_add] at this
   exact this
end
end Go.Proofs.YtjjlhbgpdncpcaaGreat.P
namespace Go.Proofs.YtjjlhbgpdncpcaaGreat.permElements
open Go.ChangeShapes Go.WideShapes Go.ChangeAt Go.RowKit Go.Proofs.YtjjlhbgpdncpcaaGreatW.PrintWords Go.Proofs.YtjjlhbgpdncpcaaGreatW.PrintLast Go.Proofs.YtjjlhbgpdncpcaaGreatW.PrintMore
open Go.ChangeMaps (open_string shut_string)
theorem own:ownKnob Tryz.prog.godebug=none:=by kernel_rfl
theorem laidOut:laidOutB Tryz.prog=true:=by kernel_rfl
set_option maxRecDepth 100000 in
theorem lifted (os:Os) (started:os.Started) (H:Type) (enc:TypeId×Value→H):
    ReturnsInHanded {} Tryz.checked os 3 .any (Rows.permElementsSpec.pre6 enc Tryz.prog Tryz.f3 Rows.permElementsRow.domain false) (Rows.permElementsSpec.post enc Tryz.prog Tryz.f3 false true false false):=by
 refine returnsInHanded_of_change_sized (C:=Tryz.checked) own started (by kernel_rfl) Tryz.func3
  (ChangeSpec.witness6 (enc:=enc) (C:=Tryz.checked) false ⟨#[], #[.agg #[.int .i64 0,.slice none 0 0],.int .u8 0],[]⟩ 8 (by kernel_rfl) (by kernel_rfl) (by kernel_rfl) (by kernel_rfl)) ?_
 intro W base args ds gs before o hW hcnd B _
 have hval:∀(j:Nat) t v,Tryz.f3.params[j]? =some t→args[j]? =some v→Value.okWide Tryz.prog W .any base t v:=o
 have hW':=hW
 obtain⟨p,q,z,hV,rfl,hfz,hnd⟩:=hW
 have hA:DataW.TrodAll enc Tryz.prog W 0 (fun _=>true) true Tryz.f3.params.toList args.toList ds p:=z
 rw[Tryz.params3] at hA hval
 obtain⟨v0,X,d0,L,p0,q0,hargs,rfl,rfl,h0,r0⟩:=trodAll_cons hA
 obtain⟨v1,Y,d1,O,p1,q1,rfl,rfl,rfl,h1,r1⟩:=trodAll_cons r0
 obtain⟨rfl,rfl,rfl⟩:=trodAll_nil r1
 obtain rfl:args= #[v0,v1]:=by cases args;simp_all
 obtain⟨rfl,rfl⟩:=trodVars_none hV
 have k0:=h0
 have J:∀x∈p0,x.block<W.heap.size:=by obtain⟨m,hm⟩:=k0;exact DataW.trod_lt m _ _ _ hm
 obtain⟨n0,a0,c0,l0,rfl,I,D,U⟩:=P.open_chain (hval 0 24 v0 rfl rfl) h0
 obtain⟨a1,rfl,rfl,rfl,w1⟩:=open_int Tryz.underlying5 (hval 1 5 v1 rfl rfl) h1
 clear z o B
 obtain⟨kf,b,hk,hF⟩:=P.M.law_facts n0 l0
 refine(P.law_calls n0 _ _ l0 a1 W I D kf b hk (by have:=w1;simp[Lit.wf,IntKind.min,IntKind.max,IntKind.bits,IntKind.signed] at this;omega) hF).mono fun e W' ⟨he,bel⟩=> ?_
 subst he
 exact⟨_,rfl,_,_,_,[],_,[],hW',trodAll_mk1 (shut_bool Tryz.underlying4 _),(trodAll_cons_mk (Below.trod laidOut (by kernel_rfl) (of_decide_eq_true (by kernel_rfl)) k0 bel J) (trodAll_cons_mk (shut_int Tryz.underlying5 w1) trodAll_mk0)),rfl,bel.frame _,fun h=>by cases h⟩
theorem over:Rows.permElementsRow.holds Tryz.pinned (OpenSpec.ofChange Rows.permElementsSpec):=
 OpenClaim.holds_of_wide 3 Tryz.f3 rfl rfl rfl rfl rfl rfl rfl ⟨rfl,rfl,rfl,rfl,rfl⟩ rfl rfl rfl rfl rfl (by kernel_rfl) Tryz.func3 (by kernel_rfl)
  (of_decide_eq_true (by kernel_rfl)) (by unfold Func.isWrapper;first|(rw[if_pos (by decide+kernel)];kernel_rfl)|(rw[if_neg (by decide+kernel)];exact⟨rfl,rfl⟩))
  (fun os started H enc _=>lifted os started H enc)
end Go.Proofs.YtjjlhbgpdncpcaaGreat.permElements
namespace Go.Proofs.YtjjlhbgpdncpcaaGreat
theorem permElements_holds:Rows.PermElementsSaid:=permElements.over
end Go.Proofs.YtjjlhbgpdncpcaaGreat