/- What the claim's theorem is built on, part 3: words, walks of the code, and what they tell. -/
import Derived.Deep.RegionLaw
import Derived.Test.YtjjlhbgpdncpcaaGreatE2
set_option linter.unusedVariables false
set_option linter.unusedSimpArgs false
set_option maxHeartbeats 8000000
set_option maxRecDepth 100000
open Go.RowKit Go.Proofs.YtjjlhbgpdncpcaaGreatW.PrintWords Go.Proofs.YtjjlhbgpdncpcaaGreatW.PrintLast Go.Proofs.YtjjlhbgpdncpcaaGreatW.PrintMore
namespace Go.Proofs.YtjjlhbgpdncpcaaGreat.P
def levelL:Nat→Tw→Int→Int→List Int→List (List Int)→Option (List Int×List (List Int))
 |0,_,_,_,_,_=>none
 |k+1,T,b,x,orb,reps=>if x<T.n then(if T.rep b x= [] then levelL k T b (x+1) orb reps else(canonL k T (T.rep b x) (b+1)).bind fun q=>levelL k T b (x+1) (orb++ [x]) (reps++ [q])) else some (orb,reps)
def chainL:Nat→Tw→Int→List S56→Option (List S56)
 |0,_,_,_=>none
 |k+1,T,b,lv=>if b<T.n then(levelL k T b 0 [] []).bind fun z=>chainL k T (b+1) (if 1<z.1.length then lv++ [⟨b,z.1,z.2⟩] else lv) else some lv
def ChainPost (base:Nat) (w:World) (n:Nat) (r:List S56) (e:Ending) (w':World):Prop:=∃v,e= .returned (.agg #[.int .i64 n,v])∧Kd.N k56 56 w' w.heap.size (fun k=>base≤k) v r∧Below w.heap.size w w'
structure ChO (base:Nat) (w W:World) (gres gout n:Nat) (vL:Value) (lv:List S56):Prop where
 lt1:w.heap.size≤gres
 lt2:gres<gout
 bres:W.heap[gres]? =some (Obj.cells #[.int .i64 0,.slice none 0 0] 24 (0,0))
 bout:W.heap[gout]? =some (Obj.cells #[.int .i64 n,vL] 24 (0,0))
 hN:Kd.N k56 56 W w.heap.size (fun k=>base≤k∧k≠gres∧k≠gout) vL lv
 hb:Below w.heap.size w W
structure ChI (base ws:Nat) (W0 W:World) (gl:Nat) (b:Int) (vO vR:Value) (orb:List Int) (reps:List (List Int)):Prop where
 lt:W0.heap.size≤gl
 lw:ws≤gl
 bl:W.heap[gl]? =some (Obj.cells #[.int .i64 b,vO,vR] 56 (0,0))
 hO:Kd.R (Kd.int .i64) 3 W (gl+1) (fun _=>True) vO orb
 hR:Kd.N (Kd.slice 3 (Kd.int .i64)) 32 W (gl+1) (fun k=>(base≤k∧(k<ws∨gl<k))∧some k≠vO.ownBlock) vR reps
 hb:Below W0.heap.size W0 W
theorem ChI.start {base ws:Nat} {W0 W1:World} {gl:Nat} {b:Int} (hg:gl=W0.heap.size) (hbox:W1.heap[gl]? =some (Obj.cells #[.int .i64 0,.slice none 0 0,.slice none 0 0] 56 (0,0))) (hb:Below W0.heap.size W0 W1) (hw:ws≤W0.heap.size):
    ChI base ws W0 (((W1.setCell ⟨gl,0,none⟩ (.int .i64 b)).setCell ⟨gl,1,none⟩ (.slice none 0 0)).setCell ⟨gl,2,none⟩ (.slice none 0 0)) gl b (.slice none 0 0) (.slice none 0 0) [] []:=
 have hge:W0.heap.size≤gl:=by omega
 ⟨hge,by omega,Zz (Zz (Zz hbox 0 _ rfl) 1 _ rfl) 2 _ rfl,Kd.R_nil _ _ _ _ _,Kd.N_nil _ _ _ _ _,((hb.setCell hge _).setCell hge _).setCell hge _⟩
theorem R_other {w w1:World} {b t:Nat} {ok:Nat→Prop} {v:Value} {xs:List Int} {row:Option Nat} (h:Kd.R (Kd.int .i64) 3 w b ok v xs) (ht:∀k,row=some k→∃cells,w.heap[k]? =some (Obj.cells cells t (0,0))) (hne:t≠3) (hg:w.grownBy w1 row):Kd.R (Kd.int .i64) 3 w1 b ok v xs:=by
 refine Kd.R_mono (Kd.R_step (Kd.R_bound h) (fun k hk hlt=>hg.block k hlt (fun e=> ?_))) (fun k hk=>hk.1)
 obtain⟨_,_,_,q,hq,cells,hc⟩:=hk
 obtain⟨cells',hc'⟩:=ht k e.symm
 have:q=3:=by
  rcases List.mem_cons.1 hq with h1|h1
  ·exact h1
  ·exact absurd h1 zz165
 subst this
 exact ZS hc hc' (Ne.symm hne) rfl
theorem R_set_other {w:World} {b t g j:Nat} {ok:Nat→Prop} {v u:Value} {xs:List Int} {cells:Array Value} (h:Kd.R (Kd.int .i64) 3 w b ok v xs) (hb:w.heap[g]? =some (Obj.cells cells t (0,0))) (hne:t≠3):Kd.R (Kd.int .i64) 3 (w.setCell ⟨g,j,none⟩ u) b ok v xs:=
 Kd.R_set h hb (fun q hq=>by
  rcases List.mem_cons.1 hq with h1|h1
  ·exact fun e=>hne (e.symm.trans h1)
  ·exact absurd h1 zz165) j u
theorem ChI.pushO {base ws:Nat} {W0 W w1:World} {gl:Nat} {b x:Int} {vO vR v1:Value} {orb:List Int} {reps:List (List Int)} (h:ChI base ws W0 W gl b vO vR orb reps)
    (ho:Kd.R (Kd.int .i64) 3 w1 (gl+1) (fun _=>True) v1 (orb++ [x])) (hg:W.grownBy w1 vO.ownBlock) (hat:v1.ownBlock=vO.ownBlock∨∃g,v1.ownBlock=some g∧W.heap.size≤g):
    ChI base ws W0 (w1.setCell ⟨gl,1,none⟩ v1) gl b v1 vR (orb++ [x]) reps:=by
 have hty:∀k,vO.ownBlock=some k→∃cells,W.heap[k]? =some (Obj.cells cells 3 (0,0)):=fun k hk=>Kd.R_typed h.hO k hk
 have m:w1.heap[gl]? =some (Obj.cells #[.int .i64 b,vO,vR] 56 (0,0)):=(hg.block gl (lt_of_some h.bl) (fun e=>by
  obtain⟨cs,hc⟩:=hty gl e.symm
  exact ZS h.bl hc (by decide) rfl)).trans h.bl
 refine⟨h.lt,h.lw,Zz m 1 _ rfl,R_set_other ho m (by decide),?_,?_⟩
 ·exact Kd.N_far (Kd.N_after h.hR hg hat) (p:=⟨gl,1,none⟩) (fun k hk=>by
     show k≠gl
     have:=h.lw;have h2:=hk.1.2;omega) _
 ·refine Below.setCell ?_ h.lt _
  exact h.hb.trans ⟨hg.os,hg.tape,hg.output,hg.size,fun k hk=>hg.block k (Nat.lt_of_lt_of_le hk h.hb.size) (fun e=>by
   have:=Kd.R_base h.hO k e.symm;have:=h.lt;omega)⟩
theorem ChI.below {base ws:Nat} {W0 W W1:World} {gl:Nat} {b:Int} {vO vR:Value} {orb:List Int} {reps:List (List Int)} (h:ChI base ws W0 W gl b vO vR orb reps) (hb:Below W.heap.size W W1):ChI base ws W0 W1 gl b vO vR orb reps:=
 ⟨h.lt,h.lw,Zf h.bl hb,Kd.R_below h.hO hb,Kd.N_below h.hR hb,ZT h.hb h.hb.size hb⟩
theorem N_slice_form {α:Type} {d:Kd α} {e base:Nat} {w:World} {ok:Nat→Prop} {v:Value} {xs:List α} (h:Kd.N d e w base ok v xs):∃A c,v= .slice A xs.length c:=by
 obtain⟨_,rows,hl,hR,_⟩:=h
 obtain⟨A,c,e,_⟩:=Kd.R_reads hR
 exact⟨A,c,by rw[e,hl]⟩
theorem ChI.okp_ok {base ws:Nat} {W0 W:World} {gl:Nat} {b:Int} {vO vR:Value} {orb:List Int} {reps:List (List Int)} (h:ChI base ws W0 W gl b vO vR orb reps) (hb:base≤ws) (k:Nat)
    (hk:(base≤k∧k<ws)∨W.heap.size≤k):((base≤k∧(k<ws∨gl<k))∧some k≠vO.ownBlock)∧some k≠vR.ownBlock:=by
 have h1:=h.lw
 have h2:=lt_of_some h.bl
 have e1:∀j,vO.ownBlock=some j→gl+1≤j∧j<W.heap.size:=fun j hj=>⟨Kd.R_base h.hO j hj,Kd.R_lt h.hO j hj⟩
 have e2:∀j,vR.ownBlock=some j→gl+1≤j∧j<W.heap.size:=fun j hj=>⟨Kd.N_base h.hR j hj,Kd.N_lt h.hR j hj⟩
 refine⟨⟨⟨by omega,by omega⟩,fun e=> ?_⟩,fun e=> ?_⟩
 ·have:=e1 k e.symm;omega
 ·have:=e2 k e.symm;omega
theorem ChI.pushR {base ws:Nat} {W0 W w1:World} {gl:Nat} {b:Int} {vO vR v1:Value} {orb:List Int} {reps:List (List Int)} {q:List Int} (h:ChI base ws W0 W gl b vO vR orb reps)
    (ho:Kd.N (Kd.slice 3 (Kd.int .i64)) 32 w1 (gl+1) (fun k=>(base≤k∧(k<ws∨gl<k))∧some k≠vO.ownBlock) v1 (reps++ [q])) (hg:W.grownBy w1 vR.ownBlock):
    ChI base ws W0 (w1.setCell ⟨gl,2,none⟩ v1) gl b vO v1 orb (reps++ [q]):=by
 have hty:∀k,vR.ownBlock=some k→∃cells,W.heap[k]? =some (Obj.cells cells 32 (0,0)):=fun k hk=>Kd.N_typed h.hR k hk
 have m:w1.heap[gl]? =some (Obj.cells #[.int .i64 b,vO,vR] 56 (0,0)):=(hg.block gl (lt_of_some h.bl) (fun e=>by
  obtain⟨cs,hc⟩:=hty gl e.symm
  exact ZS h.bl hc (by decide) rfl)).trans h.bl
 refine⟨h.lt,h.lw,Zz m 2 _ rfl,R_set_other (R_other h.hO hty (by decide) hg) m (by decide),?_,?_⟩
 ·exact Kd.N_far ho (p:=⟨gl,2,none⟩) (fun k hk=>by
     show k≠gl
     have:=h.lw;have h2:=hk.1.2;omega) _
 ·refine Below.setCell ?_ h.lt _
  exact h.hb.trans ⟨hg.os,hg.tape,hg.output,hg.size,fun k hk=>hg.block k (Nat.lt_of_lt_of_le hk h.hb.size) (fun e=>by
   have:=Kd.N_base h.hR k e.symm;have:=h.lt;omega)⟩
theorem ChI.level {base ws:Nat} {W0 W:World} {gl:Nat} {b:Int} {vO vR:Value} {orb:List Int} {reps:List (List Int)} (hb:base≤ws) (h:ChI base ws W0 W gl b vO vR orb reps):
    Kd.FK k56 W (fun k=>base≤k∧(k<ws∨gl<k)) ⟨b,orb,reps⟩ [.int .i64 b,vO,vR]:=by
 obtain⟨A1,c1,rfl,l1,_⟩:=Kd.R_reads h.hO
 obtain⟨A2,c2,rfl⟩:∃A c,vR= .slice A reps.length c:=by
  obtain⟨_,rows,hl,hR,_⟩:=h.hR;obtain⟨A,c,e,_⟩:=Kd.R_reads hR
  exact⟨A,c,by rw[e,hl]⟩
 have l2:=(Kd.N_reads' h.hR).2.1
 have f1:Kd.F (Kd.int .i64) W (fun k=>base≤k∧(k<ws∨gl<k)) A1 orb.length orb:=Kd.F_mono (Kd.R_F (Kd.R_bound h.hO)) (fun k hk=>by have:=hk.2.1;have:=h.lw;exact⟨by omega,by omega⟩)
 have f2:Kd.F (Kd.slice 3 (Kd.int .i64)) W (fun k=>base≤k∧(k<ws∨gl<k)) A2 reps.length reps:=Kd.F_mono (Kd.N_F h.hR) (fun k hk=>hk.1)
 exact k56_mkF W _ ⟨b,orb,reps⟩ l1 f1 l2 f2
theorem ChO.keep {base:Nat} {w W W1:World} {gres gout n:Nat} {vL:Value} {lv:List S56} (h:ChO base w W gres gout n vL lv) (hb:Below W.heap.size W W1):ChO base w W1 gres gout n vL lv:=
 ⟨h.lt1,h.lt2,Zf h.bres hb,Zf h.bout hb,Kd.N_below h.hN hb,ZT h.hb h.hb.size hb⟩
theorem ChO.push {base:Nat} {w W w1:World} {gres gout n:Nat} {vL v1:Value} {lv:List S56} {x:S56} (h:ChO base w W gres gout n vL lv)
    (ho:Kd.N k56 56 w1 w.heap.size (fun k=>base≤k∧k≠gres∧k≠gout) v1 (lv++ [x])) (hg:W.grownBy w1 vL.ownBlock):
    ChO base w (w1.setCell ⟨gout,1,none⟩ v1) gres gout n v1 (lv++ [x]):=by
 have hne:∀k,k=gres∨k=gout→some k≠vL.ownBlock:=fun k hk e=>by
  have:=h.hN.1 k e.symm
  rcases hk with rfl|rfl
  ·exact this.2.1 rfl
  ·exact this.2.2 rfl
 have e1:=(hg.block gres (lt_of_some h.bres) (hne _ (.inl rfl))).trans h.bres
 have e2:=(hg.block gout (lt_of_some h.bout) (hne _ (.inr rfl))).trans h.bout
 refine⟨h.lt1,h.lt2,ZD e1 (p:=⟨gout,1,none⟩) (by have:=h.lt2;show gres≠gout;omega) _,Zz e2 1 _ rfl,Kd.N_far ho (p:=⟨gout,1,none⟩) (fun k hk=>hk.2.2) _,?_⟩
 refine Below.setCell ?_ (by have:=h.lt1;have:=h.lt2;show w.heap.size≤gout;omega) _
 exact h.hb.trans ⟨hg.os,hg.tape,hg.output,hg.size,fun k hk=>hg.block k (Nat.lt_of_lt_of_le hk h.hb.size) (fun e=>by have:=Kd.N_base h.hN k e.symm;omega)⟩
theorem chain_calls {base:Nat} {bt bR bG:Nat} {rb:Nat→Nat} {vr:Nat→Nat→Value} {vg:Nat→Value} {T:Tw} (k:Nat) (r:List S56) (w:World)
    (hT:TwAt base w bt bR bG rb vr vg T) (h:chainL k T 0 []=some r):
    Calls Tryz.prog 48 #[.pointer (some ⟨bt,0,none⟩)] w (ChainPost base w T.n r):=by
 have HT:=aM hT
 have H':=aM h
 have a6:=hT.n64
 have aZ:=hT.cell0
 clear hT h
 go_enter Tryz.func48,Tryz.ntmps48
 go_wp2_with (first
  |((with_reducible refine Zq (N:=2) rfl ?_);refine Zx ?hg (N:=2) ?hd (cs:= #[.int .i64 0,.slice none 0 0]) (t:=24) ?hr ?_;(case hd=>rfl);(case hg=>rfl);(case hr=>first|(go_simp;done)|(go_simp;rfl));intro gres hgr w3 ab aj;have aP:=(HT.out.below aj).cell0;have HGR:=aM hgr;have HB3:=aM aj;have Z:=aM ab;clear hgr aj ab)
  |((with_reducible refine Zq (N:=3) rfl ?_);refine Zx ?hg (N:=3) ?hd (cs:= #[.int .i64 0,.slice none 0 0]) (t:=24) ?hr ?_;(case hd=>rfl);(case hg=>rfl);(case hr=>first|(go_simp;done)|(go_simp;rfl));intro gout hgo w4 I ak;have U:w4.cell? ⟨gout,0,none⟩=some (.int .i64 0):=(Za I 0).trans rfl;have L:w4.cell? ⟨gout,1,none⟩=some (.slice none 0 0):=(Za I 1).trans rfl;have am:=Zb I 0;have an:=Zb I 1;have aA:=aM (HT.out.below (Zd HB3.out ak));have ae:=aA.out.cell0;have hyx:∀(u v:Value),((w4.setCell ⟨gout,0,none⟩ u).setCell ⟨gout,1,none⟩ v).cell? ⟨bt,0,none⟩=some (.int .i64 T.n):=(fun u v=>(World.cell?_of_block (a:=⟨bt,0,none⟩) ((Below.heap_setCell _ ⟨gout,1,none⟩ v bt zz137).trans (Below.heap_setCell w4 ⟨gout,0,none⟩ u bt zz137))).trans ae);have HGO:=aM hgo;have ag:=aM ak;have ad:=aM I;clear hgo ak I))
 have aG:ChO base w ((w4.setCell ⟨gout,0,none⟩ (.int .i64 T.n)).setCell ⟨gout,1,none⟩ (.slice none 0 0)) gres gout T.n (.slice none 0 0) []:=by
  have h1_:=HGR.out;have h2_:=HGO.out;have h3_:=HB3.out.size;have a7:=lt_of_some Z.out
  refine⟨by omega,by omega,?_,Zz (Zz ad.out 0 _ rfl) 1 _ rfl,Kd.N_nil _ _ _ _ _,?_⟩
  ·exact ZD (ZD (Zf Z.out ag.out) (p:=⟨gout,0,none⟩) (by show gres≠gout;omega) _) (p:=⟨gout,1,none⟩) (by show gres≠gout;omega) _
  ·exact((Zd HB3.out ag.out).setCell (by show w.heap.size≤gout;omega) _).setCell (by show w.heap.size≤gout;omega) _
 have az:=aM aG
 clear aG U L am an ae hyx aZ aP aA ag ad Z HB3 HGO HGR
 go_loopg [17] k (fun kq a3 w'=>∃(b:Int) (lv:List S56) (vL:Value),a3= .int .i64 b∧Aside0 (0≤b)∧Aside0 (chainL kq T b lv=some r)∧Aside0 (kq≤k)∧Aside0 (ChO base w w' gres gout T.n vL lv)∧Aside0 ((lv.length:Int)≤b))
 case atStart=>exact⟨0,[],_,rfl,⟨by omega⟩,H',⟨Nat.le_refl _⟩,az,⟨by simp⟩⟩
 case round =>
  clear H' az;obtain⟨b,lv,vL,rfl,af,HA,HK1,HCO,HLV⟩:=hrel;obtain⟨wo,rfl⟩:∃wo:World,wo=wr:=⟨_,rfl⟩
  cases gk with
  |zero=>exact absurd HA.out (by simp[chainL])
  | succ k1=>
   have H:=HA.out;clear HA;simp only[chainL] at H;have b0:=af.out
   by_cases d1:b<(T.n:Int)
   ·rw [if_pos d1] at H;have aS:decide (b<(T.n:Int))=true:=dT d1;have p0:=eq_true b0;have p1:=eq_true d1;replace H:=oB H;obtain⟨z,hz,H⟩:=H;have HH:=aM H;have HZ:=aM hz;clear H hz;have HTo:=aM (HT.out.below HCO.out.hb);have a8:=HTo.out.n1
    go_wp2_with (first
     |((with_reducible refine Zq (N:=5) rfl ?_);refine Zx ?hg (N:=5) ?hd (cs:= #[.int .i64 0,.slice none 0 0,.slice none 0 0]) (t:=56) ?hr ?_;(case hd=>rfl);(case hg=>rfl);(case hr=>first|(go_simp;done)|(go_simp;rfl));intro gl hgl w5 m aH;have HI:=aM (ChI.start (base:=base) (ws:=w.heap.size) (b:=b) hgl m aH HCO.out.hb.size);have U:w5.cell? ⟨gl,0,none⟩=some (.int .i64 0):=(Za m 0).trans rfl;have L:w5.cell? ⟨gl,1,none⟩=some (.slice none 0 0):=(Za m 1).trans rfl;have Y:w5.cell? ⟨gl,2,none⟩=some (.slice none 0 0):=(Za m 2).trans rfl;have am:=Zb m 0;have an:=Zb m 1;have ao:=Zb m 2;have ah:=aM (HTo.out.below HI.out.hb);have a0:=ah.out.cell1;have a1:=ah.out.cellR b0 d1;clear hgl m aH))
    clear U L Y am an ao a0 a1 ah;generalize ((w5.setCell ⟨gl,0,none⟩ (.int .i64 b)).setCell ⟨gl,1,none⟩ (.slice none 0 0)).setCell ⟨gl,2,none⟩ (.slice none 0 0)=w6 at HI⊢
    go_loopg [30] k1 (fun kq a4 w'=>∃(x:Int) (orb:List Int) (reps:List (List Int)) (vO vR:Value),a4= .int .i64 x∧Aside0 (0≤x)∧Aside0 (levelL kq T b x orb reps=some z)∧Aside0 (kq≤k1)∧Aside0 (ChI base w.heap.size wo w' gl b vO vR orb reps)∧Aside0 ((orb.length:Int)≤x∧(reps.length:Int)≤x))
    case atStart=>exact⟨0,[],[],_,_,rfl,⟨by omega⟩,HZ,⟨Nat.le_refl _⟩,HI,⟨by simp⟩⟩
    case round =>
     clear HZ HI;obtain⟨x,orb,reps,vO,vR,rfl,ai,HA,HK2,HI,HLN⟩:=hrel
     cases gk with
     |zero=>exact absurd HA.out (by simp[levelL])
     | succ k2=>
      have H:=HA.out;clear HA;simp only[levelL] at H;have x0:=ai.out;have HTw:=aM (HTo.out.below HI.out.hb)
      by_cases e1:x<(T.n:Int)
      ·rw [if_pos e1] at H;have aT:decide (x<(T.n:Int))=true:=dT e1;have q0:=eq_true x0;have q1:=eq_true e1;have av:=HTw.out.cellr b0 d1 x0 e1
       by_cases e2:T.rep b x= []
       ·rw[if_pos e2] at H;obtain⟨A2,c2',hv,ar,ao,hnil⟩:=HTw.out.leaf b.toNat x.toNat (by omega) (by omega);have aO:=hnil e2;rw[aO] at av;have hq:=fun W=>Ya W none 0 0
        have H':=aM H;clear hv aO hnil ao ar e2 H;go_wp2
        go_roundg k2
        case measure=>omega
        case rel=>exact⟨x+1,orb,reps,vO,vR,rfl,⟨by have:=ai.out;omega⟩,H',⟨by have:=HK2.out;omega⟩,HI,⟨by have:=HLN.out;omega⟩⟩
       ·rw [if_neg e2] at H;have hLN:LeafOk (fun k=>base≤k∧k<w.heap.size) w (vr b.toNat x.toNat) (T.rep b x):=(HT.out.leaf b.toNat x.toNat (by omega) (by omega)).ok;have hLw:=hLN.below (ZT HCO.out.hb HCO.out.hb.size HI.out.hb);replace H:=oB H;obtain⟨q,aJ,H⟩:=H;have aF:=hLw;obtain⟨A2,c2',hv,ar,aD⟩:=aF;obtain⟨aC,rfl⟩:=C_some (Kd.F_now aD) e2;rw[hv] at av hLN;have ax:=aM hLN;have hqn:=fun W=>Ya W (some aC) (T.rep b x).length c2'
        have H':=aM H;have aR:=aM aJ;clear hv ar aD e2 H aJ hLN hLw;have L:wr.cell? ⟨gl,1,none⟩=some vO:=(Za HI.out.bl 1).trans rfl;have hzl:=lt_of_some HI.out.bl
        go_wp2_with (first
         |((with_reducible refine ZQ (b:= .append) (xs:= #[.tmp 38,.tmp 40]) rfl ?_);at_builtin;refine Kd.R_append (Kd.int .i64) (w0:=wr) (gl+1) rfl (.tmp 38) (.tmp 40) 32 3 (.int .i64 0) 8 rfl Tryz.underlying32 info3 rfl (by decide) (by omega) vO orb x [.int .i64 x] (fun _=>True) (fun _=>False) rfl rfl ?hp (fun _ h=>h.elim) (fun _ _=>trivial) HI.out.hO (Below.refl _ _) hzl ?hl ?_;(case hp=>exact rfl);(case hl=>have h_:=HLN.out;omega);intro v1 w7 ac al aI aa;obtain⟨A7,c7,rfl⟩:=Kd.R_slice ac;rw[show(orb++ [x]).length=orb.length+1 by simp] at ac aa;have J:=aM (HI.out.pushO ac aI aa);have aY:=(al.cell (p:=⟨gl,1,none⟩) (Nat.lt_succ_self gl)).trans L;have hwf:=(al.frozen (p:=⟨gl,1,none⟩) (Nat.lt_succ_self gl)).trans (Zb HI.out.bl 1);clear ac al aI aa))
        generalize w7.setCell ⟨gl,1,none⟩ (.slice A7 (orb.length+1) c7)=w8 at J⊢;clear aY hwf L hzl hqn av;have aB:=aM (HT.out.below (Yj (ZT HCO.out.hb HCO.out.hb.size J.out.hb)));have aw:=aM (ax.out.below (Yj (ZT HCO.out.hb HCO.out.hb.size J.out.hb)));have Y:w8.cell? ⟨gl,2,none⟩=some vR:=(Za J.out.bl 2).trans rfl;have hlt:=lt_of_some J.out.bl
        have hne:vR.ownBlock≠some gl:=fun e=>by
         have:=Kd.N_base J.out.hR gl e;omega
        have HNE:=aM hne;clear hne;have hzf:=Zb J.out.bl 2
        go_region_law (first
         |(refine Yk (f:=71) Tryz.func71 ?zhn_ rfl #[.pointer (some ⟨bt,0,none⟩),.slice (some aC) (T.rep b x).length c2',.int .i64 b] ?zhw_ rfl rfl ?zha_ ?_;(case zhn_=>rfl);(case zhw_=>simp[Region.wanted]);(case zha_=>(try simp only[List.map_toArray,List.map_cons,List.map_nil]);first|done|rfl);refine(canon_calls k2 _ _ (T.rep b x) b q _ (fun k=>base≤k∧k<w.heap.size) aB.out aw.out b0 d1 aR.out).mono ?_;rintro e w9 ⟨v9,rfl,aV,hb9⟩;obtain⟨A9,c9,rfl,hl9',aE⟩:=aV;have O:=aM (And.intro hl9' (And.intro aE hb9));have aq:=(hb9.cell (p:=⟨gl,2,none⟩) hlt).trans Y;have hkf:=(hb9.frozen (p:=⟨gl,2,none⟩) hlt).trans hzf;have hkz:∀o:Obj,(w9.alloc o).cell? ⟨gl,2,none⟩=some vR:=(fun o=>(((Below.refl w9.heap.size w9).alloc (Nat.le_refl _) o).cell (p:=⟨gl,2,none⟩) (Nat.lt_of_lt_of_le hlt hb9.size)).trans aq);have hkzf:∀o:Obj,(w9.alloc o).frozen? ⟨gl,2,none⟩=false:=(fun o=>(((Below.refl w9.heap.size w9).alloc (Nat.le_refl _) o).frozen (p:=⟨gl,2,none⟩) (Nat.lt_of_lt_of_le hlt hb9.size)).trans hkf);clear hl9' aE hb9;refine⟨_,rfl,?_⟩)
         |(refine Kd.N_append_step (Kd.slice 3 (Kd.int .i64)) (w0:=w9) (gl+1) ?hw_ (.tmp 44) (.tmp 49) 46 32 (.slice none 0 0) 24 rfl Tryz.underlying46 info32 rfl ?hs_ ?hby_ vR reps q [.slice A9 q.length c9] (fun k=>(base≤k∧(k<w.heap.size∨gl<k))∧some k≠(Value.slice A7 (orb.length+1) c7).ownBlock) (fun k=>(base≤k∧k<w.heap.size)∨w8.drew.heap.size≤k) rfl rfl ?hp_ ?hokp_ ?hfr_ ?hO_ (Below.refl _ _) ?hba_ ?hl_ ?_;(case hw_=>simp[Region.wanted]);(case hs_=>decide);(case hby_=>omega);(case hp_=>exact Kd.FK_slice_mk O.out.1 O.out.2.1);(case hokp_=>exact fun k hk=>J.out.okp_ok HT.out.base_le k hk);(case hfr_=>exact fun k hk=>(J.out.okp_ok HT.out.base_le k (.inr (Nat.le_trans O.out.2.2.size hk))).1);(case hO_=>exact Kd.N_below (Kd.N_drew J.out.hR) O.out.2.2);(case hba_=>exact Nat.le_trans hlt O.out.2.2.size);(case hl_=>have h_:=HLN.out;omega);intro a2 a5 D hb10 B P;obtain⟨aQ,c10,rfl⟩:=N_slice_form D;rw[show(reps++ [q]).length=reps.length+1 by simp] at D P;have HIZ:=aM ((J.out.below (Zd (Yj (Below.refl _ _)) O.out.2.2)).pushR D B);have au:=(B.cell_far ⟨gl,2,none⟩ (Nat.lt_of_lt_of_le hlt O.out.2.2.size) (Ne.symm HNE.out)).trans aq;have hmf:=(B.frozen_far ⟨gl,2,none⟩ (Nat.lt_of_lt_of_le hlt O.out.2.2.size) (Ne.symm HNE.out)).trans hkf;clear D hb10 B P))
        all_goals
         clear aq hkf hkz hkzf au hmf Y hzf hlt HNE O aB aw;go_wp2
         go_roundg k2
         case measure=>omega
         case rel=>exact⟨x+1,orb++ [x],reps++ [q],_,_,rfl,⟨by have:=ai.out;omega⟩,H',⟨by have:=HK2.out;omega⟩,HIZ,⟨by have h_:=HLN.out;rw[List.length_append,List.length_append,List.length_singleton,List.length_singleton];omega⟩⟩
      ·rw [if_neg e1] at H;obtain rfl:=oI H;have aT:decide (x<(T.n:Int))=false:=dF e1;have X:=HH.out
       by_cases f1:1<orb.length
       ·rw [if_pos f1] at X;have H':=aM X;clear X;have aU:decide (1<orb.length)=true:=dT f1;obtain⟨A7,c7,hvO⟩:=Kd.R_slice HI.out.hO;subst hvO;have HCw:=aM (HCO.out.keep HI.out.hb);have L:wr.cell? ⟨gl,1,none⟩=some (.slice A7 orb.length c7):=(Za HI.out.bl 1).trans rfl;have U:wr.cell? ⟨gl,0,none⟩=some (.int .i64 b):=(Za HI.out.bl 0).trans rfl;have Y:wr.cell? ⟨gl,2,none⟩=some vR:=(Za HI.out.bl 2).trans rfl;have aN:wr.cell? ⟨gout,1,none⟩=some vL:=(Za HCw.out.bout 1).trans rfl;have huf:=Zb HCw.out.bout 1;have hlo:=lt_of_some HCw.out.bout;have hne:vL.ownBlock≠some gout:=fun e=>(HCw.out.hN.1 gout e).2.2 rfl
        have HNE:=aM hne;clear hne
        have ay:=aM (show∀k,(base≤k∧(k<w.heap.size∨gl<k))→(base≤k∧k≠gres∧k≠gout)∧some k≠vL.ownBlock from fun k hk=>by
         have h1:=HCO.out.lt1;have h2:=HCO.out.lt2;have h3:=lt_of_some HCO.out.bout;have h4:=HI.out.lt
         refine⟨⟨hk.1,by omega,by omega⟩,fun e=> ?_⟩;have h5:=Kd.N_base HCO.out.hN k e.symm;have h6:=Kd.N_lt HCO.out.hN k e.symm;omega)
        go_wp2_with (first
         |((with_reducible refine ZQ (b:= .append) (xs:= #[.tmp 58,.tmp 60]) rfl ?_);at_builtin;refine Kd.N_append k56 (w0:=wr) w.heap.size rfl (.tmp 58) (.tmp 60) 22 56 (.agg #[(.int .i64 0),(.slice none 0 0),(.slice none 0 0)]) 56 rfl Tryz.underlying22 info56 rfl (by decide) (by omega) vL lv (⟨b,orb,reps⟩:S56) [.int .i64 b,.slice A7 orb.length c7,vR] (fun k=>base≤k∧k≠gres∧k≠gout) (fun k=>base≤k∧(k<w.heap.size∨gl<k)) rfl rfl (HI.out.level HT.out.base_le) ay.out ?yF HCw.out.hN (Below.refl _ _|>.trans ⟨rfl,rfl,rfl,Nat.le_refl _,fun _ _=>rfl⟩) HCw.out.hb.size ?yL ?_;(case yF=>exact fun k hk=>⟨by have h1_:=HT.out.base_le;have h2_:=HCw.out.hb.size;omega,by have h1_:=HCw.out.lt2;omega,by omega⟩);(case yL=>have h_:=HLV.out;omega);intro a2 a5 D hb10 B P;obtain⟨aQ,c10,rfl⟩:=N_slice_form D;rw[show(lv++ [(⟨b,orb,reps⟩:S56)]).length=lv.length+1 by simp] at D;have HCZ:=aM (HCw.out.push D B);have au:=(B.cell_far ⟨gout,1,none⟩ hlo (Ne.symm HNE.out)).trans aN;have hmf:=(B.frozen_far ⟨gout,1,none⟩ hlo (Ne.symm HNE.out)).trans huf;clear D hb10 B P))
        clear L U Y aN huf hlo au hmf
        go_roundg k1
        case measure=>omega
        case rel=>exact⟨b+1,_,_,rfl,⟨by have:=af.out;omega⟩,H',⟨by have:=HK1.out;omega⟩,HCZ,⟨by have h_:=HLV.out;rw[List.length_append,List.length_singleton];omega⟩⟩
       ·rw[if_neg f1] at X;have H':=aM X;clear X;have aU:decide (1<orb.length)=false:=dF f1;obtain⟨A7,c7,hvO⟩:=Kd.R_slice HI.out.hO;subst hvO;have HCw:=aM (HCO.out.keep HI.out.hb);have L:wr.cell? ⟨gl,1,none⟩=some (.slice A7 orb.length c7):=(Za HI.out.bl 1).trans rfl;go_wp2
        go_roundg k1
        case measure=>omega
        case rel=>exact⟨b+1,_,_,rfl,⟨by have:=af.out;omega⟩,H',⟨by have:=HK1.out;omega⟩,HCw,⟨by have h_:=HLV.out;omega⟩⟩
   ·rw[if_neg d1] at H;obtain rfl:=oI H;have aS:decide (b<(T.n:Int))=false:=dF d1;obtain⟨A7,c7,hvL⟩:=N_slice_form HCO.out.hN;subst hvL;have U:wo.cell? ⟨gout,0,none⟩=some (.int .i64 T.n):=(Za HCO.out.bout 0).trans rfl;have L:wo.cell? ⟨gout,1,none⟩=some (.slice A7 lv.length c7):=(Za HCO.out.bout 1).trans rfl;have aW:wo.cell? ⟨gres,0,none⟩=some (.int .i64 0):=(Za HCO.out.bres 0).trans rfl;have aX:wo.cell? ⟨gres,1,none⟩=some (.slice none 0 0):=(Za HCO.out.bres 1).trans rfl;have aK:=Zb HCO.out.bres 0;have aL:=Zb HCO.out.bres 1;go_wp2;clear U L aW aX aK aL
    refine bodyPost_ret (results_cell_row rfl _ _ gres 24 #[.int .i64 T.n,.slice A7 lv.length c7] (0,0) _ rfl (Zz (Zz HCO.out.bres 0 _ rfl) 1 _ rfl) Tryz.underlying24 rfl (by kernel_rfl)) rfl ?_
    refine⟨_,rfl,?_,(HCO.out.hb.setCell HCO.out.lt1 _).setCell HCO.out.lt1 _⟩
    exact Kd.N_mono (Kd.N_far (Kd.N_far HCO.out.hN (p:=⟨gres,0,none⟩) (fun k hk=>hk.2.1) _) (p:=⟨gres,1,none⟩) (fun k hk=>hk.2.1) _) (fun k hk=>hk.1)
theorem TwAt.not_own {base:Nat} {w:World} {bt bR bG:Nat} {rb:Nat→Nat} {vr:Nat→Nat→Value} {vg:Nat→Value} {T:Tw} (h:TwAt base w bt bR bG rb vr vg T) {g:Nat} (hg:w.heap.size≤g):¬Own T.n rb bG vg g:=by
 rintro (⟨i,hi,rfl⟩|rfl|⟨i,hi,ho⟩)
 ·have:=lt_of_some (h.hr i hi);omega
 ·have:=lt_of_some h.hG;omega
 ·obtain⟨inner,h2,_⟩:=h.hg i hi
  have:=own_lt h2 g ho;omega
theorem grown_undrew {w w1:World} {row:Option Nat} (h:w.drew.grownBy w1 row):w.grownBy w1 row:=⟨h.os,h.tape,h.output,h.size,h.block⟩
theorem add_close {base:Nat} {w w3 w4:World} {bt bR bG:Nat} {rb:Nat→Nat} {vr:Nat→Nat→Value} {vg:Nat→Value} {T:Tw} {A0:Option Addr} {c0:Nat} {p:List Int} {b:Int} {inner:List Value} {gg cap:Nat}
    (hT:TwAt base w3 bt bR bG rb vr vg T) (c2:0≤b) (c3:b<T.n) (hP:Leaf base w3 (.slice A0 p.length c0) p) (hK:Keep base w w3) (hF:TwFr T.n rb bG vg w vg w3)
    (hin:∀(j:Nat) (l:List Int),(T.gen b)[j]? =some l→∃v,inner[j]? =some v∧Leaf base w3 v l) (ho:w3.ownsRow base 32 1 (vg b.toNat) (T.gen b).length inner)
    (e:w4.ownsRow base 32 1 (.slice (some ⟨gg,0,none⟩) ((T.gen b).length+1) cap) ((T.gen b).length+1) (inner++ [.slice A0 p.length c0]))
    (hgrow:(w3.alloc (.cells #[.slice A0 p.length c0] 32)).drew.grownBy w4 (vg b.toNat).ownBlock) (hat:(vg b.toNat).ownBlock=some gg∨gg=w3.heap.size+1):
    ∃(o:Nat→Nat→Value) (m:Nat→Value),Aside0 (TwAt base (w4.setCell ⟨bG,b.toNat,none⟩ (.slice (some ⟨gg,0,none⟩) ((T.gen b).length+1) cap)) bt bR bG rb o m (T.addGen b p))∧Aside0 (Keep base w (w4.setCell ⟨bG,b.toNat,none⟩ (.slice (some ⟨gg,0,none⟩) ((T.gen b).length+1) cap)))∧Aside0 (TwFr T.n rb bG vg w m (w4.setCell ⟨bG,b.toNat,none⟩ (.slice (some ⟨gg,0,none⟩) ((T.gen b).length+1) cap))):=by
 have ha:=hT.add_gen (w1:=w4) (v1:= .slice (some ⟨gg,0,none⟩) ((T.gen b).length+1) cap) (inner:=inner) c2 c3 hP hin (by have:=ho.1;simpa using this) e (World.grownBy.trans (World.grownBy_alloc w3 _ _) (grown_undrew hgrow)) (by rcases hat with hat|hat;exact .inl hat.symm;exact .inr ⟨gg,rfl,by omega⟩)
 exact⟨_,_,⟨ha.1⟩,⟨hK.trans ha.2.1⟩,⟨hF.trans ha.2.2⟩⟩
theorem insert_step (k:Nat) (ihv:∀m,m≤k→VisitOk m):InsertOk (k+1):=by
 intro base bt bR bG rb vr vg T A0 c0 p b T' w hT hp h
 have HT:=aM hT
 have HP:=aM hp
 have IHV:=aM ihv
 have HR:=aM hp.C.1
 have HC:=aM hp.C.2
 clear hT ihv hp
 simp only[insertL] at h
 replace h:=oB h
 obtain⟨e1,aE,h⟩:=h
 have ax:=aM aE
 clear aE
 have bb:=HT.out.cell0
 have aH:=HT.out.n64
 by_cases c1:e1=(T.n:Int)
 ·rw [if_pos c1] at h
  obtain rfl:=oI h;have az:(e1==(T.n:Int))=true:=beq_iff_eq.mpr c1;clear c1 h
  go_enter Tryz.func47,Tryz.ntmps47
  go_wp2_with (first
   |(go_at_call 68;(with_reducible refine(strip_calls k _ _ p b e1 _ HT.out HR.out HC.out ax.out).mono ?_);rintro e w3 ⟨v3,rfl,I⟩;have HB3:=aM I;have aj:=(HT.out.below I).cell0;clear I))
  go_end0
  exact⟨rfl,vr,vg,HT.out.below HB3.out,Keep.of_below HT.out.base_le HB3.out,TwFr.of_below HB3.out,rfl⟩
 rw[if_neg c1] at h
 have az:(e1==(T.n:Int))=false:=beq_eq_false_iff_ne.mpr c1
 clear c1
 by_cases c2:0≤b
 ·rw [if_pos c2] at h
  by_cases c3:b<(T.n:Int)
  ·rw [if_pos c3] at h
   by_cases c4:(T.gen b).length<1000000
   ·rw [if_pos c4] at h;have p2:=eq_true c2;have p3:=eq_true c3;have H':=aM h;clear h
    go_enter Tryz.func47,Tryz.ntmps47
    go_wp2_with (first
     |(go_at_call 68;(with_reducible refine(strip_calls k _ _ p b e1 _ HT.out HR.out HC.out ax.out).mono ?_);rintro e w3 ⟨v3,rfl,I⟩;have HB3:=aM I;have z:=aM (HT.out.below I);have aw:=aM (HP.out.keep (Keep.of_below HT.out.base_le I));have aj:=z.out.cell0;clear I))
    obtain⟨inner,ho,hin⟩:=z.out.hg b.toNat (by omega);have hgen:T.gens.getD b.toNat []=T.gen b:=rfl;rw[hgen] at ho hin;clear hgen;have Y:=z.out.cell2;have Z:=z.out.cellG c2 c3;have hyf:w3.frozen? ⟨bG,b.toNat,none⟩=false:=Zb z.out.hG _
    have ai:(vg b.toNat).ownBlock≠some bt:=fun e=>by
     obtain⟨cs,hc⟩:=Ye ho bt e
     exact ZS hc z.out.ht (by decide) rfl
    have U:(vg b.toNat).ownBlock≠some bG:=fun e=>by
     obtain⟨cs,hc⟩:=Ye ho bG e
     exact ZS hc z.out.hG (by decide) rfl
    have ag:=lt_of_some z.out.ht;have P:=lt_of_some z.out.hG;have al:∀o:Obj,(w3.alloc o).drew.frozen? ⟨bG,b.toNat,none⟩=false:=fun o=>(((Below.refl w3.heap.size w3).alloc (Nat.le_refl _) o).frozen (p:=⟨bG,b.toNat,none⟩) P).trans hyf
    have ak:∀o:Obj,(w3.alloc o).drew.cell? ⟨bG,b.toNat,none⟩=some (vg b.toNat):=fun o=>(((Below.refl w3.heap.size w3).alloc (Nat.le_refl _) o).cell (p:=⟨bG,b.toNat,none⟩) P).trans Z
    have HYC:=aM ak;have HYD:=aM (show∀o:Obj,(w3.alloc o).drew.cell? ⟨bt,2,none⟩=some (.slice (some ⟨bG,0,none⟩) T.n T.n) from fun o=>(((Below.refl w3.heap.size w3).alloc (Nat.le_refl _) o).cell (p:=⟨bt,2,none⟩) ag).trans Y);have HYF:=aM al;clear ak al;have HO:=aM ho;have HIN:=aM hin;clear ho hin bb;obtain⟨i0,aG,aO,aP,aQ⟩:=info_parts info32
    go_cut [] (fun wc=>∃(D:Nat→Nat→Value) (aa:Nat→Value),Aside0 (TwAt base wc bt bR bG rb D aa (T.addGen b p))∧Aside0 (Keep base w wc)∧Aside0 (TwFr T.n rb bG vg w aa wc))
    case first=>
     go_region_law
      ((refine step_append_lies _ (by rfl) _ _ _ (by rfl) base 32 i0 _ 1 24 Tryz.underlying46 aG aO aP aQ rfl (by omega) (vg b.toNat) (T.gen b).length inner (by rfl) ((HO.out.alloc _).drew)
          ⟨w3.heap.size,0,none⟩ 1 1 [.slice A0 p.length c0] (by rfl) (by rfl) (World.news_of_block (cs:= #[.slice A0 p.length c0]) (t:=32) (fr:=(0,0)) (heap_alloc_new w3 _)) (by simp[Value.oneCell'])
          (by omega) (by simp only[maxLen];omega) (by omega) (by simp;exact Nat.le_succ_of_le z.out.base_le) (w3.heap.size+1) (by simp) ?_;intro gg cap w4 X hgrow hat hlt;have aS:=(hgrow.cell_far ⟨bt,2,none⟩ (by simp;omega) (Ne.symm ai)).trans (HYD.out _);have aR:=(hgrow.cell_far ⟨bG,b.toNat,none⟩ (by simp;omega) (Ne.symm U)).trans (HYC.out _);have aT:=(hgrow.frozen_far ⟨bG,b.toNat,none⟩ (by simp;omega) (Ne.symm U)).trans (HYF.out _)))
     all_goals
      have hcl:=add_close z.out c2 c3 aw.out (Keep.of_below HT.out.base_le HB3.out) (TwFr.of_below HB3.out) HIN.out HO.out X hgrow hat;clear X hgrow hat hlt aR aS aT;go_wp2;go_meet
      case rel=>exact hcl
    case rest=>
     obtain⟨D,aa,J,HK4,aV⟩:=hcut;clear Y Z hyf ai U ag P HYC HYD HYF HO HIN aG aO aP aQ az aj z aw;have B:=J.out;have Y:=B.cell1;have Z:=B.cellR c2 c3;have hTn:(T.addGen b p).n=T.n:=rfl;rw[hTn] at Y Z
     have HCELL:=aM (show∀(j:Nat) (u:Value),((List.range T.n).map (D b.toNat))[j]? =some u→wc.cell? ⟨rb b.toNat,j,none⟩=some u from fun j u hu=>by
      have:=(Za (B.hr b.toNat (by rw[hTn];omega)) j).trans (by rw[List.getElem?_toArray]);rw[hTn] at this;rw[this];exact hu)
     have HONE:=aM (show∀v∈(List.range T.n).map (D b.toNat),v.oneCell'=true from fun v hv=>by
      obtain⟨x,hx,rfl⟩:=List.mem_map.1 hv;obtain⟨A,c,hv,_⟩:=B.leaf b.toNat x (by rw[hTn];omega) (by rw[hTn];exact List.mem_range.1 hx);rw[hv];rfl)
     have ao:=B.n1;rw[hTn] at ao;clear B hTn
     go_wp2_with (first
      |(go_at_call 69;(with_reducible refine(clone84_calls (rb b.toNat) T.n ((List.range T.n).map (D b.toNat)) _ (by simp) ao aH HONE.out HCELL.out).mono ?_);rintro e w5 ⟨g5,c5,rfl,aF,ah,aD,O⟩;have ar:=aM (And.intro aD O);have HNO:=aM (show¬Own T.n rb bG aa g5 from J.out.not_own aF);have av:=aM ah;have a3:=aM (J.out.below O);have au:=aM (HK4.out.trans (Keep.of_below J.out.base_le O));have aW:=aM (aV.out.trans (TwFr.of_below O));clear aD O aF ah))
     clear Y Z HCELL HONE ao;have hrow:(T.row b).length=T.n:=HT.out.lrr b.toNat (by omega);have HROW:=aM hrow;have HLEAF:=aM (show∀x:Nat,x<T.n→Leaf base w5 (D b.toNat x) ((T.row b).getD x []) from fun x hx=>(J.out.leaf b.toNat x (show b.toNat<T.n by omega) hx).leaf.keep (Keep.of_below J.out.base_le (ar.out.2)));clear hrow
     go_loopg [48] k (fun kq bc w'=>∃(T1:Tw) (i:Int) (af:Nat→Nat→Value) (ab:Nat→Value),bc= .int .i64 i∧Aside0 (0≤i)∧Aside0 (insertLoop kq T1 (T.row b) p b i=some T')∧Aside0 (kq≤k)∧Aside0 (TwAt base w' bt bR bG rb af ab T1)∧Aside0 (Keep base w5 w')∧Aside0 (TwFr T.n rb bG aa w5 ab w')∧Aside0 (T1.n=T.n))
     case atStart=>exact⟨_,0,_,_,rfl,⟨by omega⟩,H',⟨Nat.le_refl _⟩,a3,⟨Keep.refl _ _⟩,⟨TwFr.refl⟩,⟨rfl⟩⟩
     case round=>
      clear H';obtain⟨T1,i,af,ab,rfl,am,HA,HK1,L,HKe,HFe,ac⟩:=hrel
      cases gk with
      |zero=>exact absurd HA.out (by simp[insertLoop])
      | succ k1=>
       have H:=HA.out;clear HA;simp only[insertLoop] at H;have i0:=am.out;have q0:=eq_true i0
       by_cases d1:i<((T.row b).length:Int)
       ·rw [if_pos d1] at H;rw[HROW.out] at d1;have q1:=eq_true d1
        have aN:wr.cell? ⟨g5,i.toNat,none⟩=some (D b.toNat i.toNat):=by
         have e1:=HFe.out.same g5 av.out HNO.out;have e2:=ar.out.1 i.toNat (D b.toNat i.toNat) (by rw[List.getElem?_map,List.getElem?_range (by omega)];rfl)
         exact(World.cell?_of_block (a:=⟨g5,i.toNat,none⟩) e1).trans e2
        have hLf:Leaf base wr (D b.toNat i.toNat) (Zo (T.row b) i):=(HLEAF.out i.toNat (by omega)).keep HKe.out
        by_cases d2:Zo (T.row b) i= []
        ·rw[if_pos d2] at H;obtain⟨A2,c2',hv,ae,a8,hnil⟩:=hLf;have aL:=hnil d2;rw[aL] at aN;have hq:=fun W=>Ya W none 0 0
         have H':=aM H;clear hv aL hnil a8 ae d2 H;go_wp2
         go_roundg k1
         case measure=>have:=HK1.out;omega
         case rel=>exact⟨T1,i+1,af,ab,rfl,⟨by have:=am.out;omega⟩,H',⟨by have:=HK1.out;omega⟩,L,HKe,HFe,ac⟩
        rw[if_neg d2] at H;replace H:=oB H;obtain⟨q,aJ,H⟩:=H;replace H:=oB H;obtain⟨T2,aK,H⟩:=H;obtain⟨A2,c2',hv,ae,an⟩:=hLf.reads;obtain⟨a7,rfl⟩:=C_some an d2;have hpos:0<(Zo (T.row b) i).length:=List.length_pos_iff.2 d2;rw[hv] at aN;have hq:=fun W=>Ya W (some a7) (Zo (T.row b) i).length c2'
        have H':=aM H;have ay:=aM aJ;have a6:=aM aK;have aU:=aM an;have a1:=aM ae;have HPOS:=aM hpos;have HPr:=aM (HP.out.keep (au.out.trans HKe.out)).C.1;clear hv d2 H aJ aK an ae hLf hpos
        go_wp2_with (first
         |(go_at_call 35;(with_reducible refine(perm_then.calls k1 _ _ (Zo (T.row b) i) _ _ p q _ ?s1 ?s2 ?s3 ?s4 ay.out).mono ?_);(case s1=>exact aU.out);(case s2=>exact a1.out);(case s3=>exact HPr.out);(case s4=>exact HC.out);rintro e w7 ⟨v7,rfl,aq,ad⟩;have HLf:=aM (LeafN.of_R (base:=base) aq L.out.base_le (by rw[←List.length_pos_iff,then_len ay.out];exact HPOS.out));obtain⟨A7,c7,rfl,a9,ba⟩:=Kd.R_reads aq;have a4:=aM (L.out.below ad);have aZ:=aM (HKe.out.trans (Keep.of_below L.out.base_le ad));have aX:=aM (HFe.out.trans (TwFr.of_below ad));clear aq ad ba a9)
         |(go_at_call 70;(with_reducible refine(IHV.out k1 zz167 A7 c7 q b T2 _ a4.out HLf.out a6.out).mono ?_);rintro e w8 ⟨rfl,bh,bg,aC,aB,aA,aI⟩;have a5:=aM aC;have a0:=aM (aZ.out.trans aB);have aY:=aM (aX.out.trans (ac.out▸aA));have a2:=aM (aI.trans ac.out);clear aC aB aA aI))
        go_roundg k1
        case measure=>have:=HK1.out;omega
        case rel=>exact⟨T2,i+1,bh,bg,rfl,⟨by have:=am.out;omega⟩,H',⟨by have:=HK1.out;omega⟩,a5,a0,aY,a2⟩
       rw[if_neg d1] at H;obtain rfl:=oI H;rw[HROW.out] at d1;have bi:decide (i<(T.n:Int))=false:=dF d1;go_wp2
       go_end0
       exact⟨rfl,af,ab,L.out,au.out.trans HKe.out,aW.out.trans HFe.out,ac.out⟩
   rw[if_neg c4] at h;cases h
  rw[if_neg c3] at h;cases h
 rw[if_neg c2] at h;cases h
theorem vi_ok (k:Nat):VisitOk k∧InsertOk k:=by
 induction k using Nat.strongRecOn with
 | _ k ih=>
  cases k with
  |zero=>exact⟨fun A0 c0 p b T' w _ _ h=>by simp[visitL] at h,fun A0 c0 p b T' w _ _ h=>by simp[insertL] at h⟩
  |succ k=>exact⟨visit_step k (fun m hm=>(ih m (by omega)).1) (fun m hm=>(ih m (by omega)).2),insert_step k (fun m hm=>(ih m (by omega)).1)⟩
def newTowerL (k n:Nat):Option Tw:=if 1≤n∧n≤64 then(perm_identity.f k n).bind fun r=>if r= [] then none else some { n:=n,reps:=(List.range n).map (fun b=>(List.replicate n []).set b r),gens:=List.replicate n [] } else none
theorem info46':(Tryz.prog.info? 46).map (fun i=>(i.zero,i.size,i.bytes))=some (some (.slice none 0 0),1,24):=by kernel_rfl
structure NtAt (base:Nat) (w:World) (bt bR bG n j:Nat) (rb:Nat→Nat) (vr:Nat→Nat→Value) (r:List Int):Prop where
 gt:base≤bt
 gR:base≤bR
 gG:base≤bG
 grb:∀i,i<j→base≤rb i
 ht:w.heap[bt]? =some (Obj.cells #[.int .i64 n,.slice (some ⟨bR,0,none⟩) n n,.slice (some ⟨bG,0,none⟩) n n] 104 (0,0))
 hR:w.heap[bR]? =some (Obj.cells ((List.range n).map (fun i=>if i<j then Value.slice (some ⟨rb i,0,none⟩) n n else .slice none 0 0)).toArray 46 (0,0))
 hr:∀i,i<j→w.heap[rb i]? =some (Obj.cells ((List.range n).map (vr i)).toArray 32 (0,0))
 hG:w.heap[bG]? =some (Obj.cells ((List.range n).map (fun _=>Value.slice none 0 0)).toArray 46 (0,0))
 leaf:∀i x,i<j→x<n→LeafN base w (vr i x) (if x=i then r else [])
 dRG:bR≠bG
 drb:∀i i',i<j→i'<j→rb i=rb i'→i=i'
theorem Yh (z:Value) (n:Nat):madeCells #[z] n=((List.range n).map (fun _=>z)).toArray:=by
 apply Array.ext
 ·simp[madeCells]
 ·intro i h1 h2
  simp[madeCells,Nat.mod_one]
theorem NtAt.start0 (w:World) (n:Nat) (r:List Int) (sw:Bool):
    NtAt w.heap.size ((((w.alloc (.cells (madeCells #[Value.slice none 0 0] n) 46)).alloc (.cells (madeCells #[Value.slice none 0 0] n) 46)).alloc
        (.cells #[Value.int IntKind.i64 n,Value.slice (some ⟨if sw then w.heap.size+1 else w.heap.size,0,none⟩) n n,Value.slice (some ⟨if sw then w.heap.size else w.heap.size+1,0,none⟩) n n] 104)).drew)
      (w.heap.size+1+1) (if sw then w.heap.size+1 else w.heap.size) (if sw then w.heap.size else w.heap.size+1) n 0 (fun _=>0) (fun _ _=> .slice none 0 0) r:=by
  have h0:∀(W:World) (o:Obj),(W.alloc o).heap[W.heap.size]? =some o:=fun W o=>heap_alloc_new W o
  have h1:∀(W:World) (o:Obj) (k:Nat),k<W.heap.size→(W.alloc o).heap[k]? =W.heap[k]? :=fun W o k hk=>Below.heap_alloc W o k hk
  have e:∀k,(if sw then w.heap.size+1 else w.heap.size)=k∨(if sw then w.heap.size else w.heap.size+1)=k→(((w.alloc (.cells (madeCells #[Value.slice none 0 0] n) 46)).alloc (.cells (madeCells #[Value.slice none 0 0] n) 46)).heap[k]? =some (Obj.cells (madeCells #[Value.slice none 0 0] n) 46 (0,0))∧w.heap.size≤k∧k<w.heap.size+1+1):=by
    intro k hk;have m:k=w.heap.size∨k=w.heap.size+1:=by cases sw<;>simp at hk<;>omega
    rcases m with rfl|rfl
    · exact⟨(h1 _ _ _ (by simp)).trans (h0 _ _),by omega,by omega⟩
    · have:=h0 (w.alloc (.cells (madeCells #[Value.slice none 0 0] n) 46)) (.cells (madeCells #[Value.slice none 0 0] n) 46)
      exact⟨by simpa using this,by omega,by omega⟩
  have eR:=e _ (.inl rfl)
  have eG:=e _ (.inr rfl)
  rw[Yh] at eR eG
  refine⟨by omega,eR.2.1,eG.2.1,fun i hi=>by omega,?_,?_,fun i hi=>by omega,?_,fun i x hi=>by omega,by cases sw<;>simp,fun i i' hi=>by omega⟩
  · have e3:((w.alloc (.cells (madeCells #[Value.slice none 0 0] n) 46)).alloc (.cells (madeCells #[Value.slice none 0 0] n) 46)).heap.size=w.heap.size+1+1:=by simp
    have:=h0 ((w.alloc (.cells (madeCells #[Value.slice none 0 0] n) 46)).alloc (.cells (madeCells #[Value.slice none 0 0] n) 46)) (.cells #[Value.int IntKind.i64 n,Value.slice (some ⟨if sw then w.heap.size+1 else w.heap.size,0,none⟩) n n,Value.slice (some ⟨if sw then w.heap.size else w.heap.size+1,0,none⟩) n n] 104);rw[e3] at this
    exact this
  · refine Eq.trans ?_ eR.1
    rw[←Yh]
    exact h1 _ _ _ (by simpa using eR.2.2)
  · refine Eq.trans ?_ eG.1
    rw[←Yh]
    exact h1 _ _ _ (by simpa using eG.2.2)
theorem NtAt.step {base:Nat} {w w5:World} {bt bR bG n:Nat} {j:Int} {rb:Nat→Nat} {vr:Nat→Nat→Value} {r:List Int} (h:NtAt base w bt bR bG n j.toNat rb vr r) (hj:j.toNat<n) {v:Value} (hv:LeafN base w5 v r)
    (hb:Below (w.heap.size+1) (((w.setCell ⟨bR,j.toNat,none⟩ (.slice (some ⟨w.heap.size,0,none⟩) n n)).alloc (.cells (madeCells #[Value.slice none 0 0] n) 32)).drew) w5):
    NtAt base (w5.setCell ⟨w.heap.size,j.toNat,none⟩ v) bt bR bG n (j.toNat+1) (fun i=>if i=j.toNat then w.heap.size else rb i) (fun i x=>if i=j.toNat then(if x=j.toNat then v else .slice none 0 0) else vr i x) r∧
     Keep base w (w5.setCell ⟨w.heap.size,j.toNat,none⟩ v):=by
 have hbase:base≤w.heap.size:=Nat.le_trans h.gt (Nat.le_of_lt (lt_of_some h.ht))
 have B:Keep base w (w.setCell ⟨bR,j.toNat,none⟩ (.slice (some ⟨w.heap.size,0,none⟩) n n)):=Keep.set_ h.gR h.hR (by decide) _
 have z:(w.setCell ⟨bR,j.toNat,none⟩ (.slice (some ⟨w.heap.size,0,none⟩) n n)).heap.size=w.heap.size:=by simp[World.setCell]
 generalize hW:w.setCell ⟨bR,j.toNat,none⟩ (.slice (some ⟨w.heap.size,0,none⟩) n n)=W at*
 have D:Keep base W (W.alloc (.cells (madeCells #[Value.slice none 0 0] n) 32)).drew:=Keep.of_below (by omega) ((Below.refl _ _).alloc (Nat.le_refl _) _).drew
 have hsz:(W.alloc (.cells (madeCells #[Value.slice none 0 0] n) 32)).drew.heap.size=w.heap.size+1:=by
  show(W.alloc (.cells (madeCells #[Value.slice none 0 0] n) 32)).heap.size=_
  simp[z]
 have hnew:(W.alloc (.cells (madeCells #[Value.slice none 0 0] n) 32)).drew.heap[w.heap.size]? =some (Obj.cells ((List.range n).map (fun _=>Value.slice none 0 0)).toArray 32 (0,0)):=by
  have:=heap_alloc_new W (.cells (madeCells #[Value.slice none 0 0] n) 32);rw[z,Yh] at this;rw[Yh]
  exact this
 have I:Keep base (W.alloc (.cells (madeCells #[Value.slice none 0 0] n) 32)).drew w5:=Keep.of_below (by rw[hsz];omega) (by rw[hsz];exact hb)
 have o:w5.heap[w.heap.size]? =some (Obj.cells ((List.range n).map (fun _=>Value.slice none 0 0)).toArray 32 (0,0)):=(hb.block _ (by omega)).trans hnew
 have m:Keep base w5 (w5.setCell ⟨w.heap.size,j.toNat,none⟩ v):=Keep.set_ hbase o (by decide) v
 have hk:=((B.trans D).trans I).trans m
 -- elder blocks but bR
 have old:∀k,k<w.heap.size→k≠bR→(w5.setCell ⟨w.heap.size,j.toNat,none⟩ v).heap[k]? =w.heap[k]? :=fun k hk hne=>by
  have e1:W.heap[k]? =w.heap[k]? :=by rw[←hW];exact Below.heap_setCell w ⟨bR,j.toNat,none⟩ _ k hne
  have e2:(W.alloc (.cells (madeCells #[Value.slice none 0 0] n) 32)).drew.heap[k]? =W.heap[k]? :=Below.heap_alloc W _ k (by omega);have e3:w5.heap[k]? =(W.alloc (.cells (madeCells #[Value.slice none 0 0] n) 32)).drew.heap[k]? :=hb.block k (by omega);have e4:=Below.heap_setCell w5 ⟨w.heap.size,j.toNat,none⟩ v k (by show k≠w.heap.size;omega)
  exact e4.trans (e3.trans (e2.trans e1))
 have hlt:∀i,i<j.toNat→rb i<w.heap.size:=fun i hi=>lt_of_some (h.hr i hi)
 refine⟨⟨h.gt,h.gR,h.gG,?_,?_,?_,?_,?_,?_,h.dRG,?_⟩,hk⟩
 ·intro i hi
  by_cases e:i=j.toNat
  ·simp[e,hbase]
  ·simp only[if_neg e];exact h.grb i (by omega)
 ·exact(old bt (lt_of_some h.ht) (ZS h.ht h.hR (by decide))).trans h.ht
 ·have hRl:=lt_of_some h.hR
  have e1:W.heap[bR]? =some (Obj.cells ((List.range n).map (fun i=>if i<j.toNat+1 then Value.slice (some ⟨if i=j.toNat then w.heap.size else rb i,0,none⟩) n n else .slice none 0 0)).toArray 46 (0,0)):=by
   rw[←hW];have:=blk_set h.hR j.toNat (.slice (some ⟨w.heap.size,0,none⟩) n n);rw[range_set] at this;rw[this]
   congr 4
   funext i
   by_cases e:i=j.toNat
   ·simp[e]
   ·rcases Nat.lt_or_ge i j.toNat with h1|h1
    ·simp[e,h1,Nat.lt_succ_of_lt h1]
    ·simp[e,Nat.not_lt.2 h1,show¬i<j.toNat+1 by omega]
  have e2:(W.alloc (.cells (madeCells #[Value.slice none 0 0] n) 32)).drew.heap[bR]? =W.heap[bR]? :=Below.heap_alloc W _ bR (by omega);have e3:w5.heap[bR]? =(W.alloc (.cells (madeCells #[Value.slice none 0 0] n) 32)).drew.heap[bR]? :=hb.block bR (by omega)
  exact(Below.heap_setCell w5 ⟨w.heap.size,j.toNat,none⟩ v bR (by show bR≠w.heap.size;omega)).trans (e3.trans (e2.trans e1))
 ·intro i hi
  by_cases e:i=j.toNat
  ·subst e;have:=blk_set o j.toNat v;rw[range_set] at this
   simpa using this
  ·have h1:=h.hr i (by omega);have:=(old (rb i) (lt_of_some h1) (ZS h1 h.hR (by decide))).trans h1
   simpa[e] using this
 ·exact(old bG (lt_of_some h.hG) (Ne.symm h.dRG)).trans h.hG
 ·intro i x hi hx
  by_cases e:i=j.toNat
  ·subst e
   by_cases e2:x=j.toNat
   ·subst e2
    simpa using hv.keep m
   ·simp only[if_true,if_neg e2]
    exact LeafN.none_ _ _
  ·simp only[if_neg e]
   exact(h.leaf i x (by omega) hx).keep hk
 ·intro i i' hi hi' he
  by_cases e:i=j.toNat
  ·by_cases e':i'=j.toNat
   ·omega
   ·simp only[if_pos e,if_neg e'] at he;have:=hlt i' (by omega);omega
  ·by_cases e':i'=j.toNat
   ·simp only[if_neg e,if_pos e'] at he;have:=hlt i (by omega);omega
   ·simp only[if_neg e,if_neg e'] at he
    exact h.drb i i' (by omega) (by omega) he
theorem NtAt.done {base:Nat} {w:World} {bt bR bG n:Nat} {rb:Nat→Nat} {vr:Nat→Nat→Value} {r:List Int} (h:NtAt base w bt bR bG n n rb vr r) (h1:1≤n) (m:n≤64):
    TwAt base w bt bR bG rb vr (fun _=> .slice none 0 0) { n:=n,reps:=(List.range n).map (fun b=>(List.replicate n []).set b r),gens:=List.replicate n [] } :=by
 have hrow:∀i,i<n→((List.range n).map (fun b=>(List.replicate n ([]:List Int)).set b r)).getD i []=(List.replicate n []).set i r:=fun i hi=>by
  simp[List.getD_eq_getElem?_getD,List.getElem?_range hi]
 refine { n1:=h1,n64:=m,lr:=by simp,lrr:=fun i hi=>by rw[hrow i hi];simp,lg:=by simp,gt:=h.gt,gR:=h.gR,gG:=h.gG,grb:=h.grb,ht:=h.ht,hR:= ?_,hr:=h.hr,hG:=h.hG,hg:= ?_,leaf:= ?_,dRG:=h.dRG,drb:=h.drb,drg:= ?_,dgg:= ?_ }
 ·rw[h.hR]
  congr 3
  apply List.map_congr_left;intro i hi;simp[List.mem_range.1 hi]
 ·intro i hi
  refine⟨[],?_,fun j l hj=> ?_⟩
  ·have:(List.replicate n ([]:List (List Int))).getD i []= []:=by simp[List.getD_eq_getElem?_getD,hi]
   simp only[this]
   exact own_nil _ _ _ _
  ·have:(List.replicate n ([]:List (List Int))).getD i []= []:=by simp[List.getD_eq_getElem?_getD,hi]
   simp only[this] at hj;simp at hj
 ·intro i x hi hx
  have:=h.leaf i x hi hx;simp only[hrow i hi]
  by_cases e:x=i
  ·subst e;rw[Yg (by simpa using hx)]
   simpa using this
  rw[getD_set_ne (fun z=>e z.symm)];rw[if_neg e] at this
  simpa[List.getD_eq_getElem?_getD,hx] using this
 ·intro i j hi hj;simp[Value.ownBlock]
 ·intro i j hi hj hne;left;simp[Value.ownBlock]
def NewPost (w:World) (T:Tw) (e:Ending) (w':World):Prop:=∃bt bR bG rb vr vg,e= .returned (.pointer (some ⟨bt,0,none⟩))∧TwAt w.heap.size w' bt bR bG rb vr vg T∧Keep w.heap.size w w'
theorem newTower_calls (k n:Nat) (T:Tw) (w:World) (h:newTowerL k n=some T):
    Calls Tryz.prog 46 #[.int .i64 n] w (NewPost w T):=by
  unfold newTowerL at h
  by_cases hn:1≤n∧n≤64
  · rw [if_pos hn] at h
    replace h:=oB h;obtain⟨r,hr,h⟩:=h
    by_cases D:r= []
    · rw[if_pos D] at h;cases h
    rw[if_neg D] at h;have HTe:=aM (oI h);have HR:=aM hr;have al:=aM D;clear h hr D;obtain⟨n1,n64⟩:=hn;have aq:=run_make_row' (P:=Tryz.prog) 102 46 (.slice none 0 0) 24 Tryz.underlying102 info46' rfl .i64 .i64 n (by omega) (by omega);have av:=run_make_row' (P:=Tryz.prog) 46 32 (.slice none 0 0) 24 Tryz.underlying46 info32 rfl .i64 .i64 n (by omega) (by omega)
    go_enter Tryz.func46,Tryz.ntmps46
    go_wp2
    go_cut [3] (fun v3 wc=>∃(bt bR bG:Nat),v3= .pointer (some ⟨bt,0,none⟩)∧Aside0 (NtAt w.heap.size wc bt bR bG n 0 (fun _=>0) (fun _ _=> .slice none 0 0) r)∧Aside0 (Keep w.heap.size w wc))
    case first=>
      go_region
      · go_wp2;go_meet
        case rel=>exact⟨_,_,_,rfl,⟨NtAt.start0 w n r false⟩,⟨Keep.of_below (Nat.le_refl _) (((((Below.refl _ _).alloc (Nat.le_refl _) _).alloc (by simp) _).alloc (by simp;omega) _).drew)⟩⟩
      · go_wp2;go_meet
        case rel=>exact⟨_,_,_,rfl,⟨NtAt.start0 w n r true⟩,⟨Keep.of_below (Nat.le_refl _) (((((Below.refl _ _).alloc (Nat.le_refl _) _).alloc (by simp) _).alloc (by simp;omega) _).drew)⟩⟩
    case rest=>
      obtain⟨bt,bR,bG,rfl,HN,HK⟩:=hcut;clear aq;go_wp2
      go_loopg [13] n (fun kq au w'=>∃(j:Int) (rb:Nat→Nat) (vr:Nat→Nat→Value),au= .int .i64 j∧Aside0 (0≤j)∧Aside0 (j.toNat+kq=n)∧Aside0 (NtAt w.heap.size w' bt bR bG n j.toNat rb vr r)∧Aside0 (Keep w.heap.size w w'))
      case atStart=>exact⟨0,_,_,rfl,⟨by omega⟩,⟨by simp⟩,HN,HK⟩
      case round=>
        clear HN HK;obtain⟨j,rb,vr,rfl,L,HJ1,HN,HK⟩:=hrel;have j0:=L.out;have j1:=HJ1.out;have z:=(Za HN.out.ht 1).trans rfl
        by_cases c1:j<(n:Int)
        · have q0:=eq_true j0;have q1:=eq_true c1;have hjn:j.toNat<n:=by omega
          have B:wr.cell? ⟨bR,j.toNat,none⟩=some (.slice none 0 0):=by
            have:=(Za HN.out.hR j.toNat).trans (Yc _ hjn)
            simpa using this
          have hyf:wr.frozen? ⟨bR,j.toNat,none⟩=false:=Zb HN.out.hR _;have I:=lt_of_some HN.out.ht;have J:=lt_of_some HN.out.hR;have ag:=World.new_ne wr _ z;have ah:=World.new_ne wr _ B;clear j1;go_wp2
          go_region
          go_wp2
          have ai:(((wr.setCell ⟨bR,j.toNat,none⟩ (.slice (some ⟨wr.heap.size,0,none⟩) n n)).alloc (.cells (madeCells #[Value.slice none 0 0] n) 32)).drew).heap.size=wr.heap.size+1:=by
            show((wr.setCell ⟨bR,j.toNat,none⟩ (.slice (some ⟨wr.heap.size,0,none⟩) n n)).alloc (.cells (madeCells #[Value.slice none 0 0] n) 32)).heap.size=_
            simp[World.setCell]
          have aj:(((wr.setCell ⟨bR,j.toNat,none⟩ (.slice (some ⟨wr.heap.size,0,none⟩) n n)).alloc (.cells (madeCells #[Value.slice none 0 0] n) 32)).drew).cell? ⟨bt,1,none⟩=some (.slice (some ⟨bR,0,none⟩) n n):=by
            have e1:=Below.heap_setCell wr ⟨bR,j.toNat,none⟩ (.slice (some ⟨wr.heap.size,0,none⟩) n n) bt (ZS HN.out.ht HN.out.hR (by decide));have e2:=Below.heap_alloc (wr.setCell ⟨bR,j.toNat,none⟩ (.slice (some ⟨wr.heap.size,0,none⟩) n n)) (.cells (madeCells #[Value.slice none 0 0] n) 32) bt (by simpa[World.setCell] using I)
            exact(World.cell?_of_block (a:=⟨bt,1,none⟩) (e2.trans e1)).trans z
          have ak:(((wr.setCell ⟨bR,j.toNat,none⟩ (.slice (some ⟨wr.heap.size,0,none⟩) n n)).alloc (.cells (madeCells #[Value.slice none 0 0] n) 32)).drew).cell? ⟨bR,j.toNat,none⟩=some (.slice (some ⟨wr.heap.size,0,none⟩) n n):=by
            have e1:=blk_set HN.out.hR j.toNat (.slice (some ⟨wr.heap.size,0,none⟩) n n);rw[range_set] at e1;have e2:=Below.heap_alloc (wr.setCell ⟨bR,j.toNat,none⟩ (.slice (some ⟨wr.heap.size,0,none⟩) n n)) (.cells (madeCells #[Value.slice none 0 0] n) 32) bR (by simpa[World.setCell] using J)
            exact(Za (e2.trans e1) j.toNat).trans ((Yc _ hjn).trans (by simp))
          have Z:(((wr.setCell ⟨bR,j.toNat,none⟩ (.slice (some ⟨wr.heap.size,0,none⟩) n n)).alloc (.cells (madeCells #[Value.slice none 0 0] n) 32)).drew).heap[wr.heap.size]? =some (Obj.cells ((List.range n).map (fun _=>Value.slice none 0 0)).toArray 32 (0,0)):=by
            have:=heap_alloc_new (wr.setCell ⟨bR,j.toNat,none⟩ (.slice (some ⟨wr.heap.size,0,none⟩) n n)) (.cells (madeCells #[Value.slice none 0 0] n) 32);have e0:(wr.setCell ⟨bR,j.toNat,none⟩ (.slice (some ⟨wr.heap.size,0,none⟩) n n)).heap.size=wr.heap.size:=by simp[World.setCell]
            rw[e0,Yh] at this;rw[Yh]
            exact this
          have HS:=aM (show∀(v:Value) (w5:World),LeafN w.heap.size w5 v r→Below (wr.heap.size+1) (((wr.setCell ⟨bR,j.toNat,none⟩ (.slice (some ⟨wr.heap.size,0,none⟩) n n)).alloc (.cells (madeCells #[Value.slice none 0 0] n) 32)).drew) w5→NtAt w.heap.size (w5.setCell ⟨wr.heap.size,j.toNat,none⟩ v) bt bR bG n (j.toNat+1) (fun i=>if i=j.toNat then wr.heap.size else rb i) (fun i x=>if i=j.toNat then(if x=j.toNat then v else .slice none 0 0) else vr i x) r∧
      Keep w.heap.size wr (w5.setCell ⟨wr.heap.size,j.toNat,none⟩ v) from fun v w5 hv hb=>HN.out.step hjn hv hb)
          have aa:∀(W:World) (v:Value),(W.setCell ⟨wr.heap.size,j.toNat,none⟩ v).cell? ⟨bt,1,none⟩=W.cell? ⟨bt,1,none⟩:=fun W v=>World.cell?_of_block (a:=⟨bt,1,none⟩) (Below.heap_setCell W ⟨wr.heap.size,j.toNat,none⟩ v bt (by show bt≠wr.heap.size;omega))
          have ab:∀(W:World) (v:Value),(W.setCell ⟨wr.heap.size,j.toNat,none⟩ v).cell? ⟨bR,j.toNat,none⟩=W.cell? ⟨bR,j.toNat,none⟩:=fun W v=>World.cell?_of_block (a:=⟨bR,j.toNat,none⟩) (Below.heap_setCell W ⟨wr.heap.size,j.toNat,none⟩ v bR (by show bR≠wr.heap.size;omega))
          clear hyf I J ag ah z B;generalize am:(((wr.setCell ⟨bR,j.toNat,none⟩ (.slice (some ⟨wr.heap.size,0,none⟩) n n)).alloc (.cells (madeCells #[Value.slice none 0 0] n) 32)).drew)=w1 at*;clear am;have z:=aj;have B:=ak;have Y:w1.cell? ⟨wr.heap.size,j.toNat,none⟩=some (.slice none 0 0):=(Za Z j.toNat).trans (Yc _ hjn);have hyf:w1.frozen? ⟨wr.heap.size,j.toNat,none⟩=false:=Zb Z _;have O:=aM ai;have ae:bt<w1.heap.size:=wB w1 _ z;have af:bR<w1.heap.size:=wB w1 _ B;have U:wr.heap.size<w1.heap.size:=wB w1 _ Y;clear ai aj ak Z
          go_region_held3 (fun W_=>W_.cell? ⟨bt,1,none⟩=some (.slice (some ⟨bR,0,none⟩) n n)∧W_.cell? ⟨bR,j.toNat,none⟩=some (.slice (some ⟨wr.heap.size,0,none⟩) n n)) (first|go_keep|(refine⟨(aa _ _).trans ac,(ab _ _).trans ad⟩)) ((go_at_call 36;refine(perm_identity.calls k n r _ HR.out).mono ?_;rintro e w5 ⟨v5,rfl,X,o⟩;have hLf:=LeafN.of_R (base:=w.heap.size) X (by have:=HK.out.below.size;have h_:=O.out;show w.heap.size≤w1.heap.size;omega) al.out;obtain⟨A5,c5,rfl,ao,ar⟩:=Kd.R_reads X;clear X ao ar;have ac:=(o.cell (p:=⟨bt,1,none⟩) ae).trans z;have ad:=(o.cell (p:=⟨bR,j.toNat,none⟩) af).trans B;have an:=(o.cell (p:=⟨wr.heap.size,j.toNat,none⟩) U).trans Y;have hkf:=(o.frozen (p:=⟨wr.heap.size,j.toNat,none⟩) U).trans hyf))
          all_goals
            have hst:=HS.out _ w5 hLf (by have h_:=O.out;exact⟨o.os,o.tape,o.output,o.size,fun i hi=>o.block i (by show i<w1.heap.size;omega)⟩);have HST:=aM hst;clear aa ab hst hLf ac ad an hkf o z B Y hyf ae af U HS O;go_wp2;obtain⟨k1,rfl⟩:∃m,gk=m+1:=⟨gk-1,by have:=HJ1.out;omega⟩
            go_roundg k1
            case measure=>omega
            case rel=>exact⟨j+1,_,_,rfl,⟨by have:=L.out;omega⟩,⟨by have:=HJ1.out;have:=L.out;omega⟩,⟨(show(j+1).toNat=j.toNat+1 by omega)▸HST.out.1⟩,⟨HK.out.trans HST.out.2⟩⟩
        · have aw:decide (j<(n:Int))=false:=dF c1;have ejn:j.toNat=n:=by omega
          rw[ejn] at HN;clear z ejn j1;go_wp2;go_ret
          exact⟨bt,bR,bG,rb,vr,_,rfl,HTe.out▸HN.out.done n1 n64,HK.out⟩
  rw[if_neg hn] at h;cases h
def lenB (n:Int) (p:List Int):Bool:=(p.length:Int) !=n
def gensL (n:Int) (l:List (List Int)):Int:=if n<1∨64<n then 4 else match(l.map Z0).find? (fun e=>e !=0) with
 |some e=>e
 |none=>if l.any (lenB n) then 10 else 0
def perm_generators.f (a0:Int) (l1:List (List Int)):Option Int:=some (gensL a0 l1)
theorem rdL1_mem {l:List (List Int)} {i:Int} (h0:0≤i) (h1:i<(l.length:Int)):Zo l i∈l:=by
 unfold Zo
 rw[List.getD_eq_getElem?_getD,List.getElem?_eq_getElem (by omega)]
 exact List.getElem_mem _
theorem take_rdL1 {l:List (List Int)} {i:Int} (h0:0≤i) (h1:i<(l.length:Int)):l.take (i+1).toNat=l.take i.toNat++ [Zo l i]:=by
 have e:(i+1).toNat=i.toNat+1:=by omega
 rw[e,List.take_succ_eq_append_getElem (by omega)]
 congr 2
 unfold Zo
 rw[List.getD_eq_getElem?_getD,List.getElem?_eq_getElem (by omega)]
 rfl
theorem gens1 (n:Int) (g c:Nat) (A:Option Addr) (p:List Int) (w:World) (hcell:w.cell? ⟨g,0,none⟩=some (.int .i64 n)):
    Calls Tryz.prog 66 #[.slice A p.length c,.pointer (some ⟨g,0,none⟩)] w fun e w'=>e= .returned (.bool (lenB n p))∧w=w':=by
 unfold lenB
 go_enter Tryz.func66,Tryz.ntmps66
 go_wp2
 go_ret
 exact⟨rfl,rfl⟩
def IdxPost2 (p:List Int→Bool) (l:List (List Int)) (w:World) (e:Ending) (w':World):Prop:=∃r:Int,e= .returned (.int .i64 r)∧decide (0≤r)=l.any p∧Drawn0 w w'
theorem idx91_calls (A0:Option Addr) (c0:Nat) (l0:List (List Int)) (g:Nat) (n:Int) (w:World) (J:Kd.C (Kd.slice 3 (Kd.int .i64)) w A0 l0.length l0) (hcell:w.cell? ⟨g,0,none⟩=some (.int .i64 n)):
    Calls Tryz.prog 89 #[.slice A0 l0.length c0,.func (Fn.func 66) #[] #[.pointer (some ⟨g,0,none⟩)]] w (IdxPost2 (lenB n) l0 w):=by
 have HR:=aM J
 have HC:=aM hcell
 clear J hcell
 go_enter Tryz.func89,Tryz.ntmps89
 go_wp2
 go_loopg [8] l0.length (fun kq v8 w'=>∃i:Int,v8= .int .i64 i∧Aside0 (0≤i)∧Aside0 (i.toNat+kq=l0.length)∧Aside0 ((l0.take i.toNat).any (lenB n)=false)∧Aside0 (Drawn0 w w'))
 case atStart=>exact⟨0,rfl,⟨by omega⟩,⟨by simp⟩,⟨by simp⟩,⟨Drawn0.refl _⟩⟩
 case round=>
  obtain⟨i,rfl,o,D,HA,HD⟩:=hrel;have i0:=o.out
  by_cases d1:i<(l0.length:Int)
  ·have O:decide (i<(l0.length:Int))=true:=dT d1;have q0:=eq_true i0;have q1:=eq_true d1;have hmax:l0.length≤9223372036854775807:=HR.out.2.1;obtain⟨ad,A2,c2,ea,z,U,P⟩:=ZY HR.out i i0 d1
   cases ea;replace z:=(HD.out.below.cell (wB w _ z)).trans z;have I:=(HD.out.below.cell (wB w _ HC.out)).trans HC.out;have B:=aM I;clear I U P
   cases hb:lenB n (Zo l0 i) with
   | true=>
    have HBo:=aM hb;clear hb
    go_wp2_with (first
     |(go_at_call 66;(with_reducible refine(gens1 n g c2 A2 (Zo l0 i) _ B.out).mono ?_);rintro e w5 ⟨rfl,rfl⟩;rw[HBo.out]))
    go_ret
    exact⟨i,rfl,by rw[dT o.out];exact(List.any_eq_true.2 ⟨_,rdL1_mem o.out d1,HBo.out⟩).symm,HD.out⟩
   | false=>
    have HBo:=aM hb;clear hb
    go_wp2_with (first
     |(go_at_call 66;(with_reducible refine(gens1 n g c2 A2 (Zo l0 i) _ B.out).mono ?_);rintro e w5 ⟨rfl,rfl⟩;rw[HBo.out]))
    obtain⟨k1,rfl⟩:∃m,gk=m+1:=⟨gk-1,by have:=D.out;omega⟩
    go_roundg k1
    case measure=>omega
    case rel=>exact⟨i+1,rfl,⟨by have:=o.out;omega⟩,⟨by have:=D.out;have:=o.out;omega⟩,⟨by rw[take_rdL1 o.out d1,List.any_append,HA.out];simp[HBo.out]⟩,HD⟩
  have O:decide (i<(l0.length:Int))=false:=dF d1;have ha:=HA.out;rw[List.take_of_length_le (by omega)] at ha;have L:=aM ha;clear ha;go_wp2;go_ret
  exact⟨-1,rfl,by rw[L.out];rfl,HD.out⟩
def ContPost2 (p:List Int→Bool) (l:List (List Int)) (w:World) (e:Ending) (w':World):Prop:=e= .returned (.bool (l.any p))∧Drawn0 w w'
theorem cont79_calls (A0:Option Addr) (c0:Nat) (l0:List (List Int)) (g:Nat) (n:Int) (w:World) (m:Kd.C (Kd.slice 3 (Kd.int .i64)) w A0 l0.length l0) (hcell:w.cell? ⟨g,0,none⟩=some (.int .i64 n)):
    Calls Tryz.prog 65 #[.slice A0 l0.length c0,.func (Fn.func 66) #[] #[.pointer (some ⟨g,0,none⟩)]] w (ContPost2 (lenB n) l0 w):=by
 have HR:=aM m
 have HC:=aM hcell
 clear m hcell
 go_enter Tryz.func65,Tryz.ntmps65
 go_wp2_with (first
  |(go_at_call 89;(with_reducible refine(idx91_calls _ _ l0 g n _ HR.out HC.out).mono ?_);rintro e w5 ⟨r,rfl,hr,hd⟩;have HDr:=aM (And.intro hr hd);clear hr hd))
 go_ret
 exact⟨by rw[←HDr.out.1];rfl,HDr.out.2⟩
theorem find_first {l:List (List Int)} {i:Int} (h0:0≤i) (h1:i<(l.length:Int)) (ha:(l.take i.toNat).all (fun p=>Z0 p==0)=true) (hb:Z0 (Zo l i)≠0):(l.map Z0).find? (fun e=>e !=0)=some (Z0 (Zo l i)):=by
 have e:l=l.take i.toNat++(Zo l i::l.drop (i.toNat+1)):=by
  have h2:=take_rdL1 h0 h1;have h3:(i+1).toNat=i.toNat+1:=by omega
  rw[h3] at h2
  calc l=l.take (i.toNat+1)++l.drop (i.toNat+1):=(List.take_append_drop _ _).symm
   _=_:=by rw[h2,List.append_assoc];rfl
 rw[e,List.map_append,List.find?_append]
 have hn:((l.take i.toNat).map Z0).find? (fun e=>e !=0)=none:=by
  rw[List.find?_eq_none];intro x hx;obtain⟨p,hp,rfl⟩:=List.mem_map.1 hx;have:=List.all_eq_true.1 ha p hp
  simpa using this
 rw[hn]
 have e2:Zo (l.take i.toNat++Zo l i::l.drop (i.toNat+1)) i=Zo l i:=by rw[←e]
 rw[e2]
 simp[hb]
theorem find_none {l:List (List Int)} (ha:l.all (fun p=>Z0 p==0)=true):(l.map Z0).find? (fun e=>e !=0)=none:=by
 rw[List.find?_eq_none]
 intro x hx
 obtain⟨p,hp,rfl⟩:=List.mem_map.1 hx
 have:=List.all_eq_true.1 ha p hp
 simpa using this
def GensPost (r:Int) (w:World) (e:Ending) (w':World):Prop:=e= .returned (.int .i64 r)∧Below w.heap.size w w'
theorem gens_post (a0:Int) (A1:Option Addr) (c1:Nat) (l1:List (List Int)) (w:World) (ae:Kd.C (Kd.slice 3 (Kd.int .i64)) w A1 l1.length l1) (ab:l1.length≤c1):
    Calls Tryz.prog 44 #[.int .i64 a0,.slice A1 l1.length c1] w (GensPost (gensL a0 l1) w):=by
  have HR:=aM ae
  have HC:=aM ab
  clear ae ab
  by_cases hb:a0<1∨64<a0
  · have HRS:=aM (show gensL a0 l1=4 by unfold gensL;rw[if_pos hb])
    have HD:=aM (degree_bad a0 hb);clear hb
    go_enter Tryz.func44,Tryz.ntmps44
    go_wp2_with (first
     |((with_reducible refine Zq (N:=2) rfl ?_);refine Zx ?hg (N:=2) ?hd (cs:= #[.int .i64 a0]) (t:=3) ?hr ?_;(case hd=>rfl);(case hg=>rfl);(case hr=>first|(go_simp;done)|(go_simp;rfl));intro g hgr w3 o B;have hz:w3.cell? ⟨g,0,none⟩=some (.int .i64 a0):=(Za o 0).trans rfl;have HB3:=aM B;clear hgr B o)
     |(go_at_call 54;(with_reducible refine(perm_degree.calls a0 4 _ HD.out).mono ?_);rintro e w5 ⟨rfl,⟨nd,rfl⟩⟩))
    go_ret
    exact⟨by rw[HRS.out];rfl,Zg HB3.out _⟩
  have HD:=aM (degree_ok a0 (by omega) (by omega))
  have hmax:l1.length≤9223372036854775807:=HR.out.2.1
  have HNB:=aM hb
  clear hb
  go_enter Tryz.func44,Tryz.ntmps44
  go_wp2_with (first
   |((with_reducible refine Zq (N:=2) rfl ?_);refine Zx ?sb (N:=2) ?sa (cs:= #[.int .i64 a0]) (t:=3) ?sc ?_;(case sa=>rfl);(case sb=>rfl);(case sc=>first|(go_simp;done)|(go_simp;rfl));intro g hgr w3 o B;have hz:w3.cell? ⟨g,0,none⟩=some (.int .i64 a0):=(Za o 0).trans rfl;have HZ:=aM hz;have HB3:=aM B;clear hgr B o)
   |(go_at_call 54;(with_reducible refine(perm_degree.calls a0 0 _ HD.out).mono ?_);rintro e w5 ⟨rfl,⟨nd,rfl⟩⟩))
  go_loopg [16] l1.length (fun kq ah w'=>∃i:Int,ah= .int .i64 i∧Aside0 (0≤i)∧Aside0 (i.toNat+kq=l1.length)∧Aside0 ((l1.take i.toNat).all (fun p=>Z0 p==0)=true)∧Aside0 (Below w3.heap.size w3 w'))
  case atStart=>exact⟨0,rfl,⟨by omega⟩,⟨by simp⟩,⟨by simp⟩,⟨Zg (Below.refl _ _) _⟩⟩
  case round=>
    clear hz;obtain⟨i,rfl,J,X,HA,HBw⟩:=hrel;have i0:=J.out
    by_cases d1:i<(l1.length:Int)
    · have ag:decide (i<(l1.length:Int))=true:=dT d1;have q0:=eq_true i0;have q1:=eq_true d1;have L:=ZT HB3.out HB3.out.size HBw.out;obtain⟨ad,A2,c2,ea,O,ac,aa⟩:=ZY HR.out i i0 d1
      cases ea;replace O:=(L.cell (wB w _ O)).trans O;have U:=aM (Kd.C_below aa L);have Y:=aM ac;clear L aa ac
      by_cases hb:Z0 (Zo l1 i)=0
      · have HBo:=aM hb;clear hb
        go_wp2_with (first
          |(go_at_call 28;(with_reducible refine(perm_Check.calls A2 c2 (Zo l1 i) 0 _ U.out Y.out (by unfold perm_Check.f;rw[HBo.out])).mono ?_);rintro e w6 ⟨rfl,D⟩;have z:=aM (ZT HBw.out HBw.out.size D);clear D))
        obtain⟨k1,rfl⟩:∃m,gk=m+1:=⟨gk-1,by have:=X.out;omega⟩
        go_roundg k1
        case measure=>omega
        case rel=>exact⟨i+1,rfl,⟨by have:=J.out;omega⟩,⟨by have:=X.out;have:=J.out;omega⟩,⟨by rw[take_rdL1 J.out d1,List.all_append,HA.out];simp[HBo.out]⟩,z⟩
      have HBo:=aM hb;have ai:(Z0 (Zo l1 i) !=0)=true:=bne_iff_ne.mpr hb;have HRS:=aM (show gensL a0 l1=Z0 (Zo l1 i) by unfold gensL;rw[if_neg HNB.out,find_first i0 d1 HA.out hb]);clear hb
      go_wp2_with (first
        |(go_at_call 28;(with_reducible refine(perm_Check.calls A2 c2 (Zo l1 i) (Z0 (Zo l1 i)) _ U.out Y.out rfl).mono ?_);rintro e w6 ⟨rfl,D⟩;have z:=aM (ZT HBw.out HBw.out.size D);clear D))
      go_ret
      exact⟨by rw[HRS.out];rfl,ZT HB3.out HB3.out.size z.out⟩
    have ag:decide (i<(l1.length:Int))=false:=dF d1;have ha:=HA.out;rw[List.take_of_length_le (by omega)] at ha;have P:=aM ha;have af:=(HBw.out.cell (wB _ _ HZ.out)).trans HZ.out;have Z:=aM af;have HRw:=aM (Kd.C_below HR.out (ZT HB3.out HB3.out.size HBw.out));clear ha af
    cases hb:l1.any (lenB a0) with
    | true=>
      have HBo:=aM hb;have HRS:=aM (show gensL a0 l1=10 by unfold gensL;rw[if_neg HNB.out,find_none P.out];simp[hb]);clear hb
      go_wp2_with (first
        |(go_at_call 65;(with_reducible refine(cont79_calls _ _ l1 g a0 _ HRw.out Z.out).mono ?_);rintro e w6 ⟨rfl,I⟩;rw[HBo.out];have z:=aM I.below;clear I))
      go_ret
      exact⟨by rw[HRS.out];rfl,ZT HB3.out HB3.out.size (ZT HBw.out HBw.out.size z.out)⟩
    | false=>
      have HBo:=aM hb;have HRS:=aM (show gensL a0 l1=0 by unfold gensL;rw[if_neg HNB.out,find_none P.out];simp[hb]);clear hb
      go_wp2_with (first
        |(go_at_call 65;(with_reducible refine(cont79_calls _ _ l1 g a0 _ HRw.out Z.out).mono ?_);rintro e w6 ⟨rfl,I⟩;rw[HBo.out];have z:=aM I.below;clear I))
      go_ret
      exact⟨by rw[HRS.out];rfl,ZT HB3.out HB3.out.size (ZT HBw.out HBw.out.size z.out)⟩
theorem perm_generators.calls (a0:Int) (A1:Option Addr) (c1:Nat) (l1:List (List Int)) (r:Int) (w:World) (o:Kd.C (Kd.slice 3 (Kd.int .i64)) w A1 l1.length l1) (m:l1.length≤c1) (h:perm_generators.f a0 l1=some r):
    Calls Tryz.prog 44 #[.int .i64 a0,.slice A1 l1.length c1] w fun e w'=>e= .returned (.int .i64 r)∧Below w.heap.size w w':=by
 obtain rfl:=oI h
 exact gens_post a0 A1 c1 l1 w o m
def buildLoop:Nat→Tw→List (List Int)→Int→Option Tw
 |0,_,_,_=>none
 |k+1,T,l,i=>if i<(l.length:Int) then(if Zo l i= [] then none else(insertL k T (Zo l i) 0).bind fun T'=>buildLoop k T' l (i+1)) else some T
def perm_Build.f (k:Nat) (a0:Int) (l1:List (List Int)):Option (Int×List S56×Int):=
 (perm_generators.f a0 l1).bind fun e=>if e=0 then(if 0≤a0 then(newTowerL k a0.toNat).bind fun T=>(buildLoop k T l1 0).bind fun T'=>(chainL k T' 0 []).bind fun r=>some ((T'.n:Int),r,0) else none) else some (0,[],e)
theorem stripL.mono:∀(k:Nat) (T:Tw) (p:List Int) (b:Int),LeO (stripL k T p b) (stripL (k+1) T p b):=by
 intro k
 induction k with
 |zero=>intro T p b r h;simp[stripL] at h
 | succ k ih=>
  intro T p b;unfold stripL
  repeat' first
   |(with_reducible exact LeO.refl _)
   |(with_reducible exact LeO.none _)
   |(with_reducible refine LeO.ite ?_ ?_)
   |(with_reducible refine LeO.bind ?_ (fun _=> ?_))
   |exact perm_inverse.mono _ _
   |exact perm_then.mono _ _ _
   |exact ih _ _ _
theorem vi.mono:∀(k:Nat),(∀T p b,LeO (visitL k T p b) (visitL (k+1) T p b))∧(∀T p b j,LeO (visitLoop k T p b j) (visitLoop (k+1) T p b j))∧(∀T p b,LeO (insertL k T p b) (insertL (k+1) T p b))∧(∀T rs p b i,LeO (insertLoop k T rs p b i) (insertLoop (k+1) T rs p b i)):=by
 intro k
 induction k with
 |zero=>exact⟨fun T p b r h=>by simp[visitL] at h,fun T p b j r h=>by simp[visitLoop] at h,fun T p b r h=>by simp[insertL] at h,fun T rs p b i r h=>by simp[insertLoop] at h⟩
 | succ k ih=>
  obtain⟨i1,i2,i3,i4⟩:=ih
  refine⟨?_,?_,?_,?_⟩
  ·intro T p b;unfold visitL
   repeat' first
    |(with_reducible exact LeO.refl _)
    |(with_reducible exact LeO.none _)
    |(with_reducible refine LeO.ite ?_ ?_)
    |(with_reducible refine LeO.bind ?_ (fun _=> ?_))
    |exact perm_inverse.mono _ _
    |exact perm_then.mono _ _ _
    |exact i2 _ _ _ _
    |exact i3 _ _ _
  ·intro T p b j;unfold visitLoop
   repeat' first
    |(with_reducible exact LeO.refl _)
    |(with_reducible exact LeO.none _)
    |(with_reducible refine LeO.ite ?_ ?_)
    |(with_reducible refine LeO.bind ?_ (fun _=> ?_))
    |exact perm_then.mono _ _ _
    |exact i1 _ _ _
    |exact i2 _ _ _ _
  ·intro T p b;unfold insertL
   repeat' first
    |(with_reducible exact LeO.refl _)
    |(with_reducible exact LeO.none _)
    |(with_reducible refine LeO.ite ?_ ?_)
    |(with_reducible refine LeO.bind ?_ (fun _=> ?_))
    |exact stripL.mono _ _ _ _
    |exact i4 _ _ _ _ _
  ·intro T rs p b i;unfold insertLoop
   repeat' first
    |(with_reducible exact LeO.refl _)
    |(with_reducible exact LeO.none _)
    |(with_reducible refine LeO.ite ?_ ?_)
    |(with_reducible refine LeO.bind ?_ (fun _=> ?_))
    |exact perm_then.mono _ _ _
    |exact i1 _ _ _
    |exact i4 _ _ _ _ _
theorem bestL.mono:∀(k:Nat) (T:Tw) (c:Int) (p:List Int) (x b:Int),LeO (bestL k T c p x b) (bestL (k+1) T c p x b):=by
 intro k
 induction k with
 |zero=>intro T c p x b r h;simp[bestL] at h
 | succ k ih=>
  intro T c p x b;unfold bestL
  repeat' first
   |(with_reducible exact LeO.refl _)
   |(with_reducible exact LeO.none _)
   |(with_reducible refine LeO.ite ?_ ?_)
   |exact ih _ _ _ _ _
theorem canonL.mono:∀(k:Nat) (T:Tw) (p:List Int) (c:Int),LeO (canonL k T p c) (canonL (k+1) T p c):=by
 intro k
 induction k with
 |zero=>intro T p c r h;simp[canonL] at h
 | succ k ih=>
  intro T p c;unfold canonL
  repeat' first
   |(with_reducible exact LeO.refl _)
   |(with_reducible exact LeO.none _)
   |(with_reducible refine LeO.ite ?_ ?_)
   |(with_reducible refine LeO.bind ?_ (fun _=> ?_))
   |exact perm_then.mono _ _ _
   |exact bestL.mono _ _ _ _ _ _
   |exact ih _ _ _
theorem levelL.mono:∀(k:Nat) (T:Tw) (b x:Int) (orb:List Int) (reps:List (List Int)),LeO (levelL k T b x orb reps) (levelL (k+1) T b x orb reps):=by
 intro k
 induction k with
 |zero=>intro T b x orb reps r h;simp[levelL] at h
 | succ k ih=>
  intro T b x orb reps;unfold levelL
  repeat' first
   |(with_reducible exact LeO.refl _)
   |(with_reducible exact LeO.none _)
   |(with_reducible refine LeO.ite ?_ ?_)
   |(with_reducible refine LeO.bind ?_ (fun _=> ?_))
   |exact canonL.mono _ _ _ _
   |exact ih _ _ _ _ _
theorem chainL.mono:∀(k:Nat) (T:Tw) (b:Int) (lv:List S56),LeO (chainL k T b lv) (chainL (k+1) T b lv):=by
 intro k
 induction k with
 |zero=>intro T b lv r h;simp[chainL] at h
 | succ k ih=>
  intro T b lv;unfold chainL
  repeat' first
   |(with_reducible exact LeO.refl _)
   |(with_reducible exact LeO.none _)
   |(with_reducible refine LeO.ite ?_ ?_)
   |(with_reducible refine LeO.bind ?_ (fun _=> ?_))
   |exact levelL.mono _ _ _ _ _ _
   |exact ih _ _ _
theorem newTowerL.mono (k n:Nat):LeO (newTowerL k n) (newTowerL (k+1) n):=by
 unfold newTowerL
 repeat' first
  |(with_reducible exact LeO.refl _)
  |(with_reducible exact LeO.none _)
  |(with_reducible refine LeO.ite ?_ ?_)
  |(with_reducible refine LeO.bind ?_ (fun _=> ?_))
  |exact perm_identity.mono _ _
theorem buildLoop.mono:∀(k:Nat) (T:Tw) (l:List (List Int)) (i:Int),LeO (buildLoop k T l i) (buildLoop (k+1) T l i):=by
 intro k
 induction k with
 |zero=>intro T l i r h;simp[buildLoop] at h
 | succ k ih=>
  intro T l i;unfold buildLoop
  repeat' first
   |(with_reducible exact LeO.refl _)
   |(with_reducible exact LeO.none _)
   |(with_reducible refine LeO.ite ?_ ?_)
   |(with_reducible refine LeO.bind ?_ (fun _=> ?_))
   |exact(vi.mono _).2.2.1 _ _ _
   |exact ih _ _ _
def BuildPost (w:World) (r1:Int) (r2:List S56) (r3:Int) (e:Ending) (w':World):Prop:=∃v1_:Value,e= .returned (.tuple #[.agg #[.int .i64 r1,v1_],.int .i64 r3])∧Kd.N k56 56 w' w.heap.size (fun k_=>w.heap.size≤k_) v1_ r2∧Below w.heap.size w w'
theorem leaf_of_C {base:Nat} {w w1:World} {A:Option Addr} {l:List Int} {c:Nat} (h:(Kd.int .i64).C w A l.length l) (hc:l.length≤c) (hb:Below w.heap.size w w1) (hbase:w.heap.size≤base) (hl:l≠ []):Leaf base w1 (.slice A l.length c) l:=
 ⟨A,c,rfl,hc,Kd.F_mono (Kd.F_below (Kd.C_F (Kd.heap_int _) h) hb) (fun k hk=> .inl (Nat.lt_of_lt_of_le hk hbase)),fun e=>absurd e hl⟩
theorem build_post (k:Nat) (a0:Int) (A1:Option Addr) (c1:Nat) (l1:List (List Int)) (r1:Int) (r2:List S56) (r3:Int) (w:World) (aq:Kd.C (Kd.slice 3 (Kd.int .i64)) w A1 l1.length l1) (am:l1.length≤c1) (h:perm_Build.f k a0 l1=some (r1,r2,r3)):
    Calls Tryz.prog 19 #[.int .i64 a0,.slice A1 l1.length c1] w (BuildPost w r1 r2 r3):=by
 unfold perm_Build.f at h
 replace h:=oB h
 obtain⟨e0,an,h⟩:=h
 have HE:=aM an
 have L:=aM aq
 have Y:=aM am
 clear an aq am
 by_cases c0:e0=0
 ·rw [if_pos c0] at h
  have aB:(e0 !=0)=false:=bne_eq_false_iff_eq.mpr c0;clear c0
  by_cases c2:0≤a0
  ·rw [if_pos c2] at h;obtain⟨n,rfl⟩:=Int.eq_ofNat_of_zero_le c2;rw[Int.toNat_natCast] at h;replace h:=oB h;obtain⟨T0,ah,h⟩:=h;replace h:=oB h;obtain⟨T1,ai,h⟩:=h;replace h:=oB h;obtain⟨lv,hlv,h⟩:=h;simp only[Option.some.injEq,Prod.mk.injEq] at h;obtain⟨rfl,rfl,rfl⟩:=h;have ay:=aM ah;have ab:=aM ai;have HLV:=aM hlv;clear ah ai hlv c2
   go_enter Tryz.func19,Tryz.ntmps19
   go_wp2_with (first
    |((with_reducible refine Zq (N:=4) rfl ?_);refine Zx ?hg (N:=4) ?hd (cs:= #[.int .i64 0,.slice none 0 0]) (t:=24) ?hr ?_;(case hd=>rfl);(case hg=>rfl);(case hr=>first|(go_simp;done)|(go_simp;rfl));intro gres hgr w3 o J;have HGR:=aM (show w.heap.size≤gres by omega);have HB3:=aM J;have I:=aM o;clear hgr J o)
    |(go_at_call 44;(with_reducible refine(perm_generators.calls n _ _ l1 e0 _ ?s1 ?s2 HE.out).mono ?_);(case s1=>exact Kd.C_below L.out HB3.out);(case s2=>exact Y.out);rintro e w5 ⟨rfl,D⟩;have z:=aM (Zd HB3.out D);have m:=aM (Zf I.out D);clear D)
    |(go_at_call 46;(with_reducible refine(newTower_calls k n T0 _ ay.out).mono ?_);rintro e w6 ⟨bt,bR,bG,rb,vr,vg,rfl,ak,af⟩;have ac:=aM ak;have aa:=aM af;clear ak af))
   go_loopg [21] k (fun kq aI w'=>∃(i:Int) (T:Tw) (au:Nat→Nat→Value) (ar:Nat→Value),aI= .int .i64 i∧Aside0 (0≤i)∧Aside0 (buildLoop kq T l1 i=some T1)∧Aside0 (kq≤k)∧Aside0 (TwAt w5.heap.size w' bt bR bG rb au ar T)∧Aside0 (Keep w5.heap.size w5 w'))
   case atStart=>exact⟨0,T0,vr,vg,rfl,⟨by omega⟩,ab,⟨Nat.le_refl _⟩,ac,aa⟩
   case round=>
    clear ab ac aa;obtain⟨i,T,au,ar,rfl,Z,HA,HK1,HT,HK⟩:=hrel
    cases gk with
    |zero=>exact absurd HA.out (by simp[buildLoop])
    | succ k1=>
     have H:=HA.out;clear HA;simp only[buildLoop] at H;have i0:=Z.out;have q0:=eq_true i0
     by_cases d1:i<(l1.length:Int)
     ·rw [if_pos d1] at H
      by_cases d2:Zo l1 i= []
      ·rw[if_pos d2] at H;cases H
      rw[if_neg d2] at H;replace H:=oB H;obtain⟨T2,aj,H⟩:=H;have H':=aM H;have az:=aM aj;have aC:decide (i<(l1.length:Int))=true:=dT d1;have hmax:l1.length≤9223372036854775807:=L.out.2.1;have q1:=eq_true d1;have P:=ZT z.out z.out.size HK.out.below;obtain⟨ad,A2,c2,ea,U,ao,ae⟩:=ZY L.out i i0 d1
      cases ea;replace U:=(P.cell (wB w _ U)).trans U;have HLf:=aM (leaf_of_C ae ao P z.out.size d2);clear H aj d2 ao ae P
      go_wp2_with (first
       |(go_at_call 47;(with_reducible refine((vi_ok k1).2 A2 c2 (Zo l1 i) 0 T2 _ HT.out HLf.out az.out).mono ?_);rintro e w8 ⟨rfl,aK,aJ,al,ag,aD,aG⟩;have aA:=aM al;have aw:=aM (HK.out.trans ag);clear al ag aD aG))
      go_roundg k1
      case measure=>omega
      case rel=>exact⟨i+1,T2,aK,aJ,rfl,⟨by have:=Z.out;omega⟩,H',⟨by have:=HK1.out;omega⟩,aA,aw⟩
     rw[if_neg d1] at H;obtain rfl:=oI H;have aC:decide (i<(l1.length:Int))=false:=dF d1;have hbx:=(HK.out.below.block gres (lt_of_some m.out)).trans m.out;have X:wr.cell? ⟨gres,0,none⟩=some (.int .i64 0):=(Za hbx 0).trans rfl;have HBX:=aM hbx;clear hbx X
     go_wp2_with (first
      |(go_at_call 48;(with_reducible refine(chain_calls k lv _ HT.out HLV.out).mono ?_);rintro e w9 ⟨v9,rfl,O,hb9⟩;have B:=aM (Zf HBX.out hb9);have X:w9.cell? ⟨gres,0,none⟩=some (.int .i64 0):=(Za B.out 0).trans rfl;have aH:w9.cell? ⟨gres,1,none⟩=some (.slice none 0 0):=(Za B.out 1).trans rfl;have aE:=Zb B.out 0;have aF:=Zb B.out 1;obtain⟨A9,c9,rfl⟩:=N_slice_form O;have ax:=aM O;have av:=aM hb9;clear O hb9))
     refine bodyPost_ret (results_ct rfl _ _ gres 24 #[.int .i64 T.n,.slice A9 lv.length c9] (0,0) _ rfl (Zz (Zz B.out 0 _ rfl) 1 _ rfl) Tryz.underlying24 rfl (by kernel_rfl)) rfl ?_;have hsz:w.heap.size≤w5.heap.size:=z.out.size;have aL:gres<w5.heap.size:=lt_of_some m.out
     refine⟨_,rfl,?_,?_⟩
     ·exact Kd.N_lower (Kd.N_mono (Kd.N_far (Kd.N_far (Kd.N_mono ax.out (ok':=fun k=>w5.heap.size≤k) (fun k hk=>hk)) (p:=⟨gres,0,none⟩) (fun k hk=>by show k≠gres;omega) _) (p:=⟨gres,1,none⟩) (fun k hk=>by show k≠gres;omega) _) (fun k hk=>by omega)) (by have h1_:=HK.out.below.size;omega)
     ·exact((ZT (ZT z.out z.out.size HK.out.below) (Nat.le_trans z.out.size HK.out.below.size) av.out).setCell HGR.out _).setCell HGR.out _
  rw[if_neg c2] at h;cases h
 rw[if_neg c0] at h
 simp only[Option.some.injEq,Prod.mk.injEq] at h
 obtain⟨rfl,rfl,rfl⟩:=h
 have aB:(e0 !=0)=true:=bne_iff_ne.mpr c0
 clear c0
 go_enter Tryz.func19,Tryz.ntmps19
 go_wp2_with (first
  |((with_reducible refine Zq (N:=4) rfl ?_);refine Zx ?sb (N:=4) ?sa (cs:= #[.int .i64 0,.slice none 0 0]) (t:=24) ?sc ?_;(case sa=>rfl);(case sb=>rfl);(case sc=>first|(go_simp;done)|(go_simp;rfl));intro gres hgr w3 o J;have HGR:=aM (show w.heap.size≤gres by omega);have HB3:=aM J;have I:=aM o;clear hgr J o)
  |(go_at_call 44;(with_reducible refine(perm_generators.calls a0 _ _ l1 e0 _ ?t1 ?t2 HE.out).mono ?_);(case t1=>exact Kd.C_below L.out HB3.out);(case t2=>exact Y.out);rintro e w5 ⟨rfl,D⟩;have z:=aM (Zd HB3.out D);have m:=aM (Zf I.out D);have X:w5.cell? ⟨gres,0,none⟩=some (.int .i64 0):=(Za m.out 0).trans rfl;have aH:w5.cell? ⟨gres,1,none⟩=some (.slice none 0 0):=(Za m.out 1).trans rfl;have aE:=Zb m.out 0;have aF:=Zb m.out 1;clear D))
 refine bodyPost_ret (results_ct rfl _ _ gres 24 #[.int .i64 0,.slice none 0 0] (0,0) _ rfl (Zz (Zz m.out 0 _ rfl) 1 _ rfl) Tryz.underlying24 rfl (by kernel_rfl)) rfl ?_
 exact⟨_,rfl,Kd.N_nil _ _ _ _ _,(z.out.setCell HGR.out _).setCell HGR.out _⟩
theorem perm_Build.calls (k:Nat) (a0:Int) (A1:Option Addr) (c1:Nat) (l1:List (List Int)) (r1:Int) (r2:List S56) (r3:Int) (w:World) (z:Kd.C (Kd.slice 3 (Kd.int .i64)) w A1 l1.length l1) (o:l1.length≤c1) (h:perm_Build.f k a0 l1=some (r1,r2,r3)):
    Calls Tryz.prog 19 #[.int .i64 a0,.slice A1 l1.length c1] w fun e w'=>∃m:Value,e= .returned (.tuple #[.agg #[.int .i64 r1,m],.int .i64 r3])∧Kd.N k56 56 w' w.heap.size (fun k_=>w.heap.size≤k_) m r2∧Below w.heap.size w w':=
 (build_post k a0 A1 c1 l1 r1 r2 r3 w z o h).mono fun _ _ h=>h
end Go.Proofs.YtjjlhbgpdncpcaaGreat.P
namespace Go.Proofs.YtjjlhbgpdncpcaaGreat.P.M
structure Ok (n:Nat) (T:Tw):Prop where
 wf:Wf T
 hn:T.n=n
def Gn (n:Nat) (T:Tw) (b:Int):List Int→Prop:=Cl n (fun g=>g∈T.gen b)
structure Lvn (n:Nat) (T:Tw) (b:Int):Prop where
 reps:∀x:Int,0≤x→x<n→T.rep b x≠ []→Gn n T b (T.rep b x)
 gens:∀g∈T.gen (b+1),Gn n T b g
 pairs:∀x:Int,0≤x→x<n→T.rep b x≠ []→∀g∈T.gen b,Sf n T.rep (n-b).toNat b (mulL (T.rep b x) g)
def Compn (n:Nat) (T:Tw) (b:Int):Prop:=∀c:Int,b≤c→c<n→Lvn n T c
theorem Compn.comp {n:Nat} {T:Tw} {b:Int} (hn:T.n=n) (h:Compn n T b):Comp T b:=by
 subst hn
 intro c h1 h2
 have:=h c h1 h2
 exact⟨this.reps,this.gens,this.pairs⟩
theorem sfI {n:Nat} {T:Tw} (h:Ok n T) {b:Int} (h0:0≤b) (h1:b≤n) (hc:Compn n T b) {p:List Int} (hp:Pm n p) (hf:Fx b p):Sf n T.rep (n-b).toNat b p↔Gn n T b p:=by
 obtain⟨hw,hn⟩:=h
 have:=hc.comp hn
 subst hn
 exact sf_iff hw _ b h0 (by omega) this p hp hf
theorem Ok.rep {n:Nat} {T:Tw} (h:Ok n T) {b x:Int} (h0:0≤b) (h1:b<n) (h2:0≤x) (h3:x<n) (hr:T.rep b x≠ []):Pm n (T.rep b x)∧Fx b (T.rep b x)∧ap (T.rep b x) b=x:=by
 obtain⟨hw,rfl⟩:=h;exact hw.rep b x h0 h1 h2 h3 hr
theorem Ok.gpm {n:Nat} {T:Tw} (h:Ok n T) {b:Int} (h0:0≤b) (h1:b≤n):∀g,g∈T.gen b→Pm n g:=by
 obtain⟨hw,rfl⟩:=h;exact hw.gpm h0 h1
theorem Ok.gfx {n:Nat} {T:Tw} (h:Ok n T) {b:Int} (h0:0≤b) (h1:b≤n) {p:List Int} (hp:Gn n T b p):Pm n p∧Fx b p:=by
 obtain⟨hw,rfl⟩:=h;exact hw.gfx h0 h1 hp
theorem Ok.sfx {n:Nat} {T T':Tw} (h:Ok n T) (hx:Ext T T') {m:Nat} {b:Int} {p:List Int} (h0:0≤b) (hb:b+m=n) (hp:Pm n p) (hs:Sf n T.rep m b p):Sf n T'.rep m b p:=by
 obtain⟨hw,rfl⟩:=h
 have:=Sf.ext hw hx m b p h0 hb hp hs
 rwa [hx.1] at this
theorem Ok.id {n:Nat} {T:Tw} (h:Ok n T) {b:Int} (h0:0≤b) (h1:b<n):T.rep b b=idL n:=by
 obtain⟨hw,rfl⟩:=h;exact hw.one b h0 h1
theorem idL_ne {n:Nat} (h:1≤n):idL n≠ []:=by
 intro e
 have:=congrArg List.length e
 rw[idL_len] at this
 simp at this;omega
theorem Pm.ne {n:Nat} {p:List Int} (hp:Pm n p) (h:1≤n):p≠ []:=by
 intro e
 have:=hp.1
 rw[e] at this
 simp at this;omega
theorem strip_fx {n:Nat} {b:Int} (h0:0≤b) (h1:b<n) {q r:List Int} (hq:Pm n q) (hqf:Fx b q) (hr:Pm n r) (hrf:Fx b r) (e:ap r b=ap q b):Pm n (mulL q (invL r))∧Fx (b+1) (mulL q (invL r)):=by
 refine⟨hq.mul hr.inv,(hqf.mul hq hr.inv (Int.le_of_lt h1) (hrf.inv hr (Int.le_of_lt h1))).up ?_⟩
 rw[hq.ap_mul h0 h1,←e,←hr.ap_mul h0 h1,mul_inv hr,ap_id h0 h1]
theorem strip_tells {n:Nat} {T:Tw} (h:Ok n T) (o:n≤64):∀(m:Nat) (b:Int) (p:List Int),0≤b→b+m=n→Pm n p→Fx b p→∃e:Int,Tells (fun k=>stripL k T p b) e∧(e=n↔Sf n T.rep m b p)
 | 0, b,p,h0,hb,hp,hf=>by
  have hn:=h.hn
  refine⟨n,Tells.shift ?_,?_⟩
  ·simp only[stripL]
   exact Tells.neg (by omega) (Tells.now' (by omega))
  ·rw[Sf]
   refine⟨fun _=> ?_,fun _=>rfl⟩;have:b=n:=by omega
   subst this
   exact hf.all hp
 | m + 1,b,p,h0,hb,hp,hf=>by
  have hn:=h.hn;have hx:=hp.rng h0 (show b<n by omega);have hpl:=hp.1
  by_cases hr:T.rep b (ap p b)= []
  ·refine⟨b,Tells.shift ?_,?_⟩
   ·simp only[stripL,rd_ap]
    exact Tells.pos (by omega) (Tells.pos (by omega) (Tells.pos (by omega) (Tells.pos hx.1 (Tells.pos (by omega) (Tells.pos hr Tells.now)))))
   ·rw[Sf]
    exact⟨fun e=>by omega,fun e=>absurd hr e.1⟩
  ·have hR:=h.rep h0 (show b<n by omega) hx.1 hx.2 hr;have hs:=strip_fx h0 (show b<n by omega) hp hf hR.1 hR.2.1 hR.2.2;obtain⟨e,ht,he⟩:=strip_tells h o m (b+1) _ (by omega) (by omega) hs.1 hs.2
   refine⟨e,Tells.shift ?_,?_⟩
   ·simp only[stripL,rd_ap];have hil:=hR.1.inv.1
    exact Tells.pos (by omega) (Tells.pos (by omega) (Tells.pos (by omega) (Tells.pos hx.1 (Tells.pos (by omega) (Tells.neg hr (Tells.bind (inverse_tells hR.1 (by omega)) (Tells.bind (then_tells _ _ (by omega) (by rw[hil];exact hp.rg)) ht)))))))
   ·rw[he,Sf]
    exact⟨fun k=>⟨hr,k⟩,fun k=>k.2⟩
theorem countP_le {α:Type} {P Q:α→Bool} :∀ {l:List α},(∀x∈l,P x=true→Q x=true)→l.countP P≤l.countP Q
 | [],_=>by simp
 | a::l,h=>by
  have ih:=countP_le (l:=l) (fun x hx=>h x (by simp[hx]));have ha:=h a (by simp);simp only[List.countP_cons]
  cases hP:P a
  ·simp;omega
  ·simp[ha hP];omega
theorem countP_lt {α:Type} {P Q:α→Bool} :∀ {l:List α},(∀x∈l,P x=true→Q x=true)→(∃x∈l,Q x=true∧P x=false)→l.countP P<l.countP Q
 | [],_,⟨x,hx,_⟩=>by simp at hx
 | a ::l,h,⟨x,hx,hq,hp⟩=>by
  have hl:=countP_le (l:=l) (P:=P) (Q:=Q) (fun x hx=>h x (by simp[hx]));simp only[List.countP_cons]
  rcases List.mem_cons.1 hx with rfl|hx
  ·simp[hq,hp];omega
  ·have ih:=countP_lt (l:=l) (fun x hx=>h x (by simp[hx])) ⟨x,hx,hq,hp⟩;have ha:=h a (by simp)
   cases hP:P a
   ·simp;omega
   ·simp[ha hP];omega
def cnt (n:Nat) (T:Tw) (b:Int):Nat:=(List.range (n*n)).countP (fun i=>decide (b≤((i/n:Nat):Int)∧T.rep ((i/n:Nat):Int) ((i%n:Nat):Int)≠ []))
theorem cnt_max (n:Nat) (T:Tw) (b:Int):cnt n T b≤n*n:=by
 have:=List.countP_le_length (p:=(fun i=>decide (b≤((i/n:Nat):Int)∧T.rep ((i/n:Nat):Int) ((i%n:Nat):Int)≠ []))) (l:=List.range (n*n))
 simpa[cnt] using this
theorem cell_of {n i:Nat} (h:i<n*n):i/n<n∧i%n<n:=by
 have hn:0<n:=by
  cases n with
  |zero=>simp at h
  |succ n=>omega
 exact⟨Nat.div_lt_of_lt_mul h,Nat.mod_lt _ hn⟩
theorem cnt_le {n:Nat} {T T':Tw} (hn:T.n=n) (hx:Ext T T') (b:Int):cnt n T b≤cnt n T' b:=by
 refine countP_le (fun i hi h=> ?_)
 have hc:=cell_of (List.mem_range.1 hi)
 simp only[decide_eq_true_eq] at h⊢
 refine⟨h.1,?_⟩
 rw[hx.2 _ _ (Int.natCast_nonneg _) (by rw[hn];exact Int.ofNat_lt.2 hc.1) (Int.natCast_nonneg _) (by rw[hn];exact Int.ofNat_lt.2 hc.2) h.2]
 exact h.2
theorem cnt_lt {n:Nat} {T T':Tw} (hn:T.n=n) (hx:Ext T T') {b c x:Int} (o:0≤b) (hb:b≤c) (h1:c<n) (h2:0≤x) (h3:x<n) (e:T.rep c x= []) (e':T'.rep c x≠ []):cnt n T b<cnt n T' b:=by
 refine countP_lt (fun i hi h=> ?_) ?_
 ·have hc:=cell_of (List.mem_range.1 hi)
  simp only[decide_eq_true_eq] at h⊢
  refine⟨h.1,?_⟩;rw[hx.2 _ _ (Int.natCast_nonneg _) (by rw[hn];exact Int.ofNat_lt.2 hc.1) (Int.natCast_nonneg _) (by rw[hn];exact Int.ofNat_lt.2 hc.2) h.2]
  exact h.2
 ·have m:0<n:=by omega
  have hd:(c.toNat*n+x.toNat)/n=c.toNat:=by
   rw[Nat.add_comm,Nat.add_mul_div_right _ _ m,Nat.div_eq_of_lt (by omega)];omega
  have hm:(c.toNat*n+x.toNat)%n=x.toNat:=by
   rw[Nat.add_comm,Nat.add_mul_mod_self_right,Nat.mod_eq_of_lt (by omega)]
  have hl:c.toNat*n+x.toNat<n*n:=by
   have:(c.toNat+1)*n≤n*n:=Nat.mul_le_mul_right n (by omega);rw[Nat.add_mul] at this;omega
  refine⟨c.toNat*n+x.toNat,List.mem_range.2 hl,?_⟩;rw[hd,hm,show((c.toNat:Nat):Int)=c by omega,show((x.toNat:Nat):Int)=x by omega];simp[hb,e,e']
def nil (n:Nat) (T:Tw) (b:Int):Nat:=(List.range n).countP (fun x=>decide (T.rep b ((x:Nat):Int)= []))
theorem nil_le {n:Nat} {T T':Tw} (hn:T.n=n) (hx:Ext T T') {b:Int} (h0:0≤b) (h1:b<n):nil n T' b≤nil n T b:=by
 refine countP_le (fun i hi h=> ?_)
 have:=List.mem_range.1 hi
 simp only[decide_eq_true_eq] at h⊢
 apply Classical.byContradiction
 intro hc
 rw[hx.2 _ _ h0 (by omega) (by omega) (by omega) hc] at h
 exact hc h
theorem nil_lt {n:Nat} {T T':Tw} (hn:T.n=n) (hx:Ext T T') {b x:Int} (h0:0≤b) (h1:b<n) (h2:0≤x) (h3:x<n) (e:T.rep b x= []) (e':T'.rep b x≠ []):nil n T' b<nil n T b:=by
 refine countP_lt (fun i hi h=> ?_) ⟨x.toNat,List.mem_range.2 (by omega),?_⟩
 ·have:=List.mem_range.1 hi
  simp only[decide_eq_true_eq] at h⊢
  apply Classical.byContradiction;intro hc;rw[hx.2 _ _ h0 (by omega) (by omega) (by omega) hc] at h
  exact hc h
 ·rw[show((x.toNat:Nat):Int)=x by omega]
  simp[e,e']
def Bd (n:Nat) (T:Tw) (b:Int):Prop:=∀c:Int,b≤c→c<n→(T.gen c).length≤cnt n T c
def Low (T T':Tw) (b:Int):Prop:=∀c:Int,0≤c→c<b→(∀x:Int,0≤x→T'.rep c x=T.rep c x)∧T'.gen c=T.gen c
theorem Low.refl (T:Tw) (b:Int):Low T T b:=fun _ _ _=>⟨fun _ _=>rfl,rfl⟩
theorem Low.trans {T T' T'':Tw} {b:Int} (h:Low T T' b) (k:Low T' T'' b):Low T T'' b:=fun c h0 h1=>⟨fun x hx=>((k c h0 h1).1 x hx).trans ((h c h0 h1).1 x hx),(k c h0 h1).2.trans (h c h0 h1).2⟩
structure Pre (n:Nat) (T:Tw) (b:Int):Prop where
 ok:Ok n T
 comp:Compn n T (b+1)
 reps:∀x:Int,0≤x→x<n→T.rep b x≠ []→Gn n T b (T.rep b x)
 gens:∀g∈T.gen (b+1),Gn n T b g
 bd:Bd n T (b+1)
structure Stp (n:Nat) (b:Int) (T T':Tw):Prop where
 pre:Pre n T' b
 ext:Ext T T'
 low:Low T T' b
 gen:T'.gen b=T.gen b
 new:∀x:Int,0≤x→x<n→T.rep b x= []→T'.rep b x≠ []→∀g∈T.gen b,Sf n T'.rep (n-b).toNat b (mulL (T'.rep b x) g)
structure Ins (n:Nat) (b:Int) (T T':Tw) (q:List Int):Prop where
 ok:Ok n T'
 comp:Compn n T' b
 ext:Ext T T'
 low:Low T T' b
 bd:Bd n T' b
 sf:Sf n T'.rep (n-b).toNat b q
 gens:∀g∈T'.gen b,g∈T.gen b∨g=q
 keep:∀g∈T.gen b,g∈T'.gen b
def InsOk (n:Nat) (b:Int):Prop:=∀(T:Tw) (q:List Int),Ok n T→Compn n T b→Bd n T b→Pm n q→Fx b q→∃T',Tells (fun k=>insertL k T q b) T'∧Ins n b T T' q
theorem Stp.refl {n:Nat} {b:Int} {T:Tw} (h:Pre n T b):Stp n b T T:=⟨h,Ext.refl T,Low.refl T b,rfl,fun x _ _ e e'=>absurd e e'⟩
theorem Stp.trans {n:Nat} {b:Int} {T T' T'':Tw} (hT:T.n=n) (h0:0≤b) (h1:b<n) (h:Stp n b T T') (k:Stp n b T' T''):Stp n b T T'':=by
 refine⟨k.pre,h.ext.trans k.ext,h.low.trans k.low,k.gen.trans h.gen,fun x h2 h3 e e' g hg=> ?_⟩
 by_cases hm:T'.rep b x= []
 ·exact k.new x h2 h3 hm e' g (by rw[h.gen];exact hg)
 have hT':T'.n=n:=h.pre.ok.hn
 have e2:=k.ext.2 b x h0 (by omega) h2 (by omega) hm
 rw[e2]
 have hr:=h.pre.ok.rep h0 h1 h2 h3 hm
 have hgp:=h.pre.ok.gpm h0 (Int.le_of_lt h1) g (by rw[h.gen];exact hg)
 exact h.pre.ok.sfx k.ext h0 (by omega) (hr.1.mul hgp) (h.new x h2 h3 e hm g hg)
theorem Gn.eq {n:Nat} {T T':Tw} {b:Int} (e:T'.gen b=T.gen b) {p:List Int} (h:Gn n T b p):Gn n T' b p:=by unfold Gn;rw[e];exact h
theorem Ins.stp {n:Nat} {b:Int} {T T':Tw} {q:List Int} (h0:0≤b) (h1:b<n) (hp:Pre n T b) (hq:Gn n T b q) (h:Ins n (b+1) T T' q):Stp n b T T':=by
 have hl:=h.low b h0 (by omega)
 refine⟨⟨h.ok,h.comp,?_,?_,h.bd⟩,h.ext,fun c k0 k1=>h.low c k0 (by omega),hl.2,?_⟩
 ·intro x h2 h3 hr
  rw[hl.1 x h2] at hr⊢
  exact Gn.eq hl.2 (hp.reps x h2 h3 hr)
 ·intro g hg
  rcases h.gens g hg with k|rfl
  ·exact Gn.eq hl.2 (hp.gens g k)
  ·exact Gn.eq hl.2 hq
 ·intro x h2 h3 e e'
  rw[hl.1 x h2] at e'
  exact absurd e e'
theorem visit_ok {n:Nat} (U:n≤64) {b:Int} (h0:0≤b) (h1:b<n) (hI:InsOk n (b+1)) (hgl:∀T:Tw,Pre n T b→(T.gen b).length≤1000000→True) (L:Nat):∀N:Nat,∀(T:Tw) (q:List Int),nil n T b<N→Pre n T b→Gn n T b q→(T.gen b).length≤1000000→∃T',Tells (fun k=>visitL k T q b) T'∧Stp n b T T'∧Sf n T'.rep (n-b).toNat b q
 |0,T,q,hN,_,_,_=>by omega
 | N + 1, T, q,hN,hp,hq,hl=>by
  have hT:=hp.ok.hn;have hqp:=hp.ok.gfx h0 (Int.le_of_lt h1) hq;have hx:=hqp.1.rng h0 h1;have hql:=hqp.1.1
  by_cases hr:T.rep b (ap q b)= []
  ·-- a new representative
   have J:Ok n (T.setRep b (ap q b) q):=⟨Wf.setRep hp.ok.wf h0 (by omega) hx.1 (by omega) (by rw[hT];exact hqp.1) hqp.2 rfl hr,hT⟩;have hrs:∀c y:Int,0≤c→0≤y→(T.setRep b (ap q b) q).rep c y=if c=b∧y=ap q b then q else T.rep c y:=fun c y k0 k1=>rep_set hp.ok.wf h0 (by omega) hx.1 (by omega) q k0 k1
   have B:Ext T (T.setRep b (ap q b) q):=⟨rfl,fun c y k0 k1 k2 k3 e=>by
    rw[hrs c y k0 k2,if_neg];rintro ⟨rfl,rfl⟩
    exact e hr⟩
   have hup:∀c y:Int,b<c→0≤y→(T.setRep b (ap q b) q).rep c y=T.rep c y:=fun c y k0 k1=>by rw[hrs c y (by omega) k1,if_neg (by omega)]
   have hself:(T.setRep b (ap q b) q).rep b (ap q b)=q:=by rw[hrs b _ h0 hx.1,if_pos ⟨rfl,rfl⟩]
   have o:Pre n (T.setRep b (ap q b) q) b:=by
    refine⟨J,fun c k1 k2=> ?_,?_,hp.gens,fun c k1 k2=>Nat.le_trans (hp.bd c k1 k2) (cnt_le hT B c)⟩
    ·have hl:=hp.comp c k1 k2
     refine⟨fun x j0 j1 e=> ?_,hl.gens,fun x j0 j1 e g hg=> ?_⟩
     ·rw[hup c x (by omega) j0] at e⊢
      exact hl.reps x j0 j1 e
     ·rw[hup c x (by omega) j0] at e⊢;have hr':=hp.ok.rep (by omega) k2 j0 j1 e;have hg':=hp.ok.gpm (b:=c) (by omega) (Int.le_of_lt k2) g hg
      exact hp.ok.sfx B (by omega) (by omega) (hr'.1.mul hg') (hl.pairs x j0 j1 e g hg)
    ·intro x j0 j1 e;rw[hrs b x h0 j0] at e⊢
     by_cases k:b=b∧x=ap q b
     ·rw[if_pos k];exact hq
     ·rw[if_neg k] at e⊢;exact hp.reps x j0 j1 e
   have hnl:nil n (T.setRep b (ap q b) q) b<N:=by
    have:=nil_lt hT B h0 h1 hx.1 hx.2 hr (by rw[hself];exact hqp.1.ne (by omega));omega
   -- the loop over the generators; its visits are smaller
   have loop:∀(m j:Nat) (T1:Tw),T1.gen b=T.gen b→j+m=(T.gen b).length→nil n T1 b<N→Pre n T1 b→∃T',Tells (fun k=>visitLoop k T1 q b (j:Int)) T'∧Stp n b T1 T'∧∀i:Nat,j≤i→∀hi:i<(T.gen b).length,Sf n T'.rep (n-b).toNat b (mulL q (T.gen b)[i]):=by
    intro m
    induction m with
    | zero=>
     intro j T1 hge hj D o;have I:=o.ok.hn
     refine⟨T1,Tells.shift ?_,Stp.refl o,fun i h2 h3=>by omega⟩;simp only[visitLoop,hge]
     exact Tells.pos (by omega) (Tells.neg (by omega) Tells.now)
    | succ m ih=>
     intro j T1 hge hj D o;have I:=o.ok.hn;have hjl:j<(T.gen b).length:=by omega
     have hgm:=hp.ok.gpm h0 (Int.le_of_lt h1) _ (List.getElem_mem hjl);have hgq:Gn n T1 b (mulL q (T.gen b)[j]):=Gn.eq hge (Cl.mul hq (List.getElem_mem hjl));obtain⟨T2,Z,z,X⟩:=visit_ok U h0 h1 hI hgl L N T1 _ D o hgq (by rw[hge];exact hl);obtain⟨T3,aa,O,Y⟩:=ih (j+1) T2 (z.gen.trans hge) (by omega) (Nat.lt_of_le_of_lt (nil_le I z.ext h0 h1) D) z.pre
     refine⟨T3,Tells.shift ?_,z.trans I h0 h1 O,fun i h2 h3=> ?_⟩
     ·simp only[visitLoop,hge];have e:Zo (T.gen b) (j:Int)=(T.gen b)[j]:=by simp[Zo,hjl]
      rw[e];have hgl:=hgm.1
      exact Tells.pos (by omega) (Tells.pos (by omega) (Tells.bind (then_tells _ _ (by omega) (by rw[hgl];exact hqp.1.rg)) (Tells.bind Z aa)))
     ·by_cases e:i=j
      ·subst e
       exact z.pre.ok.sfx O.ext h0 (by omega) (hqp.1.mul hgm) X
      ·exact Y i (by omega) h3
   obtain⟨T',ht,hs,hf⟩:=loop (T.gen b).length 0 (T.setRep b (ap q b) q) rfl (by omega) hnl o;have hext:=B.trans hs.ext
   have hrq:T'.rep b (ap q b)=q:=by
    rw[hs.ext.2 b _ h0 (by rw[J.hn];exact h1) hx.1 (by rw[J.hn];exact hx.2) (by rw[hself];exact hqp.1.ne (by omega)),hself]
   refine⟨T',Tells.shift ?_,⟨hs.pre,hext,fun c k0 k1=> ?_,hs.gen,fun x j0 j1 e e' g hg=> ?_⟩,?_⟩
   ·simp only[visitL,rd_ap]
    exact Tells.pos (by omega) (Tells.pos (by omega) (Tells.pos hx.1 (Tells.pos (by omega) (Tells.pos (by omega) (Tells.pos hr ht)))))
   ·have:=hs.low c k0 k1
    refine⟨fun x P=> ?_,this.2⟩;rw[this.1 x P,hrs c x k0 P,if_neg (by omega)]
   ·by_cases k:x=ap q b
    ·subst k;rw[hrq];obtain⟨i,hi,rfl⟩:=List.getElem_of_mem hg
     exact hf i (by omega) hi
    ·exact hs.new x j0 j1 (by rw[hrs b x h0 j0,if_neg (by omega)];exact e) e' g hg
   ·rw[show(n-b).toNat=(n-(b+1)).toNat+1 by omega,Sf,hrq]
    refine⟨hqp.1.ne (by omega),?_⟩;rw[mul_inv hqp.1];have hok:=hs.pre.ok;have:=sf_id hok.wf (n-(b+1)).toNat (b+1) (by omega) (by rw[hok.hn];omega);rw[hok.hn] at this
    exact this
  ·have hR:=hp.ok.rep h0 h1 hx.1 hx.2 hr;have hs:=strip_fx h0 h1 hqp.1 hqp.2 hR.1 hR.2.1 hR.2.2;have hpm:=hp.ok.gpm h0 (Int.le_of_lt h1);have hG:Gn n T b (mulL q (invL (T.rep b (ap q b)))):=Cl.mul' hpm hq (Cl.inv hpm (hp.reps _ hx.1 hx.2 hr));obtain⟨T',ht,hi⟩:=hI T _ hp.ok hp.comp hp.bd hs.1 hs.2
   refine⟨T',Tells.shift ?_,hi.stp h0 h1 hp hG,?_⟩
   ·simp only[visitL,rd_ap];have hil:=hR.1.inv.1
    exact Tells.pos (by omega) (Tells.pos (by omega) (Tells.pos hx.1 (Tells.pos (by omega) (Tells.pos (by omega) (Tells.neg hr (Tells.bind (inverse_tells hR.1 (by omega)) (Tells.bind (then_tells _ _ (by omega) (by rw[hil];exact hqp.1.rg)) ht)))))))
   ·rw[show(n-b).toNat=(n-(b+1)).toNat+1 by omega,Sf];have e:=hi.ext.2 b _ h0 (by omega) hx.1 (by omega) hr;rw[e]
    exact⟨hr,hi.sf⟩
theorem Gn.up {n:Nat} {T T':Tw} {b:Int} (hp:∀g∈T'.gen b,Pm n g) (h:∀g∈T.gen b,g∈T'.gen b) {p:List Int} (hg:Gn n T b p):Gn n T' b p:=
 Cl.sub hp (fun g hg=>Cl.gen hp (h g hg)) hg
theorem insert_step {n:Nat} (D:n≤64) {b:Int} (h0:0≤b) (h1:b<n) (hI:InsOk n (b+1)):InsOk n b:=by
 intro T p hok hc hb hp hf
 have hT:=hok.hn
 obtain⟨e,hte,hie⟩:=strip_tells hok D (n-b).toNat b p h0 (by omega) hp hf
 by_cases he:e=n
 ·-- it sifts: nothing is done
  refine⟨T,Tells.shift ?_,⟨hok,hc,Ext.refl T,Low.refl T b,hb,hie.1 he,fun g hg=> .inl hg,fun g hg=>hg⟩⟩;simp only[insertL]
  exact Tells.bind hte (Tells.pos (by omega) Tells.now)
 have hns:¬Sf n T.rep (n-b).toNat b p:=fun h=>he (hie.2 h)
 have hlen:(T.gen b).length≤4096:=by
  have h2:=hb b (Int.le_refl _) h1;have h3:=cnt_max n T b;have:n*n≤64*64:=Nat.mul_le_mul D D;omega
 have P:Ok n (T.addGen b p):=⟨Wf.addGen hok.wf h0 (by omega) (by rw[hT];exact hp) hf,hT⟩
 have g1:(T.addGen b p).gen b=T.gen b++ [p]:=by rw[gen_add hok.wf h0 (by omega) p h0,if_pos rfl]
 have g2:∀c:Int,0≤c→c≠b→(T.addGen b p).gen c=T.gen c:=fun c k0 k1=>by rw[gen_add hok.wf h0 (by omega) p k0,if_neg k1]
 have aa:=P.gpm h0 (Int.le_of_lt h1)
 have upb:∀ {x:List Int},Gn n T b x→Gn n (T.addGen b p) b x:=fun h=>Gn.up aa (fun g hg=>by rw[g1];exact List.mem_append_left _ hg) h
 have L:=hc b (Int.le_refl _) h1
 have U:Pre n (T.addGen b p) b:=by
  refine⟨P,fun c k1 k2=> ?_,fun x j0 j1 e=>upb (L.reps x j0 j1 e),fun g hg=> ?_,fun c k1 k2=> ?_⟩
  ·have hl:=hc c (by omega) k2
   refine⟨fun x j0 j1 e=>Gn.eq (g2 c (by omega) (by omega)) (hl.reps x j0 j1 e),fun g hg=> ?_,fun x j0 j1 e g hg=> ?_⟩
   ·rw[g2 (c+1) (by omega) (by omega)] at hg
    exact Gn.eq (g2 c (by omega) (by omega)) (hl.gens g hg)
   ·rw[g2 c (by omega) (by omega)] at hg
    exact hl.pairs x j0 j1 e g hg
  ·rw[g2 (b+1) (by omega) (by omega)] at hg
   exact upb (L.gens g hg)
  ·rw[g2 c (by omega) (by omega)]
   exact hb c (by omega) k2
 have J:Ext T (T.addGen b p):=⟨rfl,fun _ _ _ _ _ _ _=>rfl⟩
 have hrow:(T.row b).length=n:=by have:=hok.wf.lrr b h0 (by omega);omega
 have loop :∀(m i:Nat) (T2:Tw),i+m=n→Pre n T2 b→T2.gen b=T.gen b++ [p]→Ext T T2→∃T',Tells (fun k=>insertLoop k T2 (T.row b) p b (i:Int)) T'∧Stp n b T2 T'∧∀x:Int,(i:Int)≤x→x<n→T.rep b x≠ []→Sf n T'.rep (n-b).toNat b (mulL (T.rep b x) p):=by
  intro m
  induction m with
  | zero=>
   intro i T2 hi o z I
   refine⟨T2,Tells.shift ?_,Stp.refl o,fun x k1 k2=>by omega⟩;simp only[insertLoop]
   exact Tells.neg (by omega) Tells.now
  | succ m ih=>
   intro i T2 hi o z I;have X:=o.ok.hn;have e0:Zo (T.row b) (i:Int)=T.rep b (i:Int):=rfl
   by_cases hr:T.rep b (i:Int)= []
   ·obtain⟨T',ht,hs,hx⟩:=ih (i+1) T2 (by omega) o z I
    refine⟨T',Tells.shift ?_,hs,fun x k1 k2 k3=> ?_⟩
    ·simp only[insertLoop,e0]
     exact Tells.pos (by omega) (Tells.pos hr ht)
    ·by_cases e:x=i
     ·rw[e] at k3;exact absurd hr k3
     ·exact hx x (by omega) k2 k3
   ·have hR:=hok.rep h0 h1 (x:=(i:Int)) (by omega) (by omega) hr;have O:=I.2 b (i:Int) h0 (by omega) (by omega) (by omega) hr
    have hG:Gn n T2 b (mulL (T.rep b (i:Int)) p):=by
     have:=o.reps (i:Int) (by omega) (by omega) (by rw[O];exact hr);rw[O] at this
     exact Cl.mul this (by rw[z];simp)
    obtain⟨T3,Z,B,Y⟩:=visit_ok D h0 h1 hI (fun _ _ _=>trivial) 0 (nil n T2 b+1) T2 _ (by omega) o hG (by rw[z,List.length_append];simp;omega);obtain⟨T',ht,hs,hx⟩:=ih (i+1) T3 (by omega) B.pre (B.gen.trans z) (I.trans B.ext)
    refine⟨T',Tells.shift ?_,B.trans X h0 h1 hs,fun x k1 k2 k3=> ?_⟩
    ·simp only[insertLoop,e0];have h2:=hR.1.1;have h3:=hp.1
     exact Tells.pos (by omega) (Tells.neg hr (Tells.bind (then_tells _ _ (by omega) (by rw[h3];exact hR.1.rg)) (Tells.bind Z ht)))
    ·by_cases e:x=i
     ·subst e
      exact B.pre.ok.sfx hs.ext h0 (by omega) (hR.1.mul hp) Y
     ·exact hx x (by omega) k2 k3
 obtain⟨T',ht,hs,hx⟩:=loop n 0 (T.addGen b p) (by omega) U g1 J
 have hext:=J.trans hs.ext
 have hgen:T'.gen b=T.gen b++ [p]:=hs.gen.trans g1
 have hcomp:Compn n T' b:=by
  intro c k1 k2
  by_cases e:c=b
  ·subst e
   refine⟨hs.pre.reps,hs.pre.gens,fun x j0 j1 e g hg=> ?_⟩
   by_cases hm:T.rep c x= []
   ·exact hs.new x j0 j1 hm e g (by rw[g1,←hgen];exact hg)
   ·have e2:=hext.2 c x h0 (by omega) j0 (by omega) hm;have hR:=hok.rep h0 h1 j0 j1 hm;rw[e2];rw[hgen,List.mem_append,List.mem_singleton] at hg
    rcases hg with hg|rfl
    ·exact hok.sfx hext h0 (by omega) (hR.1.mul (hok.gpm h0 (Int.le_of_lt h1) g hg)) (L.pairs x j0 j1 hm g hg)
    ·exact hx x (by omega) j1 hm
  ·exact hs.pre.comp c (by omega) k2
 have hsf:Sf n T'.rep (n-b).toNat b p:=(sfI hs.pre.ok h0 (Int.le_of_lt h1) hcomp hp hf).2 (Cl.gen (hs.pre.ok.gpm h0 (Int.le_of_lt h1)) (by rw[hgen];simp))
 refine⟨T',Tells.shift ?_,⟨hs.pre.ok,hcomp,hext,fun c k0 k1=> ?_,fun c k1 k2=> ?_,hsf,fun g hg=> ?_,fun g hg=>by rw[hgen];exact List.mem_append_left _ hg⟩⟩
 ·simp only[insertL]
  exact Tells.bind hte (Tells.neg (by omega) (Tells.pos h0 (Tells.pos (by omega) (Tells.pos (by omega) ht))))
 ·have:=hs.low c k0 k1
  exact⟨this.1,this.2.trans (g2 c k0 (by omega))⟩
 ·by_cases e:c=b
  ·subst e
   have hlt:cnt n T c<cnt n T' c:=by
    apply Classical.byContradiction;intro hcon
    apply hns;have hw':=hs.pre.ok.wf
    have:=Sf.same hw' hext c (fun d x j0 j1 j2 j3 e=>by
     apply Classical.byContradiction;intro hne
     exact hcon (cnt_lt hT hext h0 j0 (by omega) j2 (by omega) e hne)) (n-c).toNat c p h0 (Int.le_refl _) (by omega) (by rw[hT];exact hp) (by rw[hs.pre.ok.hn];exact hsf)
    rwa [hT] at this
   have:=hb c (Int.le_refl _) h1;rw[hgen,List.length_append];simp only[List.length_singleton];omega
  exact hs.pre.bd c (by omega) k2
 ·rw[hgen,List.mem_append,List.mem_singleton] at hg
  exact hg
theorem insert_end {n:Nat} (m:n≤64):InsOk n (n:Int):=by
 intro T p hok hc hb hp hf
 have hT:=hok.hn
 obtain⟨e,hte,hie⟩:=strip_tells hok m 0 (n:Int) p (by omega) (by omega) hp hf
 have hs:Sf n T.rep 0 (n:Int) p:=hf.all hp
 refine⟨T,Tells.shift ?_,⟨hok,hc,Ext.refl T,Low.refl T _,hb,?_,fun g hg=> .inl hg,fun g hg=>hg⟩⟩
 ·simp only[insertL]
  exact Tells.bind hte (Tells.pos (by have:=hie.2 hs;omega) Tells.now)
 ·rw[show((n:Int)-n).toNat=0 by omega];exact hs
theorem insert_ok {n:Nat} (h64:n≤64):∀(m:Nat) (b:Int),0≤b→b+m=n→InsOk n b
 | 0,b,h0,hb=>by
  have:b=n:=by omega
  subst this
  exact insert_end h64
 |m+1,b,h0,hb=>insert_step h64 h0 (by omega) (insert_ok h64 m (b+1) (by omega) (by omega))
theorem newTower_tells {n:Nat} (h1:1≤n) (m:n≤64):∃T,Tells (fun k=>newTowerL k n) T∧Ok n T∧Compn n T 0∧Bd n T 0∧∀b,T.gen b= []:=by
 have hne:=idL_ne h1
 have key :∀T:Tw,T= { n:=n,reps:=(List.range n).map (fun b=>(List.replicate n []).set b (idL n)),gens:=List.replicate n [] } →Ok n T∧Compn n T 0∧Bd n T 0∧∀b,T.gen b= []:=by
  intro T hT;have hn:T.n=n:=by rw[hT]
  have hrow:∀b:Int,0≤b→b<n→T.row b=(List.replicate n []).set b.toNat (idL n):=by
   intro b h0 h1;have:b.toNat<n:=by omega
   rw[hT];simp[Tw.row,List.getD_eq_getElem?_getD,this]
  have hrep:∀b x:Int,0≤b→b<n→0≤x→x<n→T.rep b x=if x=b then idL n else []:=by
   intro b x h0 h1 h2 h3;rw[Tw.rep,hrow b h0 h1]
   by_cases e:x=b
   ·subst e;rw[if_pos rfl,List.getD_eq_getElem?_getD,List.getElem?_set_self (by simp;omega)];rfl
   ·rw[if_neg e,List.getD_eq_getElem?_getD,List.getElem?_set_ne (by omega),List.getElem?_replicate]
    split<;>rfl
  have hgen:∀b,T.gen b= []:=by
   intro b;rw[hT];simp only[Tw.gen,List.getD_eq_getElem?_getD,List.getElem?_replicate]
   split<;>rfl
  have hok:Ok n T:=by
   refine⟨⟨by omega,by omega,by rw[hT];simp,fun b h0 h1=> ?_,by rw[hT];simp,fun b h0 h1=> ?_,fun b x h0 h1 h2 h3 hr=> ?_,fun b h0 h1 g hg=> ?_⟩,hn⟩
   ·rw[hrow b h0 (by omega),hn];simp
   ·rw[hrep b b h0 (by omega) h0 (by omega),if_pos rfl,hn]
   ·rw [hrep b x h0 (by omega) h2 (by omega)] at hr⊢
    by_cases e:x=b
    ·subst e;rw[if_pos rfl,hn]
     exact⟨Pm_id n,Fx.id n (by omega),ap_id h0 (by omega)⟩
    ·rw[if_neg e] at hr;exact absurd rfl hr
   ·rw[hgen b] at hg;simp at hg
  refine⟨hok,fun c k1 k2=>⟨fun x j0 j1 e=> ?_,fun g hg=> ?_,fun x j0 j1 e g hg=> ?_⟩,fun c k1 k2=> ?_,hgen⟩
  ·rw[hrep c x (by omega) k2 j0 j1] at e⊢
   by_cases e2:x=c
   ·rw[if_pos e2];exact .one
   ·rw[if_neg e2] at e;exact absurd rfl e
  ·rw[hgen] at hg;simp at hg
  ·rw[hgen] at hg;simp at hg
  ·rw[hgen];simp
 refine⟨_,?_,key _ rfl⟩
 unfold newTowerL
 exact Tells.pos ⟨h1,m⟩ (Tells.bind (identity_tells n (by omega)) (Tells.neg hne Tells.now))
theorem tower_loop {n:Nat} (h1:1≤n) (z:n≤64) (l:List (List Int)) (hl:∀p∈l,Pm n p):∀(m i:Nat) (T:Tw),i+m=l.length→Ok n T→Compn n T 0→Bd n T 0→(∀g∈T.gen 0,g∈l)→(∀g∈l.take i,Gn n T 0 g)→
    ∃T',Tells (fun k=>buildLoop k T l (i:Int)) T'∧Ok n T'∧Compn n T' 0∧(∀g∈T'.gen 0,g∈l)∧(∀g∈l,Gn n T' 0 g)
 | 0,i,T,hi,hok,hc,hb,hg,ht=>by
  refine⟨T,Tells.shift ?_,hok,hc,hg,fun g hgl=>ht g (by rw[List.take_of_length_le (by omega)];exact hgl)⟩;simp only[buildLoop]
  exact Tells.neg (by omega) Tells.now
 | m +1,i,T,hi,hok,hc,hb,hg,ht=>by
  have hil:i<l.length:=by omega
  have hp:=hl _ (List.getElem_mem hil);obtain⟨T1,D,hI⟩:=insert_ok z n 0 (by omega) (by omega) T l[i] hok hc hb hp (fun j k0 k1=>by omega);have B:=hI.ok.gpm (b:=0) (by omega) (by omega)
  obtain⟨T',ht',h2,h3,h4,h5⟩:=tower_loop h1 z l hl m (i+1) T1 (by omega) hI.ok hI.comp hI.bd (fun g o=>by
   rcases hI.gens g o with k|rfl
   ·exact hg g k
   ·exact List.getElem_mem hil) (fun g o=>by
   rw[List.take_succ_eq_append_getElem hil,List.mem_append,List.mem_singleton] at o
   rcases o with k|rfl
   ·exact Gn.up B hI.keep (ht g k)
   ·exact(sfI hI.ok (Int.le_refl _) (by omega) hI.comp hp (fun j k0 k1=>by omega)).1 hI.sf)
  refine⟨T',Tells.shift ?_,h2,h3,h4,h5⟩;simp only[buildLoop];have e:Zo l (i:Int)=l[i]:=by simp[Zo,hil]
  rw[e]
  exact Tells.pos (by omega) (Tells.neg (hp.ne h1) (Tells.bind D ht'))
theorem tower_tells {n:Nat} (h1:1≤n) (e:n≤64) (l:List (List Int)) (hl:∀p∈l,Pm n p):
    ∃T0 T,Tells (fun k=>newTowerL k n) T0∧Tells (fun k=>buildLoop k T0 l 0) T∧Ok n T∧Compn n T 0∧∀p,Gn n T 0 p↔Cl n (fun g=>g∈l) p:=by
 obtain⟨T0,m,hok,hc,hb,hg⟩:=newTower_tells h1 e
 obtain⟨T,ht,h2,h3,h4,h5⟩:=tower_loop h1 e l hl l.length 0 T0 (by omega) hok hc hb (fun g h=>by rw[hg] at h;simp at h) (fun g h=>by simp at h)
 refine⟨T0,T,m,ht,h2,h3,fun p=>⟨fun h=> ?_,fun h=> ?_⟩⟩
 ·exact Cl.sub hl (fun g hgg=>Cl.gen hl (h4 g hgg)) h
 ·exact Cl.sub (h2.gpm (by omega) (by omega)) h5 h
def Lx (n:Nat) (p q:List Int):Prop:=∃i:Int,0≤i∧i<n∧(∀j:Int,0≤j→j<i→ap p j=ap q j)∧ap p i<ap q i
theorem best_tells {n:Nat} {T:Tw} (hok:Ok n T) {c:Int} (h0:0≤c) (h1:c<n) {p:List Int} (hp:Pm n p):∀(m:Nat) (x best:Int),0≤x→x+m=n→0≤best→best<n→T.rep c best≠ []→(∀y:Int,0≤y→y<x→T.rep c y≠ []→ap p best≤ap p y)→
    ∃e:Int,Tells (fun k=>bestL k T c p x best) e∧0≤e∧e<n∧T.rep c e≠ []∧∀y:Int,0≤y→y<n→T.rep c y≠ []→ap p e≤ap p y
 | 0,x,best,hx,hm,o,z,hr,hy=>by
  have hT:=hok.hn
  refine⟨best,Tells.shift ?_,o,z,hr,fun y k0 k1=>hy y k0 (by omega)⟩;simp only[bestL]
  exact Tells.neg (by omega) Tells.now
 | m + 1, x,best,hx,hm,o,z,hr,hy=>by
  have hT:=hok.hn;have hpl:=hp.1
  by_cases hz:T.rep c x= []
  ·obtain⟨e,ht,h2⟩:=best_tells hok h0 h1 hp m (x+1) best (by omega) (by omega) o z hr (fun y k0 k1 k2=>by
      by_cases e:y=x
      ·rw[e] at k2;exact absurd hz k2
      ·exact hy y k0 (by omega) k2)
   refine⟨e,Tells.shift ?_,h2⟩;simp only[bestL]
   exact Tells.pos (by omega) (Tells.pos hz ht)
  ·by_cases hlt:ap p x<ap p best
   ·obtain⟨e,ht,h2⟩:=best_tells hok h0 h1 hp m (x+1) x (by omega) (by omega) hx (by omega) hz (fun y k0 k1 k2=>by
       by_cases e:y=x
       ·rw[e];exact Int.le_refl _
       ·have:=hy y k0 (by omega) k2;omega)
    refine⟨e,Tells.shift ?_,h2⟩;simp only[bestL,rd_ap]
    exact Tells.pos (by omega) (Tells.neg hz (Tells.pos (by omega) (Tells.pos o (Tells.pos (by omega) (Tells.pos hlt ht)))))
   ·obtain⟨e,ht,h2⟩:=best_tells hok h0 h1 hp m (x+1) best (by omega) (by omega) o z hr (fun y k0 k1 k2=>by
       by_cases e:y=x
       ·rw[e];omega
       ·exact hy y k0 (by omega) k2)
    refine⟨e,Tells.shift ?_,h2⟩;simp only[bestL,rd_ap]
    exact Tells.pos (by omega) (Tells.neg hz (Tells.pos (by omega) (Tells.pos o (Tells.pos (by omega) (Tells.neg hlt ht)))))
theorem Gn.sub {n:Nat} {T:Tw} (hok:Ok n T) {b:Int} (h0:0≤b) (h1:b<n) (hc:Compn n T b) {p:List Int} (h:Gn n T (b+1) p):Gn n T b p:=
 Cl.sub (hok.gpm h0 (Int.le_of_lt h1)) (hc b (Int.le_refl _) h1).gens h
theorem canon_tells {n:Nat} {T:Tw} (hok:Ok n T) (L:n≤64):∀(m:Nat) (c:Int) (p:List Int),0≤c→c+m=n→Compn n T c→Pm n p→
    ∃q,Tells (fun k=>canonL k T p c) q∧(∃s,Gn n T c s∧q=mulL s p)∧∀s,Gn n T c s→q=mulL s p∨Lx n q (mulL s p)
 | 0, c,p,h0,hm,hc,hp=>by
  have hT:=hok.hn;have hcn:c=n:=by omega
  subst hcn
  refine⟨p,Tells.shift ?_,⟨idL n,.one,(id_mul hp).symm⟩,fun s hs=> .inl ?_⟩
  ·simp only[canonL]
   exact Tells.neg (by omega) Tells.now
  ·have:=hok.gfx (by omega) (by omega) hs;rw[this.2.all this.1,id_mul hp]
 | m + 1, c,p,h0,hm,hc,hp=>by
  have hT:=hok.hn;have h1:c<n:=by omega
  have hid:=hok.id h0 h1;obtain⟨x0,htb,z,D,hr,hmin⟩:=best_tells hok h0 h1 hp n 0 c (by omega) (by omega) h0 h1 (by rw[hid];exact idL_ne (by omega)) (fun y k0 k1=>by omega);have hR:=hok.rep h0 h1 z D hr;have hl:=hc c (Int.le_refl _) h1;have I:Compn n T (c+1):=fun d k1 k2=>hc d (by omega) k2
  obtain⟨q,htq,⟨s1,J,B⟩,hleast⟩:=canon_tells hok L m (c+1) (mulL (T.rep c x0) p) (by omega) (by omega) I (hR.1.mul hp);have o:=hok.gfx (b:=c+1) (by omega) (by omega) J
  refine⟨q,Tells.shift ?_,⟨mulL s1 (T.rep c x0),Cl.mul' (hok.gpm h0 (Int.le_of_lt h1)) (Gn.sub hok h0 h1 hc J) (hl.reps _ z D hr),?_⟩,fun s hs=> ?_⟩
  ·simp only[canonL];have h2:=hR.1.1;have h3:=hp.1
   exact Tells.pos (by omega) (Tells.pos h0 (Tells.bind htb (Tells.pos z (Tells.pos (by omega) (Tells.bind (then_tells _ _ (by omega) (by rw[h3];exact hR.1.rg)) htq)))))
  ·rw[B,mul_assoc o.1 hR.1 hp]
  ·have hsp:=hok.gfx h0 (Int.le_of_lt h1) hs;have hsf:=(sfI hok h0 (Int.le_of_lt h1) hc hsp.1 hsp.2).2 hs;rw[show(n-c).toNat=m+1 by omega,Sf] at hsf;have hx:=hsp.1.rng h0 h1;have hRx:=hok.rep h0 h1 hx.1 hx.2 hsf.1;have hfx:=strip_fx h0 h1 hsp.1 hsp.2 hRx.1 hRx.2.1 hRx.2.2;have hin:Gn n T (c+1) (mulL s (invL (T.rep c (ap s c)))):=(sfI hok (by omega) (by omega) I hfx.1 hfx.2).1 (by rw[show(n-(c+1)).toNat=m by omega];exact hsf.2)
   by_cases e:ap s c=x0
   ·rw[e] at hin;have:=hleast _ hin;rw[←mul_assoc (hsp.1.mul hR.1.inv) hR.1 hp,mul_inv_cancel hsp.1 hR.1] at this
    exact this
   ·right
    have hlt:ap p x0<ap p (ap s c):=by
     have:=hmin _ hx.1 hx.2 hsf.1;have hne:ap p x0≠ap p (ap s c):=fun k=>e (hp.inj z D hx.1 hx.2 k).symm
     omega
    refine⟨c,h0,h1,fun j k0 k1=> ?_,?_⟩
    ·rw[B,o.1.ap_mul k0 (by omega),o.2 j k0 (by omega),hR.1.ap_mul k0 (by omega),hR.2.1 j k0 k1,hsp.1.ap_mul k0 (by omega),hsp.2 j k0 k1]
    ·rw[B,o.1.ap_mul h0 h1,o.2 c h0 (by omega),hR.1.ap_mul h0 h1,hR.2.2,hsp.1.ap_mul h0 h1]
     exact hlt
end Go.Proofs.YtjjlhbgpdncpcaaGreat.P.M
namespace Go.Proofs.YtjjlhbgpdncpcaaGreat.P
section
attribute [local go_sem] ZH ZF ZL ZK ZB ZA ZG ZE
mutual
def r30_all.l0:Nat→Int→List (List Int)→Int→Option (Int)
 |0,_,_,_=>none
 |k+1,x0,x1,x5=>if x5<(x1.length:Int) then(if 0≤x5 then((r30_Check.f k (Zo x1 x5)).bind fun t314=>(if t314=0 then(r30_all.l0 k x0 x1 (wrap64 (x5+1))) else(some t314))) else(none)) else(r30_all.l1 k x0 x1 0)
def r30_all.l1:Nat→Int→List (List Int)→Int→Option (Int)
 |0,_,_,_=>none
 |k+1,x0,x1,x7=>if x7<(x1.length:Int) then(if 0≤x7 then(if((Zo x1 x7).length:Int)=x0 then(r30_all.l1 k x0 x1 (wrap64 (x7+1))) else(some 10)) else(none)) else(some 0)
end
def r30_all.f (k:Nat) (a0:Int) (l1:List (List Int)):Option (Int):=r30_all.l0 k a0 l1 0
theorem r30_all.calls (k:Nat) (a0:Int) (A1:Option Addr) (c1:Nat) (l1:List (List Int)) (r:Int) (w:World) (ay:Kd.C (Kd.slice 3 (Kd.int .i64)) w A1 l1.length l1) (ax:l1.length≤c1) (h:r30_all.f k a0 l1=some r):
    Calls Tryz.prog 86 #[.int .i64 a0,.slice A1 l1.length c1] w fun e w'=>e= .returned (.int .i64 r)∧Drawn0 w w':=by
 have ai:=aM ay
 have aA:=aM ax
 clear ay ax
 have H:(r30_all.l0 k a0 l1 0)=some r:=h
 clear h
 have H':=aM H
 clear H
 go_enter Tryz.func86,Tryz.ntmps86
 go_wp2
 go_loopg [5] k (fun kq v5 w'=>∃(m:Int),v5= .int .i64 m∧Aside0 (r30_all.l0 kq a0 l1 m=some r)∧Aside0 (kq≤k)∧Drawn0 w w')
 case atStart=>exact⟨(0),zz157,H',⟨Nat.le_refl _⟩,by repeat(first|exact Drawn0.refl _|apply Drawn0.step)⟩
 case round =>
  clear H';(try clear c1);(try clear p2);obtain⟨m,rfl,HA,HK1,⟨m1,rfl⟩⟩:=hrel
  cases gk with
  |zero=>exact absurd HA.out (by simp[r30_all.l0])
  | succ k1=>
   have H:=HA.out;clear HA;simp only[r30_all.l0] at H
   by_cases c3:m<(l1.length:Int)
   ·rw [if_pos c3] at H;have ak:=dT c3;clear c3
    by_cases c4:0≤m
    ·rw [if_pos c4] at H;have ar:=dT c4;clear c4;replace H:=oB H;obtain⟨ab,aq,H⟩:=H;replace H:(if ab=0 then(r30_all.l0 k1 a0 l1 (wrap64 (m+1))) else(some ab))=some r:=H;have A5:=aM aq;clear aq
     by_cases c6:ab=0
     ·rw[if_pos c6] at H;have al:=beq_iff_eq.mpr c6;have am:=bne_eq_false_iff_eq.mpr c6;clear c6;have H':=aM H;clear H;have J:0≤(m:Int):=oD zz156;have L:m<(l1.length:Int):=oD zz156;obtain⟨an,Y,Z,ae,aa,D,z⟩:=ZY ai.out m J L
      cases ae;have P:=aM z;have O:=aM D;clear z D;replace J:=eq_true J;replace L:=eq_true L
      go_wp2_with (first|((with_reducible refine Zr (f:=8) rfl ?_);refine ZI (some 18) rfl rfl Tryz.func8 (by kernel_rfl) rfl #[.slice Y (Zo l1 m).length Z] rfl zz127 ?_;(with_reducible refine(r30_Check.calls k1 _ _ (Zo l1 m) ab _ ?sa ?sb A5.out).mono ?_);(case sa=>exact zC P.out);(case sb=>exact O.out);rintro e w' ⟨rfl,⟨nd,rfl⟩⟩;refine⟨_,rfl,?_⟩))
      go_roundg k1
      case measure=>have:=HK1.out;omega
      case rel=>exact⟨(wrap64 (m+1)),zz157,H',⟨zz167⟩,by repeat(first|exact Drawn0.refl _|apply Drawn0.step)⟩
     rw[if_neg c6] at H;have al:=beq_eq_false_iff_ne.mpr c6;have am:=bne_iff_ne.mpr c6;obtain rfl:=oI H;have J:0≤(m:Int):=oD zz156;have L:m<(l1.length:Int):=oD zz156;obtain⟨an,Y,Z,ae,aa,D,z⟩:=ZY ai.out m J L
     cases ae;have P:=aM z;have O:=aM D;clear z D;replace J:=eq_true J;replace L:=eq_true L
     go_wp2_with (first|((with_reducible refine Zr (f:=8) rfl ?_);refine ZI (some 18) rfl rfl Tryz.func8 (by kernel_rfl) rfl #[.slice Y (Zo l1 m).length Z] rfl zz127 ?_;(with_reducible refine(r30_Check.calls k1 _ _ (Zo l1 m) ab _ ?sa ?sb A5.out).mono ?_);(case sa=>exact zC P.out);(case sb=>exact O.out);rintro e w' ⟨rfl,⟨nd,rfl⟩⟩;refine⟨_,rfl,?_⟩))
     go_ret
     exact⟨by first|rfl|(simp;done)|(simp[*];done),by repeat(first|exact Drawn0.refl _|apply Drawn0.step)⟩
    rw[if_neg c4] at H
    exact absurd H (by simp)
   rw[if_neg c3] at H;have ak:=dF c3;clear c3;have H':=aM H;clear H;go_wp2
   go_loopg [7] k1 (fun kq v7 w'=>∃(o:Int),v7= .int .i64 o∧Aside0 (r30_all.l1 kq a0 l1 o=some r)∧Aside0 (kq≤k1)∧Drawn0 w w')
   case atStart=>exact⟨(0),zz157,H',⟨Nat.le_refl _⟩,by repeat(first|exact Drawn0.refl _|apply Drawn0.step)⟩
   case round =>
    clear H';(try clear c1);(try clear p2);(try clear c3);(try clear ak);(try clear p3);(try clear q3);(try clear aB);(try clear c4);(try clear ar);(try clear c6);(try clear al);(try clear am);(try clear p6);(try clear aa);(try clear p2);(try clear J);(try clear L);obtain⟨o,rfl,HA,HK2,⟨m2,rfl⟩⟩:=hrel
    cases gk with
    |zero=>exact absurd HA.out (by simp[r30_all.l1])
    | succ k2=>
     have H:=HA.out;clear HA;simp only[r30_all.l1] at H
     by_cases c7:o<(l1.length:Int)
     ·rw [if_pos c7] at H;have au:=dT c7;clear c7
      by_cases c8:0≤o
      ·rw [if_pos c8] at H;have az:=dT c8;clear c8
       by_cases c9:((Zo l1 o).length:Int)=a0
       ·rw[if_pos c9] at H;have av:=beq_iff_eq.mpr c9;have aw:=bne_eq_false_iff_eq.mpr c9;clear c9;have H':=aM H;clear H;have U:0≤(o:Int):=oD zz156;have X:o<(l1.length:Int):=oD zz156;obtain⟨ao,ah,aj,af,ag,I,B⟩:=ZY ai.out o U X
        cases af;have ad:=aM B;have ac:=aM I;clear B I;replace U:=eq_true U;replace X:=eq_true X;go_wp2
        go_roundg k2
        case measure=>have:=HK1.out;have:=HK2.out;omega
        case rel=>exact⟨(wrap64 (o+1)),zz157,H',⟨zz159⟩,by repeat(first|exact Drawn0.refl _|apply Drawn0.step)⟩
       rw[if_neg c9] at H;have av:=beq_eq_false_iff_ne.mpr c9;have aw:=bne_iff_ne.mpr c9;obtain rfl:=oI H;have U:0≤(o:Int):=oD zz156;have X:o<(l1.length:Int):=oD zz156;obtain⟨ao,ah,aj,af,ag,I,B⟩:=ZY ai.out o U X
       cases af;have ad:=aM B;have ac:=aM I;clear B I;replace U:=eq_true U;replace X:=eq_true X;go_wp2;go_ret
       exact⟨by first|rfl|(simp;done)|(simp[*];done),by repeat(first|exact Drawn0.refl _|apply Drawn0.step)⟩
      rw[if_neg c8] at H
      exact absurd H (by simp)
     rw[if_neg c7] at H;have au:=dF c7;clear c7;obtain rfl:=oI H;go_wp2;go_ret
     exact⟨by first|rfl|(simp;done)|(simp[*];done),by repeat(first|exact Drawn0.refl _|apply Drawn0.step)⟩
end
end Go.Proofs.YtjjlhbgpdncpcaaGreat.P
namespace Go.Proofs.YtjjlhbgpdncpcaaGreat.P.M
theorem checkL_zero {p:List Int} :Z0 p=0↔Pm p.length p∧1≤p.length∧p.length≤64:=by
 unfold Z0
 by_cases h1:p.length<1∨64<p.length
 ·rw[if_pos h1];constructor
  ·intro h;omega
  ·rintro ⟨_,h2,h3⟩;omega
 rw[if_neg h1]
 by_cases h2:∃x∈p,x<0∨(p.length:Int)≤x
 ·rw[if_pos h2];constructor
  ·intro h;omega
  ·rintro ⟨h3,_⟩;obtain⟨x,hx,hb⟩:=h2;have:=h3.2.1 x hx;omega
 rw[if_neg h2]
 by_cases h3:p.Nodup
 ·rw[if_pos h3]
  refine⟨fun _=>⟨⟨rfl,fun x hx=> ?_,h3⟩,by omega,by omega⟩,fun _=>rfl⟩;have:¬(x<0∨(p.length:Int)≤x):=fun k=>h2 ⟨x,hx,k⟩
  omega
 rw[if_neg h3];constructor
 ·intro h;omega
 ·rintro ⟨h4,_⟩;exact absurd h4.2.2 h3
theorem nodup_iff_ap {p:List Int} :p.Nodup↔∀i j:Nat,j<i→i<p.length→ap p i≠ap p j:=by
 rw[List.Nodup,List.pairwise_iff_getElem]
 constructor
 ·intro h i j hj hi e
  have:=h j i (by omega) hi hj;rw[ap_nat,ap_nat,List.getD_eq_getElem?_getD,List.getD_eq_getElem?_getD,List.getElem?_eq_getElem hi,List.getElem?_eq_getElem (show j<p.length by omega)] at e
  exact this e.symm
 ·intro h i j hi hj hij e
  refine h j i hij hj ?_;rw[ap_nat,ap_nat,List.getD_eq_getElem?_getD,List.getD_eq_getElem?_getD,List.getElem?_eq_getElem hi,List.getElem?_eq_getElem hj]
  exact e.symm
theorem rck2 (p:List Int) (hl:p.length≤64) (i:Nat) (hi:i<p.length) (v:Int) (hv:(∀j:Nat,j<i→ap p i≠ap p j)→Tells (fun k=>r30_Check.l1 k p (p.length:Int) ((i:Int)+1)) v) (hd:(∃j:Nat,j<i∧ap p i=ap p j)→v=18):
    ∀(m j:Nat),j+m=i→(∀a:Nat,a<j→ap p i≠ap p a)→Tells (fun k=>r30_Check.l2 k p (p.length:Int) (i:Int) (j:Int)) v
 | 0,j,hj,ha=>by
  refine Tells.shift ?_;simp only[r30_Check.l2]
  refine Tells.neg (by omega) ?_;rw[w64 (n:=(i:Int)+1) (by omega) (by omega)]
  exact hv (fun b hb=>ha b (by omega))
 | m +1,j,hj,ha=>by
  refine Tells.shift ?_;simp only[r30_Check.l2,rd_ap]
  refine Tells.pos (by omega) (Tells.pos (by omega) (Tells.pos (by omega) (Tells.pos (by omega) (Tells.pos (by omega) ?_))))
  by_cases e:ap p i=ap p j
  ·exact Tells.pos e (Tells.now' (hd ⟨j,by omega,e⟩).symm)
  ·refine Tells.neg e ?_;rw[w64 (n:=(j:Int)+1) (by omega) (by omega)]
   refine rck2 p hl i hi v hv hd m (j+1) (by omega) (fun a h=> ?_)
   by_cases e2:a=j
   ·rw[e2];exact e
   ·exact ha a (by omega)
theorem rck1 (p:List Int) (hl:p.length≤64):∀(m i:Nat),i+m=p.length→(∀a b:Nat,b<a→a<i→ap p a≠ap p b)→Tells (fun k=>r30_Check.l1 k p (p.length:Int) (i:Int)) (if p.Nodup then 0 else 18)
 | 0,i,hi,ha=>by
  refine Tells.shift ?_;simp only[r30_Check.l1]
  refine Tells.neg (by omega) (Tells.now' ?_);rw[if_pos (nodup_iff_ap.2 (fun a b h1 h2=>ha a b h1 (by omega)))]
 | m +1,i,hi,ha=>by
  refine Tells.shift ?_;simp only[r30_Check.l1]
  refine Tells.pos (by omega) ?_
  refine rck2 p hl i (by omega) _ (fun h=> ?_) (fun⟨j,hj,e⟩=>if_neg (fun h=>nodup_iff_ap.1 h i j hj (by omega) e)) i 0 (by omega) (fun a h=>by omega)
  have:=rck1 p hl m (i+1) (by omega) (fun a b h1 h2=>by
   by_cases e:a=i
   ·rw[e];exact h b (by omega)
   ·exact ha a b h1 (by omega))
  exact this
theorem rck0 (p:List Int) (hl:p.length≤64):∀(m i:Nat),i+m=p.length→(∀a:Nat,a<i→0≤ap p a∧ap p a<p.length)→Tells (fun k=>r30_Check.l0 k p (p.length:Int) (i:Int)) (if∃x∈p,x<0∨(p.length:Int)≤x then 6 else if p.Nodup then 0 else 18)
 | 0,i,hi,ha=>by
  refine Tells.shift ?_;simp only[r30_Check.l0]
  refine Tells.neg (by omega) ?_;rw[if_neg]
  ·exact rck1 p hl p.length 0 (by omega) (fun a b h1 h2=>by omega)
  ·rintro ⟨x,hx,hb⟩;obtain⟨j,hj,rfl⟩:=List.getElem_of_mem hx;have:=ha j (by omega);rw[ap_nat,List.getD_eq_getElem?_getD,List.getElem?_eq_getElem hj,Option.getD_some] at this;omega
 | m + 1,i,hi,ha=>by
  refine Tells.shift ?_;simp only[r30_Check.l0,rd_ap]
  refine Tells.pos (by omega) (Tells.pos (by omega) (Tells.pos (by omega) ?_));have hm:ap p i∈p:=ap_mem (by omega) (by omega)
  by_cases e:ap p i<0
  ·refine Tells.pos e (Tells.now' ?_);rw[if_pos ⟨_,hm,.inl e⟩]
  ·refine Tells.neg e ?_
   by_cases e2:ap p i≥(p.length:Int)
   ·refine Tells.pos e2 (Tells.now' ?_);rw[if_pos ⟨_,hm,.inr e2⟩]
   ·refine Tells.neg e2 ?_;rw[w64 (n:=(i:Int)+1) (by omega) (by omega)]
    refine rck0 p hl m (i+1) (by omega) (fun a h=> ?_)
    by_cases e3:a=i
    ·rw[e3];exact⟨by omega,by omega⟩
    ·exact ha a (by omega)
theorem Check_tells (p:List Int):Tells (fun k=>r30_Check.f k p) (Z0 p):=by
 unfold r30_Check.f Z0
 by_cases h1:(p.length:Int)<1
 ·refine Tells.pos h1 (Tells.shift ?_)
  simp only[r30_Check.j0]
  refine Tells.pos trivial (Tells.now' ?_);rw[if_pos (by omega)]
 refine Tells.neg h1 (Tells.shift ?_)
 simp only[r30_Check.j0]
 by_cases h2:(p.length:Int)>64
 ·refine Tells.pos (dT h2) (Tells.now' ?_)
  rw[if_pos (by omega)]
 refine Tells.neg (by rw[dF h2];decide) ?_
 rw[if_neg (by omega)]
 exact rck0 p (by omega) p.length 0 (by omega) (fun a h=>by omega)
theorem rdL1_nat {l:List (List Int)} {i:Nat} (h:i<l.length):Zo l (i:Int)=l[i]:=by simp[Zo,h]
def allL (n:Int) (l:List (List Int)):Int:=match(l.map Z0).find? (fun e=>e !=0) with
 |some e=>e
 |none=>if l.any (lenB n) then 10 else 0
theorem find_at {l:List (List Int)} {i:Nat} (h:i<l.length) (ha:∀a:Nat,a<i→∀k:a<l.length,Z0 l[a]=0) (hb:Z0 l[i]≠0):(l.map Z0).find? (fun e=>e !=0)=some (Z0 l[i]):=by
 rw[List.find?_eq_some_iff_getElem]
 refine⟨by simpa using hb,i,by simpa using h,by simp,fun j hj=> ?_⟩
 have:=ha j hj (by omega)
 simp[this]
theorem find_zero {l:List (List Int)} (ha:∀a:Nat,∀k:a<l.length,Z0 l[a]=0):(l.map Z0).find? (fun e=>e !=0)=none:=by
 rw[List.find?_eq_none]
 intro x hx
 rw[List.mem_map] at hx
 obtain⟨y,hy,rfl⟩:=hx
 obtain⟨j,hj,rfl⟩:=List.getElem_of_mem hy
 rw[ha j hj];simp
theorem all_l1 (n:Int) (l:List (List Int)) (hl:l.length≤4611686018427387904):∀(m i:Nat),i+m=l.length→(∀a:Nat,a<i→∀k:a<l.length,lenB n l[a]=false)→Tells (fun k=>r30_all.l1 k n l (i:Int)) (if l.any (lenB n) then 10 else 0)
 | 0,i,hi,ha=>by
  refine Tells.shift ?_;simp only[r30_all.l1]
  refine Tells.neg (by omega) (Tells.now' ?_);rw[if_neg];rw[List.any_eq_true];rintro ⟨x,hx,hb⟩;obtain⟨j,hj,rfl⟩:=List.getElem_of_mem hx;rw[ha j (by omega) hj] at hb;cases hb
 | m +1,i,hi,ha=>by
  refine Tells.shift ?_;simp only[r30_all.l1];have h:i<l.length:=by omega
  rw[rdL1_nat h]
  refine Tells.pos (by omega) (Tells.pos (by omega) ?_)
  by_cases e:(l[i].length:Int)=n
  ·refine Tells.pos e ?_;rw[w64 (n:=(i:Int)+1) (by omega) (by omega)]
   refine all_l1 n l hl m (i+1) (by omega) (fun a h1 h2=> ?_)
   by_cases e2:a=i
   ·subst e2;simp[lenB,e]
   ·exact ha a (by omega) h2
  ·refine Tells.neg e (Tells.now' ?_);rw[if_pos];rw[List.any_eq_true]
   exact⟨l[i],List.getElem_mem h,by simpa[lenB] using e⟩
theorem all_l0 (n:Int) (l:List (List Int)) (hl:l.length≤4611686018427387904):∀(m i:Nat),i+m=l.length→(∀a:Nat,a<i→∀k:a<l.length,Z0 l[a]=0)→Tells (fun k=>r30_all.l0 k n l (i:Int)) (allL n l)
 | 0,i,hi,ha=>by
  refine Tells.shift ?_;simp only[r30_all.l0]
  refine Tells.neg (by omega) ?_;have:allL n l=if l.any (lenB n) then 10 else 0:=by rw[allL,find_zero (fun a k=>ha a (by omega) k)]
  rw[this]
  exact all_l1 n l hl l.length 0 (by omega) (fun a h=>by omega)
 | m +1,i,hi,ha=>by
  refine Tells.shift ?_;simp only[r30_all.l0];have h:i<l.length:=by omega
  rw[rdL1_nat h]
  refine Tells.pos (by omega) (Tells.pos (by omega) (Tells.bind (Check_tells _) ?_))
  by_cases e:Z0 l[i]=0
  ·refine Tells.pos e ?_;rw[w64 (n:=(i:Int)+1) (by omega) (by omega)]
   refine all_l0 n l hl m (i+1) (by omega) (fun a h1 h2=> ?_)
   by_cases e2:a=i
   ·subst e2;exact e
   ·exact ha a (by omega) h2
  ·refine Tells.neg e (Tells.now' ?_);rw[allL,find_at h ha e]
theorem all_tells (n:Int) (l:List (List Int)) (hl:l.length≤4611686018427387904):Tells (fun k=>r30_all.f k n l) (allL n l):=by
 unfold r30_all.f
 exact all_l0 n l hl l.length 0 (by omega) (fun a h=>by omega)
theorem allL_zero {n:Int} {l:List (List Int)} :allL n l=0↔∀p∈l,Z0 p=0∧(p.length:Int)=n:=by
 unfold allL
 constructor
 ·intro h
  split at h
  ·rename_i e he
   have:=List.find?_some he;simp[h] at this
  ·rename_i he
   rw[List.find?_eq_none] at he;intro p hp
   refine⟨by simpa using he (Z0 p) (List.mem_map.2 ⟨p,hp,rfl⟩),?_⟩
   apply Classical.byContradiction;intro hc;rw[if_pos (List.any_eq_true.2 ⟨p,hp,by simpa[lenB] using hc⟩)] at h
   cases h
 ·intro h
  rw [List.find?_eq_none.2 (fun x hx=>by
   rw[List.mem_map] at hx;obtain⟨y,hy,rfl⟩:=hx;rw[(h y hy).1];simp)]
  simp only;rw[if_neg];rw[List.any_eq_true];rintro ⟨p,hp,hb⟩;have:=(h p hp).2;simp[lenB,this] at hb
open Classical
theorem Lx.asymm {n:Nat} {p q:List Int} (h:Lx n p q) (k:Lx n q p):False:=by
 obtain⟨i,h0,h1,h2,h3⟩:=h
 obtain⟨j,k0,k1,k2,k3⟩:=k
 rcases Int.lt_trichotomy i j with e|e|e
 ·have:=k2 i h0 e;omega
 ·subst e;omega
 ·have:=h2 j k0 e;omega
def LeastAt (n:Nat) (G:List Int→Prop) (b x:Int) (q:List Int):Prop:=G q∧Fx b q∧ap q b=x∧∀s,G s→Fx b s→ap s b=x→q=s∨Lx n q s
theorem LeastAt.unique {n:Nat} {G:List Int→Prop} {b x:Int} {p q:List Int} (h:LeastAt n G b x p) (k:LeastAt n G b x q):p=q:=by
 rcases h.2.2.2 q k.1 k.2.1 k.2.2.1 with e|e
 ·exact e
 ·rcases k.2.2.2 p h.1 h.2.1 h.2.2.1 with e2|e2
  ·exact e2.symm
  ·exact(e.asymm e2).elim
noncomputable def Yi (n:Nat) (G:List Int→Prop) (b x:Int):List Int:=if h:∃q,LeastAt n G b x q then Classical.choose h else []
theorem leastQ_eq {n:Nat} {G:List Int→Prop} {b x:Int} {q:List Int} (h:LeastAt n G b x q):Yi n G b x=q:=by
 have h':∃q,LeastAt n G b x q:=⟨q,h⟩
 unfold Yi
 rw[dif_pos h']
 exact(Classical.choose_spec h').unique h
noncomputable def orbF (n:Nat) (G:List Int→Prop) (b:Int) (x m:Nat):List Int:=((List.range' x m).map (fun(y:Nat)=>(y:Int))).filter (fun y=>decide (∃q,LeastAt n G b y q))
noncomputable def lvP (n:Nat) (G:List Int→Prop) (b:Int):S56:=⟨b,orbF n G b 0 n,(orbF n G b 0 n).map (Yi n G b)⟩
noncomputable def lvsF (n:Nat) (G:List Int→Prop) (b m:Nat):List S56:=((List.range' b m).map (fun(c:Nat)=>lvP n G (c:Int))).filter (fun l=>decide (1<l.f1.length))
noncomputable def ZR (n:Nat) (G:List Int→Prop):List S56:=lvsF n G 0 n
theorem orbF_succ (n:Nat) (G:List Int→Prop) (b:Int) (x m:Nat):orbF n G b x (m+1)=(if∃q,LeastAt n G b (x:Int) q then [(x:Int)] else [])++orbF n G b (x+1) m:=by
 unfold orbF
 rw[List.range'_succ,List.map_cons,List.filter_cons]
 by_cases h:∃q,LeastAt n G b (x:Int) q
 ·rw[if_pos h,if_pos (dT h)];rfl
 rw[if_neg h,if_neg (by rw[dF h];decide)];rfl
theorem lvsF_succ (n:Nat) (G:List Int→Prop) (b m:Nat):lvsF n G b (m+1)=(if 1<(lvP n G (b:Int)).f1.length then [lvP n G (b:Int)] else [])++lvsF n G (b+1) m:=by
 unfold lvsF
 rw[List.range'_succ,List.map_cons,List.filter_cons]
 by_cases h:1<(lvP n G (b:Int)).f1.length
 ·rw[if_pos h,if_pos (dT h)];rfl
 rw[if_neg h,if_neg (by rw[dF h];decide)];rfl
theorem inv_id (n:Nat):invL (idL n)=idL n:=(inv_unique (Pm_id n) (Pm_id n) (mul_id (Pm_id n))).symm
theorem stab {n:Nat} {T:Tw} (hok:Ok n T) (hc:Compn n T 0):∀(b:Nat),b≤n→∀ {g:List Int},Gn n T 0 g→Fx (b:Int) g→Gn n T (b:Int) g
 |0,hb,g,hg,hf=>hg
 | b+1,hb,g,hg,hf=>by
  have ih:=stab hok hc b (by omega) hg (fun i h0 h1=>hf i h0 (by omega));have hgp:=hok.gfx (b:=(b:Int)) (by omega) (by omega) ih;have hs:=(sfI hok (b:=(b:Int)) (by omega) (by omega) (fun c k1 k2=>hc c (by omega) k2) hgp.1 hgp.2).2 ih;rw[show(n-(b:Int)).toNat=(n-((b:Int)+1)).toNat+1 by omega,Sf] at hs;have e:ap g (b:Int)=b:=hf b (by omega) (by omega);rw[e,hok.id (by omega) (by omega),inv_id,mul_id hgp.1] at hs
  exact(sfI hok (b:=(b:Int)+1) (by omega) (by omega) (fun c k1 k2=>hc c (by omega) k2) hgp.1 (show Fx ((b:Int)+1) g from hf)).1 hs.2
theorem unstab {n:Nat} {T:Tw} (hok:Ok n T) (hc:Compn n T 0):∀(b:Nat),b≤n→∀ {g:List Int},Gn n T (b:Int) g→Gn n T 0 g
 |0,hb,g,hg=>hg
 |b+1,hb,g,hg=>unstab hok hc b (by omega) (Gn.sub hok (by omega) (by omega) (fun c k1 k2=>hc c (by omega) k2) hg)
theorem least_of_rep {n:Nat} {T:Tw} (hok:Ok n T) (e:n≤64) (hc:Compn n T 0) {b:Nat} (hb:b<n) {x:Int} (h0:0≤x) (h1:x<n) (hr:T.rep (b:Int) x≠ []):
    ∃q,Tells (fun k=>canonL k T (T.rep (b:Int) x) ((b:Int)+1)) q∧LeastAt n (Gn n T 0) (b:Int) x q:=by
 have hR:=hok.rep (b:=(b:Int)) (by omega) (by omega) h0 h1 hr
 have hcb:Compn n T (b:Int):=fun c k1 k2=>hc c (by omega) k2
 have hl:=hcb (b:Int) (Int.le_refl _) (by omega)
 obtain⟨q,ht,⟨s,hs,hq⟩,hmin⟩:=canon_tells hok e (n-(b+1)) ((b:Int)+1) _ (by omega) (by omega) (fun c k1 k2=>hc c (by omega) k2) hR.1
 have hsp:=hok.gfx (b:=(b:Int)+1) (by omega) (by omega) hs
 have hqG:Gn n T (b:Int) q:=by
  rw[hq]
  exact Cl.mul' (hok.gpm (by omega) (by omega)) (Gn.sub hok (by omega) (by omega) hcb hs) (hl.reps x h0 h1 hr)
 have hqp:=hok.gfx (b:=(b:Int)) (by omega) (by omega) hqG
 refine⟨q,ht,unstab hok hc b (by omega) hqG,hqp.2,?_,fun s' hs' hf' he'=> ?_⟩
 ·rw[hq,hsp.1.ap_mul (by omega) (by omega),hsp.2 b (by omega) (by omega),hR.2.2]
 ·have hsb:=stab hok hc b (by omega) hs' hf'
  have hsp':=hok.gfx (b:=(b:Int)) (by omega) (by omega) hsb;have hsf:=(sfI hok (b:=(b:Int)) (by omega) (by omega) hcb hsp'.1 hsp'.2).2 hsb;rw[show(n-(b:Int)).toNat=(n-((b:Int)+1)).toNat+1 by omega,Sf,he'] at hsf;have hfx:=strip_fx (b:=(b:Int)) (by omega) (by omega) hsp'.1 hsp'.2 hR.1 hR.2.1 (hR.2.2.trans he'.symm);have hin:=(sfI hok (b:=(b:Int)+1) (by omega) (by omega) (fun c k1 k2=>hc c (by omega) k2) hfx.1 hfx.2).1 hsf.2;have:=hmin _ hin;rw[mul_inv_cancel hsp'.1 hR.1] at this
  exact this
theorem rep_of_least {n:Nat} {T:Tw} (hok:Ok n T) (hc:Compn n T 0) {b:Nat} (hb:b<n) {x:Int} {q:List Int} (h:LeastAt n (Gn n T 0) (b:Int) x q):T.rep (b:Int) x≠ []:=by
 have hsb:=stab hok hc b (by omega) h.1 h.2.1
 have hsp:=hok.gfx (b:=(b:Int)) (by omega) (by omega) hsb
 have hsf:=(sfI hok (b:=(b:Int)) (by omega) (by omega) (fun c k1 k2=>hc c (by omega) k2) hsp.1 hsp.2).2 hsb
 rw[show(n-(b:Int)).toNat=(n-((b:Int)+1)).toNat+1 by omega,Sf,h.2.2.1] at hsf
 exact hsf.1
theorem level_tells {n:Nat} {T:Tw} (hok:Ok n T) (e:n≤64) (hc:Compn n T 0) {b:Nat} (hb:b<n):∀(m x:Nat) (orb:List Int) (reps:List (List Int)),x+m=n→
    Tells (fun k=>levelL k T (b:Int) (x:Int) orb reps) (orb++orbF n (Gn n T 0) (b:Int) x m,reps++(orbF n (Gn n T 0) (b:Int) x m).map (Yi n (Gn n T 0) (b:Int)))
 | 0,x,orb,reps,hx=>by
  have hT:=hok.hn
  refine Tells.shift ?_;simp only[levelL]
  exact Tells.neg (by omega) (Tells.now' (by simp[orbF]))
 | m +1,x,orb,reps,hx=>by
  have hT:=hok.hn
  refine Tells.shift ?_;simp only[levelL]
  refine Tells.pos (by omega) ?_;rw[orbF_succ]
  by_cases hr:T.rep (b:Int) (x:Int)= []
  ·refine Tells.pos hr ?_;rw[if_neg (fun⟨q,hq⟩=>rep_of_least hok hc hb hq hr),List.nil_append]
   exact level_tells hok e hc hb m (x+1) orb reps (by omega)
  ·obtain⟨q,ht,hq⟩:=least_of_rep hok e hc hb (x:=(x:Int)) (by omega) (by omega) hr
   refine Tells.neg hr (Tells.bind ht ?_);rw[if_pos ⟨q,hq⟩,List.map_append,List.map_singleton,leastQ_eq hq,←List.append_assoc,←List.append_assoc]
   exact level_tells hok e hc hb m (x+1) _ _ (by omega)
theorem chain_tells {n:Nat} {T:Tw} (hok:Ok n T) (o:n≤64) (hc:Compn n T 0):∀(m b:Nat) (lv:List S56),b+m=n→Tells (fun k=>chainL k T (b:Int) lv) (lv++lvsF n (Gn n T 0) b m)
 | 0,b,lv,hb=>by
  have hT:=hok.hn
  refine Tells.shift ?_;simp only[chainL]
  exact Tells.neg (by omega) (Tells.now' (by simp[lvsF]))
 | m +1,b,lv,hb=>by
  have hT:=hok.hn
  refine Tells.shift ?_;simp only[chainL]
  refine Tells.pos (by omega) (Tells.bind (level_tells hok o hc (by omega) n 0 [] [] (by omega)) ?_);rw[lvsF_succ];simp only[List.nil_append]
  have e:∀z,(if 1<(orbF n (Gn n T 0) (b:Int) 0 n).length then lv++ [lvP n (Gn n T 0) (b:Int)] else lv)++z=lv++((if 1<(lvP n (Gn n T 0) (b:Int)).f1.length then [lvP n (Gn n T 0) (b:Int)] else [])++z):=by
   intro z
   by_cases h:1<(orbF n (Gn n T 0) (b:Int) 0 n).length
   ·rw[if_pos h,if_pos (show 1<(lvP n (Gn n T 0) (b:Int)).f1.length from h),List.append_assoc]
   ·rw[if_neg h,if_neg (show¬1<(lvP n (Gn n T 0) (b:Int)).f1.length from h)];rfl
  rw[←e]
  exact chain_tells hok o hc m (b+1) _ (by omega)
def gensE (n:Int) (l:List (List Int)):Int:=if n<1∨64<n then 4 else allL n l
theorem gensL_eq (n:Int) (l:List (List Int)):gensL n l=gensE n l:=rfl
def Gp (n:Nat) (l:List (List Int)):List Int→Prop:=Cl n (fun g=>g∈l)
noncomputable def ZW (n:Int) (l:List (List Int)):Int×List S56×Int:=if gensE n l=0 then(n,ZR n.toNat (Gp n.toNat l),0) else(0,[],gensE n l)
theorem gensE_zero {n:Int} {l:List (List Int)} (h:gensE n l=0):∃m:Nat,n=m∧1≤m∧m≤64∧∀p∈l,Pm m p:=by
 unfold gensE at h
 split at h
 ·cases h
 ·refine⟨n.toNat,by omega,by omega,by omega,fun p hp=> ?_⟩
  have:=allL_zero.1 h p hp;have h2:=checkL_zero.1 this.1;have:p.length=n.toNat:=by omega
  rw[←this];exact h2.1
theorem PBuild_tells (n:Int) (l:List (List Int)):Tells (fun k=>perm_Build.f k n l) (ZW n l):=by
 unfold perm_Build.f ZW
 refine Tells.bind (a:=gensE n l) (Tells.now' (gensL_eq n l)) ?_
 by_cases h:gensE n l=0
 ·obtain⟨m,rfl,h1,o,hl⟩:=gensE_zero h
  obtain⟨T0,T,z,ht,hok,hc,hG⟩:=tower_tells h1 o l hl;rw[if_pos h];have hT:=hok.hn;have e:Gn m T 0=Gp m l:=funext (fun p=>propext (hG p));have hch:=chain_tells hok o hc m 0 [] (by omega);rw[e] at hch
  refine Tells.pos h (Tells.pos (by omega) ?_);rw[show((m:Nat):Int).toNat=m by omega]
  refine Tells.bind z (Tells.bind ht (Tells.bind hch (Tells.now' ?_)));rw[hT];rfl
 rw[if_neg h]
 exact Tells.neg h Tells.now
end Go.Proofs.YtjjlhbgpdncpcaaGreat.P.M
namespace Go.Proofs.YtjjlhbgpdncpcaaGreat.P
def swapL1 (xs:List (List Int)) (i j:Int):List (List Int):=(xs.set i.toNat (Zo xs j)).set j.toNat (Zo xs i)
theorem N_cell1 {w:World} {base g n cap:Nat} {ok:Nat→Prop} {xs:List (List Int)} (h:Kd.N (Kd.slice 3 (Kd.int .i64)) 32 w base ok (.slice (some ⟨g,0,none⟩) n cap) xs) (i:Int) (h0:0≤i) (h1:i<n):
    ∃A c,(Zo xs i).length≤c∧Kd.F (Kd.int .i64) w (fun k=>ok k∧k≠g) A (Zo xs i).length (Zo xs i)∧w.cell? ⟨g,i.toNat,none⟩=some (.slice A (Zo xs i).length c)∧w.frozen? ⟨g,i.toNat,none⟩=false:=by
 obtain⟨c,hcl,hM,hcc,hfr⟩:=Kd.N_elem h ([]:List Int) i h0 h1
 obtain⟨A,c1,rfl,hl,hF⟩:=Kd.FK_slice_open hM
 have e1:=hcc 0 _ rfl
 have e2:=hfr 0
 rw[Nat.add_zero,show(Kd.slice 3 (Kd.int .i64)).sz=1 from rfl,Nat.mul_one] at e1 e2
 exact⟨A,c1,hl,hF,e1,e2⟩
theorem N_put1 {w:World} {base g n cap c:Nat} {A:Option Addr} {ok:Nat→Prop} {xs:List (List Int)} {x':List Int} (h:Kd.N (Kd.slice 3 (Kd.int .i64)) 32 w base ok (.slice (some ⟨g,0,none⟩) n cap) xs) (i:Int) (h0:0≤i) (h1:i<n)
    (hl:x'.length≤c) (hF:Kd.F (Kd.int .i64) w (fun k=>ok k∧k≠g) A x'.length x'):
    Kd.N (Kd.slice 3 (Kd.int .i64)) 32 (w.setCell ⟨g,i.toNat,none⟩ (.slice A x'.length c)) base ok (.slice (some ⟨g,0,none⟩) n cap) (xs.set i.toNat x'):=by
 obtain⟨c0,hcl,hM,hcc,hfr⟩:=Kd.N_elem h ([]:List Int) i h0 h1
 have e:c0.length=1:=hcl
 obtain⟨A1,c1,rfl,o,m⟩:=Kd.FK_slice_open hM
 have:=(Kd.N_seg h i h0 h1 (c:= [.slice A1 ((xs.getD i.toNat []).length) c1]) (seg:= [.slice A x'.length c]) (j:=0) (okp:=fun k=>ok k∧k≠g) hcl hcc (Nat.le_refl 1) (x':=x') (Kd.FK_slice_mk hl hF) (fun _ hk=>hk)).1
 rw[Nat.add_zero,show(Kd.slice 3 (Kd.int .i64)).sz=1 from rfl,Nat.mul_one] at this
 exact this
theorem N_swap1 {w:World} {base g n cap:Nat} {ok:Nat→Prop} {xs:List (List Int)} (h:Kd.N (Kd.slice 3 (Kd.int .i64)) 32 w base ok (.slice (some ⟨g,0,none⟩) n cap) xs) (i j:Int) (h0:0≤i) (h1:i<n) (j0:0≤j) (j1:j<n) (hij:i≠j):
    ∃ A1 c1 A2 c2,w.cell? ⟨g,i.toNat,none⟩=some (.slice A1 (Zo xs i).length c1)∧w.cell? ⟨g,j.toNat,none⟩=some (.slice A2 (Zo xs j).length c2)∧w.frozen? ⟨g,i.toNat,none⟩=false∧
     (w.setCell ⟨g,i.toNat,none⟩ (.slice A2 (Zo xs j).length c2)).cell? ⟨g,j.toNat,none⟩=some (.slice A2 (Zo xs j).length c2)∧(w.setCell ⟨g,i.toNat,none⟩ (.slice A2 (Zo xs j).length c2)).frozen? ⟨g,j.toNat,none⟩=false∧
     Kd.N (Kd.slice 3 (Kd.int .i64)) 32 ((w.setCell ⟨g,i.toNat,none⟩ (.slice A2 (Zo xs j).length c2)).setCell ⟨g,j.toNat,none⟩ (.slice A1 (Zo xs i).length c1)) base ok (.slice (some ⟨g,0,none⟩) n cap) (swapL1 xs i j):=by
 obtain⟨A1,c1,l1,F1,e1,f1⟩:=N_cell1 h i h0 h1
 obtain⟨A2,c2,l2,F2,e2,f2⟩:=N_cell1 h j j0 j1
 have m:=N_put1 h i h0 h1 l2 F2
 have hne:i.toNat≠j.toNat:=by omega
 obtain⟨A3,c3,_,_,e3,f3⟩:=N_cell1 m j j0 j1
 have e2':(w.setCell ⟨g,i.toNat,none⟩ (.slice A2 (Zo xs j).length c2)).cell? ⟨g,j.toNat,none⟩=some (.slice A2 (Zo xs j).length c2):=by
  have o:(⟨g,i.toNat,none⟩:Addr)≠⟨g,j.toNat,none⟩:=fun e=>hne (by injection e)
  exact(World.cell?_setCell_other (h:=o) ..).trans e2
 have z:Kd.F (Kd.int .i64) (w.setCell ⟨g,i.toNat,none⟩ (.slice A2 (Zo xs j).length c2)) (fun k=>ok k∧k≠g) A1 (Zo xs i).length (Zo xs i):=Kd.F_far F1 (fun k hk=>hk.2) _
 exact⟨A1,c1,A2,c2,e1,e2,f1,e2',f3,N_put1 m j j0 j1 l1 z⟩
section
attribute [local go_sem] ZH ZF ZL ZK ZB ZA ZG ZE
def r30_Less.l0:Nat→List Int→List Int→Int→Option (Bool)
 |0,_,_,_=>none
 |k+1,x0,x1,x5=>if x5<(x0.length:Int) then(if 0≤x5 then(if x5<(x1.length:Int) then(if(rd x0 x5)=(rd x1 x5) then(r30_Less.l0 k x0 x1 (wrap64 (x5+1))) else(some (decide ((rd x0 x5)<(rd x1 x5))))) else(none)) else(none)) else(some false)
def r30_Less.f (k:Nat) (l0:List Int) (l1:List Int):Option (Bool):=r30_Less.l0 k l0 l1 0
theorem r30_Less.calls (k:Nat) (A0:Option Addr) (c0:Nat) (l0:List Int) (A1:Option Addr) (c1:Nat) (l1:List Int) (r:Bool) (w:World) (am:Kd.C (Kd.int .i64) w A0 l0.length l0) (ak:l0.length≤c0) (an:Kd.C (Kd.int .i64) w A1 l1.length l1) (al:l1.length≤c1) (h:r30_Less.f k l0 l1=some r):
    Calls Tryz.prog 10 #[.slice A0 l0.length c0,.slice A1 l1.length c1] w fun e w'=>e= .returned (.bool r)∧Drawn0 w w':=by
 have ab:=aM am
 have av:=aM ak
 clear am ak
 have ac:=aM an
 have aw:=aM al
 clear an al
 have H:(r30_Less.l0 k l0 l1 0)=some r:=h
 clear h
 have H':=aM H
 clear H
 go_enter Tryz.func10,Tryz.ntmps10
 go_wp2
 repeat(go_quiet (fail);try go_wp2)
 go_loopg [5] k (fun kq v5 w'=>∃(m:Int),v5= .int .i64 m∧Aside0 (r30_Less.l0 kq l0 l1 m=some r)∧Aside0 (kq≤k)∧Drawn0 w w')
 case atStart=>exact⟨(0),zz157,H',⟨Nat.le_refl _⟩,by repeat(first|exact Drawn0.refl _|apply Drawn0.step)⟩
 case round =>
  clear H';(try clear c1);(try clear p2);obtain⟨m,rfl,HA,HK1,⟨m1,rfl⟩⟩:=hrel
  cases gk with
  |zero=>exact absurd HA.out (by simp[r30_Less.l0])
  | succ k1=>
   have H:=HA.out;clear HA;simp only[r30_Less.l0] at H
   by_cases c3:m<(l0.length:Int)
   ·rw [if_pos c3] at H;have af:=dT c3;clear c3
    by_cases c4:0≤m
    ·rw [if_pos c4] at H;have ar:=dT c4;clear c4
     by_cases c5:m<(l1.length:Int)
     ·rw [if_pos c5] at H;have au:=dT c5;clear c5
      by_cases c6:(rd l0 m)=(rd l1 m)
      ·rw[if_pos c6] at H;have ag:=beq_iff_eq.mpr c6;have ah:=bne_eq_false_iff_eq.mpr c6;clear c6;have H':=aM H;clear H;have o:0≤(m:Int):=oD zz156;have B:m<(l0.length:Int):=oD zz156;obtain⟨I,L,P⟩:=Kd.at_int ab.out m o B
       cases L;replace o:=eq_true o;replace B:=eq_true B;have z:0≤(m:Int):=oD zz156;have D:m<(l1.length:Int):=oD zz156;obtain⟨J,O,U⟩:=Kd.at_int ac.out m z D
       cases O;replace z:=eq_true z;replace D:=eq_true D;go_wp2
       repeat(go_quiet (fail);try go_wp2)
       go_roundg k1
       case measure=>have:=HK1.out;omega
       case rel=>exact⟨(wrap64 (m+1)),zz157,H',⟨zz167⟩,by repeat(first|exact Drawn0.refl _|apply Drawn0.step)⟩
      rw[if_neg c6] at H;have ag:=beq_eq_false_iff_ne.mpr c6;have ah:=bne_iff_ne.mpr c6;obtain rfl:=oI H;have o:0≤(m:Int):=oD zz156;have B:m<(l0.length:Int):=oD zz156;obtain⟨I,L,P⟩:=Kd.at_int ab.out m o B
      cases L;replace o:=eq_true o;replace B:=eq_true B;have z:0≤(m:Int):=oD zz156;have D:m<(l1.length:Int):=oD zz156;obtain⟨J,O,U⟩:=Kd.at_int ac.out m z D
      cases O;replace z:=eq_true z;replace D:=eq_true D;have X:0≤(m:Int):=oD zz156;have Z:m<(l0.length:Int):=oD zz156;obtain⟨ad,ai,ao⟩:=Kd.at_int ab.out m X Z;obtain rfl:I=ad:=(by injection ai);replace X:=eq_true X;replace Z:=eq_true Z;have Y:0≤(m:Int):=oD zz156;have aa:m<(l1.length:Int):=oD zz156;obtain⟨ae,aj,aq⟩:=Kd.at_int ac.out m Y aa;obtain rfl:J=ae:=(by injection aj);replace Y:=eq_true Y;replace aa:=eq_true aa;go_wp2
      repeat(go_quiet (fail);try go_wp2)
      go_ret
      exact⟨by first|rfl|(simp;done)|(simp[*];done),by repeat(first|exact Drawn0.refl _|apply Drawn0.step)⟩
     rw[if_neg c5] at H
     exact absurd H (by simp)
    rw[if_neg c4] at H
    exact absurd H (by simp)
   rw[if_neg c3] at H;have af:=dF c3;clear c3;obtain rfl:=oI H;go_wp2
   repeat(go_quiet (fail);try go_wp2)
   go_ret
   exact⟨by first|rfl|(simp;done)|(simp[*];done),by repeat(first|exact Drawn0.refl _|apply Drawn0.step)⟩
def r30_code.l0:Nat→List Int→Int→Int→Option (Int)
 |0,_,_,_=>none
 |k+1,x0,x3,x4=>if x4<(x0.length:Int) then(if 0≤x4 then(r30_code.l0 k x0 (wrap64 ((wrap64 (6*x3))+(rd x0 x4))) (wrap64 (x4+1))) else(none)) else(some x3)
def r30_code.f (k:Nat) (l0:List Int):Option (Int):=r30_code.l0 k l0 0 0
theorem r30_code.calls (k:Nat) (A0:Option Addr) (c0:Nat) (l0:List Int) (r:Int) (w:World) (L:Kd.C (Kd.int .i64) w A0 l0.length l0) (J:l0.length≤c0) (h:r30_code.f k l0=some r):
    Calls Tryz.prog 88 #[.slice A0 l0.length c0] w fun e w'=>e= .returned (.int .i64 r)∧Drawn0 w w':=by
 have P:=aM L
 have Y:=aM J
 clear L J
 have H:(r30_code.l0 k l0 0 0)=some r:=h
 clear h
 have H':=aM H
 clear H
 go_enter Tryz.func88,Tryz.ntmps88
 go_wp2
 go_loopg [3,4] k (fun kq v3 v4 w'=>∃(o:Int) (m:Int),v3= .int .i64 o∧v4= .int .i64 m∧Aside0 (r30_code.l0 kq l0 o m=some r)∧Aside0 (kq≤k)∧Drawn0 w w')
 case atStart=>exact⟨(0),(0),zz157,zz157,H',⟨Nat.le_refl _⟩,by repeat(first|exact Drawn0.refl _|apply Drawn0.step)⟩
 case round=>
  clear H';obtain⟨o,m,rfl,rfl,HA,HK1,⟨m1,rfl⟩⟩:=hrel
  cases gk with
  |zero=>exact absurd HA.out (by simp[r30_code.l0])
  | succ k1=>
   have H:=HA.out;clear HA;simp only[r30_code.l0] at H
   by_cases c2:m<(l0.length:Int)
   ·rw [if_pos c2] at H;have D:=dT c2;clear c2
    by_cases c3:0≤m
    ·rw[if_pos c3] at H;have X:=dT c3;clear c3;have H':=aM H;clear H;have z:0≤(m:Int):=oD zz156;have B:m<(l0.length:Int):=oD zz156;obtain⟨U,I,O⟩:=Kd.at_int P.out m z B
     cases I;replace z:=eq_true z;replace B:=eq_true B;go_wp2
     go_roundg k1
     case measure=>have:=HK1.out;omega
     case rel=>exact⟨(wrap64 ((wrap64 (6*o))+(rd l0 m))),(wrap64 (m+1)),zz157,zz157,H',⟨zz167⟩,by repeat(first|exact Drawn0.refl _|apply Drawn0.step)⟩
    rw[if_neg c3] at H
    exact absurd H (by simp)
   rw[if_neg c2] at H;have D:=dF c2;clear c2;obtain rfl:=oI H;go_wp2;go_ret
   exact⟨by first|rfl|(simp;done)|(simp[*];done),by repeat(first|exact Drawn0.refl _|apply Drawn0.step)⟩
mutual
def r30_Group.l0:Nat→List (List Int)→List Bool→List (List Int)→Int→Option ((List (List Int)))
 |0,_,_,_,_=>none
 |k+1,x1,x5,x6,x7=>if x7<(x6.length:Int) then(r30_Group.l1 k x1 x5 x6 x7 0) else(r30_Group.l2 k x6 1)
def r30_Group.l1:Nat→List (List Int)→List Bool→List (List Int)→Int→Int→Option ((List (List Int)))
 |0,_,_,_,_,_=>none
 |k+1,x1,x5,x6,x7,x8=>if x8<(x1.length:Int) then(if 0≤x7 then(if x7<(x6.length:Int) then(if 0≤x8 then((r30_Then.f k (Zo x6 x7) (Zo x1 x8)).bind fun t364=>((r30_code.f k t364).bind fun t367=>(if 0≤t367 then(if t367<(x5.length:Int) then(if rdOf false x5 t367=true then(r30_Group.l1 k x1 x5 x6 x7 (wrap64 (x8+1))) else((r30_code.f k t364).bind fun t369=>(if 0≤t369 then(if t369<(x5.length:Int) then(if x6.length<5864062014805 then(r30_Group.l1 k x1 (x5.set (t369:Int).toNat true) (x6++ [t364]) x7 (wrap64 (x8+1))) else(none)) else(none)) else(none)))) else(none)) else(none)))) else(none)) else(none)) else(none)) else(r30_Group.l0 k x1 x5 x6 (wrap64 (x7+1)))
def r30_Group.l2:Nat→List (List Int)→Int→Option ((List (List Int)))
 |0,_,_=>none
 |k+1,x6,x10=>if x10<(x6.length:Int) then(r30_Group.l3 k x6 x10 x10) else(some x6)
def r30_Group.l3:Nat→List (List Int)→Int→Int→Option ((List (List Int)))
 |0,_,_,_=>none
 |k+1,x6,x10,x11=>if x11>0 then(if 0≤x11 then(if x11<(x6.length:Int) then(if 0≤(wrap64 (x11-1)) then(if(wrap64 (x11-1))<(x6.length:Int) then((r30_Less.f k (Zo x6 x11) (Zo x6 (wrap64 (x11-1)))).bind fun t376=>(if t376=true then(r30_Group.l3 k ((x6.set (x11:Int).toNat (Zo x6 (wrap64 (x11-1)))).set ((wrap64 (x11-1)):Int).toNat (Zo x6 x11)) x10 (wrap64 (x11-1))) else(r30_Group.l2 k x6 (wrap64 (x10+1))))) else(none)) else(none)) else(none)) else(none)) else(r30_Group.l2 k x6 (wrap64 (x10+1)))
end
def r30_Group.f (k:Nat) (a0:Int) (l1:List (List Int)):Option ((List (List Int))):=if 46656≤281474976710656 then((some (List.replicate 46656 false:List Bool)).bind fun y350=>((r30_Unit.f k a0).bind fun t353=>((some (([t353]:List (List Int)):List (List Int))).bind fun y356=>(if 0<(y356.length:Int) then((r30_code.f k (Zo y356 0)).bind fun t360=>(if 0≤t360 then(if t360<(y350.length:Int) then(r30_Group.l0 k l1 (y350.set (t360:Int).toNat true) y356 0) else(none)) else(none))) else(none))))) else(none)
def r30_Group.T20:Bool×List (List Nat×List Nat):=(true,[([],[]),([],[]),([],[]),([],[]),([3],[3]),([],[]),([],[]),([6],[6]),([5,7],[5,7]),([8],[8]),([],[]),([],[]),([10,11],[10,11]),([12],[12]),([0,1,0,1,5,6,7,8,9,13],[0,1]),([14,9,0,1,5,6,7,8,9,13],[9,14]),([2,4,0,1,2,3,4,5,6,7,8,9,10,11,12,13,14,15],[2,4]),([16,13,15,0,1,2,3,4,5,6,7,8,9,10,11,12,13,14,15],[13,16])])
def r30_Group.B20:List Nat:= [0,0,0,0,8,0,0,64,224,480,0,0,3072,7168,16355,32739,65535,131071]
theorem r30_Group.tab20:rtab .any (opsOf Tryz.f62 20)=r30_Group.T20:=by kernel_rfl
theorem r30_Group.bits20:waitsOk r30_Group.T20.2 r30_Group.B20=true:=by kernel_rfl
def r30_Group.T10:Bool×List (List Nat×List Nat):=(true,[([],[]),([],[]),([0,1],[0,1]),([2],[2]),([],[]),([],[]),([4,5],[4,5]),([6],[6]),([3,7],[3,7]),([8,8,0,1,2,3,4,5,6,7,8],[8])])
def r30_Group.B10:List Nat:= [0,0,3,7,0,0,48,112,255,511]
theorem r30_Group.tab10:rtab .any (opsOf Tryz.f62 10)=r30_Group.T10:=by kernel_rfl
theorem r30_Group.bits10:waitsOk r30_Group.T10.2 r30_Group.B10=true:=by kernel_rfl
def r30_Group.T18:Bool×List (List Nat×List Nat):=(true,[([],[]),([0],[0]),([1],[1]),([2],[2]),([2],[2]),([3,4,2],[2,3,4]),([5,2],[2,5]),([2],[2]),([2],[2]),([8,2],[2,8]),([7,9,2],[2,7,9]),([10,2],[2,10]),([6,11,2,2],[2,6,11]),([2,12],[2,12])])
def r30_Group.B18:List Nat:= [0,1,3,7,7,31,63,7,7,263,903,1927,4095,8191]
theorem r30_Group.tab18:rtab .any (opsOf Tryz.f62 18)=r30_Group.T18:=by kernel_rfl
theorem r30_Group.bits18:waitsOk r30_Group.T18.2 r30_Group.B18=true:=by kernel_rfl
theorem r30_Group.calls (k : Nat) (a0 : Int) (A1:Option Addr) (c1:Nat) (l1:List (List Int)) (r:List (List Int)) (w:World) (eF:Kd.C (Kd.slice 3 (Kd.int .i64)) w A1 l1.length l1) (eD:l1.length≤c1) (h:r30_Group.f k a0 l1=some r):
    Calls Tryz.prog 62 #[.int .i64 a0,.slice A1 l1.length c1] w fun e w'=>∃eR:Value,e= .returned (eR)∧Kd.N (Kd.slice 3 (Kd.int .i64)) 32 w' w.heap.size (fun k_=>(w.heap.size≤k_)) eR r∧Below w.heap.size w w':=by
 have ei:=aM eF
 have fp:=aM eD
 clear eF eD
 have HB:=aM (Below.refl w.heap.size w)
 have H:(if 46656≤281474976710656 then((some (List.replicate 46656 false:List Bool)).bind fun Z=>((r30_Unit.f k a0).bind fun aX=>((some (([aX]:List (List Int)):List (List Int))).bind fun L=>(if 0<(L.length:Int) then((r30_code.f k (Zo L 0)).bind fun P=>(if 0≤P then(if P<(Z.length:Int) then(r30_Group.l0 k l1 (Z.set (P:Int).toNat true) L 0) else(none)) else(none))) else(none))))) else(none))=some r:=h
 clear h
 by_cases c3:46656≤281474976710656
 ·rw [if_pos c3] at H
  have cg:=eq_true c3;have ci:=dT c3;clear c3;obtain⟨Z,bA⟩:∃y_:List Bool,y_=(List.replicate 46656 false):=⟨_,rfl⟩;replace H:((r30_Unit.f k a0).bind fun aX=>((some (([aX]:List (List Int)):List (List Int))).bind fun L=>(if 0<(L.length:Int) then((r30_code.f k (Zo L 0)).bind fun P=>(if 0≤P then(if P<(Z.length:Int) then(r30_Group.l0 k l1 (Z.set (P:Int).toNat true) L 0) else(none)) else(none))) else(none))))=some r:=by first|(rw[bA];with_reducible exact H)|(have H2_:=(Option.bind_some _ _).symm.trans H;rw[bA];with_reducible exact H2_)|(have H2_:=(Option.bind_some _ _).symm.trans H;with_reducible exact H2_)|with_reducible exact H|(rw[bA];exact H)|exact H
  have cI:=aM bA;clear bA;replace H:=oB H;obtain⟨aX,d9,H⟩:=H;replace H:((some (([aX]:List (List Int)):List (List Int))).bind fun L=>(if 0<(L.length:Int) then((r30_code.f k (Zo L 0)).bind fun P=>(if 0≤P then(if P<(Z.length:Int) then(r30_Group.l0 k l1 (Z.set (P:Int).toNat true) L 0) else(none)) else(none))) else(none)))=some r:=H;have A4:=aM d9;clear d9;obtain⟨L,bB⟩:∃y_:List (List Int),y_=(([aX]:List (List Int))):=⟨_,rfl⟩;replace H:(if 0<(L.length:Int) then((r30_code.f k (Zo L 0)).bind fun P=>(if 0≤P then(if P<(Z.length:Int) then(r30_Group.l0 k l1 (Z.set (P:Int).toNat true) L 0) else(none)) else(none))) else(none))=some r:=by first|(rw[bB];with_reducible exact H)|(have H2_:=(Option.bind_some _ _).symm.trans H;rw[bB];with_reducible exact H2_)|(have H2_:=(Option.bind_some _ _).symm.trans H;with_reducible exact H2_)|with_reducible exact H|(rw[bB];exact H)|exact H
  have cJ:=aM bB;clear bB
  by_cases c5:0<(L.length:Int)
  ·rw [if_pos c5] at H; have cj := dT c5;have ck:decide (0<L.length)=true:=dT (by omega);clear c5;replace H:=oB H;obtain⟨P,eb,H⟩:=H;replace H:(if 0≤P then(if P<(Z.length:Int) then(r30_Group.l0 k l1 (Z.set (P:Int).toNat true) L 0) else(none)) else(none))=some r:=H;have A6:=aM eb;clear eb
   by_cases c7:0≤P
   ·rw [if_pos c7] at H; have cl :=dT c7;clear c7
    by_cases c8:P<(Z.length:Int)
    ·rw [if_pos c8] at H; have cm :=dT c8;clear c8;obtain⟨dg,bC⟩:∃y_:List Bool,y_=(Z.set (P:Int).toNat true):=⟨_,rfl⟩;replace H:(r30_Group.l0 k l1 dg L 0)=some r:=by first|(rw[bC];with_reducible exact H)|(have H2_:=(Option.bind_some _ _).symm.trans H;rw[bC];with_reducible exact H2_)|(have H2_:=(Option.bind_some _ _).symm.trans H;with_reducible exact H2_)|with_reducible exact H|(rw[bC];exact H)|exact H
     have dJ:=aM bC;clear bC;have H':=aM H;clear H
     go_enter Tryz.func62,Tryz.ntmps62
     go_wp2_with (first|((with_reducible refine Zq (N:=12) rfl ?_);refine Kd.R_make Kd.bool _ 4 rfl (N:=12) rfl 81 _ _ rfl 46656 rfl rfl Tryz.underlying81 (.bool false) 1 info4 rfl (by decide) (by omega) false (ok:=fun _=>True) (okp:=fun _=>True) rfl (fun _ hk=>hk) trivial (by omega) (by omega) (Below.refl _ _) (Nat.le_refl _) ?_;intro bs fs b3 hb hg_ hnew_;clear hg_ hnew_;(first|rw[←cI.out] at b3|(simp only[Int.reduceToNat] at b3;rw[←cI.out] at b3));have X:=aM (Kd.R_lower (Kd.R_newM (M:=fun k_=>(w.heap.size≤k_)) b3 (Zc zz128) (fun k_ h_=>h_)) (Zc zz128));replace HB:=aM (Zd zz128 hb);clear hb b3)|((with_reducible refine Zr (f:=40) rfl ?_);refine ZI (some 14) rfl rfl Tryz.func40 (by kernel_rfl) rfl #[.int .i64 a0] rfl zz127 ?_;(with_reducible refine(r30_Unit.calls k a0 aX _ A4.out).mono ?_);rintro e fe ⟨fl,rfl,ho0,hb⟩;refine⟨_,rfl,?_⟩;replace X:=aM (Kd.R_below (zR X) hb);have bO:=aM (Kd.R_lower (Kd.R_newM (M:=fun k_=>(w.heap.size≤k_)) ho0 (Zc zz128) (fun k_ h_=>h_)) (Zc zz128));replace HB:=aM (Zd zz128 hb);(try clear hb);(try clear eC);(try clear hk);(try clear hi);(try clear ho0);obtain⟨dv,dz,es⟩:=Kd.R_slice bO.out;subst es)|((with_reducible refine Zq (N:=15) rfl ?_);refine Kd.N_lit (Kd.slice 3 (Kd.int .i64)) _ 32 ?hg (N':=15) ?hd (xs:=([aX]:List (List Int))) (inner:= [.slice dv aX.length dz]) (ok:=(fun k_=>(w.heap.size≤k_)∧some k_≠(bs:Value).ownBlock)) (okp:=(fun k_=>(w.heap.size≤k_)∧some k_≠(bs:Value).ownBlock)) ?hr ?hp (fun _ hk=>hk) ((show∀k_,fe.heap.size≤k_→(fun k_=>(w.heap.size≤k_)∧some k_≠(bs:Value).ownBlock) k_ from fun k_ hk=>⟨(Nat.le_trans (Zc zz128) hk),Kd.fresh' (Kd.R_lt (zR X)) k_ hk⟩) _ (Nat.le_refl _)) (Below.refl _ _) (Nat.le_refl _) (by simp) ?_;(case hd=>rfl);(case hg=>rfl);(case hr=>first|(go_simp;done)|(go_simp;rfl));(case hp=>exact(Reps.one (show Kd.FK (Kd.slice 3 (Kd.int .i64)) _ _ aX [.slice dv aX.length dz] from(Kd.FK_slice_mk (Kd.R_reads' (Kd.R_mono (ok':=(fun k_=>(w.heap.size≤k_)∧some k_≠(bs:Value).ownBlock)) (Kd.R_apart' (bO.out) (Kd.R_typed X.out) (by decide)) (fun k_ hk=>by first|exact⟨hk.1.1,hk.2⟩|exact zN0))).2.1 (Kd.R_F (Kd.R_mono (ok':=(fun k_=>(w.heap.size≤k_)∧some k_≠(bs:Value).ownBlock)) (Kd.R_apart' (bO.out) (Kd.R_typed X.out) (by decide)) (fun k_ hk=>by first|exact⟨hk.1.1,hk.2⟩|exact zN0))))) (Reps.none _ _)));intro fm bL b4 hb hg_ hnew_;clear hg_ hnew_;(first|rw[←cJ.out] at b4|(simp only[Int.reduceToNat] at b4;rw[←cJ.out] at b4));replace X:=aM (Kd.R_below (zR X) hb);have az:=aM (Kd.N_lower b4 (Zc zz128));replace HB:=aM (Zd zz128 hb);clear bO;clear hb b4;obtain⟨ff,cS,et⟩:=Kd.N_slice az.out;subst et;have bq:0≤(0:Int):=(by omega);have br:0<(L.length:Int):=oD zz156;obtain⟨b5,bN,cf,er,ar,b2,b1⟩:=ZY (Kd.N_reads' az.out).2.2 0 bq br;cases er;obtain⟨e3,dp,dn,co⟩:=Kd.N_get az.out [] 0 bq (by first|exact br|exact oD zz156|(have e_:=(Kd.N_reads' az.out).1;omega));obtain⟨eP,eQ,rfl,bJ,bz⟩:=Kd.FK_slice_open dn;have bg:=co 0 _ rfl;rw[Nat.add_zero,show((Kd.slice 3 (Kd.int .i64))).sz=1 from rfl,Nat.mul_one] at bg;replace bg:=oI (bg.symm.trans ar);injection bg with hva_ hvn_ hvc_;rw[hva_] at bz;rw[hvc_] at bJ;have aH:=aM (show Kd.V (Kd.int .i64) 3 _ w.heap.size _ _ (Zo L 0) from Kd.V_mk bJ bz);clear hva_ hvn_ hvc_ bz bJ;clear co dp;have fb:(0<L.length)=True:=eq_true (by omega);(try rw[show((0:Int)).toNat=0 from rfl] at ar);(try rw[Addr.add_zero'] at ar);have HR359_0:=aM b1;have cD:=aM b2;clear b1 b2;replace bq:=eq_true bq;replace br:=eq_true br)|((with_reducible refine Zr (f:=88) rfl ?_);refine ZI (some 20) rfl rfl Tryz.func88 (by kernel_rfl) rfl #[.slice bN (Zo L 0).length cf] rfl zz127 ?_;(with_reducible refine(r30_code.calls k _ _ (Zo L 0) P _ ?sa ?sb A6.out).mono ?_);(case sa=>repeat(first|exact zz83|(with_reducible refine Kd.C_alloc ?_ _)|(with_reducible refine Kd.C_drewN ?_ _)|(with_reducible refine Kd.C_drew ?_)));(case sb=>exact cD.out);rintro e w' ⟨rfl,⟨nd,rfl⟩⟩;refine⟨_,rfl,?_⟩;(try(rw[Yb bL];generalize hq_:World.drewN bL _=bL;have ah:Aside0 (Kd.V (Kd.int .i64) 3 bL w.heap.size (fun k_=>(w.heap.size≤k_)∧some k_≠(bs:Value).ownBlock∧some k_≠(.slice (some b5) L.length cS:Value).ownBlock) (.slice bN (Zo L 0).length cf) (Zo L 0)):=⟨(by rw[←hq_];exact(by(with_reducible repeat(first|apply Kd.V_alloc|apply Kd.V_drewN|apply Kd.V_drew));exact Kd.V_mono aH.out (fun _ hk=>by first|exact⟨hk.1.1,⟨hk.1.2,hk.2⟩⟩|exact zN0)))⟩;have ai:Aside0 (Kd.R Kd.bool 4 bL w.heap.size (fun k_=>(w.heap.size≤k_)) bs Z):=⟨(by rw[←hq_];exact(by(with_reducible repeat(first|apply Kd.R_alloc|apply Kd.R_drewN|apply Kd.R_drew));exact Kd.R_mono X.out (fun _ hk=>by first|exact hk.1|exact zN0)))⟩;have aA:Aside0 (Kd.N (Kd.slice 3 (Kd.int .i64)) 32 bL w.heap.size (fun k_=>(w.heap.size≤k_)∧some k_≠(bs:Value).ownBlock) (.slice (some b5) L.length cS) L):=⟨(by rw[←hq_];exact(zN az))⟩;have bh:Aside0 (Below w.heap.size w bL):=⟨zz109⟩;have bi:Aside0 (Kd.C (Kd.int .i64) bL bN (Zo L 0).length (Zo L 0)):=⟨(by rw[←hq_];exact zz83)⟩;clear aH X az HB HR359_0 hq_;have aH:=ah;have X:=ai;have az:=aA;have HB:=bh;have HR359_0:=bi;clear ah ai aA bh bi));have p9:0≤(P:Int):=oD zz156;have q9:(P:Int)<((Z.length:Int):Int):=oD zz156;obtain⟨ab,ak,ez,eA,e4,fq,eg⟩:=Kd.R_form X.out (by omega);(first|cases ez|(injection ez with ea_ en_ ec_;(first|subst ea_|(injection ea_ with ea_;subst ea_));subst ec_;clear en_));have ee:=aM eA;have fo:=aM eg;clear eA e4 eg;obtain⟨bY,e6⟩:=Kd.R_celln false X.out (P:Int) p9 q9;replace p9:=eq_true p9;replace q9:=eq_true q9;have n_:=aM (Kd.R_mono (ok':=(fun k_=>(w.heap.size≤k_))) X.out (fun k_ hk=>by first|exact hk.1|exact zN0));clear X;have X:=n_;clear n_;obtain⟨e7,e9⟩:=Kd.R_celln false X.out (P:Int) (oD zz156) (oD zz156);have cE:=Kd.R_putg X.out (P:Int) true)|((with_reducible refine ZO (t:=4) (p:=21) rfl ?_);refine ZM (t:=4) (p:=21) (v:= ?vo_w18) (w1:=(bL.setCell ⟨ab,(P:Int).toNat,none⟩ (.bool true))) ?hg ?ho ?hn ?hr ?_;(case ho=>rfl);(case hg=>rfl);(case hn=>rfl);(case hr=>first|(go_simp;done)|(go_simp;rfl));intro d3 hw;have hg:bL.grownBy d3 (some ab):=(by rw[hw];exact cE.2);have hp_:Kd.R Kd.bool 4 d3 w.heap.size (fun k_=>(w.heap.size≤k_)) (.slice (some ⟨ab,0,none⟩) Z.length ak) dg:=(by rw[hw,dJ.out];exact cE.1);clear cE;replace X:=aM (hp_);replace az:=aM (Kd.N_afterv (v:=(.slice (some ⟨ab,0,none⟩) Z.length ak)) (v1:=(.slice (some ⟨ab,0,none⟩) Z.length ak)) (ok:=(fun k_=>(w.heap.size≤k_))) (zN az) hg (.inl rfl));replace aH:=aM (Kd.V_afterv (v:=(.slice (some ⟨ab,0,none⟩) Z.length ak)) (v1:=(.slice (some ⟨ab,0,none⟩) Z.length ak)) (ok:=(fun k_=>(w.heap.size≤k_)∧some k_≠(.slice (some b5) L.length cS:Value).ownBlock)) (by(with_reducible repeat(first|apply Kd.V_alloc|apply Kd.V_drewN|apply Kd.V_drew));exact Kd.V_mono aH.out (fun _ hk=>by first|exact⟨⟨hk.1.1,hk.2⟩,hk.1.2⟩|exact zN0)) hg (.inl rfl));replace HB:=aM ((by rw[hw];exact Zi (HB.out) ee.out:Below w.heap.size w d3));clear hg hw hp_))
     go_loopg [6,7] k (fun kq v6 v7 w'=>∃(bM:List Bool) (bK:List (List Int)) (I:Int),v7= .int .i64 I∧Aside0 (r30_Group.l0 kq l1 bM bK I=some r)∧Aside0 (kq≤k)∧Aside0 (Kd.R Kd.bool 4 w' w.heap.size (fun k_=>(w.heap.size≤k_)) (.slice (some ⟨ab,0,none⟩) Z.length ak) bM)∧Aside0 (Kd.N (Kd.slice 3 (Kd.int .i64)) 32 w' w.heap.size (fun k_=>(w.heap.size≤k_)∧some k_≠((.slice (some ⟨ab,0,none⟩) Z.length ak):Value).ownBlock) v6 bK)∧Aside0 (Below w.heap.size w w'))
     case atStart=>exact⟨(dg),(L),(0),zz157,H',⟨Nat.le_refl _⟩,⟨(zR X)⟩,⟨(zN az)⟩,⟨zz128⟩⟩
     case round =>
      clear H';(try clear c1);(try clear p2);(try clear c3);(try clear cg);(try clear ci);(try clear p3);(try clear q3);(try clear dW);(try clear d2);(try clear c4);(try clear c5);(try clear cj);(try clear ck);(try clear c6);(try clear c7);(try clear cl);(try clear c8);(try clear cm);(try clear p9);(try clear q9);(try clear dX);(try clear dV);(try clear ar);(try clear bY);(try clear bq);(try clear p9);(try clear br);(try clear q9);obtain⟨bM,bK,I,rfl,HA,HK1,HO_5,HO_6,HB⟩:=hrel;have hl5_1:=(Kd.R_reads' HO_5.out).1;rw[hl5_1] at HO_5
      (try simp only[hl5_1])
      (try simp only[hl5_1] at HO_6)
      cases gk with
      |zero=>exact absurd HA.out (by simp[r30_Group.l0])
      | succ k1=>
       have H:=HA.out;clear HA;simp only[r30_Group.l0] at H
       by_cases bP:I<(bK.length:Int)
       ·rw [if_pos bP] at H; have bQ:=dT bP;clear bP;have H':=aM H;clear H;obtain⟨Ao20,co20,eu⟩:=Kd.N_slice HO_6.out;subst eu;go_wp2
        go_loopg [6,8] k1 (fun kq v6 v8 w'=>∃(x5_2:List Bool) (o:List (List Int)) (O:Int),v8= .int .i64 O∧Aside0 (r30_Group.l1 kq l1 x5_2 o I O=some r)∧Aside0 (kq≤k1)∧Aside0 (Kd.R Kd.bool 4 w' w.heap.size (fun k_=>(w.heap.size≤k_)) (.slice (some ⟨ab,0,none⟩) bM.length ak) x5_2)∧Aside0 (Kd.N (Kd.slice 3 (Kd.int .i64)) 32 w' w.heap.size (fun k_=>(w.heap.size≤k_)∧some k_≠((.slice (some ⟨ab,0,none⟩) bM.length ak):Value).ownBlock) v6 o)∧Aside0 (Below w.heap.size w w'))
        case atStart=>exact⟨(bM),(bK),(0),zz157,H',⟨Nat.le_refl _⟩,⟨(by(try simp only[hl5_1]);(with_reducible repeat(first|apply Kd.R_alloc|apply Kd.R_drewN|apply Kd.R_drew));exact HO_5.out)⟩,⟨(by(try simp only[hl5_1]);(with_reducible repeat(first|apply Kd.N_alloc|apply Kd.N_drewN|apply Kd.N_drew));exact HO_6.out)⟩,⟨zz128⟩⟩
        case round =>
         clear H';(try clear c1);(try clear p2);(try clear c3);(try clear cg);(try clear ci);(try clear p3);(try clear q3);(try clear dW);(try clear d2);(try clear c4);(try clear c5);(try clear cj);(try clear ck);(try clear c6);(try clear c7);(try clear cl);(try clear c8);(try clear cm);(try clear p9);(try clear q9);(try clear dX);(try clear dV);(try clear bP);(try clear bQ);(try clear ar);(try clear bY);(try clear p2);(try clear p3);(try clear bq);(try clear p9);(try clear q3);(try clear br);(try clear q9);obtain⟨x5_2,o,O,rfl,HA,HK2,HO_5,HO_6,HB⟩:=hrel;have hl5_2:=(Kd.R_reads' HO_5.out).1;rw[hl5_2] at HO_5
         (try simp only[hl5_2])
         (try simp only[hl5_2] at HO_6)
         cases gk with
         |zero=>exact absurd HA.out (by simp[r30_Group.l1])
         | succ k2=>
          have H:=HA.out;clear HA;simp only[r30_Group.l1] at H
          by_cases bZ:O<(l1.length:Int)
          ·rw [if_pos bZ] at H;have b9:=dT bZ;clear bZ
           by_cases ct:0≤I
           ·rw [if_pos ct] at H;have cK:=dT ct;clear ct
            by_cases cu:I<(o.length:Int)
            ·rw [if_pos cu] at H;have cL:=dT cu;clear cu
             by_cases cv:0≤O
             ·rw [if_pos cv] at H;have cM:=dT cv;clear cv;replace H:=oB H;obtain⟨J,dq,H⟩:=H;replace H:((r30_code.f k2 J).bind fun aj=>(if 0≤aj then(if aj<(x5_2.length:Int) then(if rdOf false x5_2 aj=true then(r30_Group.l1 k2 l1 x5_2 o I (wrap64 (O+1))) else((r30_code.f k2 J).bind fun t369=>(if 0≤t369 then(if t369<(x5_2.length:Int) then(if o.length<5864062014805 then(r30_Group.l1 k2 l1 (x5_2.set (t369:Int).toNat true) (o++ [J]) I (wrap64 (O+1))) else(none)) else(none)) else(none)))) else(none)) else(none)))=some r:=H;have d6:=aM dq;clear dq;replace H:=oB H;obtain⟨aj,dr,H⟩:=H;replace H:(if 0≤aj then(if aj<(x5_2.length:Int) then(if rdOf false x5_2 aj=true then(r30_Group.l1 k2 l1 x5_2 o I (wrap64 (O+1))) else((r30_code.f k2 J).bind fun t369=>(if 0≤t369 then(if t369<(x5_2.length:Int) then(if o.length<5864062014805 then(r30_Group.l1 k2 l1 (x5_2.set (t369:Int).toNat true) (o++ [J]) I (wrap64 (O+1))) else(none)) else(none)) else(none)))) else(none)) else(none))=some r:=H;have d7:=aM dr;clear dr
              by_cases cw:0≤aj
              ·rw [if_pos cw] at H;have cN:=dT cw;clear cw
               by_cases cx:aj<(x5_2.length:Int)
               ·rw [if_pos cx] at H;have cO:=dT cx;clear cx;obtain⟨dy,cc⟩:∃b_:Bool,b_=(rdOf false x5_2 aj):=⟨_,rfl⟩;replace H:(if dy=true then(r30_Group.l1 k2 l1 x5_2 o I (wrap64 (O+1))) else((r30_code.f k2 J).bind fun t369=>(if 0≤t369 then(if t369<(x5_2.length:Int) then(if o.length<5864062014805 then(r30_Group.l1 k2 l1 (x5_2.set (t369:Int).toNat true) (o++ [J]) I (wrap64 (O+1))) else(none)) else(none)) else(none))))=some r:=by rw[←cc] at H;exact H
                have cH:=aM cc;clear cc
                by_cases cy:dy=true
                ·subst cy;have H1:(r30_Group.l1 k2 l1 x5_2 o I (wrap64 (O+1)))=some r:=by rw[if_pos rfl] at H;exact H
                 clear H;have H:=H1;clear H1;have H':=aM H;clear H
                 try go_wp2
                 have ah:=aM (Kd.R_drew HO_5.out);have ai:=aM (Kd.N_drew HO_6.out);have aA:=aM (Zj HB.out);clear HO_5;clear HO_6;clear HB;have HO_5:=ah;have HO_6:=ai;have HB:=aA;clear ah ai aA;obtain⟨fg,fj,dA⟩:=Kd.N_slice HO_6.out
                 (first|subst dA|(injection dA with cb cZ c0;have dS:=cb.symm;have dU:=c0.symm;clear cb cZ c0;subst dS;subst dU))
                 have aW:0≤(I:Int):=oD zz156;have q362:I<(o.length:Int):=oD zz156;obtain⟨al,am,aD,cU,ag,aR,aJ⟩:=ZY (Kd.N_reads' HO_6.out).2.2 I aW q362
                 cases cU;obtain⟨dP,bV,bS,ba⟩:=Kd.N_get HO_6.out [] I aW zz120;obtain⟨da,dd,rfl,aw,an⟩:=Kd.FK_slice_open bS;have ac:=ba 0 _ rfl;rw[Nat.add_zero,show((Kd.slice 3 (Kd.int .i64))).sz=1 from rfl,Nat.mul_one] at ac;replace ac:=oI (ac.symm.trans ag);injection ac with hva_ hvn_ hvc_
                 rw[hva_] at an;rw[hvc_] at aw;have HL362_0:=aM (show Kd.V (Kd.int .i64) 3 _ w.heap.size _ _ (Zo o I) from Kd.V_mk aw an);clear hva_ hvn_ hvc_ an aw;clear ba bV;have HR362_0:=aM aJ;have bu:=aM aR;clear aJ aR;replace aW:=eq_true aW;replace q362:=eq_true q362;have bj:0≤(O:Int):=oD zz156;have bo:O<(l1.length:Int):=oD zz156;obtain⟨b6,a1,a6,cV,U,aT,aK⟩:=ZY ei.out O bj bo;have af:=U
                 cases cV;replace U:=(HB.out.cell (wB w _ U)).trans U;have aI:=aM aK;have bv:=aM aT;clear aK aT;replace bj:=eq_true bj;replace bo:=eq_true bo
                 refine start_ (n:=10) (S:=fun w'=>w'.cell? (al.add (I).toNat)=some (.slice am (Zo o I).length aD)∧w'.cell? (b6.add (O).toNat)=some (.slice a1 (Zo l1 O).length a6)) (ds:= []) #[false,false,false,false,false,false,false,false,false,false] (by kernel_rfl) rfl rfl ⟨ag,((HB.out.cell (wB w _ af)).trans af)⟩ (fun hHeld=> ?_);refine Z8 r30_Group.tab10 r30_Group.bits10 (fun m aY=> ?_);generalize wr.drew=fu at HO_5 HO_6 HB HL362_0 HR362_0 aI ag U hHeld⊢
                 refine ZC (i:=0) (N:=some 34) (v:= ?_) (a':= ?_) #[true,false,false,false,false,false,false,false,false,false] rfl rfl (Zy m.out (by kernel_rfl)) (fun _ _ _ h=>h) (Or.inl ⟨by rfl,?_⟩) ?_ ?_;rotate_left
                 ·intro w';go_simp;with_reducible rfl
                 rotate_left
                 ·simp only[Act.put,sA,sB,sC,Zt,Zu];rfl
                 refine ZC (i:=1) (N:=some 35) (v:= ?_) (a':= ?_) #[true,true,false,false,false,false,false,false,false,false] rfl rfl (Zy m.out (by kernel_rfl)) (fun _ _ _ h=>h) (Or.inl ⟨by rfl,?_⟩) ?_ ?_;rotate_left
                 ·intro w';go_simp;with_reducible rfl
                 rotate_left
                 ·simp only[Act.put,sA,sB,sC,Zt,Zu];rfl
                 refine ZC (i:=2) (N:=some 36) (v:= ?_) (a':= ?_) #[true,true,true,false,false,false,false,false,false,false] rfl rfl (Zy m.out (by kernel_rfl)) (fun _ _ _ h=>h) (Or.inl ⟨by rfl,?_⟩) ?_ ?_;rotate_left
                 ·intro w';go_simp;with_reducible rfl
                 rotate_left
                 ·simp only[Act.put,sA,sB,sC,Zt,Zu];rfl
                 refine ZC (i:=4) (N:=some 38) (v:= ?_) (a':= ?_) #[true,true,true,false,true,false,false,false,false,false] rfl rfl (Zy m.out (by kernel_rfl)) (fun _ _ _ h=>h) (Or.inl ⟨by rfl,?_⟩) ?_ ?_;rotate_left
                 ·intro w';go_simp;with_reducible rfl
                 rotate_left
                 ·simp only[Act.put,sA,sB,sC,Zt,Zu];rfl
                 refine ZC (i:=5) (N:=some 39) (v:= ?_) (a':= ?_) #[true,true,true,false,true,true,false,false,false,false] rfl rfl (Zy m.out (by kernel_rfl)) (fun _ _ _ h=>h) (Or.inl ⟨by rfl,?_⟩) ?_ ?_;rotate_left
                 ·intro w';go_simp;with_reducible rfl
                 rotate_left
                 ·simp only[Act.put,sA,sB,sC,Zt,Zu];rfl
                 refine ZC (i:=6) (N:=some 40) (v:= ?_) (a':= ?_) #[true,true,true,false,true,true,true,false,false,false] rfl rfl (Zy m.out (by kernel_rfl)) (fun _ _ _ h=>h) (Or.inl ⟨by rfl,?_⟩) ?_ ?_;rotate_left
                 ·intro w';go_simp;with_reducible rfl
                 rotate_left
                 ·simp only[Act.put,sA,sB,sC,Zt,Zu];rfl
                 refine take_ (i:=3) (N:=some 37) (v:= ?_) (a':= ?_) #[true,true,true,true,true,true,true,false,false,false] rfl rfl (ZX m.out aY.out (by kernel_rfl)) (fun _ _ _ h=>h) (Or.inl ⟨by rfl,?_⟩) hHeld ?_ ?_;rotate_left
                 ·rintro w' ⟨s0,s1⟩;go_simp;with_reducible rfl
                 rotate_left
                 ·simp only[Act.put,sA,sB,sC,Zt,Zu];rfl
                 refine take_ (i:=7) (N:=some 41) (v:= ?_) (a':= ?_) #[true,true,true,true,true,true,true,true,false,false] rfl rfl (ZX m.out aY.out (by kernel_rfl)) (fun _ _ _ h=>h) (Or.inl ⟨by rfl,?_⟩) hHeld ?_ ?_;rotate_left
                 ·rintro w' ⟨s0,s1⟩;go_simp;with_reducible rfl
                 rotate_left
                 ·simp only[Act.put,sA,sB,sC,Zt,Zu];rfl
                 refine one_ (i:=8) (N:=some 42) #[true,true,true,true,true,true,true,true,true,false] rfl rfl (Z2 m.out (by kernel_rfl)) (by decide) (fun K hK=> ?_)
                 refine Yk Tryz.func63 (by kernel_rfl) rfl #[.slice am (Zo o I).length aD,.slice a1 (Zo l1 O).length a6] (by rfl) rfl rfl zz127 ?_;with_reducible refine(r30_Then.calls k2 _ _ (Zo o I) _ _ (Zo l1 O) J _ ?sa ?sb ?sc ?sd d6.out).mono ?_
                 (case sa=>repeat(first|exact zz84|(with_reducible refine Kd.C_alloc ?_ _)|(with_reducible refine Kd.C_drewN ?_ _)|(with_reducible refine Kd.C_drew ?_)))
                 (case sb=>exact bu.out)
                 (case sc=>exact zC (Kd.C_below aI.out HB.out))
                 (case sd=>exact bv.out)
                 rintro e fv ⟨eS,rfl,ho0,hb⟩;have cG:=(hb.cell (wB _ _ (hHeld.1))).trans (hHeld.1)
                 refine⟨_,rfl,?_⟩;have ah:=aM (Kd.R_below (zR HO_5) hb);have ai:=aM (Kd.N_elder' (zN HO_6) (Kd.R_base ho0) hb);have aA:=aM (Kd.V_elder' (zV HL362_0) (Kd.R_base ho0) hb);have bh:=aM (Kd.R_lower (Kd.R_newM (M:=fun k_=>(w.heap.size≤k_)) ho0 (Zc zz128) (fun k_ h_=>h_)) (Zc zz128));have bi:=aM (Kd.C_below zz84 hb);have bI:=aM (Zd zz128 hb);clear HO_5;clear HO_6;clear HL362_0;clear HR362_0;clear HB;have HO_5:=ah;have HO_6:=ai;have HL362_0:=aA;have HO366:=bh;have HR362_0:=bi;have HB:=bI;clear ah ai aA bh bi bI;(try clear hb);(try clear eC);(try clear hk);(try clear hi);(try clear ho0)
                 refine hK.out _ _ ⟨cG,((HB.out.cell (wB w _ af)).trans af)⟩ (fun hHeld=> ?_);clear hK K
                 refine ZV (a':= ?_) ?_ ?_;rotate_left
                 ·show Act.put _ (some 42) _=_
                  simp only[Act.put,sA,sB,sC,Zt,Zu];rfl
                 refine ZC (i:=9) (N:=some 9) (v:= ?_) (a':= ?_) #[true,true,true,true,true,true,true,true,true,true] rfl rfl (Zy m.out (by kernel_rfl)) (fun _ _ _ h=>h) (Or.inl ⟨by rfl,?_⟩) ?_ ?_;rotate_left
                 ·intro w';go_simp;with_reducible rfl
                 rotate_left
                 ·simp only[Act.put,sA,sB,sC,Zt,Zu];rfl
                 refine done_ (done_of m.out (by kernel_rfl)) ?_;obtain⟨ed,em,ev⟩:=Kd.R_slice HO366.out;subst ev
                 try go_wp2_with (first|((with_reducible refine Zr (f:=88) rfl ?_);refine ZI (some 45) rfl rfl Tryz.func88 (by kernel_rfl) rfl #[.slice ed J.length em] rfl zz127 ?_;(with_reducible refine(r30_code.calls k2 _ _ J aj _ ?sa ?sb d7.out).mono ?_);(case sa=>exact zC ((Kd.R_reads' HO366.out).2.2));(case sb=>exact(Kd.R_reads' HO366.out).2.1);rintro e w' ⟨rfl,⟨nd,rfl⟩⟩;refine⟨_,rfl,?_⟩;have bk:0≤(aj:Int):=oD zz156;have bp:aj<(x5_2.length:Int):=oD zz156;obtain⟨b7,cW,Y⟩:=Kd.at_bool (Kd.R_reads' HO_5.out).2.2 aj bk bp;(try rw[←cH.out] at Y);obtain rfl:(⟨ab,0,none⟩:Addr)=b7:=(by injection cW);(first|simp only[Z5] at Y|simp only[add_at] at Y|simp only[Addr.add,Nat.zero_add] at Y|skip);replace bk:=eq_true bk;replace bp:=eq_true bp))
                 (try simp only[←hl5_2])
                 go_roundg k2
                 case measure=>have:=HK1.out;have:=HK2.out;omega
                 case rel=>exact⟨(x5_2),(o),(wrap64 (O+1)),zz157,H',⟨zz159⟩,⟨zz111⟩,⟨(by(try simp only[hl5_1]);(try simp only[hl5_2]);(with_reducible repeat(first|apply Kd.N_alloc|apply Kd.N_drewN|apply Kd.N_drew));exact Kd.N_mono HO_6.out (fun _ hk=>by first|exact⟨hk.1.1,hk.1.2⟩|exact zN0))⟩,⟨zz128⟩⟩
                replace cy:=Bool.eq_false_iff.mpr cy;subst cy;have H1:((r30_code.f k2 J).bind fun t369=>(if 0≤t369 then(if t369<(x5_2.length:Int) then(if o.length<5864062014805 then(r30_Group.l1 k2 l1 (x5_2.set (t369:Int).toNat true) (o++ [J]) I (wrap64 (O+1))) else(none)) else(none)) else(none)))=some r:=by rw[if_neg (show¬(false=true) by decide)] at H;exact H
                clear H;have H:=H1;clear H1;replace H:=oB H;obtain⟨t369,dt,H⟩:=H;replace H:(if 0≤t369 then(if t369<(x5_2.length:Int) then(if o.length<5864062014805 then(r30_Group.l1 k2 l1 (x5_2.set (t369:Int).toNat true) (o++ [J]) I (wrap64 (O+1))) else(none)) else(none)) else(none))=some r:=H;have eW:=aM dt;clear dt
                by_cases cz:0≤t369
                ·rw [if_pos cz] at H;have cP:=dT cz;clear cz
                 by_cases cA:t369<(x5_2.length:Int)
                 ·rw [if_pos cA] at H;have cQ:=dT cA;clear cA;obtain⟨cr,bD⟩:∃y_:List Bool,y_=(x5_2.set (t369:Int).toNat true):=⟨_,rfl⟩;replace H:(if o.length<5864062014805 then(r30_Group.l1 k2 l1 cr (o++ [J]) I (wrap64 (O+1))) else(none))=some r:=by first|(rw[bD];with_reducible exact H)|(have H2_:=(Option.bind_some _ _).symm.trans H;rw[bD];with_reducible exact H2_)|(have H2_:=(Option.bind_some _ _).symm.trans H;with_reducible exact H2_)|with_reducible exact H|(rw[bD];exact H)|exact H
                  have dK:=aM bD;clear bD
                  by_cases cB:o.length<5864062014805
                  ·rw [if_pos cB] at H;have dI:=aM cB;clear cB;obtain⟨dE,bE⟩:∃y_:List (List Int),y_=(o++ [J]):=⟨_,rfl⟩;replace H:(r30_Group.l1 k2 l1 cr dE I (wrap64 (O+1)))=some r:=by first|(rw[bE];with_reducible exact H)|(have H2_:=(Option.bind_some _ _).symm.trans H;rw[bE];with_reducible exact H2_)|(have H2_:=(Option.bind_some _ _).symm.trans H;with_reducible exact H2_)|with_reducible exact H|(rw[bE];exact H)|exact H
                   have dL:=aM bE;clear bE;have H':=aM H;clear H
                   try go_wp2
                   have ah:=aM (Kd.R_drew HO_5.out);have ai:=aM (Kd.N_drew HO_6.out);have aA:=aM (Zj HB.out);clear HO_5;clear HO_6;clear HB;have HO_5:=ah;have HO_6:=ai;have HB:=aA;clear ah ai aA;obtain⟨fh,a9,dB⟩:=Kd.N_slice HO_6.out
                   (first|subst dB|(injection dB with cb cZ c0;have dS:=cb.symm;have dU:=c0.symm;clear cb cZ c0;subst dS;subst dU))
                   have aW:0≤(I:Int):=oD zz156;have q362:I<(o.length:Int):=oD zz156;obtain⟨al,am,aD,cU,ag,aR,aJ⟩:=ZY (Kd.N_reads' HO_6.out).2.2 I aW q362
                   cases cU;obtain⟨dP,bV,bS,ba⟩:=Kd.N_get HO_6.out [] I aW zz120;obtain⟨da,dd,rfl,aw,an⟩:=Kd.FK_slice_open bS;have ac:=ba 0 _ rfl;rw[Nat.add_zero,show((Kd.slice 3 (Kd.int .i64))).sz=1 from rfl,Nat.mul_one] at ac;replace ac:=oI (ac.symm.trans ag);injection ac with hva_ hvn_ hvc_
                   rw[hva_] at an;rw[hvc_] at aw;have HL362_0:=aM (show Kd.V (Kd.int .i64) 3 _ w.heap.size _ _ (Zo o I) from Kd.V_mk aw an);clear hva_ hvn_ hvc_ an aw;clear ba bV;have HR362_0:=aM aJ;have bu:=aM aR;clear aJ aR;replace aW:=eq_true aW;replace q362:=eq_true q362;have bj:0≤(O:Int):=oD zz156;have bo:O<(l1.length:Int):=oD zz156;obtain⟨b6,a1,a6,cV,U,aT,aK⟩:=ZY ei.out O bj bo;have af:=U
                   cases cV;replace U:=(HB.out.cell (wB w _ U)).trans U;have aI:=aM aK;have bv:=aM aT;clear aK aT;replace bj:=eq_true bj;replace bo:=eq_true bo
                   refine start_ (n:=10) (S:=fun w'=>w'.cell? (al.add (I).toNat)=some (.slice am (Zo o I).length aD)∧w'.cell? (b6.add (O).toNat)=some (.slice a1 (Zo l1 O).length a6)) (ds:= []) #[false,false,false,false,false,false,false,false,false,false] (by kernel_rfl) rfl rfl ⟨ag,((HB.out.cell (wB w _ af)).trans af)⟩ (fun hHeld=> ?_);refine Z8 r30_Group.tab10 r30_Group.bits10 (fun m aY=> ?_);generalize wr.drew=fw at HO_5 HO_6 HB HL362_0 HR362_0 aI ag U hHeld⊢
                   refine ZC (i:=0) (N:=some 34) (v:= ?_) (a':= ?_) #[true,false,false,false,false,false,false,false,false,false] rfl rfl (Zy m.out (by kernel_rfl)) (fun _ _ _ h=>h) (Or.inl ⟨by rfl,?_⟩) ?_ ?_;rotate_left
                   ·intro w';go_simp;with_reducible rfl
                   rotate_left
                   ·simp only[Act.put,sA,sB,sC,Zt,Zu];rfl
                   refine ZC (i:=1) (N:=some 35) (v:= ?_) (a':= ?_) #[true,true,false,false,false,false,false,false,false,false] rfl rfl (Zy m.out (by kernel_rfl)) (fun _ _ _ h=>h) (Or.inl ⟨by rfl,?_⟩) ?_ ?_;rotate_left
                   ·intro w';go_simp;with_reducible rfl
                   rotate_left
                   ·simp only[Act.put,sA,sB,sC,Zt,Zu];rfl
                   refine ZC (i:=2) (N:=some 36) (v:= ?_) (a':= ?_) #[true,true,true,false,false,false,false,false,false,false] rfl rfl (Zy m.out (by kernel_rfl)) (fun _ _ _ h=>h) (Or.inl ⟨by rfl,?_⟩) ?_ ?_;rotate_left
                   ·intro w';go_simp;with_reducible rfl
                   rotate_left
                   ·simp only[Act.put,sA,sB,sC,Zt,Zu];rfl
                   refine ZC (i:=4) (N:=some 38) (v:= ?_) (a':= ?_) #[true,true,true,false,true,false,false,false,false,false] rfl rfl (Zy m.out (by kernel_rfl)) (fun _ _ _ h=>h) (Or.inl ⟨by rfl,?_⟩) ?_ ?_;rotate_left
                   ·intro w';go_simp;with_reducible rfl
                   rotate_left
                   ·simp only[Act.put,sA,sB,sC,Zt,Zu];rfl
                   refine ZC (i:=5) (N:=some 39) (v:= ?_) (a':= ?_) #[true,true,true,false,true,true,false,false,false,false] rfl rfl (Zy m.out (by kernel_rfl)) (fun _ _ _ h=>h) (Or.inl ⟨by rfl,?_⟩) ?_ ?_;rotate_left
                   ·intro w';go_simp;with_reducible rfl
                   rotate_left
                   ·simp only[Act.put,sA,sB,sC,Zt,Zu];rfl
                   refine ZC (i:=6) (N:=some 40) (v:= ?_) (a':= ?_) #[true,true,true,false,true,true,true,false,false,false] rfl rfl (Zy m.out (by kernel_rfl)) (fun _ _ _ h=>h) (Or.inl ⟨by rfl,?_⟩) ?_ ?_;rotate_left
                   ·intro w';go_simp;with_reducible rfl
                   rotate_left
                   ·simp only[Act.put,sA,sB,sC,Zt,Zu];rfl
                   refine take_ (i:=3) (N:=some 37) (v:= ?_) (a':= ?_) #[true,true,true,true,true,true,true,false,false,false] rfl rfl (ZX m.out aY.out (by kernel_rfl)) (fun _ _ _ h=>h) (Or.inl ⟨by rfl,?_⟩) hHeld ?_ ?_;rotate_left
                   ·rintro w' ⟨s0,s1⟩;go_simp;with_reducible rfl
                   rotate_left
                   ·simp only[Act.put,sA,sB,sC,Zt,Zu];rfl
                   refine take_ (i:=7) (N:=some 41) (v:= ?_) (a':= ?_) #[true,true,true,true,true,true,true,true,false,false] rfl rfl (ZX m.out aY.out (by kernel_rfl)) (fun _ _ _ h=>h) (Or.inl ⟨by rfl,?_⟩) hHeld ?_ ?_;rotate_left
                   ·rintro w' ⟨s0,s1⟩;go_simp;with_reducible rfl
                   rotate_left
                   ·simp only[Act.put,sA,sB,sC,Zt,Zu];rfl
                   refine one_ (i:=8) (N:=some 42) #[true,true,true,true,true,true,true,true,true,false] rfl rfl (Z2 m.out (by kernel_rfl)) (by decide) (fun K hK=> ?_)
                   refine Yk Tryz.func63 (by kernel_rfl) rfl #[.slice am (Zo o I).length aD,.slice a1 (Zo l1 O).length a6] (by rfl) rfl rfl zz127 ?_;with_reducible refine(r30_Then.calls k2 _ _ (Zo o I) _ _ (Zo l1 O) J _ ?sa ?sb ?sc ?sd d6.out).mono ?_
                   (case sa=>repeat(first|exact zz84|(with_reducible refine Kd.C_alloc ?_ _)|(with_reducible refine Kd.C_drewN ?_ _)|(with_reducible refine Kd.C_drew ?_)))
                   (case sb=>exact bu.out)
                   (case sc=>exact zC (Kd.C_below aI.out HB.out))
                   (case sd=>exact bv.out)
                   rintro e aC ⟨eS,rfl,ho0,hb⟩;have cG:=(hb.cell (wB _ _ (hHeld.1))).trans (hHeld.1)
                   refine⟨_,rfl,?_⟩;have ah:=aM (Kd.R_below (zR HO_5) hb);have ai:=aM (Kd.N_elder' (zN HO_6) (Kd.R_base ho0) hb);have aA:=aM (Kd.V_elder' (zV HL362_0) (Kd.R_base ho0) hb);have bh:=aM (Kd.R_lower (Kd.R_newM (M:=fun k_=>(w.heap.size≤k_)) ho0 (Zc zz128) (fun k_ h_=>h_)) (Zc zz128));have bi:=aM (Kd.C_below zz84 hb);have bI:=aM (Zd zz128 hb);clear HO_5;clear HO_6;clear HL362_0;clear HR362_0;clear HB;have HO_5:=ah;have HO_6:=ai;have HL362_0:=aA;have HO366:=bh;have HR362_0:=bi;have HB:=bI;clear ah ai aA bh bi bI;(try clear hb);(try clear eC);(try clear hk);(try clear hi);(try clear ho0)
                   refine hK.out _ _ ⟨cG,((HB.out.cell (wB w _ af)).trans af)⟩ (fun hHeld=> ?_);clear hK K
                   refine ZV (a':= ?_) ?_ ?_;rotate_left
                   ·show Act.put _ (some 42) _=_
                    simp only[Act.put,sA,sB,sC,Zt,Zu];rfl
                   refine ZC (i:=9) (N:=some 9) (v:= ?_) (a':= ?_) #[true,true,true,true,true,true,true,true,true,true] rfl rfl (Zy m.out (by kernel_rfl)) (fun _ _ _ h=>h) (Or.inl ⟨by rfl,?_⟩) ?_ ?_;rotate_left
                   ·intro w';go_simp;with_reducible rfl
                   rotate_left
                   ·simp only[Act.put,sA,sB,sC,Zt,Zu];rfl
                   refine done_ (done_of m.out (by kernel_rfl)) ?_;obtain⟨aE,aG,ew⟩:=Kd.R_slice HO366.out;subst ew
                   try go_wp2_with (first|((with_reducible refine Zr (f:=88) rfl ?_);refine ZI (some 45) rfl rfl Tryz.func88 (by kernel_rfl) rfl #[.slice aE J.length aG] rfl zz127 ?_;(with_reducible refine(r30_code.calls k2 _ _ J aj _ ?sa ?sb d7.out).mono ?_);(case sa=>exact zC ((Kd.R_reads' HO366.out).2.2));(case sb=>exact(Kd.R_reads' HO366.out).2.1);rintro e w' ⟨rfl,⟨nd,rfl⟩⟩;refine⟨_,rfl,?_⟩;(try(rw[Yb aC];generalize hq_:World.drewN aC _=aC;have ah:Aside0 (Kd.V (Kd.int .i64) 3 aC w.heap.size (fun k_=>(w.heap.size≤k_)∧some k_≠(.slice aE J.length aG:Value).ownBlock∧some k_≠(.slice (some ⟨ab,0,none⟩) x5_2.length ak:Value).ownBlock∧some k_≠(.slice (some al) o.length a9:Value).ownBlock) (.slice am (Zo o I).length aD) (Zo o I)):=⟨zz33⟩;have ai:Aside0 (Kd.R (Kd.int .i64) 3 aC w.heap.size (fun k_=>(w.heap.size≤k_)) (.slice aE J.length aG) J):=⟨zz44⟩;have aA:Aside0 (Kd.R Kd.bool 4 aC w.heap.size (fun k_=>(w.heap.size≤k_)) (.slice (some ⟨ab,0,none⟩) x5_2.length ak) x5_2):=⟨(by rw[←hq_];exact(zR HO_5))⟩;have bh:Aside0 (Kd.N (Kd.slice 3 (Kd.int .i64)) 32 aC w.heap.size (fun k_=>(w.heap.size≤k_)∧some k_≠(.slice aE J.length aG:Value).ownBlock∧some k_≠(.slice (some ⟨ab,0,none⟩) x5_2.length ak:Value).ownBlock) (.slice (some al) o.length a9) o):=⟨zz38⟩;have bi:Aside0 (Below w.heap.size w aC):=⟨zz109⟩;have bI:Aside0 (Kd.C (Kd.int .i64) aC am (Zo o I).length (Zo o I)):=⟨zz73⟩;clear HL362_0 HO366 HO_5 HO_6 HB HR362_0 hq_;have HL362_0:=ah;have HO366:=ai;have HO_5:=aA;have HO_6:=bh;have HB:=bi;have HR362_0:=bI;clear ah ai aA bh bi bI));have bk:0≤(aj:Int):=oD zz156;have bp:aj<(x5_2.length:Int):=oD zz156;obtain⟨b7,cW,Y⟩:=Kd.at_bool (Kd.R_reads' HO_5.out).2.2 aj bk bp;(try rw[←cH.out] at Y);obtain rfl:(⟨ab,0,none⟩:Addr)=b7:=(by injection cW);(first|simp only[Z5] at Y|simp only[add_at] at Y|simp only[Addr.add,Nat.zero_add] at Y|skip);replace bk:=eq_true bk;replace bp:=eq_true bp)|((with_reducible refine Zr (f:=88) rfl ?_);refine ZI (some 51) rfl rfl Tryz.func88 (by kernel_rfl) rfl #[.slice aE J.length aG] rfl zz127 ?_;(with_reducible refine(r30_code.calls k2 _ _ J t369 _ ?sa ?sb eW.out).mono ?_);(case sa=>exact zC ((Kd.R_reads' HO366.out).2.2));(case sb=>exact(Kd.R_reads' HO366.out).2.1);rintro e w' ⟨rfl,⟨nd,rfl⟩⟩;refine⟨_,rfl,?_⟩;(try(rw[Yb aC];generalize hq_:World.drewN aC _=aC;have ah:Aside0 (Kd.V (Kd.int .i64) 3 aC w.heap.size (fun k_=>(w.heap.size≤k_)∧some k_≠(.slice aE J.length aG:Value).ownBlock∧some k_≠(.slice (some ⟨ab,0,none⟩) x5_2.length ak:Value).ownBlock∧some k_≠(.slice (some al) o.length a9:Value).ownBlock) (.slice am (Zo o I).length aD) (Zo o I)):=⟨zz33⟩;have ai:Aside0 (Kd.R (Kd.int .i64) 3 aC w.heap.size (fun k_=>(w.heap.size≤k_)) (.slice aE J.length aG) J):=⟨zz44⟩;have aA:Aside0 (Kd.R Kd.bool 4 aC w.heap.size (fun k_=>(w.heap.size≤k_)) (.slice (some ⟨ab,0,none⟩) x5_2.length ak) x5_2):=⟨(by rw[←hq_];exact(zR HO_5))⟩;have bh:Aside0 (Kd.N (Kd.slice 3 (Kd.int .i64)) 32 aC w.heap.size (fun k_=>(w.heap.size≤k_)∧some k_≠(.slice aE J.length aG:Value).ownBlock∧some k_≠(.slice (some ⟨ab,0,none⟩) x5_2.length ak:Value).ownBlock) (.slice (some al) o.length a9) o):=⟨zz38⟩;have bi:Aside0 (Below w.heap.size w aC):=⟨zz109⟩;have bI:Aside0 (Kd.C (Kd.int .i64) aC am (Zo o I).length (Zo o I)):=⟨zz73⟩;clear HL362_0 HO366 HO_5 HO_6 HB HR362_0 hq_;have HL362_0:=ah;have HO366:=ai;have HO_5:=aA;have HO_6:=bh;have HB:=bi;have HR362_0:=bI;clear ah ai aA bh bi bI));have cd:0≤(t369:Int):=oD zz156;have ce:(t369:Int)<((x5_2.length:Int):Int):=oD zz156;obtain⟨cp,eU⟩:=Kd.R_celln false HO_5.out (t369:Int) cd ce;replace cd:=eq_true cd;replace ce:=eq_true ce;obtain⟨e8,fa⟩:=Kd.R_celln false HO_5.out (t369:Int) (oD zz156) (oD zz156);have cF:=Kd.R_putg HO_5.out (t369:Int) true)|((with_reducible refine ZO (t:=4) (p:=52) rfl ?_);refine ZM (t:=4) (p:=52) (v:= ?vo_w45) (w1:=(aC.setCell ⟨ab,(t369:Int).toNat,none⟩ (.bool true))) ?hg ?ho ?hn ?hr ?_;(case ho=>rfl);(case hg=>rfl);(case hn=>rfl);(case hr=>first|(go_simp;done)|(go_simp;rfl));intro d4 hw;have hg:aC.grownBy d4 (some ab):=(by rw[hw];exact cF.2);have hp_:Kd.R Kd.bool 4 d4 w.heap.size (fun k_=>(w.heap.size≤k_)) (.slice (some ⟨ab,0,none⟩) x5_2.length ak) cr:=(by rw[hw,dK.out];exact cF.1);clear cF;replace HO_6:=aM (Kd.N_afterv (v:=(.slice (some ⟨ab,0,none⟩) x5_2.length ak)) (v1:=(.slice (some ⟨ab,0,none⟩) x5_2.length ak)) (ok:=(fun k_=>(w.heap.size≤k_)∧some k_≠(.slice aE J.length aG:Value).ownBlock)) (by(with_reducible repeat(first|apply Kd.N_alloc|apply Kd.N_drewN|apply Kd.N_drew));exact Kd.N_mono HO_6.out (fun _ hk=>by first|exact⟨⟨hk.1.1,hk.2⟩,hk.1.2⟩|exact zN0)) hg (.inl rfl));replace HL362_0:=aM (Kd.V_afterv (v:=(.slice (some ⟨ab,0,none⟩) x5_2.length ak)) (v1:=(.slice (some ⟨ab,0,none⟩) x5_2.length ak)) (ok:=(fun k_=>(w.heap.size≤k_)∧some k_≠(.slice (some al) o.length a9:Value).ownBlock∧some k_≠(.slice aE J.length aG:Value).ownBlock)) (by(with_reducible repeat(first|apply Kd.V_alloc|apply Kd.V_drewN|apply Kd.V_drew));exact Kd.V_mono HL362_0.out (fun _ hk=>by first|exact⟨⟨hk.1.1.1,⟨hk.1.2,hk.2⟩⟩,hk.1.1.2⟩|exact zN0)) hg (.inl rfl));replace HO366:=aM (Kd.R_over' (v:=(.slice (some ⟨ab,0,none⟩) x5_2.length ak)) (zR HO366) (Kd.R_typed HO_5.out) (by decide) hg);replace HO_5:=aM (hp_);replace HB:=aM ((by rw[hw];exact Zi (HB.out) ee.out:Below w.heap.size w d4));clear hg hw hp_)|((with_reducible refine ZQ (b:= .append) (xs:= #[.tmp 53,.tmp 55]) rfl ?_);at_builtin;refine Kd.N_append (Kd.slice 3 (Kd.int .i64)) (w0:=w) w.heap.size rfl (.tmp 53) (.tmp 55) 46 32 (.slice none 0 0) 24 rfl Tryz.underlying46 info32 rfl (by decide) (by omega) (.slice (some al) o.length a9) o J [.slice aE J.length aG] (fun k_=>(w.heap.size≤k_)∧some k_≠(.slice (some ⟨ab,0,none⟩) x5_2.length ak:Value).ownBlock) (fun k_=>((fun k_=>(w.heap.size≤k_)∧some k_≠(.slice (some ⟨ab,0,none⟩) x5_2.length ak:Value).ownBlock)) k_∧some k_≠(.slice (some al) o.length a9:Value).ownBlock) rfl rfl ?aP (fun _ hk=>hk) ?aF ?aO ?aB ?aS ?aL ?_;(case aP=>exact(Kd.FK_slice_mk (Kd.R_reads' (Kd.R_mono (ok':=(fun k_=>((fun k_=>(w.heap.size≤k_)∧some k_≠(.slice (some ⟨ab,0,none⟩) x5_2.length ak:Value).ownBlock)) k_∧some k_≠(.slice (some al) o.length a9:Value).ownBlock)) (Kd.R_apart' (Kd.R_apart' (HO366.out) (Kd.R_typed HO_5.out) (by decide)) (Kd.N_typed HO_6.out) (by decide)) (fun k_ hk=>by first|exact⟨⟨hk.1.1.1,hk.1.2⟩,hk.2⟩|exact zN0))).2.1 (Kd.R_F (Kd.R_mono (ok':=(fun k_=>((fun k_=>(w.heap.size≤k_)∧some k_≠(.slice (some ⟨ab,0,none⟩) x5_2.length ak:Value).ownBlock)) k_∧some k_≠(.slice (some al) o.length a9:Value).ownBlock)) (Kd.R_apart' (Kd.R_apart' (HO366.out) (Kd.R_typed HO_5.out) (by decide)) (Kd.N_typed HO_6.out) (by decide)) (fun k_ hk=>by first|exact⟨⟨hk.1.1.1,hk.1.2⟩,hk.2⟩|exact zN0)))));(case aB=>exact zz128);(case aF=>exact(fun k_ hk=>⟨(Nat.le_trans (Zc zz128) hk),Kd.fresh' (Kd.R_lt (zR HO_5)) k_ hk⟩));(case aO=>exact(by(with_reducible repeat(first|apply Kd.N_alloc|apply Kd.N_drewN|apply Kd.N_drew));exact Kd.N_mono HO_6.out (fun _ hk=>by first|exact⟨hk.1.1,hk.2⟩|exact zN0)));(case aS=>exact(Zc zz128));(case aL=>have:=dI.out;omega);intro fn fx ho hb hg hat;rw[←dL.out] at ho;replace HO_5:=aM (Kd.R_over' (zR HO_5) (Kd.N_typed (zN HO_6)) (by decide) hg);replace HL362_0:=aM (Kd.V_afterv (ok:=(fun k_=>(w.heap.size≤k_)∧some k_≠(.slice (some ⟨ab,0,none⟩) x5_2.length ak:Value).ownBlock∧some k_≠(.slice aE J.length aG:Value).ownBlock)) (by(with_reducible repeat(first|apply Kd.V_alloc|apply Kd.V_drewN|apply Kd.V_drew));exact Kd.V_mono HL362_0.out (fun _ hk=>by first|exact⟨⟨hk.1.1,⟨hk.2,hk.1.2.2⟩⟩,hk.1.2.1⟩|exact zN0)) hg hat);replace HB:=aM (hb);have dH:=aM (ho);clear HO_6 HO366;clear ho hb hg hat))
                   (try simp only[←hl5_2])
                   go_roundg k2
                   case measure=>have:=HK1.out;have:=HK2.out;omega
                   case rel=>exact⟨(cr),(dE),(wrap64 (O+1)),zz157,H',⟨zz159⟩,⟨zz111⟩,⟨(by(try simp only[hl5_1]);(try simp only[hl5_2]);(with_reducible repeat(first|apply Kd.N_alloc|apply Kd.N_drewN|apply Kd.N_drew));exact dH.out)⟩,⟨zz128⟩⟩
                  rw[if_neg cB] at H
                  exact absurd H (by simp)
                 rw[if_neg cA] at H
                 exact absurd H (by simp)
                rw[if_neg cz] at H
                exact absurd H (by simp)
               rw[if_neg cx] at H
               exact absurd H (by simp)
              rw[if_neg cw] at H
              exact absurd H (by simp)
             rw[if_neg cv] at H
             exact absurd H (by simp)
            rw[if_neg cu] at H
            exact absurd H (by simp)
           rw[if_neg ct] at H
           exact absurd H (by simp)
          rw[if_neg bZ] at H;have b9:=dF bZ;clear bZ;have H':=aM H;clear H;go_wp2
          (try simp only[←hl5_1,←hl5_2])
          go_roundg k2
          case measure=>have:=HK1.out;have:=HK2.out;omega
          case rel=>exact⟨(x5_2),(o),(wrap64 (I+1)),zz157,H',⟨zz159⟩,⟨zz111⟩,⟨(by(try simp only[hl5_1]);(try simp only[hl5_2]);(with_reducible repeat(first|apply Kd.N_alloc|apply Kd.N_drewN|apply Kd.N_drew));exact HO_6.out)⟩,⟨zz128⟩⟩
       rw[if_neg bP] at H;have bQ:=dF bP;clear bP;have H':=aM H;clear H;obtain⟨dw,cT,ey⟩:=Kd.N_slice HO_6.out;subst ey;go_wp2
       go_loopg [10] k1 (fun kq fc w'=>∃(o:List (List Int)) (aa:Int),fc= .int .i64 aa∧Aside0 (r30_Group.l2 kq o aa=some r)∧Aside0 (kq≤k1)∧Aside0 (Kd.N (Kd.slice 3 (Kd.int .i64)) 32 w' w.heap.size (fun k_=>(w.heap.size≤k_)) (.slice dw bK.length cT) o)∧Aside0 (Below w.heap.size w w'))
       case atStart=>exact⟨(bK),(1),zz157,H',⟨Nat.le_refl _⟩,⟨(by(try simp only[hl5_1]);(with_reducible repeat(first|apply Kd.N_alloc|apply Kd.N_drewN|apply Kd.N_drew));exact Kd.N_mono HO_6.out (fun _ hk=>by first|exact hk.1|exact zN0))⟩,⟨zz128⟩⟩
       case round =>
        clear H';(try clear c1);(try clear c2);(try clear p2);(try clear q2);(try clear c3);(try clear cg);(try clear ci);(try clear p3);(try clear q3);(try clear dW);(try clear d2);(try clear e5);(try clear c4);(try clear c5);(try clear cj);(try clear ck);(try clear c6);(try clear p6);(try clear c7);(try clear cl);(try clear c8);(try clear cm);(try clear p9);(try clear q9);(try clear dX);(try clear dV);(try clear bP);(try clear bQ);(try clear bZ);(try clear b9);(try clear ct);(try clear cK);(try clear cu);(try clear cL);(try clear cv);(try clear cM);(try clear cw);(try clear cN);(try clear cx);(try clear cO);(try clear eL);(try clear cy);(try clear eX);(try clear eJ);(try clear eM);(try clear eG);(try clear eO);(try clear cz);(try clear cP);(try clear eK);(try clear eN);(try clear eH);(try clear cA);(try clear cQ);(try clear cd);(try clear ce);(try clear eI);(try clear eE);(try clear cB);(try clear eY);(try clear ar);(try clear ag);(try clear U);(try clear Y);(try clear cp);(try clear bY);(try clear p2);(try clear p3);(try clear bq);(try clear aW);(try clear bj);(try clear bk);(try clear cd);(try clear p9);(try clear q3);(try clear br);(try clear q362);(try clear bo);(try clear bp);(try clear ce);(try clear q9);obtain⟨o,aa,rfl,HA,HK2,HO_6,HB⟩:=hrel;have hl6_2:=(Kd.N_reads' HO_6.out).1;rw[hl6_2] at HO_6
        (try simp only[hl6_2])
        cases gk with
        |zero=>exact absurd HA.out (by simp[r30_Group.l2])
        | succ k2=>
         have H:=HA.out;clear HA;simp only[r30_Group.l2] at H
         by_cases ca:aa<(o.length:Int)
         ·rw [if_pos ca] at H;have cR:=dT ca;clear ca;have H':=aM H;clear H;go_wp2
          go_loopg [11] k2 (fun kq fd w'=>∃(B:List (List Int)) (z:Int),fd= .int .i64 z∧Aside0 (r30_Group.l3 kq B aa z=some r)∧Aside0 (kq≤k2)∧Aside0 (Kd.N (Kd.slice 3 (Kd.int .i64)) 32 w' w.heap.size (fun k_=>(w.heap.size≤k_)) (.slice dw o.length cT) B)∧Aside0 (Below w.heap.size w w'))
          case atStart=>exact⟨(o),(aa),zz157,H',⟨Nat.le_refl _⟩,⟨(by(try simp only[hl5_1]);(try simp only[hl6_2]);(with_reducible repeat(first|apply Kd.N_alloc|apply Kd.N_drewN|apply Kd.N_drew));exact HO_6.out)⟩,⟨zz128⟩⟩
          case round =>
           clear H';(try clear c1);(try clear c2);(try clear p2);(try clear q2);(try clear c3);(try clear cg);(try clear ci);(try clear p3);(try clear q3);(try clear dW);(try clear d2);(try clear e5);(try clear c4);(try clear c5);(try clear cj);(try clear ck);(try clear c6);(try clear p6);(try clear c7);(try clear cl);(try clear c8);(try clear cm);(try clear p9);(try clear q9);(try clear dX);(try clear dV);(try clear bP);(try clear bQ);(try clear bZ);(try clear b9);(try clear ct);(try clear cK);(try clear cu);(try clear cL);(try clear cv);(try clear cM);(try clear cw);(try clear cN);(try clear cx);(try clear cO);(try clear eL);(try clear cy);(try clear eX);(try clear eJ);(try clear eM);(try clear eG);(try clear eO);(try clear cz);(try clear cP);(try clear eK);(try clear eN);(try clear eH);(try clear cA);(try clear cQ);(try clear cd);(try clear ce);(try clear eI);(try clear eE);(try clear cB);(try clear eY);(try clear ca);(try clear cR);(try clear ar);(try clear ag);(try clear U);(try clear Y);(try clear cp);(try clear bY);(try clear p2);(try clear p3);(try clear eJ);(try clear bq);(try clear eK);(try clear aW);(try clear bj);(try clear bk);(try clear cd);(try clear p6);(try clear p9);(try clear q2);(try clear eL);(try clear q3);(try clear eM);(try clear br);(try clear eN);(try clear q362);(try clear bo);(try clear bp);(try clear ce);(try clear q9);obtain⟨B,z,rfl,HA,HK3,HO_6,HB⟩:=hrel;have hl6_3:=(Kd.N_reads' HO_6.out).1;rw[hl6_3] at HO_6
           (try simp only[hl6_3])
           cases gk with
           |zero=>exact absurd HA.out (by simp[r30_Group.l3])
           | succ k3=>
            have H:=HA.out;clear HA;simp only[r30_Group.l3] at H
            by_cases cC:z>0
            ·rw [if_pos cC] at H;have dO:=dT cC;clear cC
             by_cases di:0≤z
             ·rw [if_pos di] at H;have eZ:=dT di;clear di
              by_cases dj:z<(B.length:Int)
              ·rw [if_pos dj] at H;have e0:=dT dj;clear dj;obtain⟨D,hji52⟩:∃j_:Int,(wrap64 (z-1))=j_:=⟨_,rfl⟩;replace H:(if 0≤(D) then(if(D)<(B.length:Int) then((r30_Less.f k3 (Zo B z) (Zo B (D))).bind fun cq=>(if cq=true then(r30_Group.l3 k3 ((B.set (z:Int).toNat (Zo B (D))).set ((D):Int).toNat (Zo B z)) aa D) else(r30_Group.l2 k3 B (wrap64 (aa+1))))) else(none)) else(none))=some r:=by first|(rw[hji52] at H;exact H)|(simp only[hji52] at H⊢;exact H)
               have eV:(IntKind.i64.wrap (z-1))=D:=(Zt _).trans hji52
               by_cases dk:0≤(D)
               ·rw [if_pos dk] at H;have e1:=dT dk;clear dk
                by_cases dl:(D)<(B.length:Int)
                ·rw [if_pos dl] at H;have e2:=dT dl;clear dl;replace H:=oB H;obtain⟨cq,du,H⟩:=H;replace H:(if cq=true then(r30_Group.l3 k3 ((B.set (z:Int).toNat (Zo B (D))).set ((D):Int).toNat (Zo B z)) aa D) else(r30_Group.l2 k3 B (wrap64 (aa+1))))=some r:=H;have ea:=aM du;clear du
                 by_cases dm:cq=true
                 ·subst dm;have H1:(r30_Group.l3 k3 ((B.set (z:Int).toNat (Zo B (D))).set ((D):Int).toNat (Zo B z)) aa D)=some r:=by rw[if_pos rfl] at H;exact H
                  clear H;have H:=H1;clear H1;obtain⟨dG,bF⟩:∃y_:List (List Int),y_=(B.set (z:Int).toNat (Zo B (D))):=⟨_,rfl⟩;replace H:(r30_Group.l3 k3 (dG.set ((D):Int).toNat (Zo B z)) aa D)=some r:=by first|(rw[bF];with_reducible exact H)|(have H2_:=(Option.bind_some _ _).symm.trans H;rw[bF];with_reducible exact H2_)|(have H2_:=(Option.bind_some _ _).symm.trans H;with_reducible exact H2_)|with_reducible exact H|(rw[bF];exact H)|exact H
                  have dM:=aM bF;clear bF;obtain⟨dh,bH⟩:∃y_:List (List Int),y_=(dG.set ((D):Int).toNat (Zo B z)):=⟨_,rfl⟩;replace H:(r30_Group.l3 k3 dh aa D)=some r:=by first|(rw[bH];with_reducible exact H)|(have H2_:=(Option.bind_some _ _).symm.trans H;rw[bH];with_reducible exact H2_)|(have H2_:=(Option.bind_some _ _).symm.trans H;with_reducible exact H2_)|with_reducible exact H|(rw[bH];exact H)|exact H
                  have dN:=aM bH;clear bH;have H':=aM H;clear H
                  try go_wp2
                  have ah:=aM (Kd.N_drew HO_6.out);have ai:=aM (Zj HB.out);clear HO_6;clear HB;have HO_6:=ah;have HB:=ai;clear ah ai;have bm:0≤(z:Int):=oD zz156;have q374:z<(B.length:Int):=oD zz156;obtain⟨aZ,a2,a7,cX,au,aU,aN⟩:=ZY (Kd.N_reads' HO_6.out).2.2 z bm q374
                  cases cX;obtain⟨dQ,bW,bT,bb⟩:=Kd.N_get HO_6.out [] z bm zz121;obtain⟨db,de,rfl,ax,ao⟩:=Kd.FK_slice_open bT;have ad:=bb 0 _ rfl;rw[Nat.add_zero,show((Kd.slice 3 (Kd.int .i64))).sz=1 from rfl,Nat.mul_one] at ad;replace ad:=oI (ad.symm.trans au);injection ad with hva_ hvn_ hvc_
                  rw[hva_] at ao;rw[hvc_] at ax;have a4:=aM (show Kd.V (Kd.int .i64) 3 _ w.heap.size _ _ (Zo B z) from Kd.V_mk ax ao);clear hva_ hvn_ hvc_ ao ax;clear bb bW;have HR374_0:=aM aN;have bw:=aM aU;clear aN aU;replace bm:=eq_true bm;replace q374:=eq_true q374;have bn:0≤((D):Int):=oD zz156;have q375:(D)<(B.length:Int):=oD zz156;obtain⟨b8,a3,a8,cY,av,aV,aQ⟩:=ZY (Kd.N_reads' HO_6.out).2.2 (D) bn q375;obtain rfl:aZ=b8:=(by injection cY);obtain⟨dR,bX,bU,bc⟩:=Kd.N_get HO_6.out [] (D) bn zz122;obtain⟨dc,df,rfl,ay,aq⟩:=Kd.FK_slice_open bU;have ae:=bc 0 _ rfl;rw[Nat.add_zero,show((Kd.slice 3 (Kd.int .i64))).sz=1 from rfl,Nat.mul_one] at ae;replace ae:=oI (ae.symm.trans av);injection ae with hva_ hvn_ hvc_
                  rw[hva_] at aq;rw[hvc_] at ay;have a5:=aM (show Kd.V (Kd.int .i64) 3 _ w.heap.size _ _ (Zo B (D)) from Kd.V_mk ay aq);clear hva_ hvn_ hvc_ aq ay;clear bc bX;have HR375_0:=aM aQ;have bx:=aM aV;clear aQ aV;replace bn:=eq_true bn;replace q375:=eq_true q375
                  refine start_ (n:=14) (S:=fun w'=>w'.cell? (aZ.add (z).toNat)=some (.slice a2 (Zo B z).length a7)∧w'.cell? (aZ.add ((D)).toNat)=some (.slice a3 (Zo B (D)).length a8)) (ds:= []) #[false,false,false,false,false,false,false,false,false,false,false,false,false,false] (by kernel_rfl) rfl rfl ⟨au,av⟩ (fun hHeld=> ?_);refine Z8 r30_Group.tab18 r30_Group.bits18 (fun m aY=> ?_);generalize wr.drew=eT at HO_6 HB a4 a5 HR374_0 HR375_0 au av hHeld⊢
                  refine ZC (i:=0) (N:=some 64) (v:= ?_) (a':= ?_) #[true,false,false,false,false,false,false,false,false,false,false,false,false,false] rfl rfl (Zy m.out (by kernel_rfl)) (fun _ _ _ h=>h) (Or.inl ⟨by rfl,?_⟩) ?_ ?_;rotate_left
                  ·intro w';go_simp;with_reducible rfl
                  rotate_left
                  ·simp only[Act.put,sA,sB,sC,Zt,Zu];rfl
                  refine ZC (i:=1) (N:=some 65) (v:= ?_) (a':= ?_) #[true,true,false,false,false,false,false,false,false,false,false,false,false,false] rfl rfl (Zy m.out (by kernel_rfl)) (fun _ _ _ h=>h) (Or.inl ⟨by rfl,?_⟩) ?_ ?_;rotate_left
                  ·intro w';go_simp;with_reducible rfl
                  rotate_left
                  ·simp only[Act.put,sA,sB,sC,Zt,Zu];rfl
                  refine ZC (i:=2) (N:=some 66) (v:= ?_) (a':= ?_) #[true,true,true,false,false,false,false,false,false,false,false,false,false,false] rfl rfl (Zy m.out (by kernel_rfl)) (fun _ _ _ h=>h) (Or.inl ⟨by rfl,?_⟩) ?_ ?_;rotate_left
                  ·intro w';go_simp;with_reducible rfl
                  rotate_left
                  ·simp only[Act.put,sA,sB,sC,Zt,Zu];rfl
                  refine ZC (i:=3) (N:=some 67) (v:= ?_) (a':= ?_) #[true,true,true,true,false,false,false,false,false,false,false,false,false,false] rfl rfl (Zy m.out (by kernel_rfl)) (fun _ _ _ h=>h) (Or.inl ⟨by rfl,?_⟩) ?_ ?_;rotate_left
                  ·intro w';go_simp;with_reducible rfl
                  rotate_left
                  ·simp only[Act.put,sA,sB,sC,Zt,Zu];rfl
                  refine ZC (i:=4) (N:=some 68) (v:= ?_) (a':= ?_) #[true,true,true,true,true,false,false,false,false,false,false,false,false,false] rfl rfl (Zy m.out (by kernel_rfl)) (fun _ _ _ h=>h) (Or.inl ⟨by rfl,?_⟩) ?_ ?_;rotate_left
                  ·intro w';go_simp;with_reducible rfl
                  rotate_left
                  ·simp only[Act.put,sA,sB,sC,Zt,Zu];rfl
                  refine ZC (i:=5) (N:=some 69) (v:= ?_) (a':= ?_) #[true,true,true,true,true,true,false,false,false,false,false,false,false,false] rfl rfl (Zy m.out (by kernel_rfl)) (fun _ _ _ h=>h) (Or.inl ⟨by rfl,?_⟩) ?_ ?_;rotate_left
                  ·intro w';go_simp;with_reducible rfl
                  rotate_left
                  ·simp only[Act.put,sA,sB,sC,Zt,Zu];rfl
                  refine ZC (i:=7) (N:=some 71) (v:= ?_) (a':= ?_) #[true,true,true,true,true,true,false,true,false,false,false,false,false,false] rfl rfl (Zy m.out (by kernel_rfl)) (fun _ _ _ h=>h) (Or.inl ⟨by rfl,?_⟩) ?_ ?_;rotate_left
                  ·intro w';go_simp;with_reducible rfl
                  rotate_left
                  ·simp only[Act.put,sA,sB,sC,Zt,Zu];rfl
                  refine ZC (i:=8) (N:=some 72) (v:= ?_) (a':= ?_) #[true,true,true,true,true,true,false,true,true,false,false,false,false,false] rfl rfl (Zy m.out (by kernel_rfl)) (fun _ _ _ h=>h) (Or.inl ⟨by rfl,?_⟩) ?_ ?_;rotate_left
                  ·intro w';go_simp;with_reducible rfl
                  rotate_left
                  ·simp only[Act.put,sA,sB,sC,Zt,Zu];rfl
                  refine ZC (i:=9) (N:=some 73) (v:= ?_) (a':= ?_) #[true,true,true,true,true,true,false,true,true,true,false,false,false,false] rfl rfl (Zy m.out (by kernel_rfl)) (fun _ _ _ h=>h) (Or.inl ⟨by rfl,?_⟩) ?_ ?_;rotate_left
                  ·intro w';go_simp;with_reducible rfl
                  rotate_left
                  ·simp only[Act.put,sA,sB,sC,Zt,Zu];rfl
                  refine ZC (i:=10) (N:=some 74) (v:= ?_) (a':= ?_) #[true,true,true,true,true,true,false,true,true,true,true,false,false,false] rfl rfl (Zy m.out (by kernel_rfl)) (fun _ _ _ h=>h) (Or.inl ⟨by rfl,?_⟩) ?_ ?_;rotate_left
                  ·intro w';go_simp;with_reducible rfl
                  rotate_left
                  ·simp only[Act.put,sA,sB,sC,Zt,Zu];rfl
                  refine take_ (i:=6) (N:=some 70) (v:= ?_) (a':= ?_) #[true,true,true,true,true,true,true,true,true,true,true,false,false,false] rfl rfl (ZX m.out aY.out (by kernel_rfl)) (fun _ _ _ h=>h) (Or.inl ⟨by rfl,?_⟩) hHeld ?_ ?_;rotate_left
                  ·rintro w' ⟨s0,s1⟩;go_simp;with_reducible rfl
                  rotate_left
                  ·simp only[Act.put,sA,sB,sC,Zt,Zu];rfl
                  refine take_ (i:=11) (N:=some 75) (v:= ?_) (a':= ?_) #[true,true,true,true,true,true,true,true,true,true,true,true,false,false] rfl rfl (ZX m.out aY.out (by kernel_rfl)) (fun _ _ _ h=>h) (Or.inl ⟨by rfl,?_⟩) hHeld ?_ ?_;rotate_left
                  ·rintro w' ⟨s0,s1⟩;go_simp;with_reducible rfl
                  rotate_left
                  ·simp only[Act.put,sA,sB,sC,Zt,Zu];rfl
                  refine one_ (i:=12) (N:=some 76) #[true,true,true,true,true,true,true,true,true,true,true,true,true,false] rfl rfl (Z2 m.out (by kernel_rfl)) (by decide) (fun K hK=> ?_)
                  refine Yk Tryz.func10 (by kernel_rfl) rfl #[.slice a2 (Zo B z).length a7,.slice a3 (Zo B (D)).length a8] (by rfl) rfl rfl zz93 ?_;with_reducible refine(r30_Less.calls k3 _ _ (Zo B z) _ _ (Zo B (D)) true _ ?sa ?sb ?sc ?sd ea.out).mono ?_
                  (case sa=>repeat(first|exact zz85|(with_reducible refine Kd.C_alloc ?_ _)|(with_reducible refine Kd.C_drewN ?_ _)|(with_reducible refine Kd.C_drew ?_)))
                  (case sb=>exact bw.out)
                  (case sc=>repeat(first|exact zz86|(with_reducible refine Kd.C_alloc ?_ _)|(with_reducible refine Kd.C_drewN ?_ _)|(with_reducible refine Kd.C_drew ?_)))
                  (case sd=>exact bx.out)
                  rintro e w' ⟨rfl,⟨nd,rfl⟩⟩
                  refine⟨_,rfl,?_⟩
                  refine hK.out _ _ ⟨hHeld.1,hHeld.2⟩ (fun hHeld=> ?_);clear hK K
                  refine ZV (a':= ?_) ?_ ?_;rotate_left
                  ·show Act.put _ (some 76) _=_
                   simp only[Act.put,sA,sB,sC,Zt,Zu];rfl
                  refine ZC (i:=13) (N:=some 77) (v:= ?_) (a':= ?_) #[true,true,true,true,true,true,true,true,true,true,true,true,true,true] rfl rfl (Zy m.out (by kernel_rfl)) (fun _ _ _ h=>h) (Or.inl ⟨by rfl,?_⟩) ?_ ?_;rotate_left
                  ·intro w';go_simp;with_reducible rfl
                  rotate_left
                  ·simp only[Act.put,sA,sB,sC,Zt,Zu];rfl
                  refine done_ (done_of m.out (by kernel_rfl)) ?_;have dY:0≤(z:Int):=oD zz156;have d0:z<(B.length:Int):=oD zz156;have dZ:0≤(D:Int):=oD zz156;have d1:D<(B.length:Int):=oD zz156;have hne_:z≠D:=by intro e_;have:=hji52;unfold wrap64 at this;omega
                  try go_wp2
                  have HOx:=aM (Kd.N_drew (Kd.N_drewN HO_6.out nd));have HBx:=aM (Zj (Zg HB.out nd));clear HO_6 HB a4 a5 HR374_0 HR375_0 hHeld m aY;obtain⟨b0,fk,dC,dD,eB,fi,ef⟩:=Kd.N_form HOx.out (by omega)
                  (first|cases dC|(injection dC with ea_ en_ ec_;(first|subst ea_|(injection ea_ with ea_;subst ea_));subst ec_;clear en_))
                  have dx:=aM dD;clear dD eB ef;obtain⟨d5,ej,d8,ek,en,eo,cb,ep,cZ,eh⟩:=N_swap1 HOx.out z D dY d0 dZ d1 hne_;have HQ:Aside0 (Kd.N (Kd.slice 3 (Kd.int .i64)) 32 ((((eT.drewN nd).drew).setCell ⟨b0,z.toNat,none⟩ (.slice d8 (Zo B D).length ek)).setCell ⟨b0,D.toNat,none⟩ (.slice d5 (Zo B z).length ej)) w.heap.size (fun k_=>(w.heap.size≤k_)) (.slice (some ⟨b0,0,none⟩) B.length cT) dh):=⟨(by rw[dN.out,dM.out];exact eh)⟩;clear eh HOx;replace dY:=eq_true dY;replace d0:=eq_true d0;replace dZ:=eq_true dZ;replace d1:=eq_true d1
                  refine start_ (n:=18) (S:=fun w'=>w'.cell? ⟨b0,(D).toNat,none⟩=some (.slice d8 (Zo B D).length ek)∧w'.cell? ⟨b0,(z).toNat,none⟩=some (.slice d5 (Zo B z).length ej)) (ds:= [15,17]) #[false,false,false,false,false,false,false,false,false,false,false,false,false,false,false,false,false,false] (by kernel_rfl) rfl rfl ⟨eo,en⟩ (fun hHeld=> ?_);refine Z8 r30_Group.tab20 r30_Group.bits20 (fun m aY=> ?_);generalize (eT.drewN nd).drew=ft at HBx HQ en eo cb ep cZ hHeld⊢
                  refine ZC (i:=0) (N:=some 80) (v:= ?_) (a':= ?_) #[true,false,false,false,false,false,false,false,false,false,false,false,false,false,false,false,false,false] rfl rfl (Zy m.out (by kernel_rfl)) (fun _ _ _ h=>h) (Or.inl ⟨by rfl,?_⟩) ?_ ?_;rotate_left
                  ·intro w';go_simp;with_reducible rfl
                  rotate_left
                  ·simp only[Act.put,sA,sB,sC,Zt,Zu];rfl
                  refine ZC (i:=1) (N:=some 81) (v:= ?_) (a':= ?_) #[true,true,false,false,false,false,false,false,false,false,false,false,false,false,false,false,false,false] rfl rfl (Zy m.out (by kernel_rfl)) (fun _ _ _ h=>h) (Or.inl ⟨by rfl,?_⟩) ?_ ?_;rotate_left
                  ·intro w';go_simp;with_reducible rfl
                  rotate_left
                  ·simp only[Act.put,sA,sB,sC,Zt,Zu];rfl
                  refine ZC (i:=2) (N:=some 82) (v:= ?_) (a':= ?_) #[true,true,true,false,false,false,false,false,false,false,false,false,false,false,false,false,false,false] rfl rfl (Zy m.out (by kernel_rfl)) (fun _ _ _ h=>h) (Or.inl ⟨by rfl,?_⟩) ?_ ?_;rotate_left
                  ·intro w';go_simp;with_reducible rfl
                  rotate_left
                  ·simp only[Act.put,sA,sB,sC,Zt,Zu];rfl
                  refine ZC (i:=3) (N:=some 83) (v:= ?_) (a':= ?_) #[true,true,true,true,false,false,false,false,false,false,false,false,false,false,false,false,false,false] rfl rfl (Zy m.out (by kernel_rfl)) (fun _ _ _ h=>h) (Or.inl ⟨by rfl,?_⟩) ?_ ?_;rotate_left
                  ·intro w';go_simp;with_reducible rfl
                  rotate_left
                  ·simp only[Act.put,sA,sB,sC,Zt,Zu];rfl
                  refine ZC (i:=4) (N:=some 84) (v:= ?_) (a':= ?_) #[true,true,true,true,true,false,false,false,false,false,false,false,false,false,false,false,false,false] rfl rfl (Zy m.out (by kernel_rfl)) (fun _ _ _ h=>h) (Or.inl ⟨by rfl,?_⟩) ?_ ?_;rotate_left
                  ·intro w';go_simp;with_reducible rfl
                  rotate_left
                  ·simp only[Act.put,sA,sB,sC,Zt,Zu];rfl
                  refine ZC (i:=5) (N:=some 85) (v:= ?_) (a':= ?_) #[true,true,true,true,true,true,false,false,false,false,false,false,false,false,false,false,false,false] rfl rfl (Zy m.out (by kernel_rfl)) (fun _ _ _ h=>h) (Or.inl ⟨by rfl,?_⟩) ?_ ?_;rotate_left
                  ·intro w';go_simp;with_reducible rfl
                  rotate_left
                  ·simp only[Act.put,sA,sB,sC,Zt,Zu];rfl
                  refine ZC (i:=6) (N:=some 86) (v:= ?_) (a':= ?_) #[true,true,true,true,true,true,true,false,false,false,false,false,false,false,false,false,false,false] rfl rfl (Zy m.out (by kernel_rfl)) (fun _ _ _ h=>h) (Or.inl ⟨by rfl,?_⟩) ?_ ?_;rotate_left
                  ·intro w';go_simp;with_reducible rfl
                  rotate_left
                  ·simp only[Act.put,sA,sB,sC,Zt,Zu];rfl
                  refine ZC (i:=7) (N:=some 87) (v:= ?_) (a':= ?_) #[true,true,true,true,true,true,true,true,false,false,false,false,false,false,false,false,false,false] rfl rfl (Zy m.out (by kernel_rfl)) (fun _ _ _ h=>h) (Or.inl ⟨by rfl,?_⟩) ?_ ?_;rotate_left
                  ·intro w';go_simp;with_reducible rfl
                  rotate_left
                  ·simp only[Act.put,sA,sB,sC,Zt,Zu];rfl
                  refine ZC (i:=8) (N:=some 88) (v:= ?_) (a':= ?_) #[true,true,true,true,true,true,true,true,true,false,false,false,false,false,false,false,false,false] rfl rfl (Zy m.out (by kernel_rfl)) (fun _ _ _ h=>h) (Or.inl ⟨by rfl,?_⟩) ?_ ?_;rotate_left
                  ·intro w';go_simp;with_reducible rfl
                  rotate_left
                  ·simp only[Act.put,sA,sB,sC,Zt,Zu];rfl
                  refine ZC (i:=10) (N:=some 90) (v:= ?_) (a':= ?_) #[true,true,true,true,true,true,true,true,true,false,true,false,false,false,false,false,false,false] rfl rfl (Zy m.out (by kernel_rfl)) (fun _ _ _ h=>h) (Or.inl ⟨by rfl,?_⟩) ?_ ?_;rotate_left
                  ·intro w';go_simp;with_reducible rfl
                  rotate_left
                  ·simp only[Act.put,sA,sB,sC,Zt,Zu];rfl
                  refine ZC (i:=11) (N:=some 91) (v:= ?_) (a':= ?_) #[true,true,true,true,true,true,true,true,true,false,true,true,false,false,false,false,false,false] rfl rfl (Zy m.out (by kernel_rfl)) (fun _ _ _ h=>h) (Or.inl ⟨by rfl,?_⟩) ?_ ?_;rotate_left
                  ·intro w';go_simp;with_reducible rfl
                  rotate_left
                  ·simp only[Act.put,sA,sB,sC,Zt,Zu];rfl
                  refine ZC (i:=12) (N:=some 92) (v:= ?_) (a':= ?_) #[true,true,true,true,true,true,true,true,true,false,true,true,true,false,false,false,false,false] rfl rfl (Zy m.out (by kernel_rfl)) (fun _ _ _ h=>h) (Or.inl ⟨by rfl,?_⟩) ?_ ?_;rotate_left
                  ·intro w';go_simp;with_reducible rfl
                  rotate_left
                  ·simp only[Act.put,sA,sB,sC,Zt,Zu];rfl
                  refine take_ (i:=9) (N:=some 89) (v:= ?_) (a':= ?_) #[true,true,true,true,true,true,true,true,true,true,true,true,true,false,false,false,false,false] rfl rfl (ZX m.out aY.out (by kernel_rfl)) (fun _ _ _ h=>h) (Or.inl ⟨by rfl,?_⟩) hHeld ?_ ?_;rotate_left
                  ·rintro w' ⟨s0,s1⟩;go_simp;with_reducible rfl
                  rotate_left
                  ·simp only[Act.put,sA,sB,sC,Zt,Zu];rfl
                  refine take_ (i:=13) (N:=some 93) (v:= ?_) (a':= ?_) #[true,true,true,true,true,true,true,true,true,true,true,true,true,true,false,false,false,false] rfl rfl (ZX m.out aY.out (by kernel_rfl)) (fun _ _ _ h=>h) (Or.inl ⟨by rfl,?_⟩) hHeld ?_ ?_;rotate_left
                  ·rintro w' ⟨s0,s1⟩;go_simp;with_reducible rfl
                  rotate_left
                  ·simp only[Act.put,sA,sB,sC,Zt,Zu];rfl
                  refine ZC (i:=14) (N:=some 94) (v:= ?_) (a':= ?_) #[true,true,true,true,true,true,true,true,true,true,true,true,true,true,true,false,false,false] rfl rfl (Zy m.out (by kernel_rfl)) (fun _ _ _ h=>h) (Or.inl ⟨by rfl,?_⟩) ?_ ?_;rotate_left
                  ·intro w';go_simp;with_reducible rfl
                  rotate_left
                  ·simp only[Act.put,sA,sB,sC,Zt,Zu];rfl
                  refine last_ (i:=15) (N:=none) #[true,true,true,true,true,true,true,true,true,true,true,true,true,true,true,true,false,false] rfl rfl (Z2 m.out (by kernel_rfl)) (by decide) (fun K hK=> ?_)
                  refine skip_ (w1:= ?_) (by rfl) rfl ?_ ?_;rotate_left
                  ·go_simp;rfl
                  refine hK.out _ _ ?_;clear hK K
                  refine ZC (i:=16) (N:=some 95) (v:= ?_) (a':= ?_) #[true,true,true,true,true,true,true,true,true,true,true,true,true,true,true,true,true,false] rfl rfl (Zy m.out (by kernel_rfl)) (fun _ _ _ h=>h) (Or.inl ⟨by rfl,?_⟩) ?_ ?_;rotate_left
                  ·intro w';go_simp;with_reducible rfl
                  rotate_left
                  ·simp only[Act.put,sA,sB,sC,Zt,Zu];rfl
                  refine last_ (i:=17) (N:=none) #[true,true,true,true,true,true,true,true,true,true,true,true,true,true,true,true,true,true] rfl rfl (Z2 m.out (by kernel_rfl)) (by decide) (fun K hK=> ?_)
                  refine skip_ (w1:= ?_) (by rfl) rfl ?_ ?_;rotate_left
                  ·go_simp;rfl
                  refine hK.out _ _ ?_;clear hK K
                  refine done_ (done_of m.out (by kernel_rfl)) ?_
                  try go_wp2
                  (try simp only[←hl6_3])
                  go_roundg k3
                  case measure=>have:=HK1.out;have:=HK2.out;have:=HK3.out;omega
                  case rel=>exact⟨(dh),(D),(by first|rfl|(simp;done)|(simp only[←hji52]<;>(first|rfl|simp))|(simp[*];done)),H',⟨zz155⟩,⟨(by(try simp only[hl5_1]);(try simp only[hl6_2]);(try simp only[hl6_3]);exact HQ.out)⟩,⟨Zi (Zi HBx.out dx.out) dx.out⟩⟩
                 replace dm:=Bool.eq_false_iff.mpr dm;subst dm;have H1:(r30_Group.l2 k3 B (wrap64 (aa+1)))=some r:=by rw[if_neg (show¬(false=true) by decide)] at H;exact H
                 clear H;have H:=H1;clear H1;have H':=aM H;clear H
                 try go_wp2
                 have ah:=aM (Kd.N_drew HO_6.out);have ai:=aM (Zj HB.out);clear HO_6;clear HB;have HO_6:=ah;have HB:=ai;clear ah ai;have bm:0≤(z:Int):=oD zz156;have q374:z<(B.length:Int):=oD zz156;obtain⟨aZ,a2,a7,cX,au,aU,aN⟩:=ZY (Kd.N_reads' HO_6.out).2.2 z bm q374
                 cases cX;obtain⟨dQ,bW,bT,bb⟩:=Kd.N_get HO_6.out [] z bm zz121;obtain⟨db,de,rfl,ax,ao⟩:=Kd.FK_slice_open bT;have ad:=bb 0 _ rfl;rw[Nat.add_zero,show((Kd.slice 3 (Kd.int .i64))).sz=1 from rfl,Nat.mul_one] at ad;replace ad:=oI (ad.symm.trans au);injection ad with hva_ hvn_ hvc_
                 rw[hva_] at ao;rw[hvc_] at ax;have a4:=aM (show Kd.V (Kd.int .i64) 3 _ w.heap.size _ _ (Zo B z) from Kd.V_mk ax ao);clear hva_ hvn_ hvc_ ao ax;clear bb bW;have HR374_0:=aM aN;have bw:=aM aU;clear aN aU;replace bm:=eq_true bm;replace q374:=eq_true q374;have bn:0≤((D):Int):=oD zz156;have q375:(D)<(B.length:Int):=oD zz156;obtain⟨b8,a3,a8,cY,av,aV,aQ⟩:=ZY (Kd.N_reads' HO_6.out).2.2 (D) bn q375;obtain rfl:aZ=b8:=(by injection cY);obtain⟨dR,bX,bU,bc⟩:=Kd.N_get HO_6.out [] (D) bn zz122;obtain⟨dc,df,rfl,ay,aq⟩:=Kd.FK_slice_open bU;have ae:=bc 0 _ rfl;rw[Nat.add_zero,show((Kd.slice 3 (Kd.int .i64))).sz=1 from rfl,Nat.mul_one] at ae;replace ae:=oI (ae.symm.trans av);injection ae with hva_ hvn_ hvc_
                 rw[hva_] at aq;rw[hvc_] at ay;have a5:=aM (show Kd.V (Kd.int .i64) 3 _ w.heap.size _ _ (Zo B (D)) from Kd.V_mk ay aq);clear hva_ hvn_ hvc_ aq ay;clear bc bX;have HR375_0:=aM aQ;have bx:=aM aV;clear aQ aV;replace bn:=eq_true bn;replace q375:=eq_true q375
                 refine start_ (n:=14) (S:=fun w'=>w'.cell? (aZ.add (z).toNat)=some (.slice a2 (Zo B z).length a7)∧w'.cell? (aZ.add ((D)).toNat)=some (.slice a3 (Zo B (D)).length a8)) (ds:= []) #[false,false,false,false,false,false,false,false,false,false,false,false,false,false] (by kernel_rfl) rfl rfl ⟨au,av⟩ (fun hHeld=> ?_);refine Z8 r30_Group.tab18 r30_Group.bits18 (fun m aY=> ?_);generalize wr.drew=w64 at HO_6 HB a4 a5 HR374_0 HR375_0 au av hHeld⊢
                 refine ZC (i:=0) (N:=some 64) (v:= ?_) (a':= ?_) #[true,false,false,false,false,false,false,false,false,false,false,false,false,false] rfl rfl (Zy m.out (by kernel_rfl)) (fun _ _ _ h=>h) (Or.inl ⟨by rfl,?_⟩) ?_ ?_;rotate_left
                 ·intro w';go_simp;with_reducible rfl
                 rotate_left
                 ·simp only[Act.put,sA,sB,sC,Zt,Zu];rfl
                 refine ZC (i:=1) (N:=some 65) (v:= ?_) (a':= ?_) #[true,true,false,false,false,false,false,false,false,false,false,false,false,false] rfl rfl (Zy m.out (by kernel_rfl)) (fun _ _ _ h=>h) (Or.inl ⟨by rfl,?_⟩) ?_ ?_;rotate_left
                 ·intro w';go_simp;with_reducible rfl
                 rotate_left
                 ·simp only[Act.put,sA,sB,sC,Zt,Zu];rfl
                 refine ZC (i:=2) (N:=some 66) (v:= ?_) (a':= ?_) #[true,true,true,false,false,false,false,false,false,false,false,false,false,false] rfl rfl (Zy m.out (by kernel_rfl)) (fun _ _ _ h=>h) (Or.inl ⟨by rfl,?_⟩) ?_ ?_;rotate_left
                 ·intro w';go_simp;with_reducible rfl
                 rotate_left
                 ·simp only[Act.put,sA,sB,sC,Zt,Zu];rfl
                 refine ZC (i:=3) (N:=some 67) (v:= ?_) (a':= ?_) #[true,true,true,true,false,false,false,false,false,false,false,false,false,false] rfl rfl (Zy m.out (by kernel_rfl)) (fun _ _ _ h=>h) (Or.inl ⟨by rfl,?_⟩) ?_ ?_;rotate_left
                 ·intro w';go_simp;with_reducible rfl
                 rotate_left
                 ·simp only[Act.put,sA,sB,sC,Zt,Zu];rfl
                 refine ZC (i:=4) (N:=some 68) (v:= ?_) (a':= ?_) #[true,true,true,true,true,false,false,false,false,false,false,false,false,false] rfl rfl (Zy m.out (by kernel_rfl)) (fun _ _ _ h=>h) (Or.inl ⟨by rfl,?_⟩) ?_ ?_;rotate_left
                 ·intro w';go_simp;with_reducible rfl
                 rotate_left
                 ·simp only[Act.put,sA,sB,sC,Zt,Zu];rfl
                 refine ZC (i:=5) (N:=some 69) (v:= ?_) (a':= ?_) #[true,true,true,true,true,true,false,false,false,false,false,false,false,false] rfl rfl (Zy m.out (by kernel_rfl)) (fun _ _ _ h=>h) (Or.inl ⟨by rfl,?_⟩) ?_ ?_;rotate_left
                 ·intro w';go_simp;with_reducible rfl
                 rotate_left
                 ·simp only[Act.put,sA,sB,sC,Zt,Zu];rfl
                 refine ZC (i:=7) (N:=some 71) (v:= ?_) (a':= ?_) #[true,true,true,true,true,true,false,true,false,false,false,false,false,false] rfl rfl (Zy m.out (by kernel_rfl)) (fun _ _ _ h=>h) (Or.inl ⟨by rfl,?_⟩) ?_ ?_;rotate_left
                 ·intro w';go_simp;with_reducible rfl
                 rotate_left
                 ·simp only[Act.put,sA,sB,sC,Zt,Zu];rfl
                 refine ZC (i:=8) (N:=some 72) (v:= ?_) (a':= ?_) #[true,true,true,true,true,true,false,true,true,false,false,false,false,false] rfl rfl (Zy m.out (by kernel_rfl)) (fun _ _ _ h=>h) (Or.inl ⟨by rfl,?_⟩) ?_ ?_;rotate_left
                 ·intro w';go_simp;with_reducible rfl
                 rotate_left
                 ·simp only[Act.put,sA,sB,sC,Zt,Zu];rfl
                 refine ZC (i:=9) (N:=some 73) (v:= ?_) (a':= ?_) #[true,true,true,true,true,true,false,true,true,true,false,false,false,false] rfl rfl (Zy m.out (by kernel_rfl)) (fun _ _ _ h=>h) (Or.inl ⟨by rfl,?_⟩) ?_ ?_;rotate_left
                 ·intro w';go_simp;with_reducible rfl
                 rotate_left
                 ·simp only[Act.put,sA,sB,sC,Zt,Zu];rfl
                 refine ZC (i:=10) (N:=some 74) (v:= ?_) (a':= ?_) #[true,true,true,true,true,true,false,true,true,true,true,false,false,false] rfl rfl (Zy m.out (by kernel_rfl)) (fun _ _ _ h=>h) (Or.inl ⟨by rfl,?_⟩) ?_ ?_;rotate_left
                 ·intro w';go_simp;with_reducible rfl
                 rotate_left
                 ·simp only[Act.put,sA,sB,sC,Zt,Zu];rfl
                 refine take_ (i:=6) (N:=some 70) (v:= ?_) (a':= ?_) #[true,true,true,true,true,true,true,true,true,true,true,false,false,false] rfl rfl (ZX m.out aY.out (by kernel_rfl)) (fun _ _ _ h=>h) (Or.inl ⟨by rfl,?_⟩) hHeld ?_ ?_;rotate_left
                 ·rintro w' ⟨s0,s1⟩;go_simp;with_reducible rfl
                 rotate_left
                 ·simp only[Act.put,sA,sB,sC,Zt,Zu];rfl
                 refine take_ (i:=11) (N:=some 75) (v:= ?_) (a':= ?_) #[true,true,true,true,true,true,true,true,true,true,true,true,false,false] rfl rfl (ZX m.out aY.out (by kernel_rfl)) (fun _ _ _ h=>h) (Or.inl ⟨by rfl,?_⟩) hHeld ?_ ?_;rotate_left
                 ·rintro w' ⟨s0,s1⟩;go_simp;with_reducible rfl
                 rotate_left
                 ·simp only[Act.put,sA,sB,sC,Zt,Zu];rfl
                 refine one_ (i:=12) (N:=some 76) #[true,true,true,true,true,true,true,true,true,true,true,true,true,false] rfl rfl (Z2 m.out (by kernel_rfl)) (by decide) (fun K hK=> ?_)
                 refine Yk Tryz.func10 (by kernel_rfl) rfl #[.slice a2 (Zo B z).length a7,.slice a3 (Zo B (D)).length a8] (by rfl) rfl rfl zz93 ?_;with_reducible refine(r30_Less.calls k3 _ _ (Zo B z) _ _ (Zo B (D)) false _ ?sa ?sb ?sc ?sd ea.out).mono ?_
                 (case sa=>repeat(first|exact zz85|(with_reducible refine Kd.C_alloc ?_ _)|(with_reducible refine Kd.C_drewN ?_ _)|(with_reducible refine Kd.C_drew ?_)))
                 (case sb=>exact bw.out)
                 (case sc=>repeat(first|exact zz86|(with_reducible refine Kd.C_alloc ?_ _)|(with_reducible refine Kd.C_drewN ?_ _)|(with_reducible refine Kd.C_drew ?_)))
                 (case sd=>exact bx.out)
                 rintro e w' ⟨rfl,⟨nd,rfl⟩⟩
                 refine⟨_,rfl,?_⟩
                 refine hK.out _ _ ⟨hHeld.1,hHeld.2⟩ (fun hHeld=> ?_);clear hK K
                 refine ZV (a':= ?_) ?_ ?_;rotate_left
                 ·show Act.put _ (some 76) _=_
                  simp only[Act.put,sA,sB,sC,Zt,Zu];rfl
                 refine ZC (i:=13) (N:=some 77) (v:= ?_) (a':= ?_) #[true,true,true,true,true,true,true,true,true,true,true,true,true,true] rfl rfl (Zy m.out (by kernel_rfl)) (fun _ _ _ h=>h) (Or.inl ⟨by rfl,?_⟩) ?_ ?_;rotate_left
                 ·intro w';go_simp;with_reducible rfl
                 rotate_left
                 ·simp only[Act.put,sA,sB,sC,Zt,Zu];rfl
                 refine done_ (done_of m.out (by kernel_rfl)) ?_
                 try go_wp2
                 (try simp only[←hl6_2,←hl6_3])
                 go_roundg k3
                 case measure=>have:=HK1.out;have:=HK2.out;have:=HK3.out;omega
                 case rel=>exact⟨(B),(wrap64 (aa+1)),zz157,H',⟨zz155⟩,⟨zz91⟩,⟨zz128⟩⟩
                rw[if_neg dl] at H
                exact absurd H (by simp)
               rw[if_neg dk] at H
               exact absurd H (by simp)
              rw[if_neg dj] at H
              exact absurd H (by simp)
             rw[if_neg di] at H
             exact absurd H (by simp)
            rw[if_neg cC] at H;have dO:=dF cC;clear cC;have H':=aM H;clear H
            try go_wp2
            have ah:=aM (Kd.N_drew HO_6.out);have ai:=aM (Zj HB.out);clear HO_6;clear HB;have HO_6:=ah;have HB:=ai;clear ah ai
            refine start_ (n:=14) (S:=fun w'=>True) (ds:= []) #[false,false,false,false,false,false,false,false,false,false,false,false,false,false] (by kernel_rfl) rfl rfl trivial (fun hHeld=> ?_);refine Z8 r30_Group.tab18 r30_Group.bits18 (fun m aY=> ?_);generalize wr.drew=fy at HO_6 HB hHeld⊢
            refine ZC (i:=0) (N:=some 64) (v:= ?_) (a':= ?_) #[true,false,false,false,false,false,false,false,false,false,false,false,false,false] rfl rfl (Zy m.out (by kernel_rfl)) (fun _ _ _ h=>h) (Or.inl ⟨by rfl,?_⟩) ?_ ?_;rotate_left
            ·intro w';go_simp;with_reducible rfl
            rotate_left
            ·simp only[Act.put,sA,sB,sC,Zt,Zu];rfl
            refine ZC (i:=1) (N:=some 65) (v:= ?_) (a':= ?_) #[true,true,false,false,false,false,false,false,false,false,false,false,false,false] rfl rfl (Zy m.out (by kernel_rfl)) (fun _ _ _ h=>h) (Or.inl ⟨by rfl,?_⟩) ?_ ?_;rotate_left
            ·intro w';go_simp;with_reducible rfl
            rotate_left
            ·simp only[Act.put,sA,sB,sC,Zt,Zu];rfl
            refine ZC (i:=2) (N:=some 66) (v:= ?_) (a':= ?_) #[true,true,true,false,false,false,false,false,false,false,false,false,false,false] rfl rfl (Zy m.out (by kernel_rfl)) (fun _ _ _ h=>h) (Or.inl ⟨by rfl,?_⟩) ?_ ?_;rotate_left
            ·intro w';go_simp;with_reducible rfl
            rotate_left
            ·simp only[Act.put,sA,sB,sC,Zt,Zu];rfl
            refine ZC (i:=3) (N:=some 67) (v:=undef) (a':= ?_) #[true,true,true,true,false,false,false,false,false,false,false,false,false,false] rfl rfl (Zy m.out (by kernel_rfl)) (fun _ _ _ h=>h) (Or.inr ⟨by rfl,rfl⟩) ?_ ?_;rotate_left
            ·simp only[Act.put,sA,sB,sC,Zt,Zu];rfl
            refine ZC (i:=4) (N:=some 68) (v:=undef) (a':= ?_) #[true,true,true,true,true,false,false,false,false,false,false,false,false,false] rfl rfl (Zy m.out (by kernel_rfl)) (fun _ _ _ h=>h) (Or.inr ⟨by rfl,rfl⟩) ?_ ?_;rotate_left
            ·simp only[Act.put,sA,sB,sC,Zt,Zu];rfl
            refine ZC (i:=5) (N:=some 69) (v:=undef) (a':= ?_) #[true,true,true,true,true,true,false,false,false,false,false,false,false,false] rfl rfl (Zy m.out (by kernel_rfl)) (fun _ _ _ h=>h) (Or.inr ⟨by rfl,rfl⟩) ?_ ?_;rotate_left
            ·simp only[Act.put,sA,sB,sC,Zt,Zu];rfl
            refine ZC (i:=6) (N:=some 70) (v:=undef) (a':= ?_) #[true,true,true,true,true,true,true,false,false,false,false,false,false,false] rfl rfl (Zy m.out (by kernel_rfl)) (fun _ _ _ h=>h) (Or.inr ⟨by rfl,rfl⟩) ?_ ?_;rotate_left
            ·simp only[Act.put,sA,sB,sC,Zt,Zu];rfl
            refine ZC (i:=7) (N:=some 71) (v:=undef) (a':= ?_) #[true,true,true,true,true,true,true,true,false,false,false,false,false,false] rfl rfl (Zy m.out (by kernel_rfl)) (fun _ _ _ h=>h) (Or.inr ⟨by rfl,rfl⟩) ?_ ?_;rotate_left
            ·simp only[Act.put,sA,sB,sC,Zt,Zu];rfl
            refine ZC (i:=8) (N:=some 72) (v:=undef) (a':= ?_) #[true,true,true,true,true,true,true,true,true,false,false,false,false,false] rfl rfl (Zy m.out (by kernel_rfl)) (fun _ _ _ h=>h) (Or.inr ⟨by rfl,rfl⟩) ?_ ?_;rotate_left
            ·simp only[Act.put,sA,sB,sC,Zt,Zu];rfl
            refine ZC (i:=9) (N:=some 73) (v:=undef) (a':= ?_) #[true,true,true,true,true,true,true,true,true,true,false,false,false,false] rfl rfl (Zy m.out (by kernel_rfl)) (fun _ _ _ h=>h) (Or.inr ⟨by rfl,rfl⟩) ?_ ?_;rotate_left
            ·simp only[Act.put,sA,sB,sC,Zt,Zu];rfl
            refine ZC (i:=10) (N:=some 74) (v:=undef) (a':= ?_) #[true,true,true,true,true,true,true,true,true,true,true,false,false,false] rfl rfl (Zy m.out (by kernel_rfl)) (fun _ _ _ h=>h) (Or.inr ⟨by rfl,rfl⟩) ?_ ?_;rotate_left
            ·simp only[Act.put,sA,sB,sC,Zt,Zu];rfl
            refine ZC (i:=11) (N:=some 75) (v:=undef) (a':= ?_) #[true,true,true,true,true,true,true,true,true,true,true,true,false,false] rfl rfl (Zy m.out (by kernel_rfl)) (fun _ _ _ h=>h) (Or.inr ⟨by rfl,rfl⟩) ?_ ?_;rotate_left
            ·simp only[Act.put,sA,sB,sC,Zt,Zu];rfl
            refine ZC (i:=12) (N:=some 76) (v:=undef) (a':= ?_) #[true,true,true,true,true,true,true,true,true,true,true,true,true,false] rfl rfl (Zy m.out (by kernel_rfl)) (fun _ _ _ h=>h) (Or.inr ⟨by rfl,rfl⟩) ?_ ?_;rotate_left
            ·simp only[Act.put,sA,sB,sC,Zt,Zu];rfl
            refine ZC (i:=13) (N:=some 77) (v:= ?_) (a':= ?_) #[true,true,true,true,true,true,true,true,true,true,true,true,true,true] rfl rfl (Zy m.out (by kernel_rfl)) (fun _ _ _ h=>h) (Or.inl ⟨by rfl,?_⟩) ?_ ?_;rotate_left
            ·intro w';go_simp;with_reducible rfl
            rotate_left
            ·simp only[Act.put,sA,sB,sC,Zt,Zu];rfl
            refine done_ (done_of m.out (by kernel_rfl)) ?_
            try go_wp2
            (try simp only[←hl6_2,←hl6_3])
            go_roundg k3
            case measure=>have:=HK1.out;have:=HK2.out;have:=HK3.out;omega
            case rel=>exact⟨(B),(wrap64 (aa+1)),zz157,H',⟨zz155⟩,⟨zz91⟩,⟨zz128⟩⟩
         rw[if_neg ca] at H;have cR:=dF ca;clear ca;obtain rfl:=oI H;go_wp2;go_ret
         exact⟨_,by first|rfl|(simp[Zm,Zl]<;>rfl)|(simp[*,Zm,Zl]<;>rfl),by(with_reducible repeat(first|apply Kd.N_alloc|apply Kd.N_drewN|apply Kd.N_drew));exact HO_6.out,by repeat(first|(with_reducible first|exact HB.out|apply Zh|apply Zg|apply Zj)|exact HB.out)⟩
    rw[if_neg c8] at H
    exact absurd H (by simp)
   rw[if_neg c7] at H
   exact absurd H (by simp)
  rw[if_neg c5] at H
  exact absurd H (by simp)
 rw[if_neg c3] at H
 exact absurd H (by simp)
def r30_fixes.l0:Nat→List Int→Int→Int→Option (Bool)
 |0,_,_,_=>none
 |k+1,x0,x1,x5=>if x5<x1 then(if 0≤x5 then(if x5<(x0.length:Int) then(if(rd x0 x5)=x5 then(r30_fixes.l0 k x0 x1 (wrap64 (x5+1))) else(some false)) else(none)) else(none)) else(some true)
def r30_fixes.f (k:Nat) (l0:List Int) (a1:Int):Option (Bool):=r30_fixes.l0 k l0 a1 0
theorem r30_fixes.calls (k:Nat) (A0:Option Addr) (c0:Nat) (l0:List Int) (a1:Int) (r:Bool) (w:World) (X:Kd.C (Kd.int .i64) w A0 l0.length l0) (U:l0.length≤c0) (h:r30_fixes.f k l0 a1=some r):
    Calls Tryz.prog 87 #[.slice A0 l0.length c0,.int .i64 a1] w fun e w'=>e= .returned (.bool r)∧Drawn0 w w':=by
 have J:=aM X
 have aa:=aM U
 clear X U
 have H:(r30_fixes.l0 k l0 a1 0)=some r:=h
 clear h
 have H':=aM H
 clear H
 go_enter Tryz.func87,Tryz.ntmps87
 go_wp2
 go_loopg [5] k (fun kq v5 w'=>∃(m:Int),v5= .int .i64 m∧Aside0 (r30_fixes.l0 kq l0 a1 m=some r)∧Aside0 (kq≤k)∧Drawn0 w w')
 case atStart=>exact⟨(0),zz157,H',⟨Nat.le_refl _⟩,by repeat(first|exact Drawn0.refl _|apply Drawn0.step)⟩
 case round =>
  clear H';(try clear p2);obtain⟨m,rfl,HA,HK1,⟨m1,rfl⟩⟩:=hrel
  cases gk with
  |zero=>exact absurd HA.out (by simp[r30_fixes.l0])
  | succ k1=>
   have H:=HA.out;clear HA;simp only[r30_fixes.l0] at H
   by_cases c3:m<a1
   ·rw [if_pos c3] at H;have L:=dT c3;clear c3
    by_cases c4:0≤m
    ·rw [if_pos c4] at H;have Y:=dT c4;clear c4
     by_cases c5:m<(l0.length:Int)
     ·rw [if_pos c5] at H;have Z:=dT c5;clear c5
      by_cases c6:(rd l0 m)=m
      ·rw[if_pos c6] at H;have O:=beq_iff_eq.mpr c6;have P:=bne_eq_false_iff_eq.mpr c6;clear c6;have H':=aM H;clear H;have o:0≤(m:Int):=oD zz156;have z:m<(l0.length:Int):=oD zz156;obtain⟨I,B,D⟩:=Kd.at_int J.out m o z
       cases B;replace o:=eq_true o;replace z:=eq_true z;go_wp2
       go_roundg k1
       case measure=>have:=HK1.out;omega
       case rel=>exact⟨(wrap64 (m+1)),zz157,H',⟨zz167⟩,by repeat(first|exact Drawn0.refl _|apply Drawn0.step)⟩
      rw[if_neg c6] at H;have O:=beq_eq_false_iff_ne.mpr c6;have P:=bne_iff_ne.mpr c6;obtain rfl:=oI H;have o:0≤(m:Int):=oD zz156;have z:m<(l0.length:Int):=oD zz156;obtain⟨I,B,D⟩:=Kd.at_int J.out m o z
      cases B;replace o:=eq_true o;replace z:=eq_true z;go_wp2;go_ret
      exact⟨by first|rfl|(simp;done)|(simp[*];done),by repeat(first|exact Drawn0.refl _|apply Drawn0.step)⟩
     rw[if_neg c5] at H
     exact absurd H (by simp)
    rw[if_neg c4] at H
    exact absurd H (by simp)
   rw[if_neg c3] at H;have L:=dF c3;clear c3;obtain rfl:=oI H;go_wp2;go_ret
   exact⟨by first|rfl|(simp;done)|(simp[*];done),by repeat(first|exact Drawn0.refl _|apply Drawn0.step)⟩
end
end Go.Proofs.YtjjlhbgpdncpcaaGreat.P