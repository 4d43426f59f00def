/- What the claim's theorem is built on, part 5: words, walks of the code, and what they tell. -/
import Derived.Test.YtjjlhbgpdncpcaaGreatE2
import Derived.Test.YtjjlhbgpdncpcaaGreatE4
import Derived.Test.YtjjlhbgpdncpcaaGreatE3
set_option linter.unusedVariables false
set_option linter.unusedSimpArgs false
set_option maxHeartbeats 8000000
set_option maxRecDepth 100000
open Go.RowKit Go.Proofs.YtjjlhbgpdncpcaaGreatW.PrintWords Go.Proofs.YtjjlhbgpdncpcaaGreatW.PrintLast Go.Proofs.YtjjlhbgpdncpcaaGreatW.PrintMore
namespace Go.Proofs.YtjjlhbgpdncpcaaGreat.P
section
attribute [local go_sem] ZH ZF ZL ZK ZB ZA ZG ZE
def r30_CheckChain.j0:Nat→Bool→Int→List (S56)→Option (Int)
 |0,_,_,_=>none
 |k+1,x12,x365000,x365001=>if x12=true then(some 4) else((r30_Gens.f k x365000 x365001).bind fun t365=>((r30_Build.f k x365000 t365).bind fun bt368=>(if bt368.2.2=0 then((r30_Same.f k x365000 x365001 bt368.1 bt368.2.1).bind fun t374=>(if t374=true then(some 0) else(some 5))) else(some 5))))
def r30_CheckChain.f (k:Nat) (a0_0:Int) (l0_1:List (S56)):Option (Int):=if a0_0<1 then(r30_CheckChain.j0 k true a0_0 l0_1) else(r30_CheckChain.j0 k (decide (a0_0>64)) a0_0 l0_1)
def r30_CheckChain.T3:Bool×List (List Nat×List Nat):=(true,[([],[]),([0],[0]),([],[]),([2],[2]),([1,3,3],[1,3]),([4],[4]),([5],[5]),([5],[5]),([],[]),([8,6,4,0,1,2,3,4,5,6,8],[6,8]),([7,9,0,1,2,3,4,5,6,7,8,9],[7])])
def r30_CheckChain.B3:List Nat:= [0,1,0,4,15,31,63,63,0,383,1023]
theorem r30_CheckChain.tab3:rtab .any (opsOf Tryz.f7 3)=r30_CheckChain.T3:=by kernel_rfl
theorem r30_CheckChain.bits3:waitsOk r30_CheckChain.T3.2 r30_CheckChain.B3=true:=by kernel_rfl
theorem r30_CheckChain.calls (k:Nat) (z:Int) (B:Option Addr) (D:Nat) (l0_1:List (S56)) (r:Int) (w:World) (aY:Kd.C k56 w B l0_1.length l0_1) (aX:l0_1.length≤D) (h:r30_CheckChain.f k z l0_1=some r):
    Calls Tryz.prog 7 #[.agg #[.int .i64 z,.slice B l0_1.length D]] w fun e w'=>e= .returned (.int .i64 r)∧Below w.heap.size w w':=by
 have cp:=Tryz.underlying24
 have an:=aM aY
 have am:=aM aX
 clear aY aX
 have HB:=aM (Below.refl w.heap.size w)
 have H:(if z<1 then(r30_CheckChain.j0 k true z l0_1) else(r30_CheckChain.j0 k (decide (z>64)) z l0_1))=some r:=h
 clear h
 have bi:=aM H
 clear H
 go_enter Tryz.func7,Tryz.ntmps7
 go_upto_region 1 with(first|((with_reducible refine Zq (N:=1) rfl ?_);refine Zx ?hg (N:=1) ?hd (cs:= #[.int .i64 z,.slice B l0_1.length D]) (t:=24) ?hr ?_;(case hd=>rfl);(case hg=>rfl);(case hr=>first|(go_simp;done)|(go_simp;rfl));intro m hg w3 hbox hb;have BK364:=aM (hbox);have GW364:=aM ((by rw[hg];exact(Zc zz128):w.heap.size≤m));have GE364:=aM ((by rw[hg];exact(Zc zz128):w.heap.size≤m));replace HB:=aM (Zd zz128 hb);clear hb hbox hg))
 (try simp only[Act.put,sA,sB,sC])
 go_cut [12] (fun b8 wc=>∃(kq:Nat) (aF:Bool),b8= .bool aF∧Aside0 (r30_CheckChain.j0 kq aF z l0_1=some r)∧Aside0 (kq≤k)∧Aside0 (wc.heap[m]? =some (.cells #[.int .i64 z,(.slice B l0_1.length D)] 24 (0,0)))∧Aside0 (Below w.heap.size w wc))
 case first=>
  have H:=bi.out;clear bi
  by_cases c4:z<1
  ·rw[if_pos c4] at H;have aD:=dT c4;clear c4
   (first|rw[aD]|(simp only[Zt,Zu];rw[aD])|skip)
   have H':=aM H;clear H;have a0:w3.cell? ⟨m,0,none⟩=some (.int .i64 z):=(Za BK364.out 0).trans rfl;have a1:w3.cell? ⟨m,1,none⟩=some (.slice B l0_1.length D):=(Za BK364.out 1).trans rfl;have a4:=Zb BK364.out 0;have a5:=Zb BK364.out 1;go_wp2;go_meet
   case rel=>exact⟨_,(true),zz157,H',⟨zz160⟩,⟨(zB BK364)⟩,⟨zz99⟩⟩
  rw[if_neg c4] at H;have aD:=dF c4;clear c4
  (first|rw[aD]|(simp only[Zt,Zu];rw[aD])|skip)
  have H':=aM H;clear H;have a2:w3.cell? ⟨m,0,none⟩=some (.int .i64 z):=(Za BK364.out 0).trans rfl;have a3:w3.cell? ⟨m,1,none⟩=some (.slice B l0_1.length D):=(Za BK364.out 1).trans rfl;have a6:=Zb BK364.out 0;have a7:=Zb BK364.out 1;go_wp2;go_meet
  case rel=>exact⟨_,(decide (z>64)),zz157,H',⟨zz160⟩,⟨(zB BK364)⟩,⟨zz99⟩⟩
 case rest=>
  clear bi;(try clear p2);(try clear c4);(try clear aD);(try clear a0);(try clear a1);(try clear a2);(try clear a3);(try clear a4);(try clear a5);(try clear a6);(try clear a7);obtain⟨kq,aF,rfl,HA,HJ1,BK364,HB⟩:=hcut
  cases kq with
  |zero=>exact absurd HA.out (by simp[r30_CheckChain.j0])
  | succ al =>
   have H:=HA.out;clear HA;simp only[r30_CheckChain.j0] at H
   by_cases c7:aF=true
   ·subst c7;have H1:(some 4)=some r:=by rw[if_pos rfl] at H;exact H
    clear H;have H:=H1;clear H1;obtain rfl:=oI H;go_wp2;go_ret
    exact⟨by first|rfl|(simp[Zm,Zl]<;>rfl)|(simp[*,Zm,Zl]<;>rfl),by repeat(first|(with_reducible first|exact HB.out|apply Zh|apply Zg|apply Zj|refine Zi ?_ GE364.out)|exact HB.out)⟩
   replace c7:=Bool.eq_false_iff.mpr c7;subst c7;have H1:((r30_Gens.f al z l0_1).bind fun P=>((r30_Build.f al z P).bind fun ar=>(if ar.2.2=0 then((r30_Same.f al z l0_1 ar.1 ar.2.1).bind fun aw=>(if aw=true then(some 0) else(some 5))) else(some 5))))=some r:=by rw[if_neg (show¬(false=true) by decide)] at H;exact H
   clear H;have H:=H1;clear H1;replace H:=oB H;obtain⟨P,bn,H⟩:=H;replace H:((r30_Build.f al z P).bind fun ar=>(if ar.2.2=0 then((r30_Same.f al z l0_1 ar.1 ar.2.1).bind fun aw=>(if aw=true then(some 0) else(some 5))) else(some 5)))=some r:=H;have A8:=aM bn;clear bn;replace H:=oB H;obtain⟨⟨t368,t369,af⟩,bo,H⟩:=H;replace H:(if af=0 then((r30_Same.f al z l0_1 t368 t369).bind fun aw=>(if aw=true then(some 0) else(some 5))) else(some 5))=some r:=H;have A9:=aM bo;clear bo
   by_cases c10:af=0
   ·rw [if_pos c10] at H;have bj:=beq_iff_eq.mpr c10;have bk:=bne_eq_false_iff_eq.mpr c10;clear c10;replace H:=oB H;obtain⟨aw,a8,H⟩:=H;replace H:(if aw=true then(some 0) else(some 5))=some r:=H;have bm:=aM a8;clear a8
    by_cases aZ:aw=true
    ·subst aZ;have H1:(some 0)=some r:=by rw[if_pos rfl] at H;exact H
     clear H;have H:=H1;clear H1;obtain rfl:=oI H
     try go_wp2
     have J:=aM (Zp BK364.out);have L:=aM (Zj HB.out);clear BK364;clear HB;have BK364:=J;have HB:=L;clear J L
     refine start_ (n:=11) (S:=fun w'=>w'.cell? ⟨m,0,none⟩=some (.int .i64 z)∧w'.cell? ⟨m,1,none⟩=some (.slice B l0_1.length D)) (ds:= []) #[false,false,false,false,false,false,false,false,false,false,false] (by kernel_rfl) rfl rfl ⟨(Za BK364.out 0).trans rfl,(Za BK364.out 1).trans rfl⟩ (fun hHeld=> ?_);refine Z8 r30_CheckChain.tab3 r30_CheckChain.bits3 (fun X aG=> ?_);generalize wc.drew=cq at BK364 HB hHeld⊢
     refine ZC (i:=0) (N:=some 14) (v:= ?_) (a':= ?_) #[true,false,false,false,false,false,false,false,false,false,false] rfl rfl (Zy X.out (by kernel_rfl)) (fun _ _ _ h=>h) (Or.inl ⟨by rfl,?_⟩) ?_ ?_;rotate_left
     ·intro w';go_simp;with_reducible rfl
     rotate_left
     ·simp only[Act.put,sA,sB,sC,Zt,Zu];rfl
     refine take_ (i:=1) (N:=some 15) (v:= ?_) (a':= ?_) #[true,true,false,false,false,false,false,false,false,false,false] rfl rfl (ZX X.out aG.out (by kernel_rfl)) (fun _ _ _ h=>h) (Or.inl ⟨by rfl,?_⟩) hHeld ?_ ?_;rotate_left
     ·rintro w' ⟨s0,s1⟩;go_simp;with_reducible rfl
     rotate_left
     ·simp only[Act.put,sA,sB,sC,Zt,Zu];rfl
     refine take_ (i:=2) (N:=some 16) (v:= ?_) (a':= ?_) #[true,true,true,false,false,false,false,false,false,false,false] rfl rfl (ZX X.out aG.out (by kernel_rfl)) (fun _ _ _ h=>h) (Or.inl ⟨by rfl,?_⟩) hHeld ?_ ?_;rotate_left
     ·rintro w' ⟨s0,s1⟩;go_simp;with_reducible rfl
     rotate_left
     ·simp only[Act.put,sA,sB,sC,Zt,Zu];rfl
     refine join_ (σ:=Value×Value×Nat) 2 #[true,true,true,true,true,true,true,true,true,false,false] (fun s_=> [(17,s_.1),(18,.tuple #[.agg #[.int .i64 t368,s_.2.1],.int .i64 af]),(3,.pointer (some ⟨s_.2.2,0,none⟩)),(13,.tuple #[.agg #[.int .i64 t368,s_.2.1],.int .i64 af]),(19,.agg #[.int .i64 t368,s_.2.1]),(20,.int .i64 af)]) (fun s_ w'=>(w'.cell? ⟨m,0,none⟩=some (.int .i64 z)∧w'.cell? ⟨m,1,none⟩=some (.slice B l0_1.length D))∧(Kd.N (Kd.slice 3 (Kd.int .i64)) 32 w' w.heap.size (fun k_=>some k_≠(s_.2.1:Value).ownBlock∧k_≠m∧k_≠s_.2.2) s_.1 P)∧(Kd.N k56 56 w' w.heap.size (fun k_=>some k_≠(s_.1:Value).ownBlock∧k_≠m∧k_≠s_.2.2) s_.2.1 t369)∧(w'.heap[m]? =some (.cells #[.int .i64 z,.slice B l0_1.length D] 24 (0,0)))∧(w'.heap[s_.2.2]? =some (.cells #[.int .i64 0,.slice none 0 0] 24 (0,0)))∧(w.heap.size≤s_.2.2)∧(w.heap.size≤s_.2.2)∧(m≠s_.2.2)∧(s_.2.2≠m)∧(Below w.heap.size w w')) ?_ ?_;rotate_left
     ·intro hCont
      refine two_ (i:=3) (j:=8) (Ni:=some 17) (Nj:=some 3) #[true,true,true,true,false,false,false,false,false,false,false] #[true,true,true,false,false,false,false,false,true,false,false] rfl rfl rfl rfl (two_of X.out (by kernel_rfl)) (by decide) (by decide) (fun K hK=> ?_) (fun K hK=> ?_)
      ·skip
       refine Yk Tryz.func38 (by kernel_rfl) rfl #[.agg #[.int .i64 z,.slice B l0_1.length D]] (by rfl) rfl rfl zz127 ?_;with_reducible refine(r30_Gens.calls al z (fun k_=>k_<w.heap.size) _ _ l0_1 P _ ?sa A8.out).mono ?_
       (case sa=>exact Kd.V_mk am.out (Kd.F_below (Kd.C_F k56_heap an.out) zz99))
       rintro e b9 ⟨ah,rfl,ho0,hb⟩
       refine⟨_,rfl,?_⟩;have J:=aM (Kd.N_lower (Kd.N_mono (ok':=fun k_=>k_≠m) ho0 (fun k_ hk_=>Or.elim hk_ (fun hs_=>fun e_=>Nat.not_le.2 hs_ zz166) (fun hn_=>(Kd.freshB (g:=m) (o:= .cells #[.int .i64 z,.slice B l0_1.length D] 24 (0,0)) (zB BK364) k_ hn_)))) (Zc zz99));have L:=aM (Zf (g:=m) (o:= .cells #[.int .i64 z,.slice B l0_1.length D] 24 (0,0)) (zB BK364) hb);have O:=aM (Zd zz99 hb);clear BK364;clear HB;have HO367:=J;have BK364:=L;have HB:=O;clear J L O;(try clear hb);(try clear aq);(try clear hk);(try clear hi);(try clear ho0);obtain⟨aR,aU,a9⟩:=Kd.N_slice HO367.out
       (first|subst a9|(injection a9 with ab ai ac;have aj:=ab.symm;have ak:=ac.symm;clear ab ai ac;subst aj;subst ak))
       refine hK.out _ _ ⟨(Za BK364.out 0).trans rfl,(Za BK364.out 1).trans rfl⟩ (fun hHeld=> ?_);clear hK K
       refine ZV (a':= ?_) ?_ ?_;rotate_left
       ·show Act.put _ (some 17) _=_
        simp only[Act.put,sA,sB,sC,Zt,Zu];rfl
       refine two_ (i:=4) (j:=8) (Ni:=some 18) (Nj:=some 3) #[true,true,true,true,true,false,false,false,false,false,false] #[true,true,true,true,false,false,false,false,true,false,false] rfl rfl rfl rfl (two_of X.out (by kernel_rfl)) (by decide) (by decide) (fun K hK=> ?_) (fun K hK=> ?_)
       ·skip
        refine Yk Tryz.func37 (by kernel_rfl) rfl #[.int .i64 z,.slice aR P.length aU] (by rfl) rfl rfl zz127 ?_;with_reducible refine(r30_Build.calls al z _ _ P t368 t369 af _ ?sa ?sb A9.out).mono ?_
        (case sa=>exact zC ((Kd.N_reads' HO367.out).2.2))
        (case sb=>exact(Kd.N_reads' HO367.out).2.1)
        rintro e cr ⟨aa,rfl,ho0,hb⟩
        refine⟨_,rfl,?_⟩;have J:=aM (Kd.N_elder' (zN HO367) (Kd.N_base ho0) hb);have L:=aM (Kd.N_lower (Kd.N_mono (ok':=fun k_=>some k_≠(.slice aR P.length aU:Value).ownBlock∧k_≠m) ho0 (fun k_ hk_=>⟨(Kd.fresh' (Kd.N_lt (zN HO367)) k_ hk_),(Kd.freshB (g:=m) (o:= .cells #[.int .i64 z,.slice B l0_1.length D] 24 (0,0)) (zB BK364) k_ hk_)⟩)) (Zc zz99));have O:=aM (Zf (g:=m) (o:= .cells #[.int .i64 z,.slice B l0_1.length D] 24 (0,0)) (zB BK364) hb);have U:=aM (Zd zz99 hb);clear HO367;clear BK364;clear HB;have HO367:=J;have HO371:=L;have BK364:=O;have HB:=U;clear J L O U;(try clear hb);(try clear aq);(try clear hk);(try clear hi);(try clear ho0)
        refine hK.out _ _ ⟨(Za BK364.out 0).trans rfl,(Za BK364.out 1).trans rfl⟩ (fun hHeld=> ?_);clear hK K
        refine ZV (a':= ?_) ?_ ?_;rotate_left
        ·show Act.put _ (some 18) _=_
         simp only[Act.put,sA,sB,sC,Zt,Zu];rfl
        refine ZC (i:=5) (N:=some 13) (v:= ?_) (a':= ?_) #[true,true,true,true,true,true,false,false,false,false,false] rfl rfl (Zy X.out (by kernel_rfl)) (fun _ _ _ h=>h) (Or.inl ⟨by rfl,?_⟩) ?_ ?_;rotate_left
        ·intro w';go_simp;with_reducible rfl
        rotate_left
        ·simp only[Act.put,sA,sB,sC,Zt,Zu];rfl
        refine ZC (i:=6) (N:=some 19) (v:= ?_) (a':= ?_) #[true,true,true,true,true,true,true,false,false,false,false] rfl rfl (Zy X.out (by kernel_rfl)) (fun _ _ _ h=>h) (Or.inl ⟨by rfl,?_⟩) ?_ ?_;rotate_left
        ·intro w';go_simp;with_reducible rfl
        rotate_left
        ·simp only[Act.put,sA,sB,sC,Zt,Zu];rfl
        refine ZC (i:=7) (N:=some 20) (v:= ?_) (a':= ?_) #[true,true,true,true,true,true,true,true,false,false,false] rfl rfl (Zy X.out (by kernel_rfl)) (fun _ _ _ h=>h) (Or.inl ⟨by rfl,?_⟩) ?_ ?_;rotate_left
        ·intro w';go_simp;with_reducible rfl
        rotate_left
        ·simp only[Act.put,sA,sB,sC,Zt,Zu];rfl
        refine one_ (i:=8) (N:=some 3) #[true,true,true,true,true,true,true,true,true,false,false] rfl rfl (Z2 X.out (by kernel_rfl)) (by decide) (fun K hK=> ?_)
        refine Z9 ?hg (N:=3) ?hd (cs:= #[.int .i64 0,.slice none 0 0]) (t:=24) ?hr ?_;(case hd=>rfl);(case hg=>rfl);(case hr=>first|(go_simp;done)|(go_simp;rfl));intro gb373 hg bV hbox hb;have J:=aM (Kd.N_below (Kd.N_elderB (zN HO367) gb373 (Nat.le_of_eq hg.symm)) hb);have L:=aM (Kd.N_below (Kd.N_elderB (zN HO371) gb373 (Nat.le_of_eq hg.symm)) hb);have O:=aM (Zf (g:=m) (o:= .cells #[.int .i64 z,.slice B l0_1.length D] 24 (0,0)) (zB BK364) hb);have U:=aM (Zd zz99 hb);have Y:=aM (hbox);have ad:=aM ((by rw[hg];exact(Zc zz99):w.heap.size≤gb373));have ae:=aM ((by rw[hg];exact(Zc zz99):w.heap.size≤gb373));have ag:=aM ((by rw[hg];exact Nat.ne_of_lt (Zw (g:=m) (o:= .cells #[.int .i64 z,.slice B l0_1.length D] 24 (0,0)) (zB BK364)):m≠gb373));have ao:=aM ((by rw[hg];exact Nat.ne_of_gt (Zw (g:=m) (o:= .cells #[.int .i64 z,.slice B l0_1.length D] 24 (0,0)) (zB BK364)):gb373≠m));clear HO367;clear HO371;clear BK364;clear HB;have HO367:=J;have HO371:=L;have BK364:=O;have HB:=U;have BK373:=Y;have Z:=ad;have GE373:=ae;have NB364_373:=ag;have I:=ao;clear J L O U Y ad ae ag ao;clear hb hbox hg
        refine hK.out _ _ ⟨(Za BK364.out 0).trans rfl,(Za BK364.out 1).trans rfl⟩ (fun hHeld=> ?_);clear hK K
        refine ZV (a':= ?_) ?_ ?_;rotate_left
        ·show Act.put _ (some 3) _=_
         simp only[Act.put,sA,sB,sC,Zt,Zu];rfl
        exact ZV zz139 (hCont (.slice aR P.length aU,aa,gb373) _ ⟨hHeld,zz112,zz113,(zB BK364),(zB BK373),Z.out,GE373.out,NB364_373.out,I.out,zz76⟩)
       ·skip
        refine Z9 ?hg (N:=3) ?hd (cs:= #[.int .i64 0,.slice none 0 0]) (t:=24) ?hr ?_;(case hd=>rfl);(case hg=>rfl);(case hr=>first|(go_simp;done)|(go_simp;rfl));intro gb373 hg ca hbox hb;have J:=aM (Kd.N_below (Kd.N_elderB (zN HO367) gb373 (Nat.le_of_eq hg.symm)) hb);have L:=aM (Zf (g:=m) (o:= .cells #[.int .i64 z,.slice B l0_1.length D] 24 (0,0)) (zB BK364) hb);have O:=aM (Zd zz99 hb);have U:=aM (hbox);have Y:=aM ((by rw[hg];exact(Zc zz99):w.heap.size≤gb373));have ad:=aM ((by rw[hg];exact(Zc zz99):w.heap.size≤gb373));have ae:=aM ((by rw[hg];exact Nat.ne_of_lt (Zw (g:=m) (o:= .cells #[.int .i64 z,.slice B l0_1.length D] 24 (0,0)) (zB BK364)):m≠gb373));have ag:=aM ((by rw[hg];exact Nat.ne_of_gt (Zw (g:=m) (o:= .cells #[.int .i64 z,.slice B l0_1.length D] 24 (0,0)) (zB BK364)):gb373≠m));clear HO367;clear BK364;clear HB;have HO367:=J;have BK364:=L;have HB:=O;have BK373:=U;have Z:=Y;have GE373:=ad;have NB364_373:=ae;have I:=ag;clear J L O U Y ad ae ag;clear hb hbox hg;obtain⟨ax,aA,aH⟩:=Kd.N_slice HO367.out
        (first|subst aH|(injection aH with ab ai ac;have aj:=ab.symm;have ak:=ac.symm;clear ab ai ac;subst aj;subst ak))
        refine hK.out _ _ ⟨(Za BK364.out 0).trans rfl,(Za BK364.out 1).trans rfl⟩ (fun hHeld=> ?_);clear hK K
        refine ZV (a':= ?_) ?_ ?_;rotate_left
        ·show Act.put _ (some 3) _=_
         simp only[Act.put,sA,sB,sC,Zt,Zu];rfl
        refine one_ (i:=4) (N:=some 18) #[true,true,true,true,true,false,false,false,true,false,false] rfl rfl (Z2 X.out (by kernel_rfl)) (by decide) (fun K hK=> ?_)
        refine Yk Tryz.func37 (by kernel_rfl) rfl #[.int .i64 z,.slice ax P.length aA] (by rfl) rfl rfl zz127 ?_;with_reducible refine(r30_Build.calls al z _ _ P t368 t369 af _ ?sa ?sb A9.out).mono ?_
        (case sa=>exact zC ((Kd.N_reads' HO367.out).2.2))
        (case sb=>exact(Kd.N_reads' HO367.out).2.1)
        rintro e bV ⟨aa,rfl,ho0,hb⟩
        refine⟨_,rfl,?_⟩;have J:=aM (Kd.N_elder' (zN HO367) (Kd.N_base ho0) hb);have L:=aM (Kd.N_lower (Kd.N_mono (ok':=fun k_=>some k_≠(.slice ax P.length aA:Value).ownBlock∧k_≠m∧k_≠gb373) ho0 (fun k_ hk_=>⟨(Kd.fresh' (Kd.N_lt (zN HO367)) k_ hk_),(Kd.freshB (g:=m) (o:= .cells #[.int .i64 z,.slice B l0_1.length D] 24 (0,0)) (zB BK364) k_ hk_),(Kd.freshB (g:=gb373) (o:= .cells #[.int .i64 0,.slice none 0 0] 24 (0,0)) (zB BK373) k_ hk_)⟩)) (Zc zz76));have O:=aM (Zf (g:=m) (o:= .cells #[.int .i64 z,.slice B l0_1.length D] 24 (0,0)) (zB BK364) hb);have U:=aM (Zf (g:=gb373) (o:= .cells #[.int .i64 0,.slice none 0 0] 24 (0,0)) (zB BK373) hb);have Y:=aM (Zd zz76 hb);clear HO367;clear BK364;clear BK373;clear HB;have HO367:=J;have HO371:=L;have BK364:=O;have BK373:=U;have HB:=Y;clear J L O U Y;(try clear hb);(try clear aq);(try clear hk);(try clear hi);(try clear ho0)
        refine hK.out _ _ ⟨(Za BK364.out 0).trans rfl,(Za BK364.out 1).trans rfl⟩ (fun hHeld=> ?_);clear hK K
        refine ZV (a':= ?_) ?_ ?_;rotate_left
        ·show Act.put _ (some 18) _=_
         simp only[Act.put,sA,sB,sC,Zt,Zu];rfl
        refine ZC (i:=5) (N:=some 13) (v:= ?_) (a':= ?_) #[true,true,true,true,true,true,false,false,true,false,false] rfl rfl (Zy X.out (by kernel_rfl)) (fun _ _ _ h=>h) (Or.inl ⟨by rfl,?_⟩) ?_ ?_;rotate_left
        ·intro w';go_simp;with_reducible rfl
        rotate_left
        ·simp only[Act.put,sA,sB,sC,Zt,Zu];rfl
        refine ZC (i:=6) (N:=some 19) (v:= ?_) (a':= ?_) #[true,true,true,true,true,true,true,false,true,false,false] rfl rfl (Zy X.out (by kernel_rfl)) (fun _ _ _ h=>h) (Or.inl ⟨by rfl,?_⟩) ?_ ?_;rotate_left
        ·intro w';go_simp;with_reducible rfl
        rotate_left
        ·simp only[Act.put,sA,sB,sC,Zt,Zu];rfl
        refine ZC (i:=7) (N:=some 20) (v:= ?_) (a':= ?_) #[true,true,true,true,true,true,true,true,true,false,false] rfl rfl (Zy X.out (by kernel_rfl)) (fun _ _ _ h=>h) (Or.inl ⟨by rfl,?_⟩) ?_ ?_;rotate_left
        ·intro w';go_simp;with_reducible rfl
        rotate_left
        ·simp only[Act.put,sA,sB,sC,Zt,Zu];rfl
        exact ZV zz139 (hCont (.slice ax P.length aA,aa,gb373) _ ⟨hHeld,zz114,(zN HO371),(zB BK364),(zB BK373),Z.out,GE373.out,NB364_373.out,I.out,zz76⟩)
      ·skip
       refine Z9 ?hg (N:=3) ?hd (cs:= #[.int .i64 0,.slice none 0 0]) (t:=24) ?hr ?_;(case hd=>rfl);(case hg=>rfl);(case hr=>first|(go_simp;done)|(go_simp;rfl));intro gb373 hg b9 hbox hb;have J:=aM (Zf (g:=m) (o:= .cells #[.int .i64 z,.slice B l0_1.length D] 24 (0,0)) (zB BK364) hb);have L:=aM (Zd zz99 hb);have O:=aM (hbox);have U:=aM ((by rw[hg];exact(Zc zz99):w.heap.size≤gb373));have Y:=aM ((by rw[hg];exact(Zc zz99):w.heap.size≤gb373));have ad:=aM ((by rw[hg];exact Nat.ne_of_lt (Zw (g:=m) (o:= .cells #[.int .i64 z,.slice B l0_1.length D] 24 (0,0)) (zB BK364)):m≠gb373));have ae:=aM ((by rw[hg];exact Nat.ne_of_gt (Zw (g:=m) (o:= .cells #[.int .i64 z,.slice B l0_1.length D] 24 (0,0)) (zB BK364)):gb373≠m));clear BK364;clear HB;have BK364:=J;have HB:=L;have BK373:=O;have Z:=U;have GE373:=Y;have NB364_373:=ad;have I:=ae;clear J L O U Y ad ae;clear hb hbox hg
       refine hK.out _ _ ⟨(Za BK364.out 0).trans rfl,(Za BK364.out 1).trans rfl⟩ (fun hHeld=> ?_);clear hK K
       refine ZV (a':= ?_) ?_ ?_;rotate_left
       ·show Act.put _ (some 3) _=_
        simp only[Act.put,sA,sB,sC,Zt,Zu];rfl
       refine one_ (i:=3) (N:=some 17) #[true,true,true,true,false,false,false,false,true,false,false] rfl rfl (Z2 X.out (by kernel_rfl)) (by decide) (fun K hK=> ?_)
       refine Yk Tryz.func38 (by kernel_rfl) rfl #[.agg #[.int .i64 z,.slice B l0_1.length D]] (by rfl) rfl rfl zz127 ?_;with_reducible refine(r30_Gens.calls al z (fun k_=>k_<w.heap.size) _ _ l0_1 P _ ?sa A8.out).mono ?_
       (case sa=>exact Kd.V_mk am.out (Kd.F_below (Kd.C_F k56_heap an.out) zz76))
       rintro e ca ⟨ah,rfl,ho0,hb⟩
       refine⟨_,rfl,?_⟩;have J:=aM (Kd.N_lower (Kd.N_mono (ok':=fun k_=>k_≠m∧k_≠gb373) ho0 (fun k_ hk_=>⟨Or.elim hk_ (fun hs_=>fun e_=>Nat.not_le.2 hs_ zz166) (fun hn_=>(Kd.freshB (g:=m) (o:= .cells #[.int .i64 z,.slice B l0_1.length D] 24 (0,0)) (zB BK364) k_ hn_)),Or.elim hk_ (fun hs_=>fun e_=>Nat.not_le.2 hs_ (by rw[e_];exact Z.out)) (fun hn_=>(Kd.freshB (g:=gb373) (o:= .cells #[.int .i64 0,.slice none 0 0] 24 (0,0)) (zB BK373) k_ hn_))⟩)) (Zc zz76));have L:=aM (Zf (g:=m) (o:= .cells #[.int .i64 z,.slice B l0_1.length D] 24 (0,0)) (zB BK364) hb);have O:=aM (Zf (g:=gb373) (o:= .cells #[.int .i64 0,.slice none 0 0] 24 (0,0)) (zB BK373) hb);have U:=aM (Zd zz76 hb);clear BK364;clear BK373;clear HB;have HO367:=J;have BK364:=L;have BK373:=O;have HB:=U;clear J L O U;(try clear hb);(try clear aq);(try clear hk);(try clear hi);(try clear ho0);obtain⟨ax,aA,aH⟩:=Kd.N_slice HO367.out
       (first|subst aH|(injection aH with ab ai ac;have aj:=ab.symm;have ak:=ac.symm;clear ab ai ac;subst aj;subst ak))
       refine hK.out _ _ ⟨(Za BK364.out 0).trans rfl,(Za BK364.out 1).trans rfl⟩ (fun hHeld=> ?_);clear hK K
       refine ZV (a':= ?_) ?_ ?_;rotate_left
       ·show Act.put _ (some 17) _=_
        simp only[Act.put,sA,sB,sC,Zt,Zu];rfl
       refine one_ (i:=4) (N:=some 18) #[true,true,true,true,true,false,false,false,true,false,false] rfl rfl (Z2 X.out (by kernel_rfl)) (by decide) (fun K hK=> ?_)
       refine Yk Tryz.func37 (by kernel_rfl) rfl #[.int .i64 z,.slice ax P.length aA] (by rfl) rfl rfl zz127 ?_;with_reducible refine(r30_Build.calls al z _ _ P t368 t369 af _ ?sa ?sb A9.out).mono ?_
       (case sa=>exact zC ((Kd.N_reads' HO367.out).2.2))
       (case sb=>exact(Kd.N_reads' HO367.out).2.1)
       rintro e bV ⟨aa,rfl,ho0,hb⟩
       refine⟨_,rfl,?_⟩;have J:=aM (Kd.N_elder' (zN HO367) (Kd.N_base ho0) hb);have L:=aM (Kd.N_lower (Kd.N_mono (ok':=fun k_=>some k_≠(.slice ax P.length aA:Value).ownBlock∧k_≠m∧k_≠gb373) ho0 (fun k_ hk_=>⟨(Kd.fresh' (Kd.N_lt (zN HO367)) k_ hk_),(Kd.freshB (g:=m) (o:= .cells #[.int .i64 z,.slice B l0_1.length D] 24 (0,0)) (zB BK364) k_ hk_),(Kd.freshB (g:=gb373) (o:= .cells #[.int .i64 0,.slice none 0 0] 24 (0,0)) (zB BK373) k_ hk_)⟩)) (Zc zz76));have O:=aM (Zf (g:=m) (o:= .cells #[.int .i64 z,.slice B l0_1.length D] 24 (0,0)) (zB BK364) hb);have U:=aM (Zf (g:=gb373) (o:= .cells #[.int .i64 0,.slice none 0 0] 24 (0,0)) (zB BK373) hb);have Y:=aM (Zd zz76 hb);clear HO367;clear BK364;clear BK373;clear HB;have HO367:=J;have HO371:=L;have BK364:=O;have BK373:=U;have HB:=Y;clear J L O U Y;(try clear hb);(try clear aq);(try clear hk);(try clear hi);(try clear ho0)
       refine hK.out _ _ ⟨(Za BK364.out 0).trans rfl,(Za BK364.out 1).trans rfl⟩ (fun hHeld=> ?_);clear hK K
       refine ZV (a':= ?_) ?_ ?_;rotate_left
       ·show Act.put _ (some 18) _=_
        simp only[Act.put,sA,sB,sC,Zt,Zu];rfl
       refine ZC (i:=5) (N:=some 13) (v:= ?_) (a':= ?_) #[true,true,true,true,true,true,false,false,true,false,false] rfl rfl (Zy X.out (by kernel_rfl)) (fun _ _ _ h=>h) (Or.inl ⟨by rfl,?_⟩) ?_ ?_;rotate_left
       ·intro w';go_simp;with_reducible rfl
       rotate_left
       ·simp only[Act.put,sA,sB,sC,Zt,Zu];rfl
       refine ZC (i:=6) (N:=some 19) (v:= ?_) (a':= ?_) #[true,true,true,true,true,true,true,false,true,false,false] rfl rfl (Zy X.out (by kernel_rfl)) (fun _ _ _ h=>h) (Or.inl ⟨by rfl,?_⟩) ?_ ?_;rotate_left
       ·intro w';go_simp;with_reducible rfl
       rotate_left
       ·simp only[Act.put,sA,sB,sC,Zt,Zu];rfl
       refine ZC (i:=7) (N:=some 20) (v:= ?_) (a':= ?_) #[true,true,true,true,true,true,true,true,true,false,false] rfl rfl (Zy X.out (by kernel_rfl)) (fun _ _ _ h=>h) (Or.inl ⟨by rfl,?_⟩) ?_ ?_;rotate_left
       ·intro w';go_simp;with_reducible rfl
       rotate_left
       ·simp only[Act.put,sA,sB,sC,Zt,Zu];rfl
       exact ZV zz139 (hCont (.slice ax P.length aA,aa,gb373) _ ⟨hHeld,zz114,(zN HO371),(zB BK364),(zB BK373),Z.out,GE373.out,NB364_373.out,I.out,zz76⟩)
     rintro ⟨ah,aa,gb373⟩ au ⟨hS_,aK,h1_,h2_,h3_,aL,aN,aO,aP,aQ⟩;have J:Aside0 (Kd.N (Kd.slice 3 (Kd.int .i64)) 32 au w.heap.size (fun k_=>some k_≠(aa:Value).ownBlock∧k_≠m∧k_≠gb373) ah P):=⟨aK⟩;have L:Aside0 (Kd.N k56 56 au w.heap.size (fun k_=>some k_≠(ah:Value).ownBlock∧k_≠m∧k_≠gb373) aa t369):=⟨h1_⟩;have O:Aside0 (au.heap[m]? =some (.cells #[.int .i64 z,.slice B l0_1.length D] 24 (0,0))):=⟨h2_⟩;have U:Aside0 (au.heap[gb373]? =some (.cells #[.int .i64 0,.slice none 0 0] 24 (0,0))):=⟨h3_⟩;have Y:Aside0 (w.heap.size≤gb373):=⟨aL⟩;have ad:Aside0 (w.heap.size≤gb373):=⟨aN⟩;have ae:Aside0 (m≠gb373):=⟨aO⟩;have ag:Aside0 (gb373≠m):=⟨aP⟩;have ao:Aside0 (Below w.heap.size w au):=⟨aQ⟩;clear BK364;clear HB;clear aK h1_ h2_ h3_ aL aN aO aP aQ;have HO367:=J;have HO371:=L;have BK364:=O;have BK373:=U;have Z:=Y;have GE373:=ad;have NB364_373:=ae;have I:=ag;have HB:=ao;clear J L O U Y ad ae ag ao;have hHeld:au.cell? ⟨m,0,none⟩=some (.int .i64 z)∧au.cell? ⟨m,1,none⟩=some (.slice B l0_1.length D):=hS_;obtain⟨Ao20,co20,ba⟩:=Kd.N_slice HO371.out
     (first|subst ba|(injection ba with ab ai ac;have aj:=ab.symm;have ak:=ac.symm;clear ab ai ac;subst aj;subst ak))
     refine ZV (a':= ?_) ?_ ?_;rotate_left
     ·simp only[putAll,Act.put,sA,sB,sC];rfl
     refine one_ (i:=9) (N:=none) #[true,true,true,true,true,true,true,true,true,true,false] rfl rfl (Z2 X.out (by kernel_rfl)) (by decide) (fun K hK=> ?_);have ci:au.cell? ⟨gb373,0,none⟩=some (.int .i64 0):=(Za BK373.out 0).trans rfl;have bY:=Zb BK373.out 0;have bO:=NB364_373.out;have bI:=I.out;have cj:au.cell? ⟨gb373,1,none⟩=some (.slice none 0 0):=(Za BK373.out 1).trans rfl;have bZ:=Zb BK373.out 1;have bP:=NB364_373.out;have bJ:=I.out
     refine skip_ (w1:= ?_) (by rfl) rfl ?_ ?_;rotate_left
     ·go_simp;rfl
     refine hK.out _ _ ⟨((cell_far (p:=⟨gb373,_,none⟩) NB364_373.out _).trans (((cell_far (p:=⟨gb373,_,none⟩) NB364_373.out _).trans (hHeld.1)))),((cell_far (p:=⟨gb373,_,none⟩) NB364_373.out _).trans (((cell_far (p:=⟨gb373,_,none⟩) NB364_373.out _).trans (hHeld.2))))⟩ (fun hHeld=> ?_);clear hK K
     refine ZC (i:=10) (N:=some 4) (v:= ?_) (a':= ?_) #[true,true,true,true,true,true,true,true,true,true,true] rfl rfl (Zy X.out (by kernel_rfl)) (fun _ _ _ h=>h) (Or.inl ⟨by rfl,?_⟩) ?_ ?_;rotate_left
     ·intro w';go_simp;with_reducible rfl
     rotate_left
     ·simp only[Act.put,sA,sB,sC,Zt,Zu];rfl
     refine done_ (done_of X.out (by kernel_rfl)) ?_;have b4:=NB364_373.out;have b6:=I.out;have bp:au.cell? ⟨m,0,none⟩=some (.int .i64 z):=(Za BK364.out 0).trans rfl;have bq:au.cell? ⟨m,1,none⟩=some (.slice B l0_1.length D):=(Za BK364.out 1).trans rfl;have bz:=Zb BK364.out 0;have bA:=Zb BK364.out 1;have br:au.cell? ⟨gb373,0,none⟩=some (.int .i64 0):=(Za BK373.out 0).trans rfl;have bs:au.cell? ⟨gb373,1,none⟩=some (.slice none 0 0):=(Za BK373.out 1).trans rfl;have bB:=Zb BK373.out 0;have bC:=Zb BK373.out 1
     try go_wp2_with (first|(go_at_call 25;(with_reducible refine(r30_Same.calls al z _ _ l0_1 t368 _ _ t369 true _ ?sa ?sb ?sc ?sd bm.out).mono ?_);(case sa=>exact Kd.C_below an.out zz76);(case sb=>exact am.out);(case sc=>refine(Kd.N_reads' (e:=56) (base:=w.heap.size) (ok:=fun k_=>(some k_≠(ah:Value).ownBlock∧(k_≠m∧k_≠gb373))) (n:=t369.length) (c:=co20) ?_).2.2;exact zz57);(case sd=>exact(Kd.N_reads' HO371.out).2.1);rintro e ct ⟨rfl,hb⟩;replace HO367:=aM (Kd.N_below (by(with_reducible repeat(first|apply Kd.N_alloc|apply Kd.N_drewN|apply Kd.N_drew));exact(Kd.N_mono (Kd.N_far (p:=⟨gb373,1,none⟩) (Kd.N_far (p:=⟨gb373,0,none⟩) (Kd.N_mono HO367.out (fun k_ hk=>(⟨hk,hk.2.2⟩:_∧k_≠gb373))) (fun _ hk=>hk.2) (.int .i64 t368)) (fun _ hk=>hk.2) (.slice Ao20 t369.length co20)) (fun _ h_=>h_.1))) hb);replace HO371:=aM (Kd.N_below zz57 hb);replace BK364:=aM (Zf (g:=m) (o:= .cells #[.int .i64 z,.slice B l0_1.length D] 24 (0,0)) zz55 hb);replace BK373:=aM (Zf (g:=gb373) (o:= .cells #[.int .i64 t368,.slice Ao20 t369.length co20] 24 (0,0)) zz53 hb);replace HB:=aM (Zd zz76 hb);(try clear hb);(try clear aq);(try clear hk);(try clear hi)))
     go_ret
     exact⟨by first|rfl|(simp[Zm,Zl]<;>rfl)|(simp[*,Zm,Zl]<;>rfl),by repeat(first|(with_reducible first|exact HB.out|apply Zh|apply Zg|apply Zj|refine Zi ?_ GE364.out|refine Zi ?_ GE373.out)|exact HB.out)⟩
    replace aZ:=Bool.eq_false_iff.mpr aZ;subst aZ;have H1:(some 5)=some r:=by rw[if_neg (show¬(false=true) by decide)] at H;exact H
    clear H;have H:=H1;clear H1;obtain rfl:=oI H
    try go_wp2
    have J:=aM (Zp BK364.out);have L:=aM (Zj HB.out);clear BK364;clear HB;have BK364:=J;have HB:=L;clear J L
    refine start_ (n:=11) (S:=fun w'=>w'.cell? ⟨m,0,none⟩=some (.int .i64 z)∧w'.cell? ⟨m,1,none⟩=some (.slice B l0_1.length D)) (ds:= []) #[false,false,false,false,false,false,false,false,false,false,false] (by kernel_rfl) rfl rfl ⟨(Za BK364.out 0).trans rfl,(Za BK364.out 1).trans rfl⟩ (fun hHeld=> ?_);refine Z8 r30_CheckChain.tab3 r30_CheckChain.bits3 (fun X aG=> ?_);generalize wc.drew=cu at BK364 HB hHeld⊢
    refine ZC (i:=0) (N:=some 14) (v:= ?_) (a':= ?_) #[true,false,false,false,false,false,false,false,false,false,false] rfl rfl (Zy X.out (by kernel_rfl)) (fun _ _ _ h=>h) (Or.inl ⟨by rfl,?_⟩) ?_ ?_;rotate_left
    ·intro w';go_simp;with_reducible rfl
    rotate_left
    ·simp only[Act.put,sA,sB,sC,Zt,Zu];rfl
    refine take_ (i:=1) (N:=some 15) (v:= ?_) (a':= ?_) #[true,true,false,false,false,false,false,false,false,false,false] rfl rfl (ZX X.out aG.out (by kernel_rfl)) (fun _ _ _ h=>h) (Or.inl ⟨by rfl,?_⟩) hHeld ?_ ?_;rotate_left
    ·rintro w' ⟨s0,s1⟩;go_simp;with_reducible rfl
    rotate_left
    ·simp only[Act.put,sA,sB,sC,Zt,Zu];rfl
    refine take_ (i:=2) (N:=some 16) (v:= ?_) (a':= ?_) #[true,true,true,false,false,false,false,false,false,false,false] rfl rfl (ZX X.out aG.out (by kernel_rfl)) (fun _ _ _ h=>h) (Or.inl ⟨by rfl,?_⟩) hHeld ?_ ?_;rotate_left
    ·rintro w' ⟨s0,s1⟩;go_simp;with_reducible rfl
    rotate_left
    ·simp only[Act.put,sA,sB,sC,Zt,Zu];rfl
    refine join_ (σ:=Value×Value×Nat) 2 #[true,true,true,true,true,true,true,true,true,false,false] (fun s_=> [(17,s_.1),(18,.tuple #[.agg #[.int .i64 t368,s_.2.1],.int .i64 af]),(3,.pointer (some ⟨s_.2.2,0,none⟩)),(13,.tuple #[.agg #[.int .i64 t368,s_.2.1],.int .i64 af]),(19,.agg #[.int .i64 t368,s_.2.1]),(20,.int .i64 af)]) (fun s_ w'=>(w'.cell? ⟨m,0,none⟩=some (.int .i64 z)∧w'.cell? ⟨m,1,none⟩=some (.slice B l0_1.length D))∧(Kd.N (Kd.slice 3 (Kd.int .i64)) 32 w' w.heap.size (fun k_=>some k_≠(s_.2.1:Value).ownBlock∧k_≠m∧k_≠s_.2.2) s_.1 P)∧(Kd.N k56 56 w' w.heap.size (fun k_=>some k_≠(s_.1:Value).ownBlock∧k_≠m∧k_≠s_.2.2) s_.2.1 t369)∧(w'.heap[m]? =some (.cells #[.int .i64 z,.slice B l0_1.length D] 24 (0,0)))∧(w'.heap[s_.2.2]? =some (.cells #[.int .i64 0,.slice none 0 0] 24 (0,0)))∧(w.heap.size≤s_.2.2)∧(w.heap.size≤s_.2.2)∧(m≠s_.2.2)∧(s_.2.2≠m)∧(Below w.heap.size w w')) ?_ ?_;rotate_left
    ·intro hCont
     refine two_ (i:=3) (j:=8) (Ni:=some 17) (Nj:=some 3) #[true,true,true,true,false,false,false,false,false,false,false] #[true,true,true,false,false,false,false,false,true,false,false] rfl rfl rfl rfl (two_of X.out (by kernel_rfl)) (by decide) (by decide) (fun K hK=> ?_) (fun K hK=> ?_)
     ·skip
      refine Yk Tryz.func38 (by kernel_rfl) rfl #[.agg #[.int .i64 z,.slice B l0_1.length D]] (by rfl) rfl rfl zz127 ?_;with_reducible refine(r30_Gens.calls al z (fun k_=>k_<w.heap.size) _ _ l0_1 P _ ?sa A8.out).mono ?_
      (case sa=>exact Kd.V_mk am.out (Kd.F_below (Kd.C_F k56_heap an.out) zz99))
      rintro e cb ⟨ah,rfl,ho0,hb⟩
      refine⟨_,rfl,?_⟩;have J:=aM (Kd.N_lower (Kd.N_mono (ok':=fun k_=>k_≠m) ho0 (fun k_ hk_=>Or.elim hk_ (fun hs_=>fun e_=>Nat.not_le.2 hs_ zz166) (fun hn_=>(Kd.freshB (g:=m) (o:= .cells #[.int .i64 z,.slice B l0_1.length D] 24 (0,0)) (zB BK364) k_ hn_)))) (Zc zz99));have L:=aM (Zf (g:=m) (o:= .cells #[.int .i64 z,.slice B l0_1.length D] 24 (0,0)) (zB BK364) hb);have O:=aM (Zd zz99 hb);clear BK364;clear HB;have HO367:=J;have BK364:=L;have HB:=O;clear J L O;(try clear hb);(try clear aq);(try clear hk);(try clear hi);(try clear ho0);obtain⟨aS,aV,bb⟩:=Kd.N_slice HO367.out
      (first|subst bb|(injection bb with ab ai ac;have aj:=ab.symm;have ak:=ac.symm;clear ab ai ac;subst aj;subst ak))
      refine hK.out _ _ ⟨(Za BK364.out 0).trans rfl,(Za BK364.out 1).trans rfl⟩ (fun hHeld=> ?_);clear hK K
      refine ZV (a':= ?_) ?_ ?_;rotate_left
      ·show Act.put _ (some 17) _=_
       simp only[Act.put,sA,sB,sC,Zt,Zu];rfl
      refine two_ (i:=4) (j:=8) (Ni:=some 18) (Nj:=some 3) #[true,true,true,true,true,false,false,false,false,false,false] #[true,true,true,true,false,false,false,false,true,false,false] rfl rfl rfl rfl (two_of X.out (by kernel_rfl)) (by decide) (by decide) (fun K hK=> ?_) (fun K hK=> ?_)
      ·skip
       refine Yk Tryz.func37 (by kernel_rfl) rfl #[.int .i64 z,.slice aS P.length aV] (by rfl) rfl rfl zz127 ?_;with_reducible refine(r30_Build.calls al z _ _ P t368 t369 af _ ?sa ?sb A9.out).mono ?_
       (case sa=>exact zC ((Kd.N_reads' HO367.out).2.2))
       (case sb=>exact(Kd.N_reads' HO367.out).2.1)
       rintro e cv ⟨aa,rfl,ho0,hb⟩
       refine⟨_,rfl,?_⟩;have J:=aM (Kd.N_elder' (zN HO367) (Kd.N_base ho0) hb);have L:=aM (Kd.N_lower (Kd.N_mono (ok':=fun k_=>some k_≠(.slice aS P.length aV:Value).ownBlock∧k_≠m) ho0 (fun k_ hk_=>⟨(Kd.fresh' (Kd.N_lt (zN HO367)) k_ hk_),(Kd.freshB (g:=m) (o:= .cells #[.int .i64 z,.slice B l0_1.length D] 24 (0,0)) (zB BK364) k_ hk_)⟩)) (Zc zz99));have O:=aM (Zf (g:=m) (o:= .cells #[.int .i64 z,.slice B l0_1.length D] 24 (0,0)) (zB BK364) hb);have U:=aM (Zd zz99 hb);clear HO367;clear BK364;clear HB;have HO367:=J;have HO371:=L;have BK364:=O;have HB:=U;clear J L O U;(try clear hb);(try clear aq);(try clear hk);(try clear hi);(try clear ho0)
       refine hK.out _ _ ⟨(Za BK364.out 0).trans rfl,(Za BK364.out 1).trans rfl⟩ (fun hHeld=> ?_);clear hK K
       refine ZV (a':= ?_) ?_ ?_;rotate_left
       ·show Act.put _ (some 18) _=_
        simp only[Act.put,sA,sB,sC,Zt,Zu];rfl
       refine ZC (i:=5) (N:=some 13) (v:= ?_) (a':= ?_) #[true,true,true,true,true,true,false,false,false,false,false] rfl rfl (Zy X.out (by kernel_rfl)) (fun _ _ _ h=>h) (Or.inl ⟨by rfl,?_⟩) ?_ ?_;rotate_left
       ·intro w';go_simp;with_reducible rfl
       rotate_left
       ·simp only[Act.put,sA,sB,sC,Zt,Zu];rfl
       refine ZC (i:=6) (N:=some 19) (v:= ?_) (a':= ?_) #[true,true,true,true,true,true,true,false,false,false,false] rfl rfl (Zy X.out (by kernel_rfl)) (fun _ _ _ h=>h) (Or.inl ⟨by rfl,?_⟩) ?_ ?_;rotate_left
       ·intro w';go_simp;with_reducible rfl
       rotate_left
       ·simp only[Act.put,sA,sB,sC,Zt,Zu];rfl
       refine ZC (i:=7) (N:=some 20) (v:= ?_) (a':= ?_) #[true,true,true,true,true,true,true,true,false,false,false] rfl rfl (Zy X.out (by kernel_rfl)) (fun _ _ _ h=>h) (Or.inl ⟨by rfl,?_⟩) ?_ ?_;rotate_left
       ·intro w';go_simp;with_reducible rfl
       rotate_left
       ·simp only[Act.put,sA,sB,sC,Zt,Zu];rfl
       refine one_ (i:=8) (N:=some 3) #[true,true,true,true,true,true,true,true,true,false,false] rfl rfl (Z2 X.out (by kernel_rfl)) (by decide) (fun K hK=> ?_)
       refine Z9 ?hg (N:=3) ?hd (cs:= #[.int .i64 0,.slice none 0 0]) (t:=24) ?hr ?_;(case hd=>rfl);(case hg=>rfl);(case hr=>first|(go_simp;done)|(go_simp;rfl));intro gb373 hg bW hbox hb;have J:=aM (Kd.N_below (Kd.N_elderB (zN HO367) gb373 (Nat.le_of_eq hg.symm)) hb);have L:=aM (Kd.N_below (Kd.N_elderB (zN HO371) gb373 (Nat.le_of_eq hg.symm)) hb);have O:=aM (Zf (g:=m) (o:= .cells #[.int .i64 z,.slice B l0_1.length D] 24 (0,0)) (zB BK364) hb);have U:=aM (Zd zz99 hb);have Y:=aM (hbox);have ad:=aM ((by rw[hg];exact(Zc zz99):w.heap.size≤gb373));have ae:=aM ((by rw[hg];exact(Zc zz99):w.heap.size≤gb373));have ag:=aM ((by rw[hg];exact Nat.ne_of_lt (Zw (g:=m) (o:= .cells #[.int .i64 z,.slice B l0_1.length D] 24 (0,0)) (zB BK364)):m≠gb373));have ao:=aM ((by rw[hg];exact Nat.ne_of_gt (Zw (g:=m) (o:= .cells #[.int .i64 z,.slice B l0_1.length D] 24 (0,0)) (zB BK364)):gb373≠m));clear HO367;clear HO371;clear BK364;clear HB;have HO367:=J;have HO371:=L;have BK364:=O;have HB:=U;have BK373:=Y;have Z:=ad;have GE373:=ae;have NB364_373:=ag;have I:=ao;clear J L O U Y ad ae ag ao;clear hb hbox hg
       refine hK.out _ _ ⟨(Za BK364.out 0).trans rfl,(Za BK364.out 1).trans rfl⟩ (fun hHeld=> ?_);clear hK K
       refine ZV (a':= ?_) ?_ ?_;rotate_left
       ·show Act.put _ (some 3) _=_
        simp only[Act.put,sA,sB,sC,Zt,Zu];rfl
       exact ZV zz139 (hCont (.slice aS P.length aV,aa,gb373) _ ⟨hHeld,zz112,zz113,(zB BK364),(zB BK373),Z.out,GE373.out,NB364_373.out,I.out,zz76⟩)
      ·skip
       refine Z9 ?hg (N:=3) ?hd (cs:= #[.int .i64 0,.slice none 0 0]) (t:=24) ?hr ?_;(case hd=>rfl);(case hg=>rfl);(case hr=>first|(go_simp;done)|(go_simp;rfl));intro gb373 hg cc hbox hb;have J:=aM (Kd.N_below (Kd.N_elderB (zN HO367) gb373 (Nat.le_of_eq hg.symm)) hb);have L:=aM (Zf (g:=m) (o:= .cells #[.int .i64 z,.slice B l0_1.length D] 24 (0,0)) (zB BK364) hb);have O:=aM (Zd zz99 hb);have U:=aM (hbox);have Y:=aM ((by rw[hg];exact(Zc zz99):w.heap.size≤gb373));have ad:=aM ((by rw[hg];exact(Zc zz99):w.heap.size≤gb373));have ae:=aM ((by rw[hg];exact Nat.ne_of_lt (Zw (g:=m) (o:= .cells #[.int .i64 z,.slice B l0_1.length D] 24 (0,0)) (zB BK364)):m≠gb373));have ag:=aM ((by rw[hg];exact Nat.ne_of_gt (Zw (g:=m) (o:= .cells #[.int .i64 z,.slice B l0_1.length D] 24 (0,0)) (zB BK364)):gb373≠m));clear HO367;clear BK364;clear HB;have HO367:=J;have BK364:=L;have HB:=O;have BK373:=U;have Z:=Y;have GE373:=ad;have NB364_373:=ae;have I:=ag;clear J L O U Y ad ae ag;clear hb hbox hg;obtain⟨ay,aB,aI⟩:=Kd.N_slice HO367.out
       (first|subst aI|(injection aI with ab ai ac;have aj:=ab.symm;have ak:=ac.symm;clear ab ai ac;subst aj;subst ak))
       refine hK.out _ _ ⟨(Za BK364.out 0).trans rfl,(Za BK364.out 1).trans rfl⟩ (fun hHeld=> ?_);clear hK K
       refine ZV (a':= ?_) ?_ ?_;rotate_left
       ·show Act.put _ (some 3) _=_
        simp only[Act.put,sA,sB,sC,Zt,Zu];rfl
       refine one_ (i:=4) (N:=some 18) #[true,true,true,true,true,false,false,false,true,false,false] rfl rfl (Z2 X.out (by kernel_rfl)) (by decide) (fun K hK=> ?_)
       refine Yk Tryz.func37 (by kernel_rfl) rfl #[.int .i64 z,.slice ay P.length aB] (by rfl) rfl rfl zz127 ?_;with_reducible refine(r30_Build.calls al z _ _ P t368 t369 af _ ?sa ?sb A9.out).mono ?_
       (case sa=>exact zC ((Kd.N_reads' HO367.out).2.2))
       (case sb=>exact(Kd.N_reads' HO367.out).2.1)
       rintro e bW ⟨aa,rfl,ho0,hb⟩
       refine⟨_,rfl,?_⟩;have J:=aM (Kd.N_elder' (zN HO367) (Kd.N_base ho0) hb);have L:=aM (Kd.N_lower (Kd.N_mono (ok':=fun k_=>some k_≠(.slice ay P.length aB:Value).ownBlock∧k_≠m∧k_≠gb373) ho0 (fun k_ hk_=>⟨(Kd.fresh' (Kd.N_lt (zN HO367)) k_ hk_),(Kd.freshB (g:=m) (o:= .cells #[.int .i64 z,.slice B l0_1.length D] 24 (0,0)) (zB BK364) k_ hk_),(Kd.freshB (g:=gb373) (o:= .cells #[.int .i64 0,.slice none 0 0] 24 (0,0)) (zB BK373) k_ hk_)⟩)) (Zc zz76));have O:=aM (Zf (g:=m) (o:= .cells #[.int .i64 z,.slice B l0_1.length D] 24 (0,0)) (zB BK364) hb);have U:=aM (Zf (g:=gb373) (o:= .cells #[.int .i64 0,.slice none 0 0] 24 (0,0)) (zB BK373) hb);have Y:=aM (Zd zz76 hb);clear HO367;clear BK364;clear BK373;clear HB;have HO367:=J;have HO371:=L;have BK364:=O;have BK373:=U;have HB:=Y;clear J L O U Y;(try clear hb);(try clear aq);(try clear hk);(try clear hi);(try clear ho0)
       refine hK.out _ _ ⟨(Za BK364.out 0).trans rfl,(Za BK364.out 1).trans rfl⟩ (fun hHeld=> ?_);clear hK K
       refine ZV (a':= ?_) ?_ ?_;rotate_left
       ·show Act.put _ (some 18) _=_
        simp only[Act.put,sA,sB,sC,Zt,Zu];rfl
       refine ZC (i:=5) (N:=some 13) (v:= ?_) (a':= ?_) #[true,true,true,true,true,true,false,false,true,false,false] rfl rfl (Zy X.out (by kernel_rfl)) (fun _ _ _ h=>h) (Or.inl ⟨by rfl,?_⟩) ?_ ?_;rotate_left
       ·intro w';go_simp;with_reducible rfl
       rotate_left
       ·simp only[Act.put,sA,sB,sC,Zt,Zu];rfl
       refine ZC (i:=6) (N:=some 19) (v:= ?_) (a':= ?_) #[true,true,true,true,true,true,true,false,true,false,false] rfl rfl (Zy X.out (by kernel_rfl)) (fun _ _ _ h=>h) (Or.inl ⟨by rfl,?_⟩) ?_ ?_;rotate_left
       ·intro w';go_simp;with_reducible rfl
       rotate_left
       ·simp only[Act.put,sA,sB,sC,Zt,Zu];rfl
       refine ZC (i:=7) (N:=some 20) (v:= ?_) (a':= ?_) #[true,true,true,true,true,true,true,true,true,false,false] rfl rfl (Zy X.out (by kernel_rfl)) (fun _ _ _ h=>h) (Or.inl ⟨by rfl,?_⟩) ?_ ?_;rotate_left
       ·intro w';go_simp;with_reducible rfl
       rotate_left
       ·simp only[Act.put,sA,sB,sC,Zt,Zu];rfl
       exact ZV zz139 (hCont (.slice ay P.length aB,aa,gb373) _ ⟨hHeld,zz114,(zN HO371),(zB BK364),(zB BK373),Z.out,GE373.out,NB364_373.out,I.out,zz76⟩)
     ·skip
      refine Z9 ?hg (N:=3) ?hd (cs:= #[.int .i64 0,.slice none 0 0]) (t:=24) ?hr ?_;(case hd=>rfl);(case hg=>rfl);(case hr=>first|(go_simp;done)|(go_simp;rfl));intro gb373 hg cb hbox hb;have J:=aM (Zf (g:=m) (o:= .cells #[.int .i64 z,.slice B l0_1.length D] 24 (0,0)) (zB BK364) hb);have L:=aM (Zd zz99 hb);have O:=aM (hbox);have U:=aM ((by rw[hg];exact(Zc zz99):w.heap.size≤gb373));have Y:=aM ((by rw[hg];exact(Zc zz99):w.heap.size≤gb373));have ad:=aM ((by rw[hg];exact Nat.ne_of_lt (Zw (g:=m) (o:= .cells #[.int .i64 z,.slice B l0_1.length D] 24 (0,0)) (zB BK364)):m≠gb373));have ae:=aM ((by rw[hg];exact Nat.ne_of_gt (Zw (g:=m) (o:= .cells #[.int .i64 z,.slice B l0_1.length D] 24 (0,0)) (zB BK364)):gb373≠m));clear BK364;clear HB;have BK364:=J;have HB:=L;have BK373:=O;have Z:=U;have GE373:=Y;have NB364_373:=ad;have I:=ae;clear J L O U Y ad ae;clear hb hbox hg
      refine hK.out _ _ ⟨(Za BK364.out 0).trans rfl,(Za BK364.out 1).trans rfl⟩ (fun hHeld=> ?_);clear hK K
      refine ZV (a':= ?_) ?_ ?_;rotate_left
      ·show Act.put _ (some 3) _=_
       simp only[Act.put,sA,sB,sC,Zt,Zu];rfl
      refine one_ (i:=3) (N:=some 17) #[true,true,true,true,false,false,false,false,true,false,false] rfl rfl (Z2 X.out (by kernel_rfl)) (by decide) (fun K hK=> ?_)
      refine Yk Tryz.func38 (by kernel_rfl) rfl #[.agg #[.int .i64 z,.slice B l0_1.length D]] (by rfl) rfl rfl zz127 ?_;with_reducible refine(r30_Gens.calls al z (fun k_=>k_<w.heap.size) _ _ l0_1 P _ ?sa A8.out).mono ?_
      (case sa=>exact Kd.V_mk am.out (Kd.F_below (Kd.C_F k56_heap an.out) zz76))
      rintro e cc ⟨ah,rfl,ho0,hb⟩
      refine⟨_,rfl,?_⟩;have J:=aM (Kd.N_lower (Kd.N_mono (ok':=fun k_=>k_≠m∧k_≠gb373) ho0 (fun k_ hk_=>⟨Or.elim hk_ (fun hs_=>fun e_=>Nat.not_le.2 hs_ zz166) (fun hn_=>(Kd.freshB (g:=m) (o:= .cells #[.int .i64 z,.slice B l0_1.length D] 24 (0,0)) (zB BK364) k_ hn_)),Or.elim hk_ (fun hs_=>fun e_=>Nat.not_le.2 hs_ (by rw[e_];exact Z.out)) (fun hn_=>(Kd.freshB (g:=gb373) (o:= .cells #[.int .i64 0,.slice none 0 0] 24 (0,0)) (zB BK373) k_ hn_))⟩)) (Zc zz76));have L:=aM (Zf (g:=m) (o:= .cells #[.int .i64 z,.slice B l0_1.length D] 24 (0,0)) (zB BK364) hb);have O:=aM (Zf (g:=gb373) (o:= .cells #[.int .i64 0,.slice none 0 0] 24 (0,0)) (zB BK373) hb);have U:=aM (Zd zz76 hb);clear BK364;clear BK373;clear HB;have HO367:=J;have BK364:=L;have BK373:=O;have HB:=U;clear J L O U;(try clear hb);(try clear aq);(try clear hk);(try clear hi);(try clear ho0);obtain⟨ay,aB,aI⟩:=Kd.N_slice HO367.out
      (first|subst aI|(injection aI with ab ai ac;have aj:=ab.symm;have ak:=ac.symm;clear ab ai ac;subst aj;subst ak))
      refine hK.out _ _ ⟨(Za BK364.out 0).trans rfl,(Za BK364.out 1).trans rfl⟩ (fun hHeld=> ?_);clear hK K
      refine ZV (a':= ?_) ?_ ?_;rotate_left
      ·show Act.put _ (some 17) _=_
       simp only[Act.put,sA,sB,sC,Zt,Zu];rfl
      refine one_ (i:=4) (N:=some 18) #[true,true,true,true,true,false,false,false,true,false,false] rfl rfl (Z2 X.out (by kernel_rfl)) (by decide) (fun K hK=> ?_)
      refine Yk Tryz.func37 (by kernel_rfl) rfl #[.int .i64 z,.slice ay P.length aB] (by rfl) rfl rfl zz127 ?_;with_reducible refine(r30_Build.calls al z _ _ P t368 t369 af _ ?sa ?sb A9.out).mono ?_
      (case sa=>exact zC ((Kd.N_reads' HO367.out).2.2))
      (case sb=>exact(Kd.N_reads' HO367.out).2.1)
      rintro e bW ⟨aa,rfl,ho0,hb⟩
      refine⟨_,rfl,?_⟩;have J:=aM (Kd.N_elder' (zN HO367) (Kd.N_base ho0) hb);have L:=aM (Kd.N_lower (Kd.N_mono (ok':=fun k_=>some k_≠(.slice ay P.length aB:Value).ownBlock∧k_≠m∧k_≠gb373) ho0 (fun k_ hk_=>⟨(Kd.fresh' (Kd.N_lt (zN HO367)) k_ hk_),(Kd.freshB (g:=m) (o:= .cells #[.int .i64 z,.slice B l0_1.length D] 24 (0,0)) (zB BK364) k_ hk_),(Kd.freshB (g:=gb373) (o:= .cells #[.int .i64 0,.slice none 0 0] 24 (0,0)) (zB BK373) k_ hk_)⟩)) (Zc zz76));have O:=aM (Zf (g:=m) (o:= .cells #[.int .i64 z,.slice B l0_1.length D] 24 (0,0)) (zB BK364) hb);have U:=aM (Zf (g:=gb373) (o:= .cells #[.int .i64 0,.slice none 0 0] 24 (0,0)) (zB BK373) hb);have Y:=aM (Zd zz76 hb);clear HO367;clear BK364;clear BK373;clear HB;have HO367:=J;have HO371:=L;have BK364:=O;have BK373:=U;have HB:=Y;clear J L O U Y;(try clear hb);(try clear aq);(try clear hk);(try clear hi);(try clear ho0)
      refine hK.out _ _ ⟨(Za BK364.out 0).trans rfl,(Za BK364.out 1).trans rfl⟩ (fun hHeld=> ?_);clear hK K
      refine ZV (a':= ?_) ?_ ?_;rotate_left
      ·show Act.put _ (some 18) _=_
       simp only[Act.put,sA,sB,sC,Zt,Zu];rfl
      refine ZC (i:=5) (N:=some 13) (v:= ?_) (a':= ?_) #[true,true,true,true,true,true,false,false,true,false,false] rfl rfl (Zy X.out (by kernel_rfl)) (fun _ _ _ h=>h) (Or.inl ⟨by rfl,?_⟩) ?_ ?_;rotate_left
      ·intro w';go_simp;with_reducible rfl
      rotate_left
      ·simp only[Act.put,sA,sB,sC,Zt,Zu];rfl
      refine ZC (i:=6) (N:=some 19) (v:= ?_) (a':= ?_) #[true,true,true,true,true,true,true,false,true,false,false] rfl rfl (Zy X.out (by kernel_rfl)) (fun _ _ _ h=>h) (Or.inl ⟨by rfl,?_⟩) ?_ ?_;rotate_left
      ·intro w';go_simp;with_reducible rfl
      rotate_left
      ·simp only[Act.put,sA,sB,sC,Zt,Zu];rfl
      refine ZC (i:=7) (N:=some 20) (v:= ?_) (a':= ?_) #[true,true,true,true,true,true,true,true,true,false,false] rfl rfl (Zy X.out (by kernel_rfl)) (fun _ _ _ h=>h) (Or.inl ⟨by rfl,?_⟩) ?_ ?_;rotate_left
      ·intro w';go_simp;with_reducible rfl
      rotate_left
      ·simp only[Act.put,sA,sB,sC,Zt,Zu];rfl
      exact ZV zz139 (hCont (.slice ay P.length aB,aa,gb373) _ ⟨hHeld,zz114,(zN HO371),(zB BK364),(zB BK373),Z.out,GE373.out,NB364_373.out,I.out,zz76⟩)
    rintro ⟨ah,aa,gb373⟩ av ⟨hS_,aK,h1_,h2_,h3_,aL,aN,aO,aP,aQ⟩;have J:Aside0 (Kd.N (Kd.slice 3 (Kd.int .i64)) 32 av w.heap.size (fun k_=>some k_≠(aa:Value).ownBlock∧k_≠m∧k_≠gb373) ah P):=⟨aK⟩;have L:Aside0 (Kd.N k56 56 av w.heap.size (fun k_=>some k_≠(ah:Value).ownBlock∧k_≠m∧k_≠gb373) aa t369):=⟨h1_⟩;have O:Aside0 (av.heap[m]? =some (.cells #[.int .i64 z,.slice B l0_1.length D] 24 (0,0))):=⟨h2_⟩;have U:Aside0 (av.heap[gb373]? =some (.cells #[.int .i64 0,.slice none 0 0] 24 (0,0))):=⟨h3_⟩;have Y:Aside0 (w.heap.size≤gb373):=⟨aL⟩;have ad:Aside0 (w.heap.size≤gb373):=⟨aN⟩;have ae:Aside0 (m≠gb373):=⟨aO⟩;have ag:Aside0 (gb373≠m):=⟨aP⟩;have ao:Aside0 (Below w.heap.size w av):=⟨aQ⟩;clear BK364;clear HB;clear aK h1_ h2_ h3_ aL aN aO aP aQ;have HO367:=J;have HO371:=L;have BK364:=O;have BK373:=U;have Z:=Y;have GE373:=ad;have NB364_373:=ae;have I:=ag;have HB:=ao;clear J L O U Y ad ae ag ao;have hHeld:av.cell? ⟨m,0,none⟩=some (.int .i64 z)∧av.cell? ⟨m,1,none⟩=some (.slice B l0_1.length D):=hS_;obtain⟨Ao33,co33,bc⟩:=Kd.N_slice HO371.out
    (first|subst bc|(injection bc with ab ai ac;have aj:=ab.symm;have ak:=ac.symm;clear ab ai ac;subst aj;subst ak))
    refine ZV (a':= ?_) ?_ ?_;rotate_left
    ·simp only[putAll,Act.put,sA,sB,sC];rfl
    refine one_ (i:=9) (N:=none) #[true,true,true,true,true,true,true,true,true,true,false] rfl rfl (Z2 X.out (by kernel_rfl)) (by decide) (fun K hK=> ?_);have ck:av.cell? ⟨gb373,0,none⟩=some (.int .i64 0):=(Za BK373.out 0).trans rfl;have b0:=Zb BK373.out 0;have bQ:=NB364_373.out;have bK:=I.out;have cl:av.cell? ⟨gb373,1,none⟩=some (.slice none 0 0):=(Za BK373.out 1).trans rfl;have b1:=Zb BK373.out 1;have bS:=NB364_373.out;have bL:=I.out
    refine skip_ (w1:= ?_) (by rfl) rfl ?_ ?_;rotate_left
    ·go_simp;rfl
    refine hK.out _ _ ⟨((cell_far (p:=⟨gb373,_,none⟩) NB364_373.out _).trans (((cell_far (p:=⟨gb373,_,none⟩) NB364_373.out _).trans (hHeld.1)))),((cell_far (p:=⟨gb373,_,none⟩) NB364_373.out _).trans (((cell_far (p:=⟨gb373,_,none⟩) NB364_373.out _).trans (hHeld.2))))⟩ (fun hHeld=> ?_);clear hK K
    refine ZC (i:=10) (N:=some 4) (v:= ?_) (a':= ?_) #[true,true,true,true,true,true,true,true,true,true,true] rfl rfl (Zy X.out (by kernel_rfl)) (fun _ _ _ h=>h) (Or.inl ⟨by rfl,?_⟩) ?_ ?_;rotate_left
    ·intro w';go_simp;with_reducible rfl
    rotate_left
    ·simp only[Act.put,sA,sB,sC,Zt,Zu];rfl
    refine done_ (done_of X.out (by kernel_rfl)) ?_;have b5:=NB364_373.out;have b7:=I.out;have bu:av.cell? ⟨m,0,none⟩=some (.int .i64 z):=(Za BK364.out 0).trans rfl;have bv:av.cell? ⟨m,1,none⟩=some (.slice B l0_1.length D):=(Za BK364.out 1).trans rfl;have bD:=Zb BK364.out 0;have bE:=Zb BK364.out 1;have bw:av.cell? ⟨gb373,0,none⟩=some (.int .i64 0):=(Za BK373.out 0).trans rfl;have bx:av.cell? ⟨gb373,1,none⟩=some (.slice none 0 0):=(Za BK373.out 1).trans rfl;have bF:=Zb BK373.out 0;have bH:=Zb BK373.out 1
    try go_wp2_with (first|(go_at_call 25;(with_reducible refine(r30_Same.calls al z _ _ l0_1 t368 _ _ t369 false _ ?sa ?sb ?sc ?sd bm.out).mono ?_);(case sa=>exact Kd.C_below an.out zz76);(case sb=>exact am.out);(case sc=>refine(Kd.N_reads' (e:=56) (base:=w.heap.size) (ok:=fun k_=>(some k_≠(ah:Value).ownBlock∧(k_≠m∧k_≠gb373))) (n:=t369.length) (c:=co33) ?_).2.2;exact zz58);(case sd=>exact(Kd.N_reads' HO371.out).2.1);rintro e cw ⟨rfl,hb⟩;replace HO367:=aM (Kd.N_below (by(with_reducible repeat(first|apply Kd.N_alloc|apply Kd.N_drewN|apply Kd.N_drew));exact(Kd.N_mono (Kd.N_far (p:=⟨gb373,1,none⟩) (Kd.N_far (p:=⟨gb373,0,none⟩) (Kd.N_mono HO367.out (fun k_ hk=>(⟨hk,hk.2.2⟩:_∧k_≠gb373))) (fun _ hk=>hk.2) (.int .i64 t368)) (fun _ hk=>hk.2) (.slice Ao33 t369.length co33)) (fun _ h_=>h_.1))) hb);replace HO371:=aM (Kd.N_below zz58 hb);replace BK364:=aM (Zf (g:=m) (o:= .cells #[.int .i64 z,.slice B l0_1.length D] 24 (0,0)) zz55 hb);replace BK373:=aM (Zf (g:=gb373) (o:= .cells #[.int .i64 t368,.slice Ao33 t369.length co33] 24 (0,0)) zz53 hb);replace HB:=aM (Zd zz76 hb);(try clear hb);(try clear aq);(try clear hk);(try clear hi)))
    go_ret
    exact⟨by first|rfl|(simp[Zm,Zl]<;>rfl)|(simp[*,Zm,Zl]<;>rfl),by repeat(first|(with_reducible first|exact HB.out|apply Zh|apply Zg|apply Zj|refine Zi ?_ GE364.out|refine Zi ?_ GE373.out)|exact HB.out)⟩
   rw[if_neg c10] at H;have bj:=beq_eq_false_iff_ne.mpr c10;have bk:=bne_iff_ne.mpr c10;obtain rfl:=oI H
   try go_wp2
   have J:=aM (Zp BK364.out);have L:=aM (Zj HB.out);clear BK364;clear HB;have BK364:=J;have HB:=L;clear J L
   refine start_ (n:=11) (S:=fun w'=>w'.cell? ⟨m,0,none⟩=some (.int .i64 z)∧w'.cell? ⟨m,1,none⟩=some (.slice B l0_1.length D)) (ds:= []) #[false,false,false,false,false,false,false,false,false,false,false] (by kernel_rfl) rfl rfl ⟨(Za BK364.out 0).trans rfl,(Za BK364.out 1).trans rfl⟩ (fun hHeld=> ?_);refine Z8 r30_CheckChain.tab3 r30_CheckChain.bits3 (fun X aG=> ?_);generalize wc.drew=cx at BK364 HB hHeld⊢
   refine ZC (i:=0) (N:=some 14) (v:= ?_) (a':= ?_) #[true,false,false,false,false,false,false,false,false,false,false] rfl rfl (Zy X.out (by kernel_rfl)) (fun _ _ _ h=>h) (Or.inl ⟨by rfl,?_⟩) ?_ ?_;rotate_left
   ·intro w';go_simp;with_reducible rfl
   rotate_left
   ·simp only[Act.put,sA,sB,sC,Zt,Zu];rfl
   refine take_ (i:=1) (N:=some 15) (v:= ?_) (a':= ?_) #[true,true,false,false,false,false,false,false,false,false,false] rfl rfl (ZX X.out aG.out (by kernel_rfl)) (fun _ _ _ h=>h) (Or.inl ⟨by rfl,?_⟩) hHeld ?_ ?_;rotate_left
   ·rintro w' ⟨s0,s1⟩;go_simp;with_reducible rfl
   rotate_left
   ·simp only[Act.put,sA,sB,sC,Zt,Zu];rfl
   refine take_ (i:=2) (N:=some 16) (v:= ?_) (a':= ?_) #[true,true,true,false,false,false,false,false,false,false,false] rfl rfl (ZX X.out aG.out (by kernel_rfl)) (fun _ _ _ h=>h) (Or.inl ⟨by rfl,?_⟩) hHeld ?_ ?_;rotate_left
   ·rintro w' ⟨s0,s1⟩;go_simp;with_reducible rfl
   rotate_left
   ·simp only[Act.put,sA,sB,sC,Zt,Zu];rfl
   refine join_ (σ:=Value×Value×Nat) 2 #[true,true,true,true,true,true,true,true,true,false,false] (fun s_=> [(17,s_.1),(18,.tuple #[.agg #[.int .i64 t368,s_.2.1],.int .i64 af]),(3,.pointer (some ⟨s_.2.2,0,none⟩)),(13,.tuple #[.agg #[.int .i64 t368,s_.2.1],.int .i64 af]),(19,.agg #[.int .i64 t368,s_.2.1]),(20,.int .i64 af)]) (fun s_ w'=>(w'.cell? ⟨m,0,none⟩=some (.int .i64 z)∧w'.cell? ⟨m,1,none⟩=some (.slice B l0_1.length D))∧(Kd.N (Kd.slice 3 (Kd.int .i64)) 32 w' w.heap.size (fun k_=>some k_≠(s_.2.1:Value).ownBlock∧k_≠m∧k_≠s_.2.2) s_.1 P)∧(Kd.N k56 56 w' w.heap.size (fun k_=>some k_≠(s_.1:Value).ownBlock∧k_≠m∧k_≠s_.2.2) s_.2.1 t369)∧(w'.heap[m]? =some (.cells #[.int .i64 z,.slice B l0_1.length D] 24 (0,0)))∧(w'.heap[s_.2.2]? =some (.cells #[.int .i64 0,.slice none 0 0] 24 (0,0)))∧(w.heap.size≤s_.2.2)∧(w.heap.size≤s_.2.2)∧(m≠s_.2.2)∧(s_.2.2≠m)∧(Below w.heap.size w w')) ?_ ?_;rotate_left
   ·intro hCont
    refine two_ (i:=3) (j:=8) (Ni:=some 17) (Nj:=some 3) #[true,true,true,true,false,false,false,false,false,false,false] #[true,true,true,false,false,false,false,false,true,false,false] rfl rfl rfl rfl (two_of X.out (by kernel_rfl)) (by decide) (by decide) (fun K hK=> ?_) (fun K hK=> ?_)
    ·skip
     refine Yk Tryz.func38 (by kernel_rfl) rfl #[.agg #[.int .i64 z,.slice B l0_1.length D]] (by rfl) rfl rfl zz127 ?_;with_reducible refine(r30_Gens.calls al z (fun k_=>k_<w.heap.size) _ _ l0_1 P _ ?sa A8.out).mono ?_
     (case sa=>exact Kd.V_mk am.out (Kd.F_below (Kd.C_F k56_heap an.out) zz99))
     rintro e cd ⟨ah,rfl,ho0,hb⟩
     refine⟨_,rfl,?_⟩;have J:=aM (Kd.N_lower (Kd.N_mono (ok':=fun k_=>k_≠m) ho0 (fun k_ hk_=>Or.elim hk_ (fun hs_=>fun e_=>Nat.not_le.2 hs_ zz166) (fun hn_=>(Kd.freshB (g:=m) (o:= .cells #[.int .i64 z,.slice B l0_1.length D] 24 (0,0)) (zB BK364) k_ hn_)))) (Zc zz99));have L:=aM (Zf (g:=m) (o:= .cells #[.int .i64 z,.slice B l0_1.length D] 24 (0,0)) (zB BK364) hb);have O:=aM (Zd zz99 hb);clear BK364;clear HB;have HO367:=J;have BK364:=L;have HB:=O;clear J L O;(try clear hb);(try clear aq);(try clear hk);(try clear hi);(try clear ho0);obtain⟨aT,aW,bg⟩:=Kd.N_slice HO367.out
     (first|subst bg|(injection bg with ab ai ac;have aj:=ab.symm;have ak:=ac.symm;clear ab ai ac;subst aj;subst ak))
     refine hK.out _ _ ⟨(Za BK364.out 0).trans rfl,(Za BK364.out 1).trans rfl⟩ (fun hHeld=> ?_);clear hK K
     refine ZV (a':= ?_) ?_ ?_;rotate_left
     ·show Act.put _ (some 17) _=_
      simp only[Act.put,sA,sB,sC,Zt,Zu];rfl
     refine two_ (i:=4) (j:=8) (Ni:=some 18) (Nj:=some 3) #[true,true,true,true,true,false,false,false,false,false,false] #[true,true,true,true,false,false,false,false,true,false,false] rfl rfl rfl rfl (two_of X.out (by kernel_rfl)) (by decide) (by decide) (fun K hK=> ?_) (fun K hK=> ?_)
     ·skip
      refine Yk Tryz.func37 (by kernel_rfl) rfl #[.int .i64 z,.slice aT P.length aW] (by rfl) rfl rfl zz127 ?_;with_reducible refine(r30_Build.calls al z _ _ P t368 t369 af _ ?sa ?sb A9.out).mono ?_
      (case sa=>exact zC ((Kd.N_reads' HO367.out).2.2))
      (case sb=>exact(Kd.N_reads' HO367.out).2.1)
      rintro e cy ⟨aa,rfl,ho0,hb⟩
      refine⟨_,rfl,?_⟩;have J:=aM (Kd.N_elder' (zN HO367) (Kd.N_base ho0) hb);have L:=aM (Kd.N_lower (Kd.N_mono (ok':=fun k_=>some k_≠(.slice aT P.length aW:Value).ownBlock∧k_≠m) ho0 (fun k_ hk_=>⟨(Kd.fresh' (Kd.N_lt (zN HO367)) k_ hk_),(Kd.freshB (g:=m) (o:= .cells #[.int .i64 z,.slice B l0_1.length D] 24 (0,0)) (zB BK364) k_ hk_)⟩)) (Zc zz99));have O:=aM (Zf (g:=m) (o:= .cells #[.int .i64 z,.slice B l0_1.length D] 24 (0,0)) (zB BK364) hb);have U:=aM (Zd zz99 hb);clear HO367;clear BK364;clear HB;have HO367:=J;have HO371:=L;have BK364:=O;have HB:=U;clear J L O U;(try clear hb);(try clear aq);(try clear hk);(try clear hi);(try clear ho0)
      refine hK.out _ _ ⟨(Za BK364.out 0).trans rfl,(Za BK364.out 1).trans rfl⟩ (fun hHeld=> ?_);clear hK K
      refine ZV (a':= ?_) ?_ ?_;rotate_left
      ·show Act.put _ (some 18) _=_
       simp only[Act.put,sA,sB,sC,Zt,Zu];rfl
      refine ZC (i:=5) (N:=some 13) (v:= ?_) (a':= ?_) #[true,true,true,true,true,true,false,false,false,false,false] rfl rfl (Zy X.out (by kernel_rfl)) (fun _ _ _ h=>h) (Or.inl ⟨by rfl,?_⟩) ?_ ?_;rotate_left
      ·intro w';go_simp;with_reducible rfl
      rotate_left
      ·simp only[Act.put,sA,sB,sC,Zt,Zu];rfl
      refine ZC (i:=6) (N:=some 19) (v:= ?_) (a':= ?_) #[true,true,true,true,true,true,true,false,false,false,false] rfl rfl (Zy X.out (by kernel_rfl)) (fun _ _ _ h=>h) (Or.inl ⟨by rfl,?_⟩) ?_ ?_;rotate_left
      ·intro w';go_simp;with_reducible rfl
      rotate_left
      ·simp only[Act.put,sA,sB,sC,Zt,Zu];rfl
      refine ZC (i:=7) (N:=some 20) (v:= ?_) (a':= ?_) #[true,true,true,true,true,true,true,true,false,false,false] rfl rfl (Zy X.out (by kernel_rfl)) (fun _ _ _ h=>h) (Or.inl ⟨by rfl,?_⟩) ?_ ?_;rotate_left
      ·intro w';go_simp;with_reducible rfl
      rotate_left
      ·simp only[Act.put,sA,sB,sC,Zt,Zu];rfl
      refine one_ (i:=8) (N:=some 3) #[true,true,true,true,true,true,true,true,true,false,false] rfl rfl (Z2 X.out (by kernel_rfl)) (by decide) (fun K hK=> ?_)
      refine Z9 ?hg (N:=3) ?hd (cs:= #[.int .i64 0,.slice none 0 0]) (t:=24) ?hr ?_;(case hd=>rfl);(case hg=>rfl);(case hr=>first|(go_simp;done)|(go_simp;rfl));intro gb373 hg bX hbox hb;have J:=aM (Kd.N_below (Kd.N_elderB (zN HO367) gb373 (Nat.le_of_eq hg.symm)) hb);have L:=aM (Kd.N_below (Kd.N_elderB (zN HO371) gb373 (Nat.le_of_eq hg.symm)) hb);have O:=aM (Zf (g:=m) (o:= .cells #[.int .i64 z,.slice B l0_1.length D] 24 (0,0)) (zB BK364) hb);have U:=aM (Zd zz99 hb);have Y:=aM (hbox);have ad:=aM ((by rw[hg];exact(Zc zz99):w.heap.size≤gb373));have ae:=aM ((by rw[hg];exact(Zc zz99):w.heap.size≤gb373));have ag:=aM ((by rw[hg];exact Nat.ne_of_lt (Zw (g:=m) (o:= .cells #[.int .i64 z,.slice B l0_1.length D] 24 (0,0)) (zB BK364)):m≠gb373));have ao:=aM ((by rw[hg];exact Nat.ne_of_gt (Zw (g:=m) (o:= .cells #[.int .i64 z,.slice B l0_1.length D] 24 (0,0)) (zB BK364)):gb373≠m));clear HO367;clear HO371;clear BK364;clear HB;have HO367:=J;have HO371:=L;have BK364:=O;have HB:=U;have BK373:=Y;have Z:=ad;have GE373:=ae;have NB364_373:=ag;have I:=ao;clear J L O U Y ad ae ag ao;clear hb hbox hg
      refine hK.out _ _ ⟨(Za BK364.out 0).trans rfl,(Za BK364.out 1).trans rfl⟩ (fun hHeld=> ?_);clear hK K
      refine ZV (a':= ?_) ?_ ?_;rotate_left
      ·show Act.put _ (some 3) _=_
       simp only[Act.put,sA,sB,sC,Zt,Zu];rfl
      exact ZV zz139 (hCont (.slice aT P.length aW,aa,gb373) _ ⟨hHeld,zz112,zz113,(zB BK364),(zB BK373),Z.out,GE373.out,NB364_373.out,I.out,zz76⟩)
     ·skip
      refine Z9 ?hg (N:=3) ?hd (cs:= #[.int .i64 0,.slice none 0 0]) (t:=24) ?hr ?_;(case hd=>rfl);(case hg=>rfl);(case hr=>first|(go_simp;done)|(go_simp;rfl));intro gb373 hg ce hbox hb;have J:=aM (Kd.N_below (Kd.N_elderB (zN HO367) gb373 (Nat.le_of_eq hg.symm)) hb);have L:=aM (Zf (g:=m) (o:= .cells #[.int .i64 z,.slice B l0_1.length D] 24 (0,0)) (zB BK364) hb);have O:=aM (Zd zz99 hb);have U:=aM (hbox);have Y:=aM ((by rw[hg];exact(Zc zz99):w.heap.size≤gb373));have ad:=aM ((by rw[hg];exact(Zc zz99):w.heap.size≤gb373));have ae:=aM ((by rw[hg];exact Nat.ne_of_lt (Zw (g:=m) (o:= .cells #[.int .i64 z,.slice B l0_1.length D] 24 (0,0)) (zB BK364)):m≠gb373));have ag:=aM ((by rw[hg];exact Nat.ne_of_gt (Zw (g:=m) (o:= .cells #[.int .i64 z,.slice B l0_1.length D] 24 (0,0)) (zB BK364)):gb373≠m));clear HO367;clear BK364;clear HB;have HO367:=J;have BK364:=L;have HB:=O;have BK373:=U;have Z:=Y;have GE373:=ad;have NB364_373:=ae;have I:=ag;clear J L O U Y ad ae ag;clear hb hbox hg;obtain⟨az,aC,aJ⟩:=Kd.N_slice HO367.out
      (first|subst aJ|(injection aJ with ab ai ac;have aj:=ab.symm;have ak:=ac.symm;clear ab ai ac;subst aj;subst ak))
      refine hK.out _ _ ⟨(Za BK364.out 0).trans rfl,(Za BK364.out 1).trans rfl⟩ (fun hHeld=> ?_);clear hK K
      refine ZV (a':= ?_) ?_ ?_;rotate_left
      ·show Act.put _ (some 3) _=_
       simp only[Act.put,sA,sB,sC,Zt,Zu];rfl
      refine one_ (i:=4) (N:=some 18) #[true,true,true,true,true,false,false,false,true,false,false] rfl rfl (Z2 X.out (by kernel_rfl)) (by decide) (fun K hK=> ?_)
      refine Yk Tryz.func37 (by kernel_rfl) rfl #[.int .i64 z,.slice az P.length aC] (by rfl) rfl rfl zz127 ?_;with_reducible refine(r30_Build.calls al z _ _ P t368 t369 af _ ?sa ?sb A9.out).mono ?_
      (case sa=>exact zC ((Kd.N_reads' HO367.out).2.2))
      (case sb=>exact(Kd.N_reads' HO367.out).2.1)
      rintro e bX ⟨aa,rfl,ho0,hb⟩
      refine⟨_,rfl,?_⟩;have J:=aM (Kd.N_elder' (zN HO367) (Kd.N_base ho0) hb);have L:=aM (Kd.N_lower (Kd.N_mono (ok':=fun k_=>some k_≠(.slice az P.length aC:Value).ownBlock∧k_≠m∧k_≠gb373) ho0 (fun k_ hk_=>⟨(Kd.fresh' (Kd.N_lt (zN HO367)) k_ hk_),(Kd.freshB (g:=m) (o:= .cells #[.int .i64 z,.slice B l0_1.length D] 24 (0,0)) (zB BK364) k_ hk_),(Kd.freshB (g:=gb373) (o:= .cells #[.int .i64 0,.slice none 0 0] 24 (0,0)) (zB BK373) k_ hk_)⟩)) (Zc zz76));have O:=aM (Zf (g:=m) (o:= .cells #[.int .i64 z,.slice B l0_1.length D] 24 (0,0)) (zB BK364) hb);have U:=aM (Zf (g:=gb373) (o:= .cells #[.int .i64 0,.slice none 0 0] 24 (0,0)) (zB BK373) hb);have Y:=aM (Zd zz76 hb);clear HO367;clear BK364;clear BK373;clear HB;have HO367:=J;have HO371:=L;have BK364:=O;have BK373:=U;have HB:=Y;clear J L O U Y;(try clear hb);(try clear aq);(try clear hk);(try clear hi);(try clear ho0)
      refine hK.out _ _ ⟨(Za BK364.out 0).trans rfl,(Za BK364.out 1).trans rfl⟩ (fun hHeld=> ?_);clear hK K
      refine ZV (a':= ?_) ?_ ?_;rotate_left
      ·show Act.put _ (some 18) _=_
       simp only[Act.put,sA,sB,sC,Zt,Zu];rfl
      refine ZC (i:=5) (N:=some 13) (v:= ?_) (a':= ?_) #[true,true,true,true,true,true,false,false,true,false,false] rfl rfl (Zy X.out (by kernel_rfl)) (fun _ _ _ h=>h) (Or.inl ⟨by rfl,?_⟩) ?_ ?_;rotate_left
      ·intro w';go_simp;with_reducible rfl
      rotate_left
      ·simp only[Act.put,sA,sB,sC,Zt,Zu];rfl
      refine ZC (i:=6) (N:=some 19) (v:= ?_) (a':= ?_) #[true,true,true,true,true,true,true,false,true,false,false] rfl rfl (Zy X.out (by kernel_rfl)) (fun _ _ _ h=>h) (Or.inl ⟨by rfl,?_⟩) ?_ ?_;rotate_left
      ·intro w';go_simp;with_reducible rfl
      rotate_left
      ·simp only[Act.put,sA,sB,sC,Zt,Zu];rfl
      refine ZC (i:=7) (N:=some 20) (v:= ?_) (a':= ?_) #[true,true,true,true,true,true,true,true,true,false,false] rfl rfl (Zy X.out (by kernel_rfl)) (fun _ _ _ h=>h) (Or.inl ⟨by rfl,?_⟩) ?_ ?_;rotate_left
      ·intro w';go_simp;with_reducible rfl
      rotate_left
      ·simp only[Act.put,sA,sB,sC,Zt,Zu];rfl
      exact ZV zz139 (hCont (.slice az P.length aC,aa,gb373) _ ⟨hHeld,zz114,(zN HO371),(zB BK364),(zB BK373),Z.out,GE373.out,NB364_373.out,I.out,zz76⟩)
    ·skip
     refine Z9 ?hg (N:=3) ?hd (cs:= #[.int .i64 0,.slice none 0 0]) (t:=24) ?hr ?_;(case hd=>rfl);(case hg=>rfl);(case hr=>first|(go_simp;done)|(go_simp;rfl));intro gb373 hg cd hbox hb;have J:=aM (Zf (g:=m) (o:= .cells #[.int .i64 z,.slice B l0_1.length D] 24 (0,0)) (zB BK364) hb);have L:=aM (Zd zz99 hb);have O:=aM (hbox);have U:=aM ((by rw[hg];exact(Zc zz99):w.heap.size≤gb373));have Y:=aM ((by rw[hg];exact(Zc zz99):w.heap.size≤gb373));have ad:=aM ((by rw[hg];exact Nat.ne_of_lt (Zw (g:=m) (o:= .cells #[.int .i64 z,.slice B l0_1.length D] 24 (0,0)) (zB BK364)):m≠gb373));have ae:=aM ((by rw[hg];exact Nat.ne_of_gt (Zw (g:=m) (o:= .cells #[.int .i64 z,.slice B l0_1.length D] 24 (0,0)) (zB BK364)):gb373≠m));clear BK364;clear HB;have BK364:=J;have HB:=L;have BK373:=O;have Z:=U;have GE373:=Y;have NB364_373:=ad;have I:=ae;clear J L O U Y ad ae;clear hb hbox hg
     refine hK.out _ _ ⟨(Za BK364.out 0).trans rfl,(Za BK364.out 1).trans rfl⟩ (fun hHeld=> ?_);clear hK K
     refine ZV (a':= ?_) ?_ ?_;rotate_left
     ·show Act.put _ (some 3) _=_
      simp only[Act.put,sA,sB,sC,Zt,Zu];rfl
     refine one_ (i:=3) (N:=some 17) #[true,true,true,true,false,false,false,false,true,false,false] rfl rfl (Z2 X.out (by kernel_rfl)) (by decide) (fun K hK=> ?_)
     refine Yk Tryz.func38 (by kernel_rfl) rfl #[.agg #[.int .i64 z,.slice B l0_1.length D]] (by rfl) rfl rfl zz127 ?_;with_reducible refine(r30_Gens.calls al z (fun k_=>k_<w.heap.size) _ _ l0_1 P _ ?sa A8.out).mono ?_
     (case sa=>exact Kd.V_mk am.out (Kd.F_below (Kd.C_F k56_heap an.out) zz76))
     rintro e ce ⟨ah,rfl,ho0,hb⟩
     refine⟨_,rfl,?_⟩;have J:=aM (Kd.N_lower (Kd.N_mono (ok':=fun k_=>k_≠m∧k_≠gb373) ho0 (fun k_ hk_=>⟨Or.elim hk_ (fun hs_=>fun e_=>Nat.not_le.2 hs_ zz166) (fun hn_=>(Kd.freshB (g:=m) (o:= .cells #[.int .i64 z,.slice B l0_1.length D] 24 (0,0)) (zB BK364) k_ hn_)),Or.elim hk_ (fun hs_=>fun e_=>Nat.not_le.2 hs_ (by rw[e_];exact Z.out)) (fun hn_=>(Kd.freshB (g:=gb373) (o:= .cells #[.int .i64 0,.slice none 0 0] 24 (0,0)) (zB BK373) k_ hn_))⟩)) (Zc zz76));have L:=aM (Zf (g:=m) (o:= .cells #[.int .i64 z,.slice B l0_1.length D] 24 (0,0)) (zB BK364) hb);have O:=aM (Zf (g:=gb373) (o:= .cells #[.int .i64 0,.slice none 0 0] 24 (0,0)) (zB BK373) hb);have U:=aM (Zd zz76 hb);clear BK364;clear BK373;clear HB;have HO367:=J;have BK364:=L;have BK373:=O;have HB:=U;clear J L O U;(try clear hb);(try clear aq);(try clear hk);(try clear hi);(try clear ho0);obtain⟨az,aC,aJ⟩:=Kd.N_slice HO367.out
     (first|subst aJ|(injection aJ with ab ai ac;have aj:=ab.symm;have ak:=ac.symm;clear ab ai ac;subst aj;subst ak))
     refine hK.out _ _ ⟨(Za BK364.out 0).trans rfl,(Za BK364.out 1).trans rfl⟩ (fun hHeld=> ?_);clear hK K
     refine ZV (a':= ?_) ?_ ?_;rotate_left
     ·show Act.put _ (some 17) _=_
      simp only[Act.put,sA,sB,sC,Zt,Zu];rfl
     refine one_ (i:=4) (N:=some 18) #[true,true,true,true,true,false,false,false,true,false,false] rfl rfl (Z2 X.out (by kernel_rfl)) (by decide) (fun K hK=> ?_)
     refine Yk Tryz.func37 (by kernel_rfl) rfl #[.int .i64 z,.slice az P.length aC] (by rfl) rfl rfl zz127 ?_;with_reducible refine(r30_Build.calls al z _ _ P t368 t369 af _ ?sa ?sb A9.out).mono ?_
     (case sa=>exact zC ((Kd.N_reads' HO367.out).2.2))
     (case sb=>exact(Kd.N_reads' HO367.out).2.1)
     rintro e bX ⟨aa,rfl,ho0,hb⟩
     refine⟨_,rfl,?_⟩;have J:=aM (Kd.N_elder' (zN HO367) (Kd.N_base ho0) hb);have L:=aM (Kd.N_lower (Kd.N_mono (ok':=fun k_=>some k_≠(.slice az P.length aC:Value).ownBlock∧k_≠m∧k_≠gb373) ho0 (fun k_ hk_=>⟨(Kd.fresh' (Kd.N_lt (zN HO367)) k_ hk_),(Kd.freshB (g:=m) (o:= .cells #[.int .i64 z,.slice B l0_1.length D] 24 (0,0)) (zB BK364) k_ hk_),(Kd.freshB (g:=gb373) (o:= .cells #[.int .i64 0,.slice none 0 0] 24 (0,0)) (zB BK373) k_ hk_)⟩)) (Zc zz76));have O:=aM (Zf (g:=m) (o:= .cells #[.int .i64 z,.slice B l0_1.length D] 24 (0,0)) (zB BK364) hb);have U:=aM (Zf (g:=gb373) (o:= .cells #[.int .i64 0,.slice none 0 0] 24 (0,0)) (zB BK373) hb);have Y:=aM (Zd zz76 hb);clear HO367;clear BK364;clear BK373;clear HB;have HO367:=J;have HO371:=L;have BK364:=O;have BK373:=U;have HB:=Y;clear J L O U Y;(try clear hb);(try clear aq);(try clear hk);(try clear hi);(try clear ho0)
     refine hK.out _ _ ⟨(Za BK364.out 0).trans rfl,(Za BK364.out 1).trans rfl⟩ (fun hHeld=> ?_);clear hK K
     refine ZV (a':= ?_) ?_ ?_;rotate_left
     ·show Act.put _ (some 18) _=_
      simp only[Act.put,sA,sB,sC,Zt,Zu];rfl
     refine ZC (i:=5) (N:=some 13) (v:= ?_) (a':= ?_) #[true,true,true,true,true,true,false,false,true,false,false] rfl rfl (Zy X.out (by kernel_rfl)) (fun _ _ _ h=>h) (Or.inl ⟨by rfl,?_⟩) ?_ ?_;rotate_left
     ·intro w';go_simp;with_reducible rfl
     rotate_left
     ·simp only[Act.put,sA,sB,sC,Zt,Zu];rfl
     refine ZC (i:=6) (N:=some 19) (v:= ?_) (a':= ?_) #[true,true,true,true,true,true,true,false,true,false,false] rfl rfl (Zy X.out (by kernel_rfl)) (fun _ _ _ h=>h) (Or.inl ⟨by rfl,?_⟩) ?_ ?_;rotate_left
     ·intro w';go_simp;with_reducible rfl
     rotate_left
     ·simp only[Act.put,sA,sB,sC,Zt,Zu];rfl
     refine ZC (i:=7) (N:=some 20) (v:= ?_) (a':= ?_) #[true,true,true,true,true,true,true,true,true,false,false] rfl rfl (Zy X.out (by kernel_rfl)) (fun _ _ _ h=>h) (Or.inl ⟨by rfl,?_⟩) ?_ ?_;rotate_left
     ·intro w';go_simp;with_reducible rfl
     rotate_left
     ·simp only[Act.put,sA,sB,sC,Zt,Zu];rfl
     exact ZV zz139 (hCont (.slice az P.length aC,aa,gb373) _ ⟨hHeld,zz114,(zN HO371),(zB BK364),(zB BK373),Z.out,GE373.out,NB364_373.out,I.out,zz76⟩)
   rintro ⟨ah,aa,gb373⟩ aE ⟨hS_,aK,h1_,h2_,h3_,aL,aN,aO,aP,aQ⟩;have J:Aside0 (Kd.N (Kd.slice 3 (Kd.int .i64)) 32 aE w.heap.size (fun k_=>some k_≠(aa:Value).ownBlock∧k_≠m∧k_≠gb373) ah P):=⟨aK⟩;have L:Aside0 (Kd.N k56 56 aE w.heap.size (fun k_=>some k_≠(ah:Value).ownBlock∧k_≠m∧k_≠gb373) aa t369):=⟨h1_⟩;have O:Aside0 (aE.heap[m]? =some (.cells #[.int .i64 z,.slice B l0_1.length D] 24 (0,0))):=⟨h2_⟩;have U:Aside0 (aE.heap[gb373]? =some (.cells #[.int .i64 0,.slice none 0 0] 24 (0,0))):=⟨h3_⟩;have Y:Aside0 (w.heap.size≤gb373):=⟨aL⟩;have ad:Aside0 (w.heap.size≤gb373):=⟨aN⟩;have ae:Aside0 (m≠gb373):=⟨aO⟩;have ag:Aside0 (gb373≠m):=⟨aP⟩;have ao:Aside0 (Below w.heap.size w aE):=⟨aQ⟩;clear BK364;clear HB;clear aK h1_ h2_ h3_ aL aN aO aP aQ;have HO367:=J;have HO371:=L;have BK364:=O;have BK373:=U;have Z:=Y;have GE373:=ad;have NB364_373:=ae;have I:=ag;have HB:=ao;clear J L O U Y ad ae ag ao;have hHeld:aE.cell? ⟨m,0,none⟩=some (.int .i64 z)∧aE.cell? ⟨m,1,none⟩=some (.slice B l0_1.length D):=hS_;obtain⟨cf,cg,bh⟩:=Kd.N_slice HO371.out
   (first|subst bh|(injection bh with ab ai ac;have aj:=ab.symm;have ak:=ac.symm;clear ab ai ac;subst aj;subst ak))
   refine ZV (a':= ?_) ?_ ?_;rotate_left
   ·simp only[putAll,Act.put,sA,sB,sC];rfl
   refine one_ (i:=9) (N:=none) #[true,true,true,true,true,true,true,true,true,true,false] rfl rfl (Z2 X.out (by kernel_rfl)) (by decide) (fun K hK=> ?_);have cm:aE.cell? ⟨gb373,0,none⟩=some (.int .i64 0):=(Za BK373.out 0).trans rfl;have b2:=Zb BK373.out 0;have bT:=NB364_373.out;have bM:=I.out;have co:aE.cell? ⟨gb373,1,none⟩=some (.slice none 0 0):=(Za BK373.out 1).trans rfl;have b3:=Zb BK373.out 1;have bU:=NB364_373.out;have bN:=I.out
   refine skip_ (w1:= ?_) (by rfl) rfl ?_ ?_;rotate_left
   ·go_simp;rfl
   refine hK.out _ _ ⟨((cell_far (p:=⟨gb373,_,none⟩) NB364_373.out _).trans (((cell_far (p:=⟨gb373,_,none⟩) NB364_373.out _).trans (hHeld.1)))),((cell_far (p:=⟨gb373,_,none⟩) NB364_373.out _).trans (((cell_far (p:=⟨gb373,_,none⟩) NB364_373.out _).trans (hHeld.2))))⟩ (fun hHeld=> ?_);clear hK K
   refine ZC (i:=10) (N:=some 4) (v:= ?_) (a':= ?_) #[true,true,true,true,true,true,true,true,true,true,true] rfl rfl (Zy X.out (by kernel_rfl)) (fun _ _ _ h=>h) (Or.inl ⟨by rfl,?_⟩) ?_ ?_;rotate_left
   ·intro w';go_simp;with_reducible rfl
   rotate_left
   ·simp only[Act.put,sA,sB,sC,Zt,Zu];rfl
   refine done_ (done_of X.out (by kernel_rfl)) ?_
   try go_wp2
   go_ret
   exact⟨by first|rfl|(simp[Zm,Zl]<;>rfl)|(simp[*,Zm,Zl]<;>rfl),by repeat(first|(with_reducible first|exact HB.out|apply Zh|apply Zg|apply Zj|refine Zi ?_ GE364.out|refine Zi ?_ GE373.out)|exact HB.out)⟩
mutual
def r30_Few.j0:Nat→Bool→Int→List (S56)→Option (Bool)
 |0,_,_,_=>none
 |k+1,x21,x305000,x305001=>if x21=true then(some false) else(r30_Few.l0 k 0 0 x305000 x305001)
def r30_Few.l0:Nat→Int→Int→Int→List (S56)→Option (Bool)
 |0,_,_,_,_=>none
 |k+1,x5,x6,x305000,x305001=>if x6<(x305001.length:Int) then(if 0≤x6 then(if(((Ze x305001 x6).f1).length:Int)>100 then(some false) else((r09_Few.f k 0 ((Ze x305001 x6).f2) 1000).bind fun t307=>(if t307=true then(r30_Few.l0 k (wrap64 (x5+(((Ze x305001 x6).f2).length:Int))) (wrap64 (x6+1)) x305000 x305001) else(some false)))) else(none)) else(some (decide (x5≤200)))
end
def r30_Few.f (k:Nat) (a0_0:Int) (l0_1:List (S56)) (a1:Int):Option (Bool):=if a0_0>a1 then(if a0_0≤64 then(r30_Few.j0 k true a0_0 l0_1) else(r30_Few.j0 k (decide ((l0_1.length:Int)>70)) a0_0 l0_1)) else(r30_Few.j0 k (decide ((l0_1.length:Int)>70)) a0_0 l0_1)
theorem r30_Few.calls (k:Nat) (D:Int) (ac:Option Addr) (aa:Nat) (l0_1:List (S56)) (a1:Int) (r:Bool) (w:World) (a6:Kd.C k56 w ac l0_1.length l0_1) (a5:l0_1.length≤aa) (h:r30_Few.f k D l0_1 a1=some r):
    Calls Tryz.prog 5 #[.agg #[.int .i64 D,.slice ac l0_1.length aa],.int .i64 a1] w fun e w'=>e= .returned (.bool r)∧Below w.heap.size w w':=by
 have b5:=Tryz.underlying24
 have b6:=Tryz.underlying68
 have ak:=aM a6
 have b1:=aM a5
 clear a6 a5
 have HB:=aM (Below.refl w.heap.size w)
 have H:(if D>a1 then(if D≤64 then(r30_Few.j0 k true D l0_1) else(r30_Few.j0 k (decide ((l0_1.length:Int)>70)) D l0_1)) else(r30_Few.j0 k (decide ((l0_1.length:Int)>70)) D l0_1))=some r:=h
 clear h
 have bk:=aM H
 clear H
 go_enter Tryz.func5,Tryz.ntmps5
 go_upto_region 1 with(first|((with_reducible refine Zq (N:=2) rfl ?_);(try(refine Zv (by rfl) ?_;dsimp only));refine Zx ?hg (N:=2) ?hd (cs:= #[.int .i64 D,.slice ac l0_1.length aa]) (t:=24) ?hr ?_;(case hd=>rfl);(case hg=>rfl);(case hr=>first|(go_simp;done)|(go_simp;rfl));intro B hg w4 hbox hb;have m:=aM (hbox);have b0:=aM ((by rw[hg];exact(Zc zz128):w.heap.size≤B));have GE304:=aM ((by rw[hg];exact(Zc zz128):w.heap.size≤B));replace HB:=aM (Zd zz128 hb);clear hb hbox hg))
 (try simp only[Act.put,sA,sB,sC])
 go_cut [21] (fun b4 wc=>∃(kq:Nat) (aw:Bool),b4= .bool aw∧Aside0 (r30_Few.j0 kq aw D l0_1=some r)∧Aside0 (kq≤k)∧Aside0 (wc.heap[B]? =some (.cells #[.int .i64 D,(.slice ac l0_1.length aa)] 24 (0,0)))∧Aside0 (Below w.heap.size w wc))
 case first=>
  have H:=bk.out;clear bk
  by_cases c5:D>a1
  ·rw [if_pos c5] at H;have an:=dT c5;clear c5
   (first|rw[an]|(simp only[Zt,Zu];rw[an])|skip)
   by_cases c6:D≤64
   ·rw[if_pos c6] at H;have a3:=dT c6;clear c6;have H':=aM H;clear H;have aL:w4.cell? ⟨B,0,none⟩=some (.int .i64 D):=(Za m.out 0).trans rfl;have aN:w4.cell? ⟨B,1,none⟩=some (.slice ac l0_1.length aa):=(Za m.out 1).trans rfl;have aS:=Zb m.out 0;have aT:=Zb m.out 1;go_wp2;go_meet
    case rel=>exact⟨_,(true),zz157,H',⟨zz160⟩,⟨(zB m)⟩,⟨zz100⟩⟩
   rw[if_neg c6] at H;have a3:=dF c6;clear c6;have H':=aM H;clear H;have aO:w4.cell? ⟨B,0,none⟩=some (.int .i64 D):=(Za m.out 0).trans rfl;have aP:w4.cell? ⟨B,1,none⟩=some (.slice ac l0_1.length aa):=(Za m.out 1).trans rfl;have aU:=Zb m.out 0;have aV:=Zb m.out 1;go_wp2;go_meet
   case rel=>exact⟨_,(decide ((l0_1.length:Int)>70)),zz157,H',⟨zz160⟩,⟨(zB m)⟩,⟨zz100⟩⟩
  rw[if_neg c5] at H;have an:=dF c5;clear c5
  (first|rw[an]|(simp only[Zt,Zu];rw[an])|skip)
  have H':=aM H;clear H;have aQ:w4.cell? ⟨B,0,none⟩=some (.int .i64 D):=(Za m.out 0).trans rfl;have aR:w4.cell? ⟨B,1,none⟩=some (.slice ac l0_1.length aa):=(Za m.out 1).trans rfl;have aW:=Zb m.out 0;have aX:=Zb m.out 1;go_wp2;go_meet
  case rel=>exact⟨_,(decide ((l0_1.length:Int)>70)),zz157,H',⟨zz160⟩,⟨(zB m)⟩,⟨zz100⟩⟩
 case rest=>
  clear bk;(try clear p2);(try clear c5);(try clear an);(try clear c6);(try clear a3);(try clear aL);(try clear aN);(try clear aO);(try clear aP);(try clear aQ);(try clear aR);(try clear aS);(try clear aT);(try clear aU);(try clear aV);(try clear aW);(try clear aX);obtain⟨kq,aw,rfl,HA,HJ2,m,HB⟩:=hcut
  cases kq with
  |zero=>exact absurd HA.out (by simp[r30_Few.j0])
  | succ bq =>
   have H:=HA.out;clear HA;simp only[r30_Few.j0] at H
   by_cases c10:aw=true
   ·subst c10;have H1:(some false)=some r:=by rw[if_pos rfl] at H;exact H
    clear H;have H:=H1;clear H1;obtain rfl:=oI H;go_wp2;go_ret
    exact⟨by first|rfl|(simp[Zm,Zl]<;>rfl)|(simp[*,Zm,Zl]<;>rfl),by repeat(first|(with_reducible first|exact HB.out|apply Zh|apply Zg|apply Zj|refine Zi ?_ GE304.out)|exact HB.out)⟩
   replace c10:=Bool.eq_false_iff.mpr c10;subst c10;have H1:(r30_Few.l0 bq 0 0 D l0_1)=some r:=by rw[if_neg (show¬(false=true) by decide)] at H;exact H
   clear H;have H:=H1;clear H1;have H':=aM H;clear H;go_wp2
   go_loopg [5,6] bq (fun kq v5 v6 w'=>∃(x5_2:Int) (z:Int),v5= .int .i64 x5_2∧v6= .int .i64 z∧Aside0 (r30_Few.l0 kq x5_2 z D l0_1=some r)∧Aside0 (kq≤bq)∧Aside0 (w'.heap[B]? =some (.cells #[.int .i64 D,(.slice ac l0_1.length aa)] 24 (0,0)))∧Aside0 (Below w.heap.size w w'))
   case atStart=>exact⟨(0),(0),zz157,zz157,H',⟨Nat.le_refl _⟩,⟨(zB m)⟩,⟨zz100⟩⟩
   case round =>
    clear H';(try clear c1);(try clear p2);(try clear c5);(try clear an);(try clear c6);(try clear a3);(try clear c10);(try clear aL);(try clear aN);(try clear aO);(try clear aP);(try clear aQ);(try clear aR);(try clear aS);(try clear aT);(try clear aU);(try clear aV);(try clear aW);(try clear aX);(try clear p2);obtain⟨x5_2,z,rfl,rfl,HA,HK2,m,HB⟩:=hrel
    cases gk with
    |zero=>exact absurd HA.out (by simp[r30_Few.l0])
    | succ k2=>
     have H:=HA.out;clear HA;simp only[r30_Few.l0] at H
     by_cases aY:z<(l0_1.length:Int)
     ·rw [if_pos aY] at H;have bn:=dT aY;clear aY
      by_cases bb:0≤z
      ·rw [if_pos bb] at H;have b2:=dT bb;clear bb
       by_cases aZ:(((Ze l0_1 z).f1).length:Int)>100
       ·rw[if_pos aZ] at H;have bo:=dT aZ;have bp:decide (100<((Ze l0_1 z).f1).length)=true:=dT (by omega);clear aZ;obtain rfl:=oI H;have bz:wr.cell? ⟨B,0,none⟩=some (.int .i64 D):=(Za m.out 0).trans rfl;have bA:wr.cell? ⟨B,1,none⟩=some (.slice ac l0_1.length aa):=(Za m.out 1).trans rfl;have bK:=Zb m.out 0;have bL:=Zb m.out 1;have ai:0≤(z:Int):=oD zz156;have aj:z<(l0_1.length:Int):=oD zz156;obtain⟨ad,aH,aJ,aI,aK,aB,L,I,J,Y,U,Z,X⟩:=Z4 ak.out z ai aj
        cases aB;replace L:=(HB.out.cell (wB w _ L)).trans L;replace I:=(HB.out.cell (wB w _ I)).trans I;replace J:=(HB.out.cell (wB w _ J)).trans J;have az:=aM U;have ax:=aM Y;clear U Y;have aA:=aM X;have ay:=aM Z;clear X Z;replace ai:=eq_true ai;replace aj:=eq_true aj;go_wp2;go_ret
        exact⟨by first|rfl|(simp[Zm,Zl]<;>rfl)|(simp[*,Zm,Zl]<;>rfl),by repeat(first|(with_reducible first|exact HB.out|apply Zh|apply Zg|apply Zj|refine Zi ?_ GE304.out)|exact HB.out)⟩
       rw[if_neg aZ] at H;have bo:=dF aZ;have bp:decide (100<((Ze l0_1 z).f1).length)=false:=dF (by omega);clear aZ;replace H:=oB H;obtain⟨bj,bi,H⟩:=H;replace H:(if bj=true then(r30_Few.l0 k2 (wrap64 (x5_2+(((Ze l0_1 z).f2).length:Int))) (wrap64 (z+1)) D l0_1) else(some false))=some r:=H;have br:=aM bi;clear bi
       by_cases bc:bj=true
       ·subst bc;have H1:(r30_Few.l0 k2 (wrap64 (x5_2+(((Ze l0_1 z).f2).length:Int))) (wrap64 (z+1)) D l0_1)=some r:=by rw[if_pos rfl] at H;exact H
        clear H;have H:=H1;clear H1;have H':=aM H;clear H;have bB:wr.cell? ⟨B,0,none⟩=some (.int .i64 D):=(Za m.out 0).trans rfl;have bC:wr.cell? ⟨B,1,none⟩=some (.slice ac l0_1.length aa):=(Za m.out 1).trans rfl;have bM:=Zb m.out 0;have bN:=Zb m.out 1;have ai:0≤(z:Int):=oD zz156;have aj:z<(l0_1.length:Int):=oD zz156;obtain⟨ad,aH,aJ,aI,aK,aB,L,I,J,Y,U,Z,X⟩:=Z4 ak.out z ai aj
        cases aB;replace L:=(HB.out.cell (wB w _ L)).trans L;replace I:=(HB.out.cell (wB w _ I)).trans I;replace J:=(HB.out.cell (wB w _ J)).trans J;have az:=aM U;have ax:=aM Y;clear U Y;have aA:=aM X;have ay:=aM Z;clear X Z;replace ai:=eq_true ai;replace aj:=eq_true aj;have au:0≤(z:Int):=oD zz156;have av:z<(l0_1.length:Int):=oD zz156;obtain⟨aG,a9,bg,ba,bh,a4,ab,O,P,ag,ae,ah,af⟩:=Z4 ak.out z au av;obtain rfl:ad=aG:=(by injection a4);replace ab:=(HB.out.cell (wB w _ ab)).trans ab;replace O:=(HB.out.cell (wB w _ O)).trans O;replace P:=(HB.out.cell (wB w _ P)).trans P;have a2:=aM ae;have a0:=aM ag;clear ae ag;have am:=aM af;have al:=aM ah;clear af ah;replace au:=eq_true au;replace av:=eq_true av;have ea_:=oI (I.symm.trans O);injection ea_ with ea_ en_ ec_
        subst ea_;subst ec_;clear en_;have ea_:=oI (J.symm.trans P);injection ea_ with ea_ en_ ec_
        subst ea_;subst ec_;clear en_
        go_wp2_with (first|(go_at_call 29;(with_reducible refine(r09_Few.calls k2 0 _ _ ((Ze l0_1 z).f2) 1000 true _ ?sa ?sb br.out).mono ?_);(case sa=>exact zC (Kd.C_below am.out HB.out));(case sb=>exact al.out);rintro e bV ⟨rfl,hb⟩;replace m:=aM (Zf (g:=B) (o:= .cells #[.int .i64 D,.slice (some ad) l0_1.length aa] 24 (0,0)) (zB m) hb);replace HB:=aM (Zd zz100 hb);(try clear hb);(try clear b3);(try clear hk);(try clear hi);have bD:bV.cell? ⟨B,0,none⟩=some (.int .i64 D):=(Za m.out 0).trans rfl;have bE:bV.cell? ⟨B,1,none⟩=some (.slice (some ad) l0_1.length aa):=(Za m.out 1).trans rfl;have bO:=Zb m.out 0;have bP:=Zb m.out 1;have a7:0≤(z:Int):=oD zz156;have a8:z<(l0_1.length:Int):=oD zz156;obtain⟨bm,bW,bY,bX,bZ,bx,ao,aq,ar,aE,aC,aF,aD⟩:=Z4 ak.out z a7 a8;obtain rfl:ad=bm:=(by injection bx);replace ao:=(HB.out.cell (wB w _ ao)).trans ao;replace aq:=(HB.out.cell (wB w _ aq)).trans aq;replace ar:=(HB.out.cell (wB w _ ar)).trans ar;have bv:=aM aC;have bs:=aM aE;clear aC aE;have bw:=aM aD;have bu:=aM aF;clear aD aF;replace a7:=eq_true a7;replace a8:=eq_true a8))
        go_roundg k2
        case measure=>have:=HJ2.out;have:=HK2.out;omega
        case rel=>exact⟨(wrap64 (x5_2+(((Ze l0_1 z).f2).length:Int))),(wrap64 (z+1)),zz157,zz157,H',⟨(by have:=HJ2.out;have:=HK2.out;omega)⟩,⟨(zB m)⟩,⟨zz100⟩⟩
       replace bc:=Bool.eq_false_iff.mpr bc;subst bc;have H1:(some false)=some r:=by rw[if_neg (show¬(false=true) by decide)] at H;exact H
       clear H;have H:=H1;clear H1;obtain rfl:=oI H;have bF:wr.cell? ⟨B,0,none⟩=some (.int .i64 D):=(Za m.out 0).trans rfl;have bH:wr.cell? ⟨B,1,none⟩=some (.slice ac l0_1.length aa):=(Za m.out 1).trans rfl;have bQ:=Zb m.out 0;have bS:=Zb m.out 1;have ai:0≤(z:Int):=oD zz156;have aj:z<(l0_1.length:Int):=oD zz156;obtain⟨ad,aH,aJ,aI,aK,aB,L,I,J,Y,U,Z,X⟩:=Z4 ak.out z ai aj
       cases aB;replace L:=(HB.out.cell (wB w _ L)).trans L;replace I:=(HB.out.cell (wB w _ I)).trans I;replace J:=(HB.out.cell (wB w _ J)).trans J;have az:=aM U;have ax:=aM Y;clear U Y;have aA:=aM X;have ay:=aM Z;clear X Z;replace ai:=eq_true ai;replace aj:=eq_true aj;have au:0≤(z:Int):=oD zz156;have av:z<(l0_1.length:Int):=oD zz156;obtain⟨aG,a9,bg,ba,bh,a4,ab,O,P,ag,ae,ah,af⟩:=Z4 ak.out z au av;obtain rfl:ad=aG:=(by injection a4);replace ab:=(HB.out.cell (wB w _ ab)).trans ab;replace O:=(HB.out.cell (wB w _ O)).trans O;replace P:=(HB.out.cell (wB w _ P)).trans P;have a2:=aM ae;have a0:=aM ag;clear ae ag;have am:=aM af;have al:=aM ah;clear af ah;replace au:=eq_true au;replace av:=eq_true av;have ea_:=oI (I.symm.trans O);injection ea_ with ea_ en_ ec_
       subst ea_;subst ec_;clear en_;have ea_:=oI (J.symm.trans P);injection ea_ with ea_ en_ ec_
       subst ea_;subst ec_;clear en_
       go_wp2_with (first|(go_at_call 29;(with_reducible refine(r09_Few.calls k2 0 _ _ ((Ze l0_1 z).f2) 1000 false _ ?sa ?sb br.out).mono ?_);(case sa=>exact zC (Kd.C_below am.out HB.out));(case sb=>exact al.out);rintro e b7 ⟨rfl,hb⟩;replace m:=aM (Zf (g:=B) (o:= .cells #[.int .i64 D,.slice (some ad) l0_1.length aa] 24 (0,0)) (zB m) hb);replace HB:=aM (Zd zz100 hb);(try clear hb);(try clear b3);(try clear hk);(try clear hi)))
       go_ret
       exact⟨by first|rfl|(simp[Zm,Zl]<;>rfl)|(simp[*,Zm,Zl]<;>rfl),by repeat(first|(with_reducible first|exact HB.out|apply Zh|apply Zg|apply Zj|refine Zi ?_ GE304.out)|exact HB.out)⟩
      rw[if_neg bb] at H
      exact absurd H (by simp)
     rw[if_neg aY] at H;have bn:=dF aY;clear aY;obtain rfl:=oI H;have bI:wr.cell? ⟨B,0,none⟩=some (.int .i64 D):=(Za m.out 0).trans rfl;have bJ:wr.cell? ⟨B,1,none⟩=some (.slice ac l0_1.length aa):=(Za m.out 1).trans rfl;have bT:=Zb m.out 0;have bU:=Zb m.out 1;go_wp2;go_ret
     exact⟨by first|rfl|(simp[Zm,Zl]<;>rfl)|(simp[*,Zm,Zl]<;>rfl),by repeat(first|(with_reducible first|exact HB.out|apply Zh|apply Zg|apply Zj|refine Zi ?_ GE304.out)|exact HB.out)⟩
def slEq.l0:Nat→List Int→List Int→Int→Int→Option (Bool)
 |0,_,_,_,_=>none
 |k+1,x0,x1,x12,x13=>if x13<x12 then(if 0≤x13 then(if x13<(x0.length:Int) then(if x13<(x1.length:Int) then(if(rd x0 x13)=(rd x1 x13) then(slEq.l0 k x0 x1 x12 (wrap64 (x13+1))) else(some false)) else(none)) else(none)) else(none)) else(some true)
def slEq.f (k:Nat) (l0:List Int) (l1:List Int):Option (Bool):=if(l0.length:Int)=(l1.length:Int) then(slEq.l0 k l0 l1 (l0.length:Int) 0) else(some false)
theorem slEq.mono_l:∀k,(∀y0 y1 y2 y3,LeO (slEq.l0 k y0 y1 y2 y3) (slEq.l0 (k+1) y0 y1 y2 y3))
 |0=>fun _ _ _ _ r h=>by simp[slEq.l0] at h
 | k +1=>by
  have e:=slEq.mono_l k
  ·intro y0 y1 y2 y3;unfold slEq.l0
   repeat' first
   |(with_reducible exact e _ _ _ _)
   |(with_reducible exact LeO.refl _)
   |(with_reducible exact LeO.none _)
   |(with_reducible refine LeO.ite ?_ ?_)
   |(with_reducible refine LeO.bind ?_ (fun _=> ?_))
theorem slEq.mono:∀a0 a1 k,LeO (slEq.f k a0 a1) (slEq.f (k+1) a0 a1):=by
 intro a0 a1 k
 have e:=slEq.mono_l k
 unfold slEq.f
 repeat' first
     |(with_reducible exact e _ _ _ _)
     |(with_reducible exact LeO.refl _)
     |(with_reducible exact LeO.none _)
     |(with_reducible refine LeO.ite ?_ ?_)
     |(with_reducible refine LeO.bind ?_ (fun _=> ?_))
theorem slEq.calls (k:Nat) (A0:Option Addr) (c0:Nat) (l0:List Int) (A1:Option Addr) (c1:Nat) (l1:List Int) (r:Bool) (w:World) (ah:Kd.C (Kd.int .i64) w A0 l0.length l0) (af:l0.length≤c0) (ai:Kd.C (Kd.int .i64) w A1 l1.length l1) (ag:l1.length≤c1) (h:slEq.f k l0 l1=some r):
    Calls Tryz.prog 52 #[.slice A0 l0.length c0,.slice A1 l1.length c1] w fun e w'=>e= .returned (.bool r)∧Drawn0 w w':=by
 have aa:=aM ah
 have an:=aM af
 clear ah af
 have ab:=aM ai
 have ao:=aM ag
 clear ai ag
 have H:(if(l0.length:Int)=(l1.length:Int) then(slEq.l0 k l0 l1 (l0.length:Int) 0) else(some false))=some r:=h
 clear h
 by_cases c3:(l0.length:Int)=(l1.length:Int)
 ·rw [if_pos c3] at H
  have P:=beq_iff_eq.mpr c3;have U:=bne_eq_false_iff_eq.mpr c3;have X:(l0.length==l1.length)=true:=by first|simpa using c3|(simp at c3⊢;omega)
  clear c3;have H':=aM H;clear H
  go_enter Tryz.func52,Tryz.ntmps52
  go_wp2
  repeat(go_quiet (fail);try go_wp2)
  go_loopg [13] k (fun kq aj w'=>∃(m:Int),aj= .int .i64 m∧Aside0 (slEq.l0 kq l0 l1 (l0.length:Int) m=some r)∧Aside0 (kq≤k)∧Drawn0 w w')
  case atStart=>exact⟨(0),zz157,H',⟨Nat.le_refl _⟩,by repeat(first|exact Drawn0.refl _|apply Drawn0.step)⟩
  case round =>
   clear H';(try clear c1);(try clear p2);(try clear c3);(try clear P);(try clear U);(try clear X);obtain⟨m,rfl,HA,HK1,⟨m1,rfl⟩⟩:=hrel
   cases gk with
   |zero=>exact absurd HA.out (by simp[slEq.l0])
   | succ k1=>
    have H:=HA.out;clear HA;simp only[slEq.l0] at H
    by_cases c4:m<(l0.length:Int)
    ·rw [if_pos c4] at H;have ac:=dT c4;clear c4
     by_cases c5:0≤m
     ·rw [if_pos c5] at H;have ak:=dT c5;clear c5
      by_cases c6:m<(l0.length:Int)
      ·rw [if_pos c6] at H;have al:=dT c6;clear c6
       by_cases c7:m<(l1.length:Int)
       ·rw [if_pos c7] at H;have am:=dT c7;clear c7
        by_cases c8:(rd l0 m)=(rd l1 m)
        ·rw[if_pos c8] at H;have ad:=beq_iff_eq.mpr c8;have ae:=bne_eq_false_iff_eq.mpr c8;clear c8;have H':=aM H;clear H;have o:0≤(m:Int):=oD zz156;have B:m<(l0.length:Int):=oD zz156;obtain⟨Y,I,L⟩:=Kd.at_int aa.out m o B
         cases I;replace o:=eq_true o;replace B:=eq_true B;have z:0≤(m:Int):=oD zz156;have D:m<(l1.length:Int):=oD zz156;obtain⟨Z,J,O⟩:=Kd.at_int ab.out m z D
         cases J;replace z:=eq_true z;replace D:=eq_true D;go_wp2
         repeat(go_quiet (fail);try go_wp2)
         go_roundg k1
         case measure=>have:=HK1.out;omega
         case rel=>exact⟨(wrap64 (m+1)),zz157,H',⟨zz167⟩,by repeat(first|exact Drawn0.refl _|apply Drawn0.step)⟩
        rw[if_neg c8] at H;have ad:=beq_eq_false_iff_ne.mpr c8;have ae:=bne_iff_ne.mpr c8;obtain rfl:=oI H;have o:0≤(m:Int):=oD zz156;have B:m<(l0.length:Int):=oD zz156;obtain⟨Y,I,L⟩:=Kd.at_int aa.out m o B
        cases I;replace o:=eq_true o;replace B:=eq_true B;have z:0≤(m:Int):=oD zz156;have D:m<(l1.length:Int):=oD zz156;obtain⟨Z,J,O⟩:=Kd.at_int ab.out m z D
        cases J;replace z:=eq_true z;replace D:=eq_true D;go_wp2
        repeat(go_quiet (fail);try go_wp2)
        go_ret
        exact⟨by first|rfl|(simp;done)|(simp[*];done),by repeat(first|exact Drawn0.refl _|apply Drawn0.step)⟩
       rw[if_neg c7] at H
       exact absurd H (by simp)
      rw[if_neg c6] at H
      exact absurd H (by simp)
     rw[if_neg c5] at H
     exact absurd H (by simp)
    rw[if_neg c4] at H;have ac:=dF c4;clear c4;obtain rfl:=oI H;go_wp2
    repeat(go_quiet (fail);try go_wp2)
    go_ret
    exact⟨by first|rfl|(simp;done)|(simp[*];done),by repeat(first|exact Drawn0.refl _|apply Drawn0.step)⟩
 rw[if_neg c3] at H
 have P:=beq_eq_false_iff_ne.mpr c3
 have U:=bne_iff_ne.mpr c3
 have X:(l0.length==l1.length)=false:=by first|simpa using c3|(simp at c3⊢;omega)
 obtain rfl:=oI H
 go_enter Tryz.func52,Tryz.ntmps52
 go_wp2
 repeat(go_quiet (fail);try go_wp2)
 go_ret
 exact⟨by first|rfl|(simp;done)|(simp[*];done),by repeat(first|exact Drawn0.refl _|apply Drawn0.step)⟩
end
theorem dr_trans {w w' w'':World} (h:Drawn0 w w') (h2:Drawn0 w' w''):Drawn0 w w'':=by
 obtain⟨⟨n,rfl⟩⟩:=h2
 exact h.step n
theorem wrap64_to {n:Int} (h: -9223372036854775808≤n∧n≤9223372036854775807):wrap64 n=n:=by unfold wrap64;omega
theorem rd_is (l:List Int) (n:Nat):rd l (n:Int)=l.getD n 0:=by simp[rd]
theorem take_eq_succ {α:Type} (d:α) {x y:List α} {i:Nat} (hx:i<x.length) (hy:i<y.length):x.take (i+1)=y.take (i+1)↔x.take i=y.take i∧x.getD i d=y.getD i d:=by
 rw[List.take_succ_eq_append_getElem hx,List.take_succ_eq_append_getElem hy]
 have e1:x.getD i d=x[i]:=by simp[List.getD_eq_getElem?_getD,hx]
 have e2:y.getD i d=y[i]:=by simp[List.getD_eq_getElem?_getD,hy]
 rw[e1,e2]
 constructor
 ·intro h
  have:=List.append_inj h (by simp;omega)
  exact⟨this.1,by simpa using this.2⟩
 ·rintro ⟨h1,h2⟩
  rw[h1,h2]
theorem eq_loop (x y:List Int) (hxy:x.length=y.length) (hb:x.length≤9223372036854775807):∀(m i:Nat),m=x.length-i→i≤x.length→x.take i=y.take i→slEq.l0 (m+1) x y (x.length:Int) (i:Int)=some (decide (x=y))
 | 0,i,hm,hi,ht=>by
  rw[slEq.l0,if_neg (by omega)];have:x=y:=by rw[List.take_of_length_le (by omega),List.take_of_length_le (by omega)] at ht;exact ht
  rw[dT this]
 | m +1,i,hm,hi,ht=>by
  rw[slEq.l0,if_pos (by omega),if_pos (by omega),if_pos (by omega),if_pos (by omega),rd_is,rd_is,wrap64_to (by omega)]
  by_cases h:x.getD i 0=y.getD i 0
  ·rw[if_pos h]
   exact eq_loop x y hxy hb m (i+1) (by omega) (by omega) ((take_eq_succ 0 (by omega) (by omega)).2 ⟨ht,h⟩)
  ·rw[if_neg h,dF (fun e=>h (by rw[e]))]
theorem Equal_is (x y:List Int) (hb:x.length≤9223372036854775807):∃k,slEq.f k x y=some (decide (x=y)):=by
 refine⟨x.length+1,?_⟩
 unfold slEq.f
 by_cases h:(x.length:Int)=(y.length:Int)
 ·rw[if_pos h]
  exact eq_loop x y (by omega) hb x.length 0 (by omega) (by omega) (by simp)
 rw[if_neg h,dF (fun e=>h (by rw[e]))]
def slEqF.f (l0 l1:List (List Int)):Option Bool:=some (decide (l0=l1))
theorem slEqF.calls (A0:Option Addr) (c0:Nat) (l0:List (List Int)) (A1:Option Addr) (c1:Nat) (l1:List (List Int)) (r:Bool) (w:World) (ae:Kd.C (Kd.slice 3 (Kd.int .i64)) w A0 l0.length l0) (ak:l0.length≤c0) (af:Kd.C (Kd.slice 3 (Kd.int .i64)) w A1 l1.length l1) (al:l1.length≤c1) (h:slEqF.f l0 l1=some r):
    Calls Tryz.prog 55 #[.slice A0 l0.length c0,.slice A1 l1.length c1,.func (.func 52) #[] #[]] w fun e w'=>e= .returned (.bool r)∧Drawn0 w w':=by
 obtain rfl:=oI h
 have Y:=aM ae
 have ah:=aM af
 clear ae af ak al h
 by_cases hl:(l0.length:Int)=(l1.length:Int)
 ·have hlb :((l0.length:Int) !=(l1.length:Int))=false:=bne_eq_false_iff_eq.mpr hl
  have hlc:((l0.length:Int)==(l1.length:Int))=true:=beq_iff_eq.mpr hl;have HL:=aM hl;clear hl
  go_enter Tryz.func55,Tryz.ntmps55
  go_wp2
  go_loopg [17] l0.length (fun kq am w'=>∃i:Int,am= .int .i64 i∧Aside0 (0≤i)∧Aside0 (i.toNat+kq=l0.length)∧Aside0 (l0.take i.toNat=l1.take i.toNat)∧Aside0 (Drawn0 w w'))
  case atStart=>exact⟨0,rfl,⟨by omega⟩,⟨by simp⟩,⟨by simp⟩,⟨Drawn0.refl _⟩⟩
  case round=>
   obtain⟨i,rfl,B,P,HA,HD⟩:=hrel;have i0:=B.out
   by_cases d1:i<(l0.length:Int)
   ·have ai:decide (i<(l0.length:Int))=true:=dT d1;have d2:i<(l1.length:Int):=by have:=HL.out;omega
    have q0:=eq_true i0;have q1:=eq_true d1;have q2:=eq_true d2;have hmax:l0.length≤9223372036854775807:=Y.out.2.1;obtain⟨ad,A2,c2,ea,I,ab,D⟩:=ZY Y.out i i0 d1
    cases ea;replace I:=(HD.out.below.cell (wB w _ I)).trans I;obtain⟨an,A3,c3,aj,J,ac,Z⟩:=ZY ah.out i i0 d2
    cases aj;replace J:=(HD.out.below.cell (wB w _ J)).trans J;obtain⟨k2,aa⟩:=Equal_is (Zo l0 i) (Zo l1 i) D.2.1;have HK2:=aM aa;have L:=aM (Kd.C_below D HD.out.below);have O:=aM (Kd.C_below Z HD.out.below);have U:=aM ab;have X:=aM ac;have HDD:=aM d2;clear aa D Z ab ac d2
    have HX:Aside0 (l0.take (i+1).toNat=l1.take (i+1).toNat↔l0.take i.toNat=l1.take i.toNat∧Zo l0 i=Zo l1 i):=⟨by
     rw[show(i+1).toNat=i.toNat+1 by omega]
     exact take_eq_succ [] (by omega) (by have:=HDD.out;omega)⟩
    by_cases hb:Zo l0 i=Zo l1 i
    ·have hbd:decide (Zo l0 i=Zo l1 i)=true:=dT hb;have HBo:=aM hb;have HBd:=aM hbd;clear hb hbd
     go_wp2_with (first
      |(go_at_call 52;(with_reducible refine(slEq.calls k2 A2 c2 (Zo l0 i) A3 c3 (Zo l1 i) _ _ L.out U.out O.out X.out HK2.out).mono ?_);rintro e w5 ⟨rfl,o⟩;rw[HBd.out];have z:=aM o;clear o))
     obtain⟨k1,rfl⟩:∃m,gk=m+1:=⟨gk-1,by have:=P.out;omega⟩
     go_roundg k1
     case measure=>omega
     case rel=>exact⟨i+1,rfl,⟨by have:=B.out;omega⟩,⟨by have:=P.out;have:=B.out;omega⟩,⟨HX.out.2 ⟨HA.out,HBo.out⟩⟩,⟨dr_trans HD.out z.out⟩⟩
    have hbd:decide (Zo l0 i=Zo l1 i)=false:=dF hb;have HBo:=aM hb;have HBd:=aM hbd;clear hb hbd
    go_wp2_with (first
     |(go_at_call 52;(with_reducible refine(slEq.calls k2 A2 c2 (Zo l0 i) A3 c3 (Zo l1 i) _ _ L.out U.out O.out X.out HK2.out).mono ?_);rintro e w5 ⟨rfl,o⟩;rw[HBd.out];have z:=aM o;clear o))
    go_ret
    refine⟨?_,dr_trans HD.out z.out⟩;rw[dF (fun e=>HBo.out (by rw[e]))];rfl
   have ai:decide (i<(l0.length:Int))=false:=dF d1;have ha:=HA.out;rw[List.take_of_length_le (by omega),List.take_of_length_le (by have:=HL.out;omega)] at ha;have ag:=aM ha;clear ha;go_wp2;go_ret
   exact⟨by rw[dT ag.out];rfl,HD.out⟩
 have hlb:((l0.length:Int) !=(l1.length:Int))=true:=bne_iff_ne.mpr hl
 have hlc:((l0.length:Int)==(l1.length:Int))=false:=beq_eq_false_iff_ne.mpr hl
 have HN:=aM (show l0≠l1 from fun e=>hl (by rw[e]))
 clear hl
 go_enter Tryz.func55,Tryz.ntmps55
 go_wp2
 go_ret
 exact⟨by rw[dF HN.out];rfl,Drawn0.refl _⟩
section
attribute [local go_sem] ZH ZF ZL ZK ZB ZA ZG ZE
mutual
def perm_CheckChain.l0:Nat→List (List Int)→List (S56)→Int→Int→Int→List (S56)→Option (Int)
 |0,_,_,_,_,_,_=>none
 |k+1,x4,x25,x26,x27,x215000,x215001=>if x27<x26 then(if 0≤x27 then(if x27<(x25.length:Int) then(if(((Ze x25 x27).f1).length:Int)>x215000 then(some 5) else(if(((Ze x25 x27).f2).length:Int)=(((Ze x25 x27).f1).length:Int) then(if x4.length+((Ze x25 x27).f2).length<5864062014805 then(perm_CheckChain.l0 k (x4++((Ze x25 x27).f2)) x25 x26 (wrap64 (x27+1)) x215000 x215001) else(none)) else(some 5))) else(none)) else(none)) else((perm_Build.f k x215000 x4).bind fun bt221=>(if bt221.2.2=0 then(perm_CheckChain.j1 k ((bt221.2.1.length:Int) !=(x215001.length:Int)) x215000 x215001 bt221.1 bt221.2.1) else(perm_CheckChain.j1 k true x215000 x215001 bt221.1 bt221.2.1)))
def perm_CheckChain.j1:Nat→Bool→Int→List (S56)→Int→List (S56)→Option (Int)
 |0,_,_,_,_,_=>none
 |k+1,x68,x215000,x215001,x227000,x227001=>if x68=true then(some 5) else(perm_CheckChain.l1 k x215001 (x215001.length:Int) 0 x227000 x227001)
def perm_CheckChain.l1:Nat→List (S56)→Int→Int→Int→List (S56)→Option (Int)
 |0,_,_,_,_,_=>none
 |k+1,x70,x71,x72,x227000,x227001=>if x72<x71 then(if 0≤x72 then(if x72<(x70.length:Int) then(if x72<(x227001.length:Int) then(if((Ze x70 x72).f0)=((Ze x227001 x72).f0) then((slEq.f k ((Ze x70 x72).f1) ((Ze x227001 x72).f1)).bind fun t231=>(if t231=true then((slEqF.f ((Ze x70 x72).f2) ((Ze x227001 x72).f2)).bind fun t232=>(if t232=true then(perm_CheckChain.l1 k x70 x71 (wrap64 (x72+1)) x227000 x227001) else(some 5))) else(some 5))) else(some 5)) else(none)) else(none)) else(none)) else(some 0)
end
def perm_CheckChain.f (k:Nat) (a0_0:Int) (l0_1:List (S56)):Option (Int):=(perm_degree.f a0_0).bind fun t215=>(if t215=0 then(if(l0_1.length:Int)>a0_0 then(some 5) else(perm_CheckChain.l0 k ([]:List (List Int)) l0_1 (l0_1.length:Int) 0 a0_0 l0_1)) else(some t215))
theorem perm_CheckChain.callsV (k:Nat) (D:Int) (P:Nat→Prop) (aq:Option Addr) (I:Nat) (l0_1:List (S56)) (r:Int) (w:World) (em:Kd.V k56 56 w w.heap.size (fun k_=>P k_) (.slice aq l0_1.length I) l0_1) (h:perm_CheckChain.f k D l0_1=some r):
    Calls Tryz.prog 27 #[.agg #[.int .i64 D,.slice aq l0_1.length I]] w fun e w'=>e= .returned (.int .i64 r)∧Below w.heap.size w w':=by
 have hH:=Tryz.underlying24
 have hI:=Tryz.underlying56
 have HO0_1:=aM (show Kd.V k56 56 w w.heap.size (fun k_=>(P k_∨w.heap.size≤k_)) (.slice aq l0_1.length I) l0_1 from Kd.V_mono em (fun k_ hk=> .inl hk))
 have HB:=aM (Below.refl w.heap.size w)
 have H:((perm_degree.f D).bind fun bu=>(if bu=0 then(if(l0_1.length:Int)>D then(some 5) else(perm_CheckChain.l0 k ([]:List (List Int)) l0_1 (l0_1.length:Int) 0 D l0_1)) else(some bu)))=some r:=h
 clear h
 replace H:=oB H
 obtain⟨bu,eF,H⟩:=H
 replace H:(if bu=0 then(if(l0_1.length:Int)>D then(some 5) else(perm_CheckChain.l0 k ([]:List (List Int)) l0_1 (l0_1.length:Int) 0 D l0_1)) else(some bu))=some r:=H
 have A2:=aM eF
 clear eF
 by_cases c3:bu=0
 ·rw [if_pos c3] at H
  have dr:=beq_iff_eq.mpr c3;have ds:=bne_eq_false_iff_eq.mpr c3;clear c3
  by_cases c4:(l0_1.length:Int)>D
  ·rw[if_pos c4] at H;have dt:=dT c4;clear c4;obtain rfl:=oI H
   go_enter Tryz.func27,Tryz.ntmps27
   go_wp2_with (first|((with_reducible refine Zq (N:=1) rfl ?_);(try(refine Zv (by rfl) ?_;dsimp only));refine Zx ?hg (N:=1) ?hd (cs:= #[.int .i64 D,.slice aq l0_1.length I]) (t:=24) ?hr ?_;(case hd=>rfl);(case hg=>rfl);(case hr=>first|(go_simp;done)|(go_simp;rfl));intro m hg w5 hbox hb;replace HO0_1:=aM (Kd.V_below (Kd.V_elderB (zV HO0_1) m (Nat.le_of_eq hg.symm)) hb);have BK214:=aM (hbox);have dC:=aM ((by rw[hg];exact(Zc zz128):w.heap.size≤m));have GE214:=aM ((by rw[hg];exact(Zc zz128):w.heap.size≤m));replace HB:=aM (Zd zz128 hb);clear hb hbox hg;have b4:w5.cell? ⟨m,0,none⟩=some (.int .i64 D):=(Za BK214.out 0).trans rfl;have b5:w5.cell? ⟨m,1,none⟩=some (.slice aq l0_1.length I):=(Za BK214.out 1).trans rfl;have b8:=Zb BK214.out 0;have b9:=Zb BK214.out 1)|((with_reducible refine Zr (f:=54) rfl ?_);refine ZI (some 14) rfl rfl Tryz.func54 (by kernel_rfl) rfl #[.int .i64 D] rfl zz127 ?_;(with_reducible refine(perm_degree.calls D bu _ A2.out).mono ?_);rintro e w' ⟨rfl,⟨nd,rfl⟩⟩;refine⟨_,rfl,?_⟩))
   go_ret
   exact⟨by first|rfl|(simp[Zm,Zl]<;>rfl)|(simp[*,Zm,Zl]<;>rfl),by repeat(first|(with_reducible first|exact HB.out|apply Zh|apply Zg|apply Zj|refine Zi ?_ GE214.out)|exact HB.out)⟩
  rw[if_neg c4] at H;have dt:=dF c4;clear c4;have H':=aM H;clear H
  go_enter Tryz.func27,Tryz.ntmps27
  go_wp2_with (first|((with_reducible refine Zq (N:=1) rfl ?_);(try(refine Zv (by rfl) ?_;dsimp only));refine Zx ?hg (N:=1) ?hd (cs:= #[.int .i64 D,.slice aq l0_1.length I]) (t:=24) ?hr ?_;(case hd=>rfl);(case hg=>rfl);(case hr=>first|(go_simp;done)|(go_simp;rfl));intro m hg w7 hbox hb;replace HO0_1:=aM (Kd.V_below (Kd.V_elderB (zV HO0_1) m (Nat.le_of_eq hg.symm)) hb);have BK214:=aM (hbox);have dC:=aM ((by rw[hg];exact(Zc zz128):w.heap.size≤m));have GE214:=aM ((by rw[hg];exact(Zc zz128):w.heap.size≤m));replace HB:=aM (Zd zz128 hb);clear hb hbox hg;have b6:w7.cell? ⟨m,0,none⟩=some (.int .i64 D):=(Za BK214.out 0).trans rfl;have b7:w7.cell? ⟨m,1,none⟩=some (.slice aq l0_1.length I):=(Za BK214.out 1).trans rfl;have ca:=Zb BK214.out 0;have cb:=Zb BK214.out 1)|((with_reducible refine Zr (f:=54) rfl ?_);refine ZI (some 14) rfl rfl Tryz.func54 (by kernel_rfl) rfl #[.int .i64 D] rfl zz127 ?_;(with_reducible refine(perm_degree.calls D bu _ A2.out).mono ?_);rintro e w' ⟨rfl,⟨nd,rfl⟩⟩;refine⟨_,rfl,?_⟩))
  go_loopg [4,27] k (fun kq v4 hD w'=>∃(bv:List (List Int)) (x27_1:Int),hD= .int .i64 x27_1∧Aside0 (perm_CheckChain.l0 kq bv l0_1 (l0_1.length:Int) x27_1 D l0_1=some r)∧Aside0 (kq≤k)∧Aside0 (Kd.N (Kd.slice 3 (Kd.int .i64)) 32 w' w.heap.size (fun k_=>(P k_∨w.heap.size≤k_)∧k_≠m) v4 bv)∧Aside0 (Kd.V k56 56 w' w.heap.size (fun k_=>(P k_∨w.heap.size≤k_)∧some k_≠(v4:Value).ownBlock∧k_≠m) (.slice aq l0_1.length I) l0_1)∧Aside0 (Kd.V k56 56 w' w.heap.size (fun k_=>(P k_∨w.heap.size≤k_)∧some k_≠(v4:Value).ownBlock∧k_≠m) (.slice aq l0_1.length I) l0_1)∧Aside0 (w'.heap[m]? =some (.cells #[.int .i64 D,(.slice aq l0_1.length I)] 24 (0,0)))∧Aside0 (Below w.heap.size w w'))
  case atStart=>exact⟨(([]:List (List Int))),(0),zz157,H',⟨Nat.le_refl _⟩,⟨zz125⟩,⟨zz92⟩,⟨zz92⟩,⟨(zB BK214)⟩,⟨zz101⟩⟩
  case round =>
   clear H';(try clear c2);(try clear p2);(try clear c3);(try clear dr);(try clear ds);(try clear c4);(try clear dt);(try clear c5);(try clear b4);(try clear b5);(try clear b6);(try clear b7);(try clear b8);(try clear b9);(try clear ca);(try clear cb);obtain⟨bv,x27_1,rfl,HA,HK1,HO_4,HO_25,HO_215001,BK214,HB⟩:=hrel
   cases gk with
   |zero=>exact absurd HA.out (by simp[perm_CheckChain.l0])
   | succ k1=>
    have H:=HA.out;clear HA;simp only[perm_CheckChain.l0] at H
    by_cases c9:x27_1<(l0_1.length:Int)
    ·rw [if_pos c9] at H;have dJ:=dT c9;clear c9
     by_cases c10:0≤x27_1
     ·rw [if_pos c10] at H;have dG:=dT c10;clear c10
      by_cases du:x27_1<(l0_1.length:Int)
      ·rw [if_pos du] at H;have dH:=dT du;clear du
       by_cases ce:(((Ze l0_1 x27_1).f1).length:Int)>D
       ·rw[if_pos ce] at H;have di:=dT ce;clear ce;obtain rfl:=oI H;have a4:0≤(x27_1:Int):=oD zz156;have q216:x27_1<(l0_1.length:Int):=oD zz156;obtain⟨aH,A216_1,c216_1,aY,aZ,cf,bs,a6,a7,a2,a0,a3,a1⟩:=Z4 (Kd.V_reads' HO_25.out).2.2 x27_1 a4 q216
        cases cf;obtain⟨dK,br,bq,aV⟩:=Kd.V_get HO_25.out z56 x27_1 a4 zz118;obtain⟨dc,de,dd,df,rfl,aE,ar,aG,au⟩:=Z6 bq;have aj:=aV 1 _ rfl;rw[ZN _ _ 1 (by omega)] at aj;replace aj:=oI (aj.symm.trans a6);injection aj with hva_ hvn_ hvc_
        rw[hva_] at ar;rw[hvc_] at aE;have HL216_1:=aM (show Kd.V (Kd.int .i64) 3 _ w.heap.size _ _ ((Ze l0_1 x27_1).f1) from Kd.V_mk aE ar);clear hva_ hvn_ hvc_ ar aE;have ak:=aV 2 _ rfl;rw[ZN _ _ 2 (by omega)] at ak;replace ak:=oI (ak.symm.trans a7);injection ak with hva_ hvn_ hvc_
        rw[hva_] at au;rw[hvc_] at aG;have HL216_2:=aM (show Kd.V (Kd.slice 3 (Kd.int .i64)) 32 _ w.heap.size _ _ ((Ze l0_1 x27_1).f2) from Kd.V_mk aG au);clear hva_ hvn_ hvc_ au aG;clear aV br;have HR216_1:=aM a0;have cc:=aM a2;clear a0 a2;have HR216_2:=aM a1;have cd:=aM a3;clear a1 a3;replace a4:=eq_true a4;replace q216:=eq_true q216
        go_wp2_with (first|((with_reducible refine Zq (N:=6) rfl ?_);(try(refine Zv (by rfl) ?_;dsimp only));refine Zx ?hg (N:=6) ?hd (cs:= #[.int .i64 0,.slice none 0 0,.slice none 0 0]) (t:=56) ?hr ?_;(case hd=>rfl);(case hg=>rfl);(case hr=>first|(go_simp;done)|(go_simp;rfl));intro B hg dR hbox hb;replace HO_4:=aM (Kd.N_below (Kd.N_elderB (zN HO_4) B (Nat.le_of_eq hg.symm)) hb);replace HO_25:=aM (Kd.V_below (Kd.V_elderB (zV HO_25) B (Nat.le_of_eq hg.symm)) hb);replace HO_215001:=aM (Kd.V_below (Kd.V_elderB (zV HO_215001) B (Nat.le_of_eq hg.symm)) hb);replace HR216_1:=aM (Kd.C_below zz63 hb);replace HL216_1:=aM (Kd.V_below (Kd.V_elderB (zV HL216_1) B (Nat.le_of_eq hg.symm)) hb);replace HR216_2:=aM (Kd.C_below zz64 hb);replace HL216_2:=aM (Kd.V_below (Kd.V_elderB (zV HL216_2) B (Nat.le_of_eq hg.symm)) hb);have BK217:=aM (hbox);have dD:=aM ((by rw[hg];exact(Zc zz101):w.heap.size≤B));have GE217:=aM ((by rw[hg];exact(Zc zz101):w.heap.size≤B));replace HB:=aM (Zd zz101 hb);have NB214_217:=aM ((by rw[hg];exact Nat.ne_of_lt (Zw (g:=m) (o:= .cells #[.int .i64 D,.slice (some aH) l0_1.length I] 24 (0,0)) (zB BK214)):m≠B));have a5:=aM ((by rw[hg];exact Nat.ne_of_gt (Zw (g:=m) (o:= .cells #[.int .i64 D,.slice (some aH) l0_1.length I] 24 (0,0)) (zB BK214)):B≠m));replace BK214:=aM (Zf (g:=m) (o:= .cells #[.int .i64 D,.slice (some aH) l0_1.length I] 24 (0,0)) (zB BK214) hb);clear hb hbox hg;have gw:=a5.out;have gZ:=NB214_217.out;have cg:dR.cell? ⟨B,0,none⟩=some (.int .i64 0):=(Za BK217.out 0).trans rfl;have ci:dR.cell? ⟨B,1,none⟩=some (.slice none 0 0):=(Za BK217.out 1).trans rfl;have cj:dR.cell? ⟨B,2,none⟩=some (.slice none 0 0):=(Za BK217.out 2).trans rfl;have cG:=Zb BK217.out 0;have cH:=Zb BK217.out 1;have cI:=Zb BK217.out 2;have ck:dR.cell? ⟨m,0,none⟩=some (.int .i64 D):=(Za BK214.out 0).trans rfl;have cl:dR.cell? ⟨m,1,none⟩=some (.slice (some aH) l0_1.length I):=(Za BK214.out 1).trans rfl;have cJ:=Zb BK214.out 0;have cK:=Zb BK214.out 1))
        go_ret
        exact⟨by first|rfl|(simp[Zm,Zl]<;>rfl)|(simp[*,Zm,Zl]<;>rfl),by repeat(first|(with_reducible first|exact HB.out|apply Zh|apply Zg|apply Zj|refine Zi ?_ GE214.out|refine Zi ?_ GE217.out)|exact HB.out)⟩
       rw[if_neg ce] at H;have di:=dF ce;clear ce
       by_cases bw:(((Ze l0_1 x27_1).f2).length:Int)=(((Ze l0_1 x27_1).f1).length:Int)
       ·rw [if_pos bw] at H;have dj:=beq_iff_eq.mpr bw;have dk:=bne_eq_false_iff_eq.mpr bw;have dl:(((Ze l0_1 x27_1).f2).length==((Ze l0_1 x27_1).f1).length)=true:=by first|simpa using bw|(simp at bw⊢;omega)
        clear bw
        by_cases dv:bv.length+((Ze l0_1 x27_1).f2).length<5864062014805
        ·rw[if_pos dv] at H;have eg:=aM dv;clear dv;obtain⟨ed,bE⟩:∃y_:List (List Int),y_=(bv++((Ze l0_1 x27_1).f2)):=⟨_,rfl⟩;replace H:(perm_CheckChain.l0 k1 ed l0_1 (l0_1.length:Int) (wrap64 (x27_1+1)) D l0_1)=some r:=by first|(rw[bE];with_reducible exact H)|(have H2_:=(Option.bind_some _ _).symm.trans H;rw[bE];with_reducible exact H2_)|(have H2_:=(Option.bind_some _ _).symm.trans H;with_reducible exact H2_)|with_reducible exact H|(rw[bE];exact H)|exact H
         have eh:=aM bE;clear bE;have H':=aM H;clear H;have a4:0≤(x27_1:Int):=oD zz156;have q216:x27_1<(l0_1.length:Int):=oD zz156;obtain⟨aH,A216_1,c216_1,aY,aZ,cf,bs,a6,a7,a2,a0,a3,a1⟩:=Z4 (Kd.V_reads' HO_25.out).2.2 x27_1 a4 q216
         cases cf;obtain⟨dK,br,bq,aV⟩:=Kd.V_get HO_25.out z56 x27_1 a4 zz118;obtain⟨dc,de,dd,df,rfl,aE,ar,aG,au⟩:=Z6 bq;have aj:=aV 1 _ rfl;rw[ZN _ _ 1 (by omega)] at aj;replace aj:=oI (aj.symm.trans a6);injection aj with hva_ hvn_ hvc_
         rw[hva_] at ar;rw[hvc_] at aE;have HL216_1:=aM (show Kd.V (Kd.int .i64) 3 _ w.heap.size _ _ ((Ze l0_1 x27_1).f1) from Kd.V_mk aE ar);clear hva_ hvn_ hvc_ ar aE;have ak:=aV 2 _ rfl;rw[ZN _ _ 2 (by omega)] at ak;replace ak:=oI (ak.symm.trans a7);injection ak with hva_ hvn_ hvc_
         rw[hva_] at au;rw[hvc_] at aG;have HL216_2:=aM (show Kd.V (Kd.slice 3 (Kd.int .i64)) 32 _ w.heap.size _ _ ((Ze l0_1 x27_1).f2) from Kd.V_mk aG au);clear hva_ hvn_ hvc_ au aG;clear aV br;have HR216_1:=aM a0;have cc:=aM a2;clear a0 a2;have HR216_2:=aM a1;have cd:=aM a3;clear a1 a3;replace a4:=eq_true a4;replace q216:=eq_true q216
         go_wp2_with (first|((with_reducible refine Zq (N:=6) rfl ?_);(try(refine Zv (by rfl) ?_;dsimp only));refine Zx ?hg (N:=6) ?hd (cs:= #[.int .i64 0,.slice none 0 0,.slice none 0 0]) (t:=56) ?hr ?_;(case hd=>rfl);(case hg=>rfl);(case hr=>first|(go_simp;done)|(go_simp;rfl));intro B hg dS hbox hb;replace HO_4:=aM (Kd.N_below (Kd.N_elderB (zN HO_4) B (Nat.le_of_eq hg.symm)) hb);replace HO_25:=aM (Kd.V_below (Kd.V_elderB (zV HO_25) B (Nat.le_of_eq hg.symm)) hb);replace HO_215001:=aM (Kd.V_below (Kd.V_elderB (zV HO_215001) B (Nat.le_of_eq hg.symm)) hb);replace HR216_1:=aM (Kd.C_below zz63 hb);replace HL216_1:=aM (Kd.V_below (Kd.V_elderB (zV HL216_1) B (Nat.le_of_eq hg.symm)) hb);replace HR216_2:=aM (Kd.C_below zz64 hb);replace HL216_2:=aM (Kd.V_below (Kd.V_elderB (zV HL216_2) B (Nat.le_of_eq hg.symm)) hb);have BK217:=aM (hbox);have dD:=aM ((by rw[hg];exact(Zc zz101):w.heap.size≤B));have GE217:=aM ((by rw[hg];exact(Zc zz101):w.heap.size≤B));replace HB:=aM (Zd zz101 hb);have NB214_217:=aM ((by rw[hg];exact Nat.ne_of_lt (Zw (g:=m) (o:= .cells #[.int .i64 D,.slice (some aH) l0_1.length I] 24 (0,0)) (zB BK214)):m≠B));have a5:=aM ((by rw[hg];exact Nat.ne_of_gt (Zw (g:=m) (o:= .cells #[.int .i64 D,.slice (some aH) l0_1.length I] 24 (0,0)) (zB BK214)):B≠m));replace BK214:=aM (Zf (g:=m) (o:= .cells #[.int .i64 D,.slice (some aH) l0_1.length I] 24 (0,0)) (zB BK214) hb);clear hb hbox hg;have gx:=a5.out;have g0:=NB214_217.out;have cm:dS.cell? ⟨B,0,none⟩=some (.int .i64 0):=(Za BK217.out 0).trans rfl;have co:dS.cell? ⟨B,1,none⟩=some (.slice none 0 0):=(Za BK217.out 1).trans rfl;have cp:dS.cell? ⟨B,2,none⟩=some (.slice none 0 0):=(Za BK217.out 2).trans rfl;have cL:=Zb BK217.out 0;have cM:=Zb BK217.out 1;have cN:=Zb BK217.out 2;have cq:dS.cell? ⟨m,0,none⟩=some (.int .i64 D):=(Za BK214.out 0).trans rfl;have cr:dS.cell? ⟨m,1,none⟩=some (.slice (some aH) l0_1.length I):=(Za BK214.out 1).trans rfl;have cO:=Zb BK214.out 0;have cP:=Zb BK214.out 1)|((with_reducible refine ZQ (b:= .append) (xs:= #[.tmp 46,.tmp 48]) rfl ?_);(try(refine Zv (by rfl) ?_;dsimp only));at_builtin;refine Kd.N_append_rows (Kd.slice 3 (Kd.int .i64)) (w0:=w) w.heap.size rfl (.tmp 46) (.tmp 48) 46 32 (.slice none 0 0) 24 rfl Tryz.underlying46 info32 rfl (by decide) (by omega) u4 bv ((Ze l0_1 x27_1).f2) _ _ _ (fun k_=>(P k_∨w.heap.size≤k_)∧k_≠m∧k_≠B) (fun k_=>((fun k_=>(P k_∨w.heap.size≤k_)∧k_≠m∧k_≠B)) k_∧some k_≠(u4:Value).ownBlock) rfl rfl ?aO ?aR (fun _ hk=>hk) ?aF ?aB ?aS ?aL ?_;(case aR=>exact(by skip;exact Kd.V_F (Kd.V_mono (ok':=(fun k_=>((fun k_=>(P k_∨w.heap.size≤k_)∧k_≠m∧k_≠B)) k_∧some k_≠(u4:Value).ownBlock)) ((Kd.V_far (p:=⟨B,2,none⟩) (Kd.V_far (p:=⟨B,1,none⟩) (Kd.V_far (p:=⟨B,0,none⟩) (Kd.V_mono HL216_2.out (fun k_ hk=>(⟨hk,hk.2⟩:_∧k_≠B))) (fun _ hk=>hk.2) (.int .i64 ((Ze l0_1 x27_1).f0))) (fun _ hk=>hk.2) (.slice A216_1 ((Ze l0_1 x27_1).f1).length c216_1)) (fun _ hk=>hk.2) (.slice aY ((Ze l0_1 x27_1).f2).length aZ))) (fun k_ hk=>⟨⟨hk.1.1.1,⟨hk.1.1.2.2,hk.1.2⟩⟩,hk.1.1.2.1⟩))));(case aB=>exact zz77);(case aF=>exact(fun k_ hk=>⟨(.inr (Nat.le_trans (Zc zz77) hk)),Kd.freshB (g:=m) (o:= .cells #[.int .i64 D,.slice (some aH) l0_1.length I] 24 (0,0)) zz40 k_ hk,Kd.freshB (g:=B) (o:= .cells #[.int .i64 ((Ze l0_1 x27_1).f0),.slice A216_1 ((Ze l0_1 x27_1).f1).length c216_1,.slice aY ((Ze l0_1 x27_1).f2).length aZ] 56 (0,0)) zz6 k_ hk⟩));(case aO=>exact(by(with_reducible repeat(first|apply Kd.N_alloc|apply Kd.N_drewN|apply Kd.N_drew));exact Kd.N_mono (Kd.N_far (p:=⟨B,2,none⟩) (Kd.N_far (p:=⟨B,1,none⟩) (Kd.N_far (p:=⟨B,0,none⟩) (Kd.N_mono HO_4.out (fun k_ hk=>(⟨hk,hk.2⟩:_∧k_≠B))) (fun _ hk=>hk.2) (.int .i64 ((Ze l0_1 x27_1).f0))) (fun _ hk=>hk.2) (.slice A216_1 ((Ze l0_1 x27_1).f1).length c216_1)) (fun _ hk=>hk.2) (.slice aY ((Ze l0_1 x27_1).f2).length aZ)) (fun _ hk=>⟨hk.1.1.1,⟨hk.1.1.2,hk.1.2⟩⟩)));(case aS=>exact(Zc zz77));(case aL=>have:=eg.out;omega);intro hJ hP ho hb hg hat;rw[←eh.out] at ho;replace HO_25:=aM (Kd.V_afterv (ok:=(fun k_=>(P k_∨w.heap.size≤k_)∧k_≠m∧k_≠B)) (by(with_reducible repeat(first|apply Kd.V_alloc|apply Kd.V_drewN|apply Kd.V_drew));exact Kd.V_mono (Kd.V_far (p:=⟨B,2,none⟩) (Kd.V_far (p:=⟨B,1,none⟩) (Kd.V_far (p:=⟨B,0,none⟩) (Kd.V_mono HO_25.out (fun k_ hk=>(⟨hk,hk.2⟩:_∧k_≠B))) (fun _ hk=>hk.2) (.int .i64 ((Ze l0_1 x27_1).f0))) (fun _ hk=>hk.2) (.slice A216_1 ((Ze l0_1 x27_1).f1).length c216_1)) (fun _ hk=>hk.2) (.slice aY ((Ze l0_1 x27_1).f2).length aZ)) (fun _ hk=>⟨⟨hk.1.1.1,⟨hk.1.1.2.2,hk.1.2⟩⟩,hk.1.1.2.1⟩)) hg hat);replace HO_215001:=aM (Kd.V_afterv (ok:=(fun k_=>(P k_∨w.heap.size≤k_)∧k_≠m∧k_≠B)) (by(with_reducible repeat(first|apply Kd.V_alloc|apply Kd.V_drewN|apply Kd.V_drew));exact Kd.V_mono (Kd.V_far (p:=⟨B,2,none⟩) (Kd.V_far (p:=⟨B,1,none⟩) (Kd.V_far (p:=⟨B,0,none⟩) (Kd.V_mono HO_215001.out (fun k_ hk=>(⟨hk,hk.2⟩:_∧k_≠B))) (fun _ hk=>hk.2) (.int .i64 ((Ze l0_1 x27_1).f0))) (fun _ hk=>hk.2) (.slice A216_1 ((Ze l0_1 x27_1).f1).length c216_1)) (fun _ hk=>hk.2) (.slice aY ((Ze l0_1 x27_1).f2).length aZ)) (fun _ hk=>⟨⟨hk.1.1.1,⟨hk.1.1.2.2,hk.1.2⟩⟩,hk.1.1.2.1⟩)) hg hat);replace BK214:=aM (Z7 (g:=m) (o:= .cells #[.int .i64 D,.slice (some aH) l0_1.length I] 24 (0,0)) zz40 hg (Kd.N_ne HO_4.out BK214.out (by decide)));replace HL216_1:=aM (Kd.V_afterv (ok:=(fun k_=>(P k_∨w.heap.size≤k_)∧k_≠m∧k_≠B)) (by(with_reducible repeat(first|apply Kd.V_alloc|apply Kd.V_drewN|apply Kd.V_drew));exact Kd.V_mono (Kd.V_far (p:=⟨B,2,none⟩) (Kd.V_far (p:=⟨B,1,none⟩) (Kd.V_far (p:=⟨B,0,none⟩) (Kd.V_mono HL216_1.out (fun k_ hk=>(⟨hk,hk.2⟩:_∧k_≠B))) (fun _ hk=>hk.2) (.int .i64 ((Ze l0_1 x27_1).f0))) (fun _ hk=>hk.2) (.slice A216_1 ((Ze l0_1 x27_1).f1).length c216_1)) (fun _ hk=>hk.2) (.slice aY ((Ze l0_1 x27_1).f2).length aZ)) (fun _ hk=>⟨⟨hk.1.1.1,⟨hk.1.1.2.2,hk.1.2⟩⟩,hk.1.1.2.1⟩)) hg hat);replace HL216_2:=aM (Kd.V_afterv (ok:=(fun k_=>(P k_∨w.heap.size≤k_)∧k_≠m∧k_≠B)) (by(with_reducible repeat(first|apply Kd.V_alloc|apply Kd.V_drewN|apply Kd.V_drew));exact Kd.V_mono (Kd.V_far (p:=⟨B,2,none⟩) (Kd.V_far (p:=⟨B,1,none⟩) (Kd.V_far (p:=⟨B,0,none⟩) (Kd.V_mono HL216_2.out (fun k_ hk=>(⟨hk,hk.2⟩:_∧k_≠B))) (fun _ hk=>hk.2) (.int .i64 ((Ze l0_1 x27_1).f0))) (fun _ hk=>hk.2) (.slice A216_1 ((Ze l0_1 x27_1).f1).length c216_1)) (fun _ hk=>hk.2) (.slice aY ((Ze l0_1 x27_1).f2).length aZ)) (fun _ hk=>⟨⟨hk.1.1.1,⟨hk.1.1.2.2,hk.1.2⟩⟩,hk.1.1.2.1⟩)) hg hat);replace BK217:=aM (Z7 (g:=B) (o:= .cells #[.int .i64 ((Ze l0_1 x27_1).f0),.slice A216_1 ((Ze l0_1 x27_1).f1).length c216_1,.slice aY ((Ze l0_1 x27_1).f2).length aZ] 56 (0,0)) zz6 hg (Kd.N_ne HO_4.out BK217.out (by decide)));replace HB:=aM (hb);have ef:=aM (ho);clear HO_4;clear ho hb hg hat))
         go_roundg k1
         case measure=>have:=HK1.out;omega
         case rel=>exact⟨(ed),(wrap64 (x27_1+1)),zz157,H',⟨zz167⟩,⟨(by(with_reducible repeat(first|apply Kd.N_alloc|apply Kd.N_drewN|apply Kd.N_drew));exact Kd.N_mono ef.out (fun _ hk=>⟨hk.1,hk.2.1⟩))⟩,⟨(by(with_reducible repeat(first|apply Kd.V_alloc|apply Kd.V_drewN|apply Kd.V_drew));exact Kd.V_mono HO_25.out (fun _ hk=>⟨hk.1.1,⟨hk.2,hk.1.2.1⟩⟩))⟩,⟨(by(with_reducible repeat(first|apply Kd.V_alloc|apply Kd.V_drewN|apply Kd.V_drew));exact Kd.V_mono HO_215001.out (fun _ hk=>⟨hk.1.1,⟨hk.2,hk.1.2.1⟩⟩))⟩,⟨(zB BK214)⟩,⟨zz77⟩⟩
        rw[if_neg dv] at H
        exact absurd H (by simp)
       rw[if_neg bw] at H;have dj:=beq_eq_false_iff_ne.mpr bw;have dk:=bne_iff_ne.mpr bw;have dl:(((Ze l0_1 x27_1).f2).length==((Ze l0_1 x27_1).f1).length)=false:=by first|simpa using bw|(simp at bw⊢;omega)
       obtain rfl:=oI H;have a4:0≤(x27_1:Int):=oD zz156;have q216:x27_1<(l0_1.length:Int):=oD zz156;obtain⟨aH,A216_1,c216_1,aY,aZ,cf,bs,a6,a7,a2,a0,a3,a1⟩:=Z4 (Kd.V_reads' HO_25.out).2.2 x27_1 a4 q216
       cases cf;obtain⟨dK,br,bq,aV⟩:=Kd.V_get HO_25.out z56 x27_1 a4 zz118;obtain⟨dc,de,dd,df,rfl,aE,ar,aG,au⟩:=Z6 bq;have aj:=aV 1 _ rfl;rw[ZN _ _ 1 (by omega)] at aj;replace aj:=oI (aj.symm.trans a6);injection aj with hva_ hvn_ hvc_
       rw[hva_] at ar;rw[hvc_] at aE;have HL216_1:=aM (show Kd.V (Kd.int .i64) 3 _ w.heap.size _ _ ((Ze l0_1 x27_1).f1) from Kd.V_mk aE ar);clear hva_ hvn_ hvc_ ar aE;have ak:=aV 2 _ rfl;rw[ZN _ _ 2 (by omega)] at ak;replace ak:=oI (ak.symm.trans a7);injection ak with hva_ hvn_ hvc_
       rw[hva_] at au;rw[hvc_] at aG;have HL216_2:=aM (show Kd.V (Kd.slice 3 (Kd.int .i64)) 32 _ w.heap.size _ _ ((Ze l0_1 x27_1).f2) from Kd.V_mk aG au);clear hva_ hvn_ hvc_ au aG;clear aV br;have HR216_1:=aM a0;have cc:=aM a2;clear a0 a2;have HR216_2:=aM a1;have cd:=aM a3;clear a1 a3;replace a4:=eq_true a4;replace q216:=eq_true q216
       go_wp2_with (first|((with_reducible refine Zq (N:=6) rfl ?_);(try(refine Zv (by rfl) ?_;dsimp only));refine Zx ?hg (N:=6) ?hd (cs:= #[.int .i64 0,.slice none 0 0,.slice none 0 0]) (t:=56) ?hr ?_;(case hd=>rfl);(case hg=>rfl);(case hr=>first|(go_simp;done)|(go_simp;rfl));intro B hg dU hbox hb;replace HO_4:=aM (Kd.N_below (Kd.N_elderB (zN HO_4) B (Nat.le_of_eq hg.symm)) hb);replace HO_25:=aM (Kd.V_below (Kd.V_elderB (zV HO_25) B (Nat.le_of_eq hg.symm)) hb);replace HO_215001:=aM (Kd.V_below (Kd.V_elderB (zV HO_215001) B (Nat.le_of_eq hg.symm)) hb);replace HR216_1:=aM (Kd.C_below zz63 hb);replace HL216_1:=aM (Kd.V_below (Kd.V_elderB (zV HL216_1) B (Nat.le_of_eq hg.symm)) hb);replace HR216_2:=aM (Kd.C_below zz64 hb);replace HL216_2:=aM (Kd.V_below (Kd.V_elderB (zV HL216_2) B (Nat.le_of_eq hg.symm)) hb);have BK217:=aM (hbox);have dD:=aM ((by rw[hg];exact(Zc zz101):w.heap.size≤B));have GE217:=aM ((by rw[hg];exact(Zc zz101):w.heap.size≤B));replace HB:=aM (Zd zz101 hb);have NB214_217:=aM ((by rw[hg];exact Nat.ne_of_lt (Zw (g:=m) (o:= .cells #[.int .i64 D,.slice (some aH) l0_1.length I] 24 (0,0)) (zB BK214)):m≠B));have a5:=aM ((by rw[hg];exact Nat.ne_of_gt (Zw (g:=m) (o:= .cells #[.int .i64 D,.slice (some aH) l0_1.length I] 24 (0,0)) (zB BK214)):B≠m));replace BK214:=aM (Zf (g:=m) (o:= .cells #[.int .i64 D,.slice (some aH) l0_1.length I] 24 (0,0)) (zB BK214) hb);clear hb hbox hg;have gy:=a5.out;have g1:=NB214_217.out;have ct:dU.cell? ⟨B,0,none⟩=some (.int .i64 0):=(Za BK217.out 0).trans rfl;have cu:dU.cell? ⟨B,1,none⟩=some (.slice none 0 0):=(Za BK217.out 1).trans rfl;have cv:dU.cell? ⟨B,2,none⟩=some (.slice none 0 0):=(Za BK217.out 2).trans rfl;have cQ:=Zb BK217.out 0;have cR:=Zb BK217.out 1;have cS:=Zb BK217.out 2;have cw:dU.cell? ⟨m,0,none⟩=some (.int .i64 D):=(Za BK214.out 0).trans rfl;have cx:dU.cell? ⟨m,1,none⟩=some (.slice (some aH) l0_1.length I):=(Za BK214.out 1).trans rfl;have cT:=Zb BK214.out 0;have cU:=Zb BK214.out 1))
       go_ret
       exact⟨by first|rfl|(simp[Zm,Zl]<;>rfl)|(simp[*,Zm,Zl]<;>rfl),by repeat(first|(with_reducible first|exact HB.out|apply Zh|apply Zg|apply Zj|refine Zi ?_ GE214.out|refine Zi ?_ GE217.out)|exact HB.out)⟩
      rw[if_neg du] at H
      exact absurd H (by simp)
     rw[if_neg c10] at H
     exact absurd H (by simp)
    rw[if_neg c9] at H;have dJ:=dF c9;clear c9;replace H:=oB H;obtain⟨⟨t221,t222,dQ⟩,d4,H⟩:=H;replace H:(if dQ=0 then(perm_CheckChain.j1 k1 ((t222.length:Int) !=(l0_1.length:Int)) D l0_1 t221 t222) else(perm_CheckChain.j1 k1 true D l0_1 t221 t222))=some r:=H;have ga:=aM d4;clear d4;have dE:=aM H;clear H;have cy:wr.cell? ⟨m,0,none⟩=some (.int .i64 D):=(Za BK214.out 0).trans rfl;have cz:wr.cell? ⟨m,1,none⟩=some (.slice aq l0_1.length I):=(Za BK214.out 1).trans rfl;have cV:=Zb BK214.out 0;have cW:=Zb BK214.out 1;obtain⟨d7,d9,eH⟩:=Kd.N_slice HO_4.out;subst eH
    go_upto_region 15 with(first|((with_reducible refine Zr (f:=19) rfl ?_);refine ZI (some 55) rfl rfl Tryz.func19 (by kernel_rfl) rfl #[.int .i64 D,.slice d7 bv.length d9] rfl zz127 ?_;(with_reducible refine(perm_Build.calls k1 D _ _ bv t221 t222 dQ _ ?sa ?sb ga.out).mono ?_);(case sa=>exact zC ((Kd.N_reads' HO_4.out).2.2));(case sb=>exact(Kd.N_reads' HO_4.out).2.1);rintro e hQ ⟨hK,rfl,ho0,hb⟩;refine⟨_,rfl,?_⟩;replace HO_25:=aM (Kd.V_elder' (zV HO_25) (Kd.N_base ho0) hb);replace HO_215001:=aM (Kd.V_elder' (zV HO_215001) (Kd.N_base ho0) hb);have bz:=aM (Kd.N_lower (Kd.N_mono (ok':=fun k_=>(P k_∨w.heap.size≤k_)∧some k_≠(.slice d7 bv.length d9:Value).ownBlock∧k_≠m) ho0 (fun k_ hk_=>⟨(.inr (Nat.le_trans (Zc zz101) hk_)),(Kd.fresh' (Kd.N_lt (zN HO_4)) k_ hk_),(Kd.freshB (g:=m) (o:= .cells #[.int .i64 D,.slice aq l0_1.length I] 24 (0,0)) (zB BK214) k_ hk_)⟩)) (Zc zz101));replace HO_4:=aM (Kd.N_elder' (zN HO_4) (Kd.N_base ho0) hb);replace BK214:=aM (Zf (g:=m) (o:= .cells #[.int .i64 D,.slice aq l0_1.length I] 24 (0,0)) (zB BK214) hb);replace HB:=aM (Zd zz101 hb);(try clear hb);(try clear hM);(try clear hk);(try clear hi);(try clear ho0))|((with_reducible refine Zq (N:=7) rfl ?_);(try(refine Zv (by rfl) ?_;dsimp only));refine Zx ?hg (N:=7) ?hd (cs:= #[.int .i64 0,.slice none 0 0]) (t:=24) ?hr ?_;(case hd=>rfl);(case hg=>rfl);(case hr=>first|(go_simp;done)|(go_simp;rfl));intro z hg dx hbox hb;replace HO_4:=aM (Kd.N_below (Kd.N_elderB (zN HO_4) z (Nat.le_of_eq hg.symm)) hb);replace HO_25:=aM (Kd.V_below (Kd.V_elderB (zV HO_25) z (Nat.le_of_eq hg.symm)) hb);replace HO_215001:=aM (Kd.V_below (Kd.V_elderB (zV HO_215001) z (Nat.le_of_eq hg.symm)) hb);replace bz:=aM (Kd.N_below (Kd.N_elderB (zN bz) z (Nat.le_of_eq hg.symm)) hb);have BK226:=aM (hbox);have gb:=aM ((by rw[hg];exact(Zc zz101):w.heap.size≤z));have GE226:=aM ((by rw[hg];exact(Zc zz101):w.heap.size≤z));replace HB:=aM (Zd zz101 hb);have NB214_226:=aM ((by rw[hg];exact Nat.ne_of_lt (Zw (g:=m) (o:= .cells #[.int .i64 D,.slice aq l0_1.length I] 24 (0,0)) (zB BK214)):m≠z));have aI:=aM ((by rw[hg];exact Nat.ne_of_gt (Zw (g:=m) (o:= .cells #[.int .i64 D,.slice aq l0_1.length I] 24 (0,0)) (zB BK214)):z≠m));replace BK214:=aM (Zf (g:=m) (o:= .cells #[.int .i64 D,.slice aq l0_1.length I] 24 (0,0)) (zB BK214) hb);clear hb hbox hg;have gz:=aI.out;have g2:=NB214_226.out;have cA:dx.cell? ⟨z,0,none⟩=some (.int .i64 0):=(Za BK226.out 0).trans rfl;have cB:dx.cell? ⟨z,1,none⟩=some (.slice none 0 0):=(Za BK226.out 1).trans rfl;have cX:=Zb BK226.out 0;have cY:=Zb BK226.out 1;obtain⟨O,J,eI⟩:=Kd.N_slice bz.out;subst eI))
    (try simp only[Act.put,sA,sB,sC])
    go_cut [68] (fun hE wc=>∃(kq:Nat) (bx:Bool),hE= .bool bx∧Aside0 (perm_CheckChain.j1 kq bx D l0_1 t221 t222=some r)∧Aside0 (kq≤k1)∧Aside0 (Kd.V k56 56 wc w.heap.size (fun k_=>(P k_∨w.heap.size≤k_)∧some k_≠((.slice O t222.length J):Value).ownBlock∧k_≠m∧k_≠z) (.slice aq l0_1.length I) l0_1)∧Aside0 (Kd.N k56 56 wc w.heap.size (fun k_=>(P k_∨w.heap.size≤k_)∧k_≠m∧k_≠z) (.slice O t222.length J) t222)∧Aside0 (wc.heap[m]? =some (.cells #[.int .i64 D,(.slice aq l0_1.length I)] 24 (0,0)))∧Aside0 (wc.heap[z]? =some (.cells #[.int .i64 t221,(.slice O t222.length J)] 24 (0,0)))∧Aside0 (Below w.heap.size w wc))
    case first=>
     have H:=dE.out;clear dE
     by_cases b3:dQ=0
     ·rw[if_pos b3] at H;have bp:=beq_iff_eq.mpr b3;have dm:=bne_eq_false_iff_eq.mpr b3;clear b3
      (first|rw[bp]|(simp only[Zt,Zu];rw[bp])|skip)
      have H':=aM H;clear H;have gA:=aI.out;have g3:=NB214_226.out;have cC:dx.cell? ⟨z,0,none⟩=some (.int .i64 0):=(Za BK226.out 0).trans rfl;have cD:dx.cell? ⟨z,1,none⟩=some (.slice none 0 0):=(Za BK226.out 1).trans rfl;have cZ:=Zb BK226.out 0;have c0:=Zb BK226.out 1;have cE:dx.cell? ⟨m,0,none⟩=some (.int .i64 D):=(Za BK214.out 0).trans rfl;have cF:dx.cell? ⟨m,1,none⟩=some (.slice aq l0_1.length I):=(Za BK214.out 1).trans rfl;have da:=Zb BK214.out 0;have db:=Zb BK214.out 1;go_wp2;go_meet
      case rel=>exact⟨_,(((t222.length:Int) !=(l0_1.length:Int))),zz157,H',⟨(by have:=HK1.out;first|omega|exact Nat.le_refl _)⟩,⟨by(with_reducible repeat(first|apply Kd.V_alloc|apply Kd.V_drewN|apply Kd.V_drew));exact Kd.V_mono (Kd.V_far (p:=⟨z,1,none⟩) (Kd.V_far (p:=⟨z,0,none⟩) (Kd.V_mono HO_215001.out (fun k_ hk=>(⟨hk,hk.2⟩:_∧k_≠z))) (fun _ hk=>hk.2) (.int .i64 t221)) (fun _ hk=>hk.2) (.slice O t222.length J)) (fun _ hk=>⟨hk.1.1.1.1,⟨hk.1.1.2,⟨hk.1.1.1.2.2,hk.1.2⟩⟩⟩)⟩,⟨by(with_reducible repeat(first|apply Kd.N_alloc|apply Kd.N_drewN|apply Kd.N_drew));exact Kd.N_mono (Kd.N_far (p:=⟨z,1,none⟩) (Kd.N_far (p:=⟨z,0,none⟩) (Kd.N_mono bz.out (fun k_ hk=>(⟨hk,hk.2⟩:_∧k_≠z))) (fun _ hk=>hk.2) (.int .i64 t221)) (fun _ hk=>hk.2) (.slice O t222.length J)) (fun _ hk=>⟨hk.1.1.1,⟨hk.1.1.2.2,hk.1.2⟩⟩)⟩,⟨zz56⟩,⟨zz54⟩,⟨zz78⟩⟩
     rw[if_neg b3] at H;have bp:=beq_eq_false_iff_ne.mpr b3;have dm:=bne_iff_ne.mpr b3
     (first|rw[bp]|(simp only[Zt,Zu];rw[bp])|skip)
     have H':=aM H;clear H;go_wp2;go_meet
     case rel=>exact⟨_,(true),zz157,H',⟨(by have:=HK1.out;first|omega|exact Nat.le_refl _)⟩,⟨by(with_reducible repeat(first|apply Kd.V_alloc|apply Kd.V_drewN|apply Kd.V_drew));exact Kd.V_mono (Kd.V_far (p:=⟨z,1,none⟩) (Kd.V_far (p:=⟨z,0,none⟩) (Kd.V_mono HO_215001.out (fun k_ hk=>(⟨hk,hk.2⟩:_∧k_≠z))) (fun _ hk=>hk.2) (.int .i64 t221)) (fun _ hk=>hk.2) (.slice O t222.length J)) (fun _ hk=>⟨hk.1.1.1.1,⟨hk.1.1.2,⟨hk.1.1.1.2.2,hk.1.2⟩⟩⟩)⟩,⟨by(with_reducible repeat(first|apply Kd.N_alloc|apply Kd.N_drewN|apply Kd.N_drew));exact Kd.N_mono (Kd.N_far (p:=⟨z,1,none⟩) (Kd.N_far (p:=⟨z,0,none⟩) (Kd.N_mono bz.out (fun k_ hk=>(⟨hk,hk.2⟩:_∧k_≠z))) (fun _ hk=>hk.2) (.int .i64 t221)) (fun _ hk=>hk.2) (.slice O t222.length J)) (fun _ hk=>⟨hk.1.1.1,⟨hk.1.1.2.2,hk.1.2⟩⟩)⟩,⟨zz56⟩,⟨zz54⟩,⟨zz78⟩⟩
    case rest=>
     clear dE;(try clear c1);(try clear c2);(try clear p2);(try clear q2);(try clear hC);(try clear c3);(try clear dr);(try clear ds);(try clear c4);(try clear dt);(try clear c5);(try clear p6);(try clear c9);(try clear dJ);(try clear c10);(try clear dG);(try clear du);(try clear dH);(try clear ce);(try clear di);(try clear gc);(try clear bw);(try clear dj);(try clear dk);(try clear dl);(try clear dv);(try clear gf);(try clear gg);(try clear gh);(try clear fZ);(try clear f3);(try clear fY);(try clear gj);(try clear gn);(try clear gp);(try clear b3);(try clear bp);(try clear dm);(try clear gq);(try clear cg);(try clear ci);(try clear cj);(try clear ck);(try clear cl);(try clear cm);(try clear co);(try clear cp);(try clear cq);(try clear cr);(try clear ct);(try clear cu);(try clear cv);(try clear cw);(try clear cx);(try clear cy);(try clear cz);(try clear cA);(try clear cB);(try clear cC);(try clear cD);(try clear cE);(try clear cF);(try clear b4);(try clear b5);(try clear b6);(try clear b7);(try clear cG);(try clear cH);(try clear cI);(try clear cJ);(try clear cK);(try clear cL);(try clear cM);(try clear cN);(try clear cO);(try clear cP);(try clear cQ);(try clear cR);(try clear cS);(try clear cT);(try clear cU);(try clear cV);(try clear cW);(try clear cX);(try clear cY);(try clear cZ);(try clear c0);(try clear da);(try clear db);(try clear b8);(try clear b9);(try clear ca);(try clear cb);(try clear bs);(try clear a6);(try clear a7);(try clear p2);(try clear a4);(try clear q216);obtain⟨kq,bx,rfl,HA,d8,HO_215001,HO_227001,BK214,BK226,HB⟩:=hcut
     cases kq with
     |zero=>exact absurd HA.out (by simp[perm_CheckChain.j1])
     | succ dP=>
      have H:=HA.out;clear HA;simp only[perm_CheckChain.j1] at H
      by_cases dI:bx=true
      ·subst dI;have H1:(some 5)=some r:=by rw[if_pos rfl] at H;exact H
       clear H;have H:=H1;clear H1;obtain rfl:=oI H;go_wp2;go_ret
       exact⟨by first|rfl|(simp[Zm,Zl]<;>rfl)|(simp[*,Zm,Zl]<;>rfl),by repeat(first|(with_reducible first|exact HB.out|apply Zh|apply Zg|apply Zj|refine Zi ?_ GE214.out|refine Zi ?_ GE226.out)|exact HB.out)⟩
      replace dI:=Bool.eq_false_iff.mpr dI;subst dI;have H1:(perm_CheckChain.l1 dP l0_1 (l0_1.length:Int) 0 t221 t222)=some r:=by rw[if_neg (show¬(false=true) by decide)] at H;exact H
      clear H;have H:=H1;clear H1;have H':=aM H;clear H;have gB:=NB214_226.out;have g4:=aI.out;have dL:wc.cell? ⟨m,0,none⟩=some (.int .i64 D):=(Za BK214.out 0).trans rfl;have dM:wc.cell? ⟨m,1,none⟩=some (.slice aq l0_1.length I):=(Za BK214.out 1).trans rfl;have dN:=Zb BK214.out 0;have dO:=Zb BK214.out 1;go_wp2
      go_loopg [72] dP (fun kq hF w'=>∃(x72_3:Int),hF= .int .i64 x72_3∧Aside0 (perm_CheckChain.l1 kq l0_1 (l0_1.length:Int) x72_3 t221 t222=some r)∧Aside0 (kq≤dP)∧Aside0 (Kd.V k56 56 w' w.heap.size (fun k_=>(P k_∨w.heap.size≤k_)∧some k_≠((.slice O t222.length J):Value).ownBlock∧k_≠m∧k_≠z) (.slice aq l0_1.length I) l0_1)∧Aside0 (Kd.V k56 56 w' w.heap.size (fun k_=>(P k_∨w.heap.size≤k_)∧some k_≠((.slice O t222.length J):Value).ownBlock∧k_≠m∧k_≠z) (.slice aq l0_1.length I) l0_1)∧Aside0 (Kd.N k56 56 w' w.heap.size (fun k_=>(P k_∨w.heap.size≤k_)∧k_≠m∧k_≠z) (.slice O t222.length J) t222)∧Aside0 (w'.heap[m]? =some (.cells #[.int .i64 D,(.slice aq l0_1.length I)] 24 (0,0)))∧Aside0 (w'.heap[z]? =some (.cells #[.int .i64 t221,(.slice O t222.length J)] 24 (0,0)))∧Aside0 (Below w.heap.size w w'))
      case atStart=>exact⟨(0),zz157,H',⟨Nat.le_refl _⟩,⟨(zV HO_215001)⟩,⟨(zV HO_215001)⟩,⟨(zN HO_227001)⟩,⟨(zB BK214)⟩,⟨(zB BK226)⟩,⟨zz78⟩⟩
      case round =>
       clear H';(try clear c1);(try clear c2);(try clear p2);(try clear q2);(try clear hC);(try clear c3);(try clear dr);(try clear ds);(try clear c4);(try clear dt);(try clear c5);(try clear p6);(try clear c9);(try clear dJ);(try clear c10);(try clear dG);(try clear du);(try clear dH);(try clear ce);(try clear di);(try clear gc);(try clear bw);(try clear dj);(try clear dk);(try clear dl);(try clear dv);(try clear gf);(try clear gg);(try clear gh);(try clear fZ);(try clear f3);(try clear fY);(try clear gj);(try clear gn);(try clear gp);(try clear b3);(try clear bp);(try clear dm);(try clear gq);(try clear dI);(try clear hL);(try clear cg);(try clear ci);(try clear cj);(try clear ck);(try clear cl);(try clear cm);(try clear co);(try clear cp);(try clear cq);(try clear cr);(try clear ct);(try clear cu);(try clear cv);(try clear cw);(try clear cx);(try clear cy);(try clear cz);(try clear cA);(try clear cB);(try clear cC);(try clear cD);(try clear cE);(try clear cF);(try clear dL);(try clear dM);(try clear b4);(try clear b5);(try clear b6);(try clear b7);(try clear cG);(try clear cH);(try clear cI);(try clear cJ);(try clear cK);(try clear cL);(try clear cM);(try clear cN);(try clear cO);(try clear cP);(try clear cQ);(try clear cR);(try clear cS);(try clear cT);(try clear cU);(try clear cV);(try clear cW);(try clear cX);(try clear cY);(try clear cZ);(try clear c0);(try clear da);(try clear db);(try clear dN);(try clear dO);(try clear b8);(try clear b9);(try clear ca);(try clear cb);(try clear bs);(try clear a6);(try clear a7);(try clear p2);(try clear fZ);(try clear a4);(try clear p6);(try clear q2);(try clear f3);(try clear q216);obtain⟨x72_3,rfl,HA,HK3,HO_70,HO_215001,HO_227001,BK214,BK226,HB⟩:=hrel
       cases gk with
       |zero=>exact absurd HA.out (by simp[perm_CheckChain.l1])
       | succ k3=>
        have H:=HA.out;clear HA;simp only[perm_CheckChain.l1] at H
        by_cases dw:x72_3<(l0_1.length:Int)
        ·rw [if_pos dw] at H;have ei:=dT dw;clear dw
         by_cases dV:0≤x72_3
         ·rw [if_pos dV] at H;have gs:=dT dV;clear dV
          by_cases dW:x72_3<(l0_1.length:Int)
          ·rw [if_pos dW] at H;have gu:=dT dW;clear dW
           by_cases dX:x72_3<(t222.length:Int)
           ·rw [if_pos dX] at H;have gv:=dT dX;clear dX
            by_cases dn:((Ze l0_1 x72_3).f0)=((Ze t222 x72_3).f0)
            ·rw [if_pos dn] at H;have ej:=beq_iff_eq.mpr dn;have ek:=bne_eq_false_iff_eq.mpr dn;clear dn;replace H:=oB H;obtain⟨ea,d5,H⟩:=H;replace H:(if ea=true then((slEqF.f ((Ze l0_1 x72_3).f2) ((Ze t222 x72_3).f2)).bind fun b2=>(if b2=true then(perm_CheckChain.l1 k3 l0_1 (l0_1.length:Int) (wrap64 (x72_3+1)) t221 t222) else(some 5))) else(some 5))=some r:=H;have ee:=aM d5;clear d5
             by_cases dY:ea=true
             ·subst dY;have H1:((slEqF.f ((Ze l0_1 x72_3).f2) ((Ze t222 x72_3).f2)).bind fun b2=>(if b2=true then(perm_CheckChain.l1 k3 l0_1 (l0_1.length:Int) (wrap64 (x72_3+1)) t221 t222) else(some 5)))=some r:=by rw[if_pos rfl] at H;exact H
              clear H;have H:=H1;clear H1;replace H:=oB H;obtain⟨b2,d6,H⟩:=H;replace H:(if b2=true then(perm_CheckChain.l1 k3 l0_1 (l0_1.length:Int) (wrap64 (x72_3+1)) t221 t222) else(some 5))=some r:=H;have eG:=aM d6;clear d6
              by_cases dZ:b2=true
              ·subst dZ;have H1:(perm_CheckChain.l1 k3 l0_1 (l0_1.length:Int) (wrap64 (x72_3+1)) t221 t222)=some r:=by rw[if_pos rfl] at H;exact H
               clear H;have H:=H1;clear H1;have H':=aM H;clear H;have aW:0≤(x72_3:Int):=oD zz156;have q227:x72_3<(l0_1.length:Int):=oD zz156;obtain⟨L,A227_1,c227_1,A227_2,c227_2,bA,bC,a8,a9,az,av,aA,aw⟩:=Z4 (Kd.V_reads' HO_70.out).2.2 x72_3 aW q227
               cases bA;obtain⟨dp,bj,bh,an⟩:=Kd.V_get HO_70.out z56 x72_3 aW zz119;obtain⟨bP,bU,bQ,bV,rfl,af,ab,ag,ac⟩:=Z6 bh;have U:=an 1 _ rfl;rw[ZN _ _ 1 (by omega)] at U;replace U:=oI (U.symm.trans a8);injection U with hva_ hvn_ hvc_
               rw[hva_] at ab;rw[hvc_] at af;have HL227_1:=aM (show Kd.V (Kd.int .i64) 3 _ w.heap.size _ _ ((Ze l0_1 x72_3).f1) from Kd.V_mk af ab);clear hva_ hvn_ hvc_ ab af;have X:=an 2 _ rfl;rw[ZN _ _ 2 (by omega)] at X;replace X:=oI (X.symm.trans a9);injection X with hva_ hvn_ hvc_
               rw[hva_] at ac;rw[hvc_] at ag;have HL227_2:=aM (show Kd.V (Kd.slice 3 (Kd.int .i64)) 32 _ w.heap.size _ _ ((Ze l0_1 x72_3).f2) from Kd.V_mk ag ac);clear hva_ hvn_ hvc_ ac ag;clear an bj;have HR227_1:=aM av;have bc:=aM az;clear av az;have HR227_2:=aM aw;have bm:=aM aA;clear aw aA;replace aW:=eq_true aW;replace q227:=eq_true q227
               go_wp2_with (first|((with_reducible refine Zq (N:=10) rfl ?_);(try(refine Zv (by rfl) ?_;dsimp only));refine Zx ?hg (N:=10) ?hd (cs:= #[.int .i64 0,.slice none 0 0,.slice none 0 0]) (t:=56) ?hr ?_;(case hd=>rfl);(case hg=>rfl);(case hr=>first|(go_simp;done)|(go_simp;rfl));intro gb228 hg d0 hbox hb;replace HO_70:=aM (Kd.V_below (Kd.V_elderB (zV HO_70) gb228 (Nat.le_of_eq hg.symm)) hb);replace HO_215001:=aM (Kd.V_below (Kd.V_elderB (zV HO_215001) gb228 (Nat.le_of_eq hg.symm)) hb);replace HO_227001:=aM (Kd.N_below (Kd.N_elderB (zN HO_227001) gb228 (Nat.le_of_eq hg.symm)) hb);replace HR227_1:=aM (Kd.C_below zz65 hb);replace HL227_1:=aM (Kd.V_below (Kd.V_elderB (zV HL227_1) gb228 (Nat.le_of_eq hg.symm)) hb);replace HR227_2:=aM (Kd.C_below zz66 hb);replace HL227_2:=aM (Kd.V_below (Kd.V_elderB (zV HL227_2) gb228 (Nat.le_of_eq hg.symm)) hb);have BK228:=aM (hbox);have dg:=aM ((by rw[hg];exact(Zc zz78):w.heap.size≤gb228));have GE228:=aM ((by rw[hg];exact(Zc zz78):w.heap.size≤gb228));replace HB:=aM (Zd zz78 hb);have NB214_228:=aM ((by rw[hg];exact Nat.ne_of_lt (Zw (g:=m) (o:= .cells #[.int .i64 D,.slice (some L) l0_1.length I] 24 (0,0)) (zB BK214)):m≠gb228));have aJ:=aM ((by rw[hg];exact Nat.ne_of_gt (Zw (g:=m) (o:= .cells #[.int .i64 D,.slice (some L) l0_1.length I] 24 (0,0)) (zB BK214)):gb228≠m));replace BK214:=aM (Zf (g:=m) (o:= .cells #[.int .i64 D,.slice (some L) l0_1.length I] 24 (0,0)) (zB BK214) hb);have NB226_228:=aM ((by rw[hg];exact Nat.ne_of_lt (Zw (g:=z) (o:= .cells #[.int .i64 t221,.slice O t222.length J] 24 (0,0)) (zB BK226)):z≠gb228));have aK:=aM ((by rw[hg];exact Nat.ne_of_gt (Zw (g:=z) (o:= .cells #[.int .i64 t221,.slice O t222.length J] 24 (0,0)) (zB BK226)):gb228≠z));replace BK226:=aM (Zf (g:=z) (o:= .cells #[.int .i64 t221,.slice O t222.length J] 24 (0,0)) (zB BK226) hb);clear hb hbox hg;have gC:=aJ.out;have g5:=NB214_228.out;have gD:=aK.out;have g6:=NB226_228.out;have eJ:d0.cell? ⟨gb228,0,none⟩=some (.int .i64 0):=(Za BK228.out 0).trans rfl;have eK:d0.cell? ⟨gb228,1,none⟩=some (.slice none 0 0):=(Za BK228.out 1).trans rfl;have eL:d0.cell? ⟨gb228,2,none⟩=some (.slice none 0 0):=(Za BK228.out 2).trans rfl;have fl:=Zb BK228.out 0;have fm:=Zb BK228.out 1;have fn:=Zb BK228.out 2)|((with_reducible refine ZO (t:=56) (p:=10) rfl ?_);refine ZM (t:=56) (p:=10) (v:= ?vo_w57) (w1:=(((d0.setCell ⟨gb228,0,none⟩ (.int .i64 ((Ze l0_1 x72_3).f0))).setCell ⟨gb228,1,none⟩ (.slice A227_1 ((Ze l0_1 x72_3).f1).length c227_1)).setCell ⟨gb228,2,none⟩ (.slice A227_2 ((Ze l0_1 x72_3).f2).length c227_2))) ?hg ?ho ?hn ?hr ?_;(case ho=>rfl);(case hg=>rfl);(case hn=>rfl);(case hr=>first|(go_simp;done)|(go_simp;rfl));intro bY hw;have bF:Aside0 (Kd.V k56 56 bY w.heap.size (fun k_=>(P k_∨w.heap.size≤k_)∧some k_≠(.slice O t222.length J:Value).ownBlock∧k_≠m∧k_≠z∧k_≠gb228) (.slice (some L) l0_1.length I) l0_1):=⟨zz27⟩;have bH:Aside0 (Kd.V k56 56 bY w.heap.size (fun k_=>(P k_∨w.heap.size≤k_)∧some k_≠(.slice O t222.length J:Value).ownBlock∧k_≠m∧k_≠z∧k_≠gb228) (.slice (some L) l0_1.length I) l0_1):=⟨zz24⟩;have bI:Aside0 (Kd.N k56 56 bY w.heap.size (fun k_=>(P k_∨w.heap.size≤k_)∧k_≠m∧k_≠z∧k_≠gb228) (.slice O t222.length J) t222):=⟨zz29⟩;have bJ:Aside0 (Kd.V (Kd.int .i64) 3 bY w.heap.size (fun k_=>(P k_∨w.heap.size≤k_)∧some k_≠(.slice O t222.length J:Value).ownBlock∧k_≠m∧k_≠z∧k_≠gb228) (.slice A227_1 ((Ze l0_1 x72_3).f1).length c227_1) ((Ze l0_1 x72_3).f1)):=⟨zz25⟩;have bK:Aside0 (Kd.V (Kd.slice 3 (Kd.int .i64)) 32 bY w.heap.size (fun k_=>(P k_∨w.heap.size≤k_)∧some k_≠(.slice O t222.length J:Value).ownBlock∧k_≠m∧k_≠z∧k_≠gb228) (.slice A227_2 ((Ze l0_1 x72_3).f2).length c227_2) ((Ze l0_1 x72_3).f2)):=⟨zz26⟩;have bL:Aside0 (bY.heap[m]? =some (.cells #[.int .i64 D,.slice (some L) l0_1.length I] 24 (0,0))):=⟨zz35⟩;have bM:Aside0 (bY.heap[z]? =some (.cells #[.int .i64 t221,.slice O t222.length J] 24 (0,0))):=⟨zz36⟩;have bN:Aside0 (bY.heap[gb228]? =some (.cells #[.int .i64 ((Ze l0_1 x72_3).f0),.slice A227_1 ((Ze l0_1 x72_3).f1).length c227_1,.slice A227_2 ((Ze l0_1 x72_3).f2).length c227_2] 56 (0,0))):=⟨zz5⟩;have bO:Aside0 (Below w.heap.size w bY):=⟨zz62⟩;clear hw;clear HO_70;clear HO_215001;clear HO_227001;clear HL227_1;clear HL227_2;clear BK214;clear BK226;clear BK228;clear HB;have HO_70:=bF;have HO_215001:=bH;have HO_227001:=bI;have HL227_1:=bJ;have HL227_2:=bK;have BK214:=bL;have BK226:=bM;have BK228:=bN;have HB:=bO;clear bF bH bI bJ bK bL bM bN bO;have gE:=aI.out;have g7:=NB214_226.out;have eM:bY.cell? ⟨z,0,none⟩=some (.int .i64 t221):=(Za BK226.out 0).trans rfl;have eN:bY.cell? ⟨z,1,none⟩=some (.slice O t222.length J):=(Za BK226.out 1).trans rfl;have fo:=Zb BK226.out 0;have fp:=Zb BK226.out 1;have aX:0≤(x72_3:Int):=oD zz156;have q229:x72_3<(t222.length:Int):=oD zz156;obtain⟨aU,A229_1,c229_1,A229_2,c229_2,bB,bD,ba,bb,aC,ax,aD,ay⟩:=Z4 (Kd.N_reads' HO_227001.out).2.2 x72_3 aX q229;cases bB;obtain⟨dq,bk,bi,ao⟩:=Kd.N_get HO_227001.out z56 x72_3 aX zz117;obtain⟨bS,bW,bT,bX,rfl,ah,ad,ai,ae⟩:=Z6 bi;have Y:=ao 1 _ rfl;rw[ZN _ _ 1 (by omega)] at Y;replace Y:=oI (Y.symm.trans ba);injection Y with hva_ hvn_ hvc_;rw[hva_] at ad;rw[hvc_] at ah;have HL229_1:=aM (show Kd.V (Kd.int .i64) 3 _ w.heap.size _ _ ((Ze t222 x72_3).f1) from Kd.V_mk ah ad);clear hva_ hvn_ hvc_ ad ah;have Z:=ao 2 _ rfl;rw[ZN _ _ 2 (by omega)] at Z;replace Z:=oI (Z.symm.trans bb);injection Z with hva_ hvn_ hvc_;rw[hva_] at ae;rw[hvc_] at ai;have HL229_2:=aM (show Kd.V (Kd.slice 3 (Kd.int .i64)) 32 _ w.heap.size _ _ ((Ze t222 x72_3).f2) from Kd.V_mk ai ae);clear hva_ hvn_ hvc_ ae ai;clear ao bk;have HR229_1:=aM ax;have bg:=aM aC;clear ax aC;have HR229_2:=aM ay;have bn:=aM aD;clear ay aD;replace aX:=eq_true aX;replace q229:=eq_true q229)|((with_reducible refine Zq (N:=11) rfl ?_);(try(refine Zv (by rfl) ?_;dsimp only));refine Zx ?hg (N:=11) ?hd (cs:= #[.int .i64 0,.slice none 0 0,.slice none 0 0]) (t:=56) ?hr ?_;(case hd=>rfl);(case hg=>rfl);(case hr=>first|(go_simp;done)|(go_simp;rfl));intro gb230 hg dy hbox hb;replace HO_70:=aM (Kd.V_below (Kd.V_elderB (zV HO_70) gb230 (Nat.le_of_eq hg.symm)) hb);replace HO_215001:=aM (Kd.V_below (Kd.V_elderB (zV HO_215001) gb230 (Nat.le_of_eq hg.symm)) hb);replace HO_227001:=aM (Kd.N_below (Kd.N_elderB (zN HO_227001) gb230 (Nat.le_of_eq hg.symm)) hb);replace HR227_1:=aM (Kd.C_below zz65 hb);replace HL227_1:=aM (Kd.V_below (Kd.V_elderB (zV HL227_1) gb230 (Nat.le_of_eq hg.symm)) hb);replace HR227_2:=aM (Kd.C_below zz66 hb);replace HL227_2:=aM (Kd.V_below (Kd.V_elderB (zV HL227_2) gb230 (Nat.le_of_eq hg.symm)) hb);replace HR229_1:=aM (Kd.C_below zz67 hb);replace HL229_1:=aM (Kd.V_below (Kd.V_elderB (zV HL229_1) gb230 (Nat.le_of_eq hg.symm)) hb);replace HR229_2:=aM (Kd.C_below zz68 hb);replace HL229_2:=aM (Kd.V_below (Kd.V_elderB (zV HL229_2) gb230 (Nat.le_of_eq hg.symm)) hb);have aa:=aM (hbox);have dh:=aM ((by rw[hg];exact(Zc zz72):w.heap.size≤gb230));have bo:=aM ((by rw[hg];exact(Zc zz72):w.heap.size≤gb230));replace HB:=aM (Zd zz72 hb);have al:=aM ((by rw[hg];exact Nat.ne_of_lt (Zw (g:=m) (o:= .cells #[.int .i64 D,.slice (some L) l0_1.length I] 24 (0,0)) (zB BK214)):m≠gb230));have aP:=aM ((by rw[hg];exact Nat.ne_of_gt (Zw (g:=m) (o:= .cells #[.int .i64 D,.slice (some L) l0_1.length I] 24 (0,0)) (zB BK214)):gb230≠m));replace BK214:=aM (Zf (g:=m) (o:= .cells #[.int .i64 D,.slice (some L) l0_1.length I] 24 (0,0)) (zB BK214) hb);have am:=aM ((by rw[hg];exact Nat.ne_of_lt (Zw (g:=z) (o:= .cells #[.int .i64 t221,.slice (some aU) t222.length J] 24 (0,0)) (zB BK226)):z≠gb230));have aQ:=aM ((by rw[hg];exact Nat.ne_of_gt (Zw (g:=z) (o:= .cells #[.int .i64 t221,.slice (some aU) t222.length J] 24 (0,0)) (zB BK226)):gb230≠z));replace BK226:=aM (Zf (g:=z) (o:= .cells #[.int .i64 t221,.slice (some aU) t222.length J] 24 (0,0)) (zB BK226) hb);have aN:=aM ((by rw[hg];exact Nat.ne_of_lt (Zw (g:=gb228) (o:= .cells #[.int .i64 ((Ze l0_1 x72_3).f0),.slice A227_1 ((Ze l0_1 x72_3).f1).length c227_1,.slice A227_2 ((Ze l0_1 x72_3).f2).length c227_2] 56 (0,0)) (zB BK228)):gb228≠gb230));have aT:=aM ((by rw[hg];exact Nat.ne_of_gt (Zw (g:=gb228) (o:= .cells #[.int .i64 ((Ze l0_1 x72_3).f0),.slice A227_1 ((Ze l0_1 x72_3).f1).length c227_1,.slice A227_2 ((Ze l0_1 x72_3).f2).length c227_2] 56 (0,0)) (zB BK228)):gb230≠gb228));replace BK228:=aM (Zf (g:=gb228) (o:= .cells #[.int .i64 ((Ze l0_1 x72_3).f0),.slice A227_1 ((Ze l0_1 x72_3).f1).length c227_1,.slice A227_2 ((Ze l0_1 x72_3).f2).length c227_2] 56 (0,0)) (zB BK228) hb);clear hb hbox hg;have gF:=aP.out;have g8:=al.out;have gH:=aQ.out;have g9:=am.out;have gI:=aT.out;have ha:=aN.out;have eO:dy.cell? ⟨gb230,0,none⟩=some (.int .i64 0):=(Za aa.out 0).trans rfl;have eP:dy.cell? ⟨gb230,1,none⟩=some (.slice none 0 0):=(Za aa.out 1).trans rfl;have eQ:dy.cell? ⟨gb230,2,none⟩=some (.slice none 0 0):=(Za aa.out 2).trans rfl;have fq:=Zb aa.out 0;have fs:=Zb aa.out 1;have ft:=Zb aa.out 2;have eR:dy.cell? ⟨gb228,0,none⟩=some (.int .i64 ((Ze l0_1 x72_3).f0)):=(Za BK228.out 0).trans rfl;have eS:dy.cell? ⟨gb228,1,none⟩=some (.slice A227_1 ((Ze l0_1 x72_3).f1).length c227_1):=(Za BK228.out 1).trans rfl;have eT:dy.cell? ⟨gb228,2,none⟩=some (.slice A227_2 ((Ze l0_1 x72_3).f2).length c227_2):=(Za BK228.out 2).trans rfl;have fu:=Zb BK228.out 0;have fv:=Zb BK228.out 1;have fw:=Zb BK228.out 2)|(go_at_call 52;(with_reducible refine(slEq.calls k3 _ _ ((Ze l0_1 x72_3).f1) _ _ ((Ze t222 x72_3).f1) true _ ?sa ?sb ?sc ?sd ee.out).mono ?_);(case sa=>repeat(first|exact((Kd.V_reads' zz46).2.2)|(with_reducible refine Kd.C_alloc ?_ _)|(with_reducible refine Kd.C_drewN ?_ _)|(with_reducible refine Kd.C_drew ?_)));(case sb=>exact bc.out);(case sc=>repeat(first|exact((Kd.V_reads' zz47).2.2)|(with_reducible refine Kd.C_alloc ?_ _)|(with_reducible refine Kd.C_drewN ?_ _)|(with_reducible refine Kd.C_drew ?_)));(case sd=>exact bg.out);rintro e w' ⟨rfl,⟨nd,rfl⟩⟩)|(go_at_call 55;(with_reducible refine(slEqF.calls _ _ ((Ze l0_1 x72_3).f2) _ _ ((Ze t222 x72_3).f2) true _ ?sa ?sb ?sc ?sd eG.out).mono ?_);(case sa=>repeat(first|exact((Kd.V_reads' zz48).2.2)|(with_reducible refine Kd.C_alloc ?_ _)|(with_reducible refine Kd.C_drewN ?_ _)|(with_reducible refine Kd.C_drew ?_)));(case sb=>exact bm.out);(case sc=>repeat(first|exact((Kd.V_reads' zz49).2.2)|(with_reducible refine Kd.C_alloc ?_ _)|(with_reducible refine Kd.C_drewN ?_ _)|(with_reducible refine Kd.C_drew ?_)));(case sd=>exact bn.out);rintro e w' ⟨rfl,⟨nd,rfl⟩⟩))
               go_roundg k3
               case measure=>have:=HK1.out;have:=d8.out;have:=HK3.out;omega
               case rel=>exact⟨(wrap64 (x72_3+1)),zz157,H',⟨(by have:=HK1.out;have:=d8.out;have:=HK3.out;omega)⟩,⟨by(with_reducible repeat(first|apply Kd.V_alloc|apply Kd.V_drewN|apply Kd.V_drew));exact Kd.V_mono (Kd.V_far (p:=⟨gb230,2,none⟩) (Kd.V_far (p:=⟨gb230,1,none⟩) (Kd.V_far (p:=⟨gb230,0,none⟩) (Kd.V_mono HO_70.out (fun k_ hk=>(⟨hk,hk.2⟩:_∧k_≠gb230))) (fun _ hk=>hk.2) (.int .i64 ((Ze t222 x72_3).f0))) (fun _ hk=>hk.2) (.slice A229_1 ((Ze t222 x72_3).f1).length c229_1)) (fun _ hk=>hk.2) (.slice A229_2 ((Ze t222 x72_3).f2).length c229_2)) (fun _ hk=>⟨hk.1.1.1,⟨hk.1.1.2.1,⟨hk.1.1.2.2.1,hk.1.1.2.2.2.1⟩⟩⟩)⟩,⟨by(with_reducible repeat(first|apply Kd.V_alloc|apply Kd.V_drewN|apply Kd.V_drew));exact Kd.V_mono (Kd.V_far (p:=⟨gb230,2,none⟩) (Kd.V_far (p:=⟨gb230,1,none⟩) (Kd.V_far (p:=⟨gb230,0,none⟩) (Kd.V_mono HO_215001.out (fun k_ hk=>(⟨hk,hk.2⟩:_∧k_≠gb230))) (fun _ hk=>hk.2) (.int .i64 ((Ze t222 x72_3).f0))) (fun _ hk=>hk.2) (.slice A229_1 ((Ze t222 x72_3).f1).length c229_1)) (fun _ hk=>hk.2) (.slice A229_2 ((Ze t222 x72_3).f2).length c229_2)) (fun _ hk=>⟨hk.1.1.1,⟨hk.1.1.2.1,⟨hk.1.1.2.2.1,hk.1.1.2.2.2.1⟩⟩⟩)⟩,⟨by(with_reducible repeat(first|apply Kd.N_alloc|apply Kd.N_drewN|apply Kd.N_drew));exact Kd.N_mono (Kd.N_far (p:=⟨gb230,2,none⟩) (Kd.N_far (p:=⟨gb230,1,none⟩) (Kd.N_far (p:=⟨gb230,0,none⟩) (Kd.N_mono HO_227001.out (fun k_ hk=>(⟨hk,hk.2⟩:_∧k_≠gb230))) (fun _ hk=>hk.2) (.int .i64 ((Ze t222 x72_3).f0))) (fun _ hk=>hk.2) (.slice A229_1 ((Ze t222 x72_3).f1).length c229_1)) (fun _ hk=>hk.2) (.slice A229_2 ((Ze t222 x72_3).f2).length c229_2)) (fun _ hk=>⟨hk.1.1.1,⟨hk.1.1.2.1,hk.1.1.2.2.1⟩⟩)⟩,⟨(by(with_reducible repeat(first|refine Zn ?_ _|refine Zp ?_|refine Zk ?_ _));refine ZD ?_ al.out _;(with_reducible repeat(first|refine Zn ?_ _|refine Zp ?_|refine Zk ?_ _));refine ZD ?_ al.out _;(with_reducible repeat(first|refine Zn ?_ _|refine Zp ?_|refine Zk ?_ _));refine ZD ?_ al.out _;(with_reducible repeat(first|refine Zn ?_ _|refine Zp ?_|refine Zk ?_ _));exact BK214.out)⟩,⟨(by(with_reducible repeat(first|refine Zn ?_ _|refine Zp ?_|refine Zk ?_ _));refine ZD ?_ am.out _;(with_reducible repeat(first|refine Zn ?_ _|refine Zp ?_|refine Zk ?_ _));refine ZD ?_ am.out _;(with_reducible repeat(first|refine Zn ?_ _|refine Zp ?_|refine Zk ?_ _));refine ZD ?_ am.out _;(with_reducible repeat(first|refine Zn ?_ _|refine Zp ?_|refine Zk ?_ _));exact BK226.out)⟩,⟨(by repeat(first|(with_reducible first|exact HB.out|apply Zh|apply Zg|apply Zj|refine Zi ?_ GE214.out|refine Zi ?_ GE226.out|refine Zi ?_ GE228.out|refine Zi ?_ bo.out)|exact HB.out))⟩⟩
              replace dZ:=Bool.eq_false_iff.mpr dZ;subst dZ;have H1:(some 5)=some r:=by rw[if_neg (show¬(false=true) by decide)] at H;exact H
              clear H;have H:=H1;clear H1;obtain rfl:=oI H;have aW:0≤(x72_3:Int):=oD zz156;have q227:x72_3<(l0_1.length:Int):=oD zz156;obtain⟨L,A227_1,c227_1,A227_2,c227_2,bA,bC,a8,a9,az,av,aA,aw⟩:=Z4 (Kd.V_reads' HO_70.out).2.2 x72_3 aW q227
              cases bA;obtain⟨dp,bj,bh,an⟩:=Kd.V_get HO_70.out z56 x72_3 aW zz119;obtain⟨bP,bU,bQ,bV,rfl,af,ab,ag,ac⟩:=Z6 bh;have U:=an 1 _ rfl;rw[ZN _ _ 1 (by omega)] at U;replace U:=oI (U.symm.trans a8);injection U with hva_ hvn_ hvc_
              rw[hva_] at ab;rw[hvc_] at af;have HL227_1:=aM (show Kd.V (Kd.int .i64) 3 _ w.heap.size _ _ ((Ze l0_1 x72_3).f1) from Kd.V_mk af ab);clear hva_ hvn_ hvc_ ab af;have X:=an 2 _ rfl;rw[ZN _ _ 2 (by omega)] at X;replace X:=oI (X.symm.trans a9);injection X with hva_ hvn_ hvc_
              rw[hva_] at ac;rw[hvc_] at ag;have HL227_2:=aM (show Kd.V (Kd.slice 3 (Kd.int .i64)) 32 _ w.heap.size _ _ ((Ze l0_1 x72_3).f2) from Kd.V_mk ag ac);clear hva_ hvn_ hvc_ ac ag;clear an bj;have HR227_1:=aM av;have bc:=aM az;clear av az;have HR227_2:=aM aw;have bm:=aM aA;clear aw aA;replace aW:=eq_true aW;replace q227:=eq_true q227
              go_wp2_with (first|((with_reducible refine Zq (N:=10) rfl ?_);(try(refine Zv (by rfl) ?_;dsimp only));refine Zx ?hg (N:=10) ?hd (cs:= #[.int .i64 0,.slice none 0 0,.slice none 0 0]) (t:=56) ?hr ?_;(case hd=>rfl);(case hg=>rfl);(case hr=>first|(go_simp;done)|(go_simp;rfl));intro gb228 hg d1 hbox hb;replace HO_70:=aM (Kd.V_below (Kd.V_elderB (zV HO_70) gb228 (Nat.le_of_eq hg.symm)) hb);replace HO_215001:=aM (Kd.V_below (Kd.V_elderB (zV HO_215001) gb228 (Nat.le_of_eq hg.symm)) hb);replace HO_227001:=aM (Kd.N_below (Kd.N_elderB (zN HO_227001) gb228 (Nat.le_of_eq hg.symm)) hb);replace HR227_1:=aM (Kd.C_below zz65 hb);replace HL227_1:=aM (Kd.V_below (Kd.V_elderB (zV HL227_1) gb228 (Nat.le_of_eq hg.symm)) hb);replace HR227_2:=aM (Kd.C_below zz66 hb);replace HL227_2:=aM (Kd.V_below (Kd.V_elderB (zV HL227_2) gb228 (Nat.le_of_eq hg.symm)) hb);have BK228:=aM (hbox);have dg:=aM ((by rw[hg];exact(Zc zz78):w.heap.size≤gb228));have GE228:=aM ((by rw[hg];exact(Zc zz78):w.heap.size≤gb228));replace HB:=aM (Zd zz78 hb);have NB214_228:=aM ((by rw[hg];exact Nat.ne_of_lt (Zw (g:=m) (o:= .cells #[.int .i64 D,.slice (some L) l0_1.length I] 24 (0,0)) (zB BK214)):m≠gb228));have aJ:=aM ((by rw[hg];exact Nat.ne_of_gt (Zw (g:=m) (o:= .cells #[.int .i64 D,.slice (some L) l0_1.length I] 24 (0,0)) (zB BK214)):gb228≠m));replace BK214:=aM (Zf (g:=m) (o:= .cells #[.int .i64 D,.slice (some L) l0_1.length I] 24 (0,0)) (zB BK214) hb);have NB226_228:=aM ((by rw[hg];exact Nat.ne_of_lt (Zw (g:=z) (o:= .cells #[.int .i64 t221,.slice O t222.length J] 24 (0,0)) (zB BK226)):z≠gb228));have aK:=aM ((by rw[hg];exact Nat.ne_of_gt (Zw (g:=z) (o:= .cells #[.int .i64 t221,.slice O t222.length J] 24 (0,0)) (zB BK226)):gb228≠z));replace BK226:=aM (Zf (g:=z) (o:= .cells #[.int .i64 t221,.slice O t222.length J] 24 (0,0)) (zB BK226) hb);clear hb hbox hg;have gJ:=aJ.out;have hc:=NB214_228.out;have gK:=aK.out;have he:=NB226_228.out;have eU:d1.cell? ⟨gb228,0,none⟩=some (.int .i64 0):=(Za BK228.out 0).trans rfl;have eV:d1.cell? ⟨gb228,1,none⟩=some (.slice none 0 0):=(Za BK228.out 1).trans rfl;have eW:d1.cell? ⟨gb228,2,none⟩=some (.slice none 0 0):=(Za BK228.out 2).trans rfl;have fx:=Zb BK228.out 0;have fy:=Zb BK228.out 1;have fz:=Zb BK228.out 2)|((with_reducible refine ZO (t:=56) (p:=10) rfl ?_);refine ZM (t:=56) (p:=10) (v:= ?vo_w70) (w1:=(((d1.setCell ⟨gb228,0,none⟩ (.int .i64 ((Ze l0_1 x72_3).f0))).setCell ⟨gb228,1,none⟩ (.slice A227_1 ((Ze l0_1 x72_3).f1).length c227_1)).setCell ⟨gb228,2,none⟩ (.slice A227_2 ((Ze l0_1 x72_3).f2).length c227_2))) ?hg ?ho ?hn ?hr ?_;(case ho=>rfl);(case hg=>rfl);(case hn=>rfl);(case hr=>first|(go_simp;done)|(go_simp;rfl));intro bZ hw;have bF:Aside0 (Kd.V k56 56 bZ w.heap.size (fun k_=>(P k_∨w.heap.size≤k_)∧some k_≠(.slice O t222.length J:Value).ownBlock∧k_≠m∧k_≠z∧k_≠gb228) (.slice (some L) l0_1.length I) l0_1):=⟨zz27⟩;have bH:Aside0 (Kd.V k56 56 bZ w.heap.size (fun k_=>(P k_∨w.heap.size≤k_)∧some k_≠(.slice O t222.length J:Value).ownBlock∧k_≠m∧k_≠z∧k_≠gb228) (.slice (some L) l0_1.length I) l0_1):=⟨zz24⟩;have bI:Aside0 (Kd.N k56 56 bZ w.heap.size (fun k_=>(P k_∨w.heap.size≤k_)∧k_≠m∧k_≠z∧k_≠gb228) (.slice O t222.length J) t222):=⟨zz29⟩;have bJ:Aside0 (Kd.V (Kd.int .i64) 3 bZ w.heap.size (fun k_=>(P k_∨w.heap.size≤k_)∧some k_≠(.slice O t222.length J:Value).ownBlock∧k_≠m∧k_≠z∧k_≠gb228) (.slice A227_1 ((Ze l0_1 x72_3).f1).length c227_1) ((Ze l0_1 x72_3).f1)):=⟨zz25⟩;have bK:Aside0 (Kd.V (Kd.slice 3 (Kd.int .i64)) 32 bZ w.heap.size (fun k_=>(P k_∨w.heap.size≤k_)∧some k_≠(.slice O t222.length J:Value).ownBlock∧k_≠m∧k_≠z∧k_≠gb228) (.slice A227_2 ((Ze l0_1 x72_3).f2).length c227_2) ((Ze l0_1 x72_3).f2)):=⟨zz26⟩;have bL:Aside0 (bZ.heap[m]? =some (.cells #[.int .i64 D,.slice (some L) l0_1.length I] 24 (0,0))):=⟨zz35⟩;have bM:Aside0 (bZ.heap[z]? =some (.cells #[.int .i64 t221,.slice O t222.length J] 24 (0,0))):=⟨zz36⟩;have bN:Aside0 (bZ.heap[gb228]? =some (.cells #[.int .i64 ((Ze l0_1 x72_3).f0),.slice A227_1 ((Ze l0_1 x72_3).f1).length c227_1,.slice A227_2 ((Ze l0_1 x72_3).f2).length c227_2] 56 (0,0))):=⟨zz5⟩;have bO:Aside0 (Below w.heap.size w bZ):=⟨zz62⟩;clear hw;clear HO_70;clear HO_215001;clear HO_227001;clear HL227_1;clear HL227_2;clear BK214;clear BK226;clear BK228;clear HB;have HO_70:=bF;have HO_215001:=bH;have HO_227001:=bI;have HL227_1:=bJ;have HL227_2:=bK;have BK214:=bL;have BK226:=bM;have BK228:=bN;have HB:=bO;clear bF bH bI bJ bK bL bM bN bO;have gL:=aI.out;have hf:=NB214_226.out;have eX:bZ.cell? ⟨z,0,none⟩=some (.int .i64 t221):=(Za BK226.out 0).trans rfl;have eY:bZ.cell? ⟨z,1,none⟩=some (.slice O t222.length J):=(Za BK226.out 1).trans rfl;have fA:=Zb BK226.out 0;have fB:=Zb BK226.out 1;have aX:0≤(x72_3:Int):=oD zz156;have q229:x72_3<(t222.length:Int):=oD zz156;obtain⟨aU,A229_1,c229_1,A229_2,c229_2,bB,bD,ba,bb,aC,ax,aD,ay⟩:=Z4 (Kd.N_reads' HO_227001.out).2.2 x72_3 aX q229;cases bB;obtain⟨dq,bk,bi,ao⟩:=Kd.N_get HO_227001.out z56 x72_3 aX zz117;obtain⟨bS,bW,bT,bX,rfl,ah,ad,ai,ae⟩:=Z6 bi;have Y:=ao 1 _ rfl;rw[ZN _ _ 1 (by omega)] at Y;replace Y:=oI (Y.symm.trans ba);injection Y with hva_ hvn_ hvc_;rw[hva_] at ad;rw[hvc_] at ah;have HL229_1:=aM (show Kd.V (Kd.int .i64) 3 _ w.heap.size _ _ ((Ze t222 x72_3).f1) from Kd.V_mk ah ad);clear hva_ hvn_ hvc_ ad ah;have Z:=ao 2 _ rfl;rw[ZN _ _ 2 (by omega)] at Z;replace Z:=oI (Z.symm.trans bb);injection Z with hva_ hvn_ hvc_;rw[hva_] at ae;rw[hvc_] at ai;have HL229_2:=aM (show Kd.V (Kd.slice 3 (Kd.int .i64)) 32 _ w.heap.size _ _ ((Ze t222 x72_3).f2) from Kd.V_mk ai ae);clear hva_ hvn_ hvc_ ae ai;clear ao bk;have HR229_1:=aM ax;have bg:=aM aC;clear ax aC;have HR229_2:=aM ay;have bn:=aM aD;clear ay aD;replace aX:=eq_true aX;replace q229:=eq_true q229)|((with_reducible refine Zq (N:=11) rfl ?_);(try(refine Zv (by rfl) ?_;dsimp only));refine Zx ?hg (N:=11) ?hd (cs:= #[.int .i64 0,.slice none 0 0,.slice none 0 0]) (t:=56) ?hr ?_;(case hd=>rfl);(case hg=>rfl);(case hr=>first|(go_simp;done)|(go_simp;rfl));intro gb230 hg dz hbox hb;replace HO_70:=aM (Kd.V_below (Kd.V_elderB (zV HO_70) gb230 (Nat.le_of_eq hg.symm)) hb);replace HO_215001:=aM (Kd.V_below (Kd.V_elderB (zV HO_215001) gb230 (Nat.le_of_eq hg.symm)) hb);replace HO_227001:=aM (Kd.N_below (Kd.N_elderB (zN HO_227001) gb230 (Nat.le_of_eq hg.symm)) hb);replace HR227_1:=aM (Kd.C_below zz65 hb);replace HL227_1:=aM (Kd.V_below (Kd.V_elderB (zV HL227_1) gb230 (Nat.le_of_eq hg.symm)) hb);replace HR227_2:=aM (Kd.C_below zz66 hb);replace HL227_2:=aM (Kd.V_below (Kd.V_elderB (zV HL227_2) gb230 (Nat.le_of_eq hg.symm)) hb);replace HR229_1:=aM (Kd.C_below zz67 hb);replace HL229_1:=aM (Kd.V_below (Kd.V_elderB (zV HL229_1) gb230 (Nat.le_of_eq hg.symm)) hb);replace HR229_2:=aM (Kd.C_below zz68 hb);replace HL229_2:=aM (Kd.V_below (Kd.V_elderB (zV HL229_2) gb230 (Nat.le_of_eq hg.symm)) hb);have aa:=aM (hbox);have dh:=aM ((by rw[hg];exact(Zc zz72):w.heap.size≤gb230));have bo:=aM ((by rw[hg];exact(Zc zz72):w.heap.size≤gb230));replace HB:=aM (Zd zz72 hb);have al:=aM ((by rw[hg];exact Nat.ne_of_lt (Zw (g:=m) (o:= .cells #[.int .i64 D,.slice (some L) l0_1.length I] 24 (0,0)) (zB BK214)):m≠gb230));have aP:=aM ((by rw[hg];exact Nat.ne_of_gt (Zw (g:=m) (o:= .cells #[.int .i64 D,.slice (some L) l0_1.length I] 24 (0,0)) (zB BK214)):gb230≠m));replace BK214:=aM (Zf (g:=m) (o:= .cells #[.int .i64 D,.slice (some L) l0_1.length I] 24 (0,0)) (zB BK214) hb);have am:=aM ((by rw[hg];exact Nat.ne_of_lt (Zw (g:=z) (o:= .cells #[.int .i64 t221,.slice (some aU) t222.length J] 24 (0,0)) (zB BK226)):z≠gb230));have aQ:=aM ((by rw[hg];exact Nat.ne_of_gt (Zw (g:=z) (o:= .cells #[.int .i64 t221,.slice (some aU) t222.length J] 24 (0,0)) (zB BK226)):gb230≠z));replace BK226:=aM (Zf (g:=z) (o:= .cells #[.int .i64 t221,.slice (some aU) t222.length J] 24 (0,0)) (zB BK226) hb);have aN:=aM ((by rw[hg];exact Nat.ne_of_lt (Zw (g:=gb228) (o:= .cells #[.int .i64 ((Ze l0_1 x72_3).f0),.slice A227_1 ((Ze l0_1 x72_3).f1).length c227_1,.slice A227_2 ((Ze l0_1 x72_3).f2).length c227_2] 56 (0,0)) (zB BK228)):gb228≠gb230));have aT:=aM ((by rw[hg];exact Nat.ne_of_gt (Zw (g:=gb228) (o:= .cells #[.int .i64 ((Ze l0_1 x72_3).f0),.slice A227_1 ((Ze l0_1 x72_3).f1).length c227_1,.slice A227_2 ((Ze l0_1 x72_3).f2).length c227_2] 56 (0,0)) (zB BK228)):gb230≠gb228));replace BK228:=aM (Zf (g:=gb228) (o:= .cells #[.int .i64 ((Ze l0_1 x72_3).f0),.slice A227_1 ((Ze l0_1 x72_3).f1).length c227_1,.slice A227_2 ((Ze l0_1 x72_3).f2).length c227_2] 56 (0,0)) (zB BK228) hb);clear hb hbox hg;have gM:=aP.out;have hh:=al.out;have gN:=aQ.out;have hj:=am.out;have gO:=aT.out;have hm:=aN.out;have eZ:dz.cell? ⟨gb230,0,none⟩=some (.int .i64 0):=(Za aa.out 0).trans rfl;have e0:dz.cell? ⟨gb230,1,none⟩=some (.slice none 0 0):=(Za aa.out 1).trans rfl;have e1:dz.cell? ⟨gb230,2,none⟩=some (.slice none 0 0):=(Za aa.out 2).trans rfl;have fC:=Zb aa.out 0;have fD:=Zb aa.out 1;have fE:=Zb aa.out 2;have e2:dz.cell? ⟨gb228,0,none⟩=some (.int .i64 ((Ze l0_1 x72_3).f0)):=(Za BK228.out 0).trans rfl;have e3:dz.cell? ⟨gb228,1,none⟩=some (.slice A227_1 ((Ze l0_1 x72_3).f1).length c227_1):=(Za BK228.out 1).trans rfl;have e4:dz.cell? ⟨gb228,2,none⟩=some (.slice A227_2 ((Ze l0_1 x72_3).f2).length c227_2):=(Za BK228.out 2).trans rfl;have fF:=Zb BK228.out 0;have fG:=Zb BK228.out 1;have fH:=Zb BK228.out 2)|(go_at_call 52;(with_reducible refine(slEq.calls k3 _ _ ((Ze l0_1 x72_3).f1) _ _ ((Ze t222 x72_3).f1) true _ ?sa ?sb ?sc ?sd ee.out).mono ?_);(case sa=>repeat(first|exact((Kd.V_reads' zz46).2.2)|(with_reducible refine Kd.C_alloc ?_ _)|(with_reducible refine Kd.C_drewN ?_ _)|(with_reducible refine Kd.C_drew ?_)));(case sb=>exact bc.out);(case sc=>repeat(first|exact((Kd.V_reads' zz47).2.2)|(with_reducible refine Kd.C_alloc ?_ _)|(with_reducible refine Kd.C_drewN ?_ _)|(with_reducible refine Kd.C_drew ?_)));(case sd=>exact bg.out);rintro e w' ⟨rfl,⟨nd,rfl⟩⟩)|(go_at_call 55;(with_reducible refine(slEqF.calls _ _ ((Ze l0_1 x72_3).f2) _ _ ((Ze t222 x72_3).f2) false _ ?sa ?sb ?sc ?sd eG.out).mono ?_);(case sa=>repeat(first|exact((Kd.V_reads' zz48).2.2)|(with_reducible refine Kd.C_alloc ?_ _)|(with_reducible refine Kd.C_drewN ?_ _)|(with_reducible refine Kd.C_drew ?_)));(case sb=>exact bm.out);(case sc=>repeat(first|exact((Kd.V_reads' zz49).2.2)|(with_reducible refine Kd.C_alloc ?_ _)|(with_reducible refine Kd.C_drewN ?_ _)|(with_reducible refine Kd.C_drew ?_)));(case sd=>exact bn.out);rintro e w' ⟨rfl,⟨nd,rfl⟩⟩))
              go_ret
              exact⟨by first|rfl|(simp[Zm,Zl]<;>rfl)|(simp[*,Zm,Zl]<;>rfl),by repeat(first|(with_reducible first|exact HB.out|apply Zh|apply Zg|apply Zj|refine Zi ?_ GE214.out|refine Zi ?_ GE226.out|refine Zi ?_ GE228.out|refine Zi ?_ bo.out)|exact HB.out)⟩
             replace dY:=Bool.eq_false_iff.mpr dY;subst dY;have H1:(some 5)=some r:=by rw[if_neg (show¬(false=true) by decide)] at H;exact H
             clear H;have H:=H1;clear H1;obtain rfl:=oI H;have aW:0≤(x72_3:Int):=oD zz156;have q227:x72_3<(l0_1.length:Int):=oD zz156;obtain⟨L,A227_1,c227_1,A227_2,c227_2,bA,bC,a8,a9,az,av,aA,aw⟩:=Z4 (Kd.V_reads' HO_70.out).2.2 x72_3 aW q227
             cases bA;obtain⟨dp,bj,bh,an⟩:=Kd.V_get HO_70.out z56 x72_3 aW zz119;obtain⟨bP,bU,bQ,bV,rfl,af,ab,ag,ac⟩:=Z6 bh;have U:=an 1 _ rfl;rw[ZN _ _ 1 (by omega)] at U;replace U:=oI (U.symm.trans a8);injection U with hva_ hvn_ hvc_
             rw[hva_] at ab;rw[hvc_] at af;have HL227_1:=aM (show Kd.V (Kd.int .i64) 3 _ w.heap.size _ _ ((Ze l0_1 x72_3).f1) from Kd.V_mk af ab);clear hva_ hvn_ hvc_ ab af;have X:=an 2 _ rfl;rw[ZN _ _ 2 (by omega)] at X;replace X:=oI (X.symm.trans a9);injection X with hva_ hvn_ hvc_
             rw[hva_] at ac;rw[hvc_] at ag;have HL227_2:=aM (show Kd.V (Kd.slice 3 (Kd.int .i64)) 32 _ w.heap.size _ _ ((Ze l0_1 x72_3).f2) from Kd.V_mk ag ac);clear hva_ hvn_ hvc_ ac ag;clear an bj;have HR227_1:=aM av;have bc:=aM az;clear av az;have HR227_2:=aM aw;have bm:=aM aA;clear aw aA;replace aW:=eq_true aW;replace q227:=eq_true q227
             go_wp2_with (first|((with_reducible refine Zq (N:=10) rfl ?_);(try(refine Zv (by rfl) ?_;dsimp only));refine Zx ?hg (N:=10) ?hd (cs:= #[.int .i64 0,.slice none 0 0,.slice none 0 0]) (t:=56) ?hr ?_;(case hd=>rfl);(case hg=>rfl);(case hr=>first|(go_simp;done)|(go_simp;rfl));intro gb228 hg d2 hbox hb;replace HO_70:=aM (Kd.V_below (Kd.V_elderB (zV HO_70) gb228 (Nat.le_of_eq hg.symm)) hb);replace HO_215001:=aM (Kd.V_below (Kd.V_elderB (zV HO_215001) gb228 (Nat.le_of_eq hg.symm)) hb);replace HO_227001:=aM (Kd.N_below (Kd.N_elderB (zN HO_227001) gb228 (Nat.le_of_eq hg.symm)) hb);replace HR227_1:=aM (Kd.C_below zz65 hb);replace HL227_1:=aM (Kd.V_below (Kd.V_elderB (zV HL227_1) gb228 (Nat.le_of_eq hg.symm)) hb);replace HR227_2:=aM (Kd.C_below zz66 hb);replace HL227_2:=aM (Kd.V_below (Kd.V_elderB (zV HL227_2) gb228 (Nat.le_of_eq hg.symm)) hb);have BK228:=aM (hbox);have dg:=aM ((by rw[hg];exact(Zc zz78):w.heap.size≤gb228));have GE228:=aM ((by rw[hg];exact(Zc zz78):w.heap.size≤gb228));replace HB:=aM (Zd zz78 hb);have NB214_228:=aM ((by rw[hg];exact Nat.ne_of_lt (Zw (g:=m) (o:= .cells #[.int .i64 D,.slice (some L) l0_1.length I] 24 (0,0)) (zB BK214)):m≠gb228));have aJ:=aM ((by rw[hg];exact Nat.ne_of_gt (Zw (g:=m) (o:= .cells #[.int .i64 D,.slice (some L) l0_1.length I] 24 (0,0)) (zB BK214)):gb228≠m));replace BK214:=aM (Zf (g:=m) (o:= .cells #[.int .i64 D,.slice (some L) l0_1.length I] 24 (0,0)) (zB BK214) hb);have NB226_228:=aM ((by rw[hg];exact Nat.ne_of_lt (Zw (g:=z) (o:= .cells #[.int .i64 t221,.slice O t222.length J] 24 (0,0)) (zB BK226)):z≠gb228));have aK:=aM ((by rw[hg];exact Nat.ne_of_gt (Zw (g:=z) (o:= .cells #[.int .i64 t221,.slice O t222.length J] 24 (0,0)) (zB BK226)):gb228≠z));replace BK226:=aM (Zf (g:=z) (o:= .cells #[.int .i64 t221,.slice O t222.length J] 24 (0,0)) (zB BK226) hb);clear hb hbox hg;have gP:=aJ.out;have hp:=NB214_228.out;have gQ:=aK.out;have hq:=NB226_228.out;have e5:d2.cell? ⟨gb228,0,none⟩=some (.int .i64 0):=(Za BK228.out 0).trans rfl;have e6:d2.cell? ⟨gb228,1,none⟩=some (.slice none 0 0):=(Za BK228.out 1).trans rfl;have e7:d2.cell? ⟨gb228,2,none⟩=some (.slice none 0 0):=(Za BK228.out 2).trans rfl;have fI:=Zb BK228.out 0;have fJ:=Zb BK228.out 1;have fK:=Zb BK228.out 2)|((with_reducible refine ZO (t:=56) (p:=10) rfl ?_);refine ZM (t:=56) (p:=10) (v:= ?vo_w83) (w1:=(((d2.setCell ⟨gb228,0,none⟩ (.int .i64 ((Ze l0_1 x72_3).f0))).setCell ⟨gb228,1,none⟩ (.slice A227_1 ((Ze l0_1 x72_3).f1).length c227_1)).setCell ⟨gb228,2,none⟩ (.slice A227_2 ((Ze l0_1 x72_3).f2).length c227_2))) ?hg ?ho ?hn ?hr ?_;(case ho=>rfl);(case hg=>rfl);(case hn=>rfl);(case hr=>first|(go_simp;done)|(go_simp;rfl));intro b0 hw;have bF:Aside0 (Kd.V k56 56 b0 w.heap.size (fun k_=>(P k_∨w.heap.size≤k_)∧some k_≠(.slice O t222.length J:Value).ownBlock∧k_≠m∧k_≠z∧k_≠gb228) (.slice (some L) l0_1.length I) l0_1):=⟨zz27⟩;have bH:Aside0 (Kd.V k56 56 b0 w.heap.size (fun k_=>(P k_∨w.heap.size≤k_)∧some k_≠(.slice O t222.length J:Value).ownBlock∧k_≠m∧k_≠z∧k_≠gb228) (.slice (some L) l0_1.length I) l0_1):=⟨zz24⟩;have bI:Aside0 (Kd.N k56 56 b0 w.heap.size (fun k_=>(P k_∨w.heap.size≤k_)∧k_≠m∧k_≠z∧k_≠gb228) (.slice O t222.length J) t222):=⟨zz29⟩;have bJ:Aside0 (Kd.V (Kd.int .i64) 3 b0 w.heap.size (fun k_=>(P k_∨w.heap.size≤k_)∧some k_≠(.slice O t222.length J:Value).ownBlock∧k_≠m∧k_≠z∧k_≠gb228) (.slice A227_1 ((Ze l0_1 x72_3).f1).length c227_1) ((Ze l0_1 x72_3).f1)):=⟨zz25⟩;have bK:Aside0 (Kd.V (Kd.slice 3 (Kd.int .i64)) 32 b0 w.heap.size (fun k_=>(P k_∨w.heap.size≤k_)∧some k_≠(.slice O t222.length J:Value).ownBlock∧k_≠m∧k_≠z∧k_≠gb228) (.slice A227_2 ((Ze l0_1 x72_3).f2).length c227_2) ((Ze l0_1 x72_3).f2)):=⟨zz26⟩;have bL:Aside0 (b0.heap[m]? =some (.cells #[.int .i64 D,.slice (some L) l0_1.length I] 24 (0,0))):=⟨zz35⟩;have bM:Aside0 (b0.heap[z]? =some (.cells #[.int .i64 t221,.slice O t222.length J] 24 (0,0))):=⟨zz36⟩;have bN:Aside0 (b0.heap[gb228]? =some (.cells #[.int .i64 ((Ze l0_1 x72_3).f0),.slice A227_1 ((Ze l0_1 x72_3).f1).length c227_1,.slice A227_2 ((Ze l0_1 x72_3).f2).length c227_2] 56 (0,0))):=⟨zz5⟩;have bO:Aside0 (Below w.heap.size w b0):=⟨zz62⟩;clear hw;clear HO_70;clear HO_215001;clear HO_227001;clear HL227_1;clear HL227_2;clear BK214;clear BK226;clear BK228;clear HB;have HO_70:=bF;have HO_215001:=bH;have HO_227001:=bI;have HL227_1:=bJ;have HL227_2:=bK;have BK214:=bL;have BK226:=bM;have BK228:=bN;have HB:=bO;clear bF bH bI bJ bK bL bM bN bO;have gS:=aI.out;have hs:=NB214_226.out;have e8:b0.cell? ⟨z,0,none⟩=some (.int .i64 t221):=(Za BK226.out 0).trans rfl;have e9:b0.cell? ⟨z,1,none⟩=some (.slice O t222.length J):=(Za BK226.out 1).trans rfl;have fL:=Zb BK226.out 0;have fM:=Zb BK226.out 1;have aX:0≤(x72_3:Int):=oD zz156;have q229:x72_3<(t222.length:Int):=oD zz156;obtain⟨aU,A229_1,c229_1,A229_2,c229_2,bB,bD,ba,bb,aC,ax,aD,ay⟩:=Z4 (Kd.N_reads' HO_227001.out).2.2 x72_3 aX q229;cases bB;obtain⟨dq,bk,bi,ao⟩:=Kd.N_get HO_227001.out z56 x72_3 aX zz117;obtain⟨bS,bW,bT,bX,rfl,ah,ad,ai,ae⟩:=Z6 bi;have Y:=ao 1 _ rfl;rw[ZN _ _ 1 (by omega)] at Y;replace Y:=oI (Y.symm.trans ba);injection Y with hva_ hvn_ hvc_;rw[hva_] at ad;rw[hvc_] at ah;have HL229_1:=aM (show Kd.V (Kd.int .i64) 3 _ w.heap.size _ _ ((Ze t222 x72_3).f1) from Kd.V_mk ah ad);clear hva_ hvn_ hvc_ ad ah;have Z:=ao 2 _ rfl;rw[ZN _ _ 2 (by omega)] at Z;replace Z:=oI (Z.symm.trans bb);injection Z with hva_ hvn_ hvc_;rw[hva_] at ae;rw[hvc_] at ai;have HL229_2:=aM (show Kd.V (Kd.slice 3 (Kd.int .i64)) 32 _ w.heap.size _ _ ((Ze t222 x72_3).f2) from Kd.V_mk ai ae);clear hva_ hvn_ hvc_ ae ai;clear ao bk;have HR229_1:=aM ax;have bg:=aM aC;clear ax aC;have HR229_2:=aM ay;have bn:=aM aD;clear ay aD;replace aX:=eq_true aX;replace q229:=eq_true q229)|((with_reducible refine Zq (N:=11) rfl ?_);(try(refine Zv (by rfl) ?_;dsimp only));refine Zx ?hg (N:=11) ?hd (cs:= #[.int .i64 0,.slice none 0 0,.slice none 0 0]) (t:=56) ?hr ?_;(case hd=>rfl);(case hg=>rfl);(case hr=>first|(go_simp;done)|(go_simp;rfl));intro gb230 hg dA hbox hb;replace HO_70:=aM (Kd.V_below (Kd.V_elderB (zV HO_70) gb230 (Nat.le_of_eq hg.symm)) hb);replace HO_215001:=aM (Kd.V_below (Kd.V_elderB (zV HO_215001) gb230 (Nat.le_of_eq hg.symm)) hb);replace HO_227001:=aM (Kd.N_below (Kd.N_elderB (zN HO_227001) gb230 (Nat.le_of_eq hg.symm)) hb);replace HR227_1:=aM (Kd.C_below zz65 hb);replace HL227_1:=aM (Kd.V_below (Kd.V_elderB (zV HL227_1) gb230 (Nat.le_of_eq hg.symm)) hb);replace HR227_2:=aM (Kd.C_below zz66 hb);replace HL227_2:=aM (Kd.V_below (Kd.V_elderB (zV HL227_2) gb230 (Nat.le_of_eq hg.symm)) hb);replace HR229_1:=aM (Kd.C_below zz67 hb);replace HL229_1:=aM (Kd.V_below (Kd.V_elderB (zV HL229_1) gb230 (Nat.le_of_eq hg.symm)) hb);replace HR229_2:=aM (Kd.C_below zz68 hb);replace HL229_2:=aM (Kd.V_below (Kd.V_elderB (zV HL229_2) gb230 (Nat.le_of_eq hg.symm)) hb);have aa:=aM (hbox);have dh:=aM ((by rw[hg];exact(Zc zz72):w.heap.size≤gb230));have bo:=aM ((by rw[hg];exact(Zc zz72):w.heap.size≤gb230));replace HB:=aM (Zd zz72 hb);have al:=aM ((by rw[hg];exact Nat.ne_of_lt (Zw (g:=m) (o:= .cells #[.int .i64 D,.slice (some L) l0_1.length I] 24 (0,0)) (zB BK214)):m≠gb230));have aP:=aM ((by rw[hg];exact Nat.ne_of_gt (Zw (g:=m) (o:= .cells #[.int .i64 D,.slice (some L) l0_1.length I] 24 (0,0)) (zB BK214)):gb230≠m));replace BK214:=aM (Zf (g:=m) (o:= .cells #[.int .i64 D,.slice (some L) l0_1.length I] 24 (0,0)) (zB BK214) hb);have am:=aM ((by rw[hg];exact Nat.ne_of_lt (Zw (g:=z) (o:= .cells #[.int .i64 t221,.slice (some aU) t222.length J] 24 (0,0)) (zB BK226)):z≠gb230));have aQ:=aM ((by rw[hg];exact Nat.ne_of_gt (Zw (g:=z) (o:= .cells #[.int .i64 t221,.slice (some aU) t222.length J] 24 (0,0)) (zB BK226)):gb230≠z));replace BK226:=aM (Zf (g:=z) (o:= .cells #[.int .i64 t221,.slice (some aU) t222.length J] 24 (0,0)) (zB BK226) hb);have aN:=aM ((by rw[hg];exact Nat.ne_of_lt (Zw (g:=gb228) (o:= .cells #[.int .i64 ((Ze l0_1 x72_3).f0),.slice A227_1 ((Ze l0_1 x72_3).f1).length c227_1,.slice A227_2 ((Ze l0_1 x72_3).f2).length c227_2] 56 (0,0)) (zB BK228)):gb228≠gb230));have aT:=aM ((by rw[hg];exact Nat.ne_of_gt (Zw (g:=gb228) (o:= .cells #[.int .i64 ((Ze l0_1 x72_3).f0),.slice A227_1 ((Ze l0_1 x72_3).f1).length c227_1,.slice A227_2 ((Ze l0_1 x72_3).f2).length c227_2] 56 (0,0)) (zB BK228)):gb230≠gb228));replace BK228:=aM (Zf (g:=gb228) (o:= .cells #[.int .i64 ((Ze l0_1 x72_3).f0),.slice A227_1 ((Ze l0_1 x72_3).f1).length c227_1,.slice A227_2 ((Ze l0_1 x72_3).f2).length c227_2] 56 (0,0)) (zB BK228) hb);clear hb hbox hg;have gT:=aP.out;have hu:=al.out;have gU:=aQ.out;have hv:=am.out;have gV:=aT.out;have hy:=aN.out;have fa:dA.cell? ⟨gb230,0,none⟩=some (.int .i64 0):=(Za aa.out 0).trans rfl;have fb:dA.cell? ⟨gb230,1,none⟩=some (.slice none 0 0):=(Za aa.out 1).trans rfl;have fc:dA.cell? ⟨gb230,2,none⟩=some (.slice none 0 0):=(Za aa.out 2).trans rfl;have fN:=Zb aa.out 0;have fO:=Zb aa.out 1;have fP:=Zb aa.out 2;have fd:dA.cell? ⟨gb228,0,none⟩=some (.int .i64 ((Ze l0_1 x72_3).f0)):=(Za BK228.out 0).trans rfl;have fe:dA.cell? ⟨gb228,1,none⟩=some (.slice A227_1 ((Ze l0_1 x72_3).f1).length c227_1):=(Za BK228.out 1).trans rfl;have ff:dA.cell? ⟨gb228,2,none⟩=some (.slice A227_2 ((Ze l0_1 x72_3).f2).length c227_2):=(Za BK228.out 2).trans rfl;have fQ:=Zb BK228.out 0;have fR:=Zb BK228.out 1;have fS:=Zb BK228.out 2)|(go_at_call 52;(with_reducible refine(slEq.calls k3 _ _ ((Ze l0_1 x72_3).f1) _ _ ((Ze t222 x72_3).f1) false _ ?sa ?sb ?sc ?sd ee.out).mono ?_);(case sa=>repeat(first|exact((Kd.V_reads' zz46).2.2)|(with_reducible refine Kd.C_alloc ?_ _)|(with_reducible refine Kd.C_drewN ?_ _)|(with_reducible refine Kd.C_drew ?_)));(case sb=>exact bc.out);(case sc=>repeat(first|exact((Kd.V_reads' zz47).2.2)|(with_reducible refine Kd.C_alloc ?_ _)|(with_reducible refine Kd.C_drewN ?_ _)|(with_reducible refine Kd.C_drew ?_)));(case sd=>exact bg.out);rintro e w' ⟨rfl,⟨nd,rfl⟩⟩))
             go_ret
             exact⟨by first|rfl|(simp[Zm,Zl]<;>rfl)|(simp[*,Zm,Zl]<;>rfl),by repeat(first|(with_reducible first|exact HB.out|apply Zh|apply Zg|apply Zj|refine Zi ?_ GE214.out|refine Zi ?_ GE226.out|refine Zi ?_ GE228.out|refine Zi ?_ bo.out)|exact HB.out)⟩
            rw[if_neg dn] at H;have ej:=beq_eq_false_iff_ne.mpr dn;have ek:=bne_iff_ne.mpr dn;obtain rfl:=oI H;have aW:0≤(x72_3:Int):=oD zz156;have q227:x72_3<(l0_1.length:Int):=oD zz156;obtain⟨L,A227_1,c227_1,A227_2,c227_2,bA,bC,a8,a9,az,av,aA,aw⟩:=Z4 (Kd.V_reads' HO_70.out).2.2 x72_3 aW q227
            cases bA;obtain⟨dp,bj,bh,an⟩:=Kd.V_get HO_70.out z56 x72_3 aW zz119;obtain⟨bP,bU,bQ,bV,rfl,af,ab,ag,ac⟩:=Z6 bh;have U:=an 1 _ rfl;rw[ZN _ _ 1 (by omega)] at U;replace U:=oI (U.symm.trans a8);injection U with hva_ hvn_ hvc_
            rw[hva_] at ab;rw[hvc_] at af;have HL227_1:=aM (show Kd.V (Kd.int .i64) 3 _ w.heap.size _ _ ((Ze l0_1 x72_3).f1) from Kd.V_mk af ab);clear hva_ hvn_ hvc_ ab af;have X:=an 2 _ rfl;rw[ZN _ _ 2 (by omega)] at X;replace X:=oI (X.symm.trans a9);injection X with hva_ hvn_ hvc_
            rw[hva_] at ac;rw[hvc_] at ag;have HL227_2:=aM (show Kd.V (Kd.slice 3 (Kd.int .i64)) 32 _ w.heap.size _ _ ((Ze l0_1 x72_3).f2) from Kd.V_mk ag ac);clear hva_ hvn_ hvc_ ac ag;clear an bj;have HR227_1:=aM av;have bc:=aM az;clear av az;have HR227_2:=aM aw;have bm:=aM aA;clear aw aA;replace aW:=eq_true aW;replace q227:=eq_true q227
            go_wp2_with (first|((with_reducible refine Zq (N:=10) rfl ?_);(try(refine Zv (by rfl) ?_;dsimp only));refine Zx ?hg (N:=10) ?hd (cs:= #[.int .i64 0,.slice none 0 0,.slice none 0 0]) (t:=56) ?hr ?_;(case hd=>rfl);(case hg=>rfl);(case hr=>first|(go_simp;done)|(go_simp;rfl));intro gb228 hg d3 hbox hb;replace HO_70:=aM (Kd.V_below (Kd.V_elderB (zV HO_70) gb228 (Nat.le_of_eq hg.symm)) hb);replace HO_215001:=aM (Kd.V_below (Kd.V_elderB (zV HO_215001) gb228 (Nat.le_of_eq hg.symm)) hb);replace HO_227001:=aM (Kd.N_below (Kd.N_elderB (zN HO_227001) gb228 (Nat.le_of_eq hg.symm)) hb);replace HR227_1:=aM (Kd.C_below zz65 hb);replace HL227_1:=aM (Kd.V_below (Kd.V_elderB (zV HL227_1) gb228 (Nat.le_of_eq hg.symm)) hb);replace HR227_2:=aM (Kd.C_below zz66 hb);replace HL227_2:=aM (Kd.V_below (Kd.V_elderB (zV HL227_2) gb228 (Nat.le_of_eq hg.symm)) hb);have BK228:=aM (hbox);have dg:=aM ((by rw[hg];exact(Zc zz78):w.heap.size≤gb228));have GE228:=aM ((by rw[hg];exact(Zc zz78):w.heap.size≤gb228));replace HB:=aM (Zd zz78 hb);have NB214_228:=aM ((by rw[hg];exact Nat.ne_of_lt (Zw (g:=m) (o:= .cells #[.int .i64 D,.slice (some L) l0_1.length I] 24 (0,0)) (zB BK214)):m≠gb228));have aJ:=aM ((by rw[hg];exact Nat.ne_of_gt (Zw (g:=m) (o:= .cells #[.int .i64 D,.slice (some L) l0_1.length I] 24 (0,0)) (zB BK214)):gb228≠m));replace BK214:=aM (Zf (g:=m) (o:= .cells #[.int .i64 D,.slice (some L) l0_1.length I] 24 (0,0)) (zB BK214) hb);have NB226_228:=aM ((by rw[hg];exact Nat.ne_of_lt (Zw (g:=z) (o:= .cells #[.int .i64 t221,.slice O t222.length J] 24 (0,0)) (zB BK226)):z≠gb228));have aK:=aM ((by rw[hg];exact Nat.ne_of_gt (Zw (g:=z) (o:= .cells #[.int .i64 t221,.slice O t222.length J] 24 (0,0)) (zB BK226)):gb228≠z));replace BK226:=aM (Zf (g:=z) (o:= .cells #[.int .i64 t221,.slice O t222.length J] 24 (0,0)) (zB BK226) hb);clear hb hbox hg;have gW:=aJ.out;have hz:=NB214_228.out;have gX:=aK.out;have hA:=NB226_228.out;have fg:d3.cell? ⟨gb228,0,none⟩=some (.int .i64 0):=(Za BK228.out 0).trans rfl;have fh:d3.cell? ⟨gb228,1,none⟩=some (.slice none 0 0):=(Za BK228.out 1).trans rfl;have fi:d3.cell? ⟨gb228,2,none⟩=some (.slice none 0 0):=(Za BK228.out 2).trans rfl;have fT:=Zb BK228.out 0;have fU:=Zb BK228.out 1;have fV:=Zb BK228.out 2)|((with_reducible refine ZO (t:=56) (p:=10) rfl ?_);refine ZM (t:=56) (p:=10) (v:= ?vo_w96) (w1:=(((d3.setCell ⟨gb228,0,none⟩ (.int .i64 ((Ze l0_1 x72_3).f0))).setCell ⟨gb228,1,none⟩ (.slice A227_1 ((Ze l0_1 x72_3).f1).length c227_1)).setCell ⟨gb228,2,none⟩ (.slice A227_2 ((Ze l0_1 x72_3).f2).length c227_2))) ?hg ?ho ?hn ?hr ?_;(case ho=>rfl);(case hg=>rfl);(case hn=>rfl);(case hr=>first|(go_simp;done)|(go_simp;rfl));intro b1 hw;have bF:Aside0 (Kd.V k56 56 b1 w.heap.size (fun k_=>(P k_∨w.heap.size≤k_)∧some k_≠(.slice O t222.length J:Value).ownBlock∧k_≠m∧k_≠z∧k_≠gb228) (.slice (some L) l0_1.length I) l0_1):=⟨zz27⟩;have bH:Aside0 (Kd.V k56 56 b1 w.heap.size (fun k_=>(P k_∨w.heap.size≤k_)∧some k_≠(.slice O t222.length J:Value).ownBlock∧k_≠m∧k_≠z∧k_≠gb228) (.slice (some L) l0_1.length I) l0_1):=⟨zz24⟩;have bI:Aside0 (Kd.N k56 56 b1 w.heap.size (fun k_=>(P k_∨w.heap.size≤k_)∧k_≠m∧k_≠z∧k_≠gb228) (.slice O t222.length J) t222):=⟨zz29⟩;have bJ:Aside0 (Kd.V (Kd.int .i64) 3 b1 w.heap.size (fun k_=>(P k_∨w.heap.size≤k_)∧some k_≠(.slice O t222.length J:Value).ownBlock∧k_≠m∧k_≠z∧k_≠gb228) (.slice A227_1 ((Ze l0_1 x72_3).f1).length c227_1) ((Ze l0_1 x72_3).f1)):=⟨zz25⟩;have bK:Aside0 (Kd.V (Kd.slice 3 (Kd.int .i64)) 32 b1 w.heap.size (fun k_=>(P k_∨w.heap.size≤k_)∧some k_≠(.slice O t222.length J:Value).ownBlock∧k_≠m∧k_≠z∧k_≠gb228) (.slice A227_2 ((Ze l0_1 x72_3).f2).length c227_2) ((Ze l0_1 x72_3).f2)):=⟨zz26⟩;have bL:Aside0 (b1.heap[m]? =some (.cells #[.int .i64 D,.slice (some L) l0_1.length I] 24 (0,0))):=⟨zz35⟩;have bM:Aside0 (b1.heap[z]? =some (.cells #[.int .i64 t221,.slice O t222.length J] 24 (0,0))):=⟨zz36⟩;have bN:Aside0 (b1.heap[gb228]? =some (.cells #[.int .i64 ((Ze l0_1 x72_3).f0),.slice A227_1 ((Ze l0_1 x72_3).f1).length c227_1,.slice A227_2 ((Ze l0_1 x72_3).f2).length c227_2] 56 (0,0))):=⟨zz5⟩;have bO:Aside0 (Below w.heap.size w b1):=⟨zz62⟩;clear hw;clear HO_70;clear HO_215001;clear HO_227001;clear HL227_1;clear HL227_2;clear BK214;clear BK226;clear BK228;clear HB;have HO_70:=bF;have HO_215001:=bH;have HO_227001:=bI;have HL227_1:=bJ;have HL227_2:=bK;have BK214:=bL;have BK226:=bM;have BK228:=bN;have HB:=bO;clear bF bH bI bJ bK bL bM bN bO;have gY:=aI.out;have hB:=NB214_226.out;have fj:b1.cell? ⟨z,0,none⟩=some (.int .i64 t221):=(Za BK226.out 0).trans rfl;have fk:b1.cell? ⟨z,1,none⟩=some (.slice O t222.length J):=(Za BK226.out 1).trans rfl;have fW:=Zb BK226.out 0;have fX:=Zb BK226.out 1;have aX:0≤(x72_3:Int):=oD zz156;have q229:x72_3<(t222.length:Int):=oD zz156;obtain⟨aU,A229_1,c229_1,A229_2,c229_2,bB,bD,ba,bb,aC,ax,aD,ay⟩:=Z4 (Kd.N_reads' HO_227001.out).2.2 x72_3 aX q229;cases bB;obtain⟨dq,bk,bi,ao⟩:=Kd.N_get HO_227001.out z56 x72_3 aX zz117;obtain⟨bS,bW,bT,bX,rfl,ah,ad,ai,ae⟩:=Z6 bi;have Y:=ao 1 _ rfl;rw[ZN _ _ 1 (by omega)] at Y;replace Y:=oI (Y.symm.trans ba);injection Y with hva_ hvn_ hvc_;rw[hva_] at ad;rw[hvc_] at ah;have HL229_1:=aM (show Kd.V (Kd.int .i64) 3 _ w.heap.size _ _ ((Ze t222 x72_3).f1) from Kd.V_mk ah ad);clear hva_ hvn_ hvc_ ad ah;have Z:=ao 2 _ rfl;rw[ZN _ _ 2 (by omega)] at Z;replace Z:=oI (Z.symm.trans bb);injection Z with hva_ hvn_ hvc_;rw[hva_] at ae;rw[hvc_] at ai;have HL229_2:=aM (show Kd.V (Kd.slice 3 (Kd.int .i64)) 32 _ w.heap.size _ _ ((Ze t222 x72_3).f2) from Kd.V_mk ai ae);clear hva_ hvn_ hvc_ ae ai;clear ao bk;have HR229_1:=aM ax;have bg:=aM aC;clear ax aC;have HR229_2:=aM ay;have bn:=aM aD;clear ay aD;replace aX:=eq_true aX;replace q229:=eq_true q229)|((with_reducible refine Zq (N:=11) rfl ?_);(try(refine Zv (by rfl) ?_;dsimp only));refine Zx ?hg (N:=11) ?hd (cs:= #[.int .i64 0,.slice none 0 0,.slice none 0 0]) (t:=56) ?hr ?_;(case hd=>rfl);(case hg=>rfl);(case hr=>first|(go_simp;done)|(go_simp;rfl));intro gb230 hg dB hbox hb;replace HO_70:=aM (Kd.V_below (Kd.V_elderB (zV HO_70) gb230 (Nat.le_of_eq hg.symm)) hb);replace HO_215001:=aM (Kd.V_below (Kd.V_elderB (zV HO_215001) gb230 (Nat.le_of_eq hg.symm)) hb);replace HO_227001:=aM (Kd.N_below (Kd.N_elderB (zN HO_227001) gb230 (Nat.le_of_eq hg.symm)) hb);replace HR227_1:=aM (Kd.C_below zz65 hb);replace HL227_1:=aM (Kd.V_below (Kd.V_elderB (zV HL227_1) gb230 (Nat.le_of_eq hg.symm)) hb);replace HR227_2:=aM (Kd.C_below zz66 hb);replace HL227_2:=aM (Kd.V_below (Kd.V_elderB (zV HL227_2) gb230 (Nat.le_of_eq hg.symm)) hb);replace HR229_1:=aM (Kd.C_below zz67 hb);replace HL229_1:=aM (Kd.V_below (Kd.V_elderB (zV HL229_1) gb230 (Nat.le_of_eq hg.symm)) hb);replace HR229_2:=aM (Kd.C_below zz68 hb);replace HL229_2:=aM (Kd.V_below (Kd.V_elderB (zV HL229_2) gb230 (Nat.le_of_eq hg.symm)) hb);have aa:=aM (hbox);have dh:=aM ((by rw[hg];exact(Zc zz72):w.heap.size≤gb230));have bo:=aM ((by rw[hg];exact(Zc zz72):w.heap.size≤gb230));replace HB:=aM (Zd zz72 hb);have al:=aM ((by rw[hg];exact Nat.ne_of_lt (Zw (g:=m) (o:= .cells #[.int .i64 D,.slice (some L) l0_1.length I] 24 (0,0)) (zB BK214)):m≠gb230));have aP:=aM ((by rw[hg];exact Nat.ne_of_gt (Zw (g:=m) (o:= .cells #[.int .i64 D,.slice (some L) l0_1.length I] 24 (0,0)) (zB BK214)):gb230≠m));replace BK214:=aM (Zf (g:=m) (o:= .cells #[.int .i64 D,.slice (some L) l0_1.length I] 24 (0,0)) (zB BK214) hb);have am:=aM ((by rw[hg];exact Nat.ne_of_lt (Zw (g:=z) (o:= .cells #[.int .i64 t221,.slice (some aU) t222.length J] 24 (0,0)) (zB BK226)):z≠gb230));have aQ:=aM ((by rw[hg];exact Nat.ne_of_gt (Zw (g:=z) (o:= .cells #[.int .i64 t221,.slice (some aU) t222.length J] 24 (0,0)) (zB BK226)):gb230≠z));replace BK226:=aM (Zf (g:=z) (o:= .cells #[.int .i64 t221,.slice (some aU) t222.length J] 24 (0,0)) (zB BK226) hb);have aN:=aM ((by rw[hg];exact Nat.ne_of_lt (Zw (g:=gb228) (o:= .cells #[.int .i64 ((Ze l0_1 x72_3).f0),.slice A227_1 ((Ze l0_1 x72_3).f1).length c227_1,.slice A227_2 ((Ze l0_1 x72_3).f2).length c227_2] 56 (0,0)) (zB BK228)):gb228≠gb230));have aT:=aM ((by rw[hg];exact Nat.ne_of_gt (Zw (g:=gb228) (o:= .cells #[.int .i64 ((Ze l0_1 x72_3).f0),.slice A227_1 ((Ze l0_1 x72_3).f1).length c227_1,.slice A227_2 ((Ze l0_1 x72_3).f2).length c227_2] 56 (0,0)) (zB BK228)):gb230≠gb228));replace BK228:=aM (Zf (g:=gb228) (o:= .cells #[.int .i64 ((Ze l0_1 x72_3).f0),.slice A227_1 ((Ze l0_1 x72_3).f1).length c227_1,.slice A227_2 ((Ze l0_1 x72_3).f2).length c227_2] 56 (0,0)) (zB BK228) hb);clear hb hbox hg;have f4:=aP.out;have f7:=al.out;have f5:=aQ.out;have f8:=am.out;have f6:=aT.out;have f9:=aN.out;have en:dB.cell? ⟨gb230,0,none⟩=some (.int .i64 0):=(Za aa.out 0).trans rfl;have eo:dB.cell? ⟨gb230,1,none⟩=some (.slice none 0 0):=(Za aa.out 1).trans rfl;have ep:dB.cell? ⟨gb230,2,none⟩=some (.slice none 0 0):=(Za aa.out 2).trans rfl;have ew:=Zb aa.out 0;have ey:=Zb aa.out 1;have ez:=Zb aa.out 2;have er:dB.cell? ⟨gb228,0,none⟩=some (.int .i64 ((Ze l0_1 x72_3).f0)):=(Za BK228.out 0).trans rfl;have es:dB.cell? ⟨gb228,1,none⟩=some (.slice A227_1 ((Ze l0_1 x72_3).f1).length c227_1):=(Za BK228.out 1).trans rfl;have et:dB.cell? ⟨gb228,2,none⟩=some (.slice A227_2 ((Ze l0_1 x72_3).f2).length c227_2):=(Za BK228.out 2).trans rfl;have eA:=Zb BK228.out 0;have eB:=Zb BK228.out 1;have eC:=Zb BK228.out 2))
            go_ret
            exact⟨by first|rfl|(simp[Zm,Zl]<;>rfl)|(simp[*,Zm,Zl]<;>rfl),by repeat(first|(with_reducible first|exact HB.out|apply Zh|apply Zg|apply Zj|refine Zi ?_ GE214.out|refine Zi ?_ GE226.out|refine Zi ?_ GE228.out|refine Zi ?_ bo.out)|exact HB.out)⟩
           rw[if_neg dX] at H
           exact absurd H (by simp)
          rw[if_neg dW] at H
          exact absurd H (by simp)
         rw[if_neg dV] at H
         exact absurd H (by simp)
        rw[if_neg dw] at H;have ei:=dF dw;clear dw;obtain rfl:=oI H;go_wp2;go_ret
        exact⟨by first|rfl|(simp[Zm,Zl]<;>rfl)|(simp[*,Zm,Zl]<;>rfl),by repeat(first|(with_reducible first|exact HB.out|apply Zh|apply Zg|apply Zj|refine Zi ?_ GE214.out|refine Zi ?_ GE226.out)|exact HB.out)⟩
 rw[if_neg c3] at H
 have dr:=beq_eq_false_iff_ne.mpr c3
 have ds:=bne_iff_ne.mpr c3
 obtain rfl:=oI H
 go_enter Tryz.func27,Tryz.ntmps27
 go_wp2_with (first|((with_reducible refine Zq (N:=1) rfl ?_);(try(refine Zv (by rfl) ?_;dsimp only));refine Zx ?hg (N:=1) ?hd (cs:= #[.int .i64 D,.slice aq l0_1.length I]) (t:=24) ?hr ?_;(case hd=>rfl);(case hg=>rfl);(case hr=>first|(go_simp;done)|(go_simp;rfl));intro m hg eb hbox hb;replace HO0_1:=aM (Kd.V_below (Kd.V_elderB (zV HO0_1) m (Nat.le_of_eq hg.symm)) hb);have BK214:=aM (hbox);have dC:=aM ((by rw[hg];exact(Zc zz128):w.heap.size≤m));have GE214:=aM ((by rw[hg];exact(Zc zz128):w.heap.size≤m));replace HB:=aM (Zd zz128 hb);clear hb hbox hg;have eu:eb.cell? ⟨m,0,none⟩=some (.int .i64 D):=(Za BK214.out 0).trans rfl;have ev:eb.cell? ⟨m,1,none⟩=some (.slice aq l0_1.length I):=(Za BK214.out 1).trans rfl;have eD:=Zb BK214.out 0;have eE:=Zb BK214.out 1)|((with_reducible refine Zr (f:=54) rfl ?_);refine ZI (some 14) rfl rfl Tryz.func54 (by kernel_rfl) rfl #[.int .i64 D] rfl zz127 ?_;(with_reducible refine(perm_degree.calls D bu _ A2.out).mono ?_);rintro e w' ⟨rfl,⟨nd,rfl⟩⟩;refine⟨_,rfl,?_⟩))
 go_ret
 exact⟨by first|rfl|(simp[Zm,Zl]<;>rfl)|(simp[*,Zm,Zl]<;>rfl),by repeat(first|(with_reducible first|exact HB.out|apply Zh|apply Zg|apply Zj|refine Zi ?_ GE214.out)|exact HB.out)⟩
end
end Go.Proofs.YtjjlhbgpdncpcaaGreat.P
namespace Go.Proofs.YtjjlhbgpdncpcaaGreat.P.M
def ZP (l:List S56):List (List Int):=(l.map (fun x=>x.f2)).flatten
theorem gensOf_take (l:List S56) (i:Nat) (h:i<l.length):ZP (l.take (i+1))=ZP (l.take i)++l[i].f2:=by
 rw[List.take_succ_eq_append_getElem h]
 simp only[ZP,List.map_append,List.flatten_append,List.map_cons,List.map_nil,List.flatten_cons,List.flatten_nil,List.append_nil]
theorem mem_gensOf {l:List S56} {g:List Int} :g∈ZP l↔∃x∈l,g∈x.f2:=by
 simp only[ZP,List.mem_flatten,List.mem_map]
 constructor
 ·rintro ⟨_,⟨x,hx,rfl⟩,hg⟩;exact⟨x,hx,hg⟩
 ·rintro ⟨x,hx,hg⟩;exact⟨_,⟨x,hx,rfl⟩,hg⟩
theorem orbF_mem {n:Nat} {G:List Int→Prop} {b:Int} {y:Int} :y∈orbF n G b 0 n↔0≤y∧y<n∧∃q,LeastAt n G b y q:=by
 unfold orbF
 rw[List.mem_filter,List.mem_map]
 constructor
 ·rintro ⟨⟨x,hx,rfl⟩,h⟩
  rw[List.mem_range'] at hx;obtain⟨i,hi,rfl⟩:=hx
  exact⟨by omega,by omega,by simpa using h⟩
 ·rintro ⟨h0,h1,h⟩
  refine⟨⟨y.toNat,?_,by omega⟩,by simpa using h⟩;rw[List.mem_range']
  exact⟨y.toNat,by omega,by omega⟩
theorem orbF_nodup (n:Nat) (G:List Int→Prop) (b:Int):(orbF n G b 0 n).Nodup:=by
 unfold orbF
 refine List.Pairwise.filter _ ?_
 exact map_nodup List.nodup_range' (fun x _ y _ e=>by omega)
structure IsG (n:Nat) (G:List Int→Prop):Prop where
 n1:1≤n
 n64:n≤64
 ex:∃l:List (List Int),(∀p∈l,Pm n p)∧G=Gp n l
theorem IsG.pm {n:Nat} {G:List Int→Prop} (h:IsG n G) {p:List Int} (hp:G p):Pm n p:=by
 obtain⟨l,hl,rfl⟩:=h.ex;exact hp.pm hl
theorem IsG.one {n:Nat} {G:List Int→Prop} (h:IsG n G):G (idL n):=by
 obtain⟨l,hl,rfl⟩:=h.ex;exact .one
theorem IsG.mul {n:Nat} {G:List Int→Prop} (h:IsG n G) {p q:List Int} (hp:G p) (hq:G q):G (mulL p q):=by
 obtain⟨l,hl,rfl⟩:=h.ex;exact Cl.mul' hl hp hq
theorem IsG.inv {n:Nat} {G:List Int→Prop} (h:IsG n G) {p:List Int} (hp:G p):G (invL p):=by
 obtain⟨l,hl,rfl⟩:=h.ex;exact Cl.inv hl hp
theorem IsG.least {n:Nat} {G:List Int→Prop} (h:IsG n G) {b:Nat} (hb:b<n) {g:List Int} (hg:G g) (hf:Fx (b:Int) g):∃q,LeastAt n G (b:Int) (ap g (b:Int)) q:=by
 obtain⟨l,hl,e⟩:=h.ex
 obtain⟨T0,T,_,_,hok,hc,hG⟩:=tower_tells h.n1 h.n64 l hl
 have eG:Gn n T 0=G:=by rw[e];exact funext (fun p=>propext (hG p))
 have hgp:=h.pm hg
 have hsb:=stab hok hc b (by omega) (by rw[eG];exact hg) hf
 have hsf:=(sfI hok (b:=(b:Int)) (by omega) (by omega) (fun c k1 k2=>hc c (by omega) k2) hgp hf).2 hsb
 rw[show(n-(b:Int)).toNat=(n-((b:Int)+1)).toNat+1 by omega,Sf] at hsf
 have hx:=hgp.rng (i:=(b:Int)) (by omega) (by omega)
 obtain⟨q,_,hq⟩:=least_of_rep hok h.n64 hc hb hx.1 hx.2 hsf.1
 rw[eG] at hq
 exact⟨q,hq⟩
theorem IsG.self {n:Nat} {G:List Int→Prop} (h:IsG n G) {b:Nat} (hb:b<n):∃q,LeastAt n G (b:Int) (b:Int) q:=by
 have:=h.least hb h.one (Fx.id n (by omega))
 rwa [ap_id (by omega) (by omega)] at this
theorem IsG.level {n:Nat} {G:List Int→Prop} (h:IsG n G) {b:Nat} (hb:b<n) {g:List Int} (hg:G g) (hf:Fx (b:Int) g) (hne:ap g (b:Int)≠b):lvP n G (b:Int)∈ZR n G∧ap g (b:Int)∈(lvP n G (b:Int)).f1:=by
 have hx:=(h.pm hg).rng (i:=(b:Int)) (by omega) (by omega)
 have m1:ap g (b:Int)∈orbF n G (b:Int) 0 n:=orbF_mem.2 ⟨hx.1,hx.2,h.least hb hg hf⟩
 have m2:(b:Int)∈orbF n G (b:Int) 0 n:=orbF_mem.2 ⟨by omega,by omega,h.self hb⟩
 refine⟨?_,m1⟩
 have hlen:1<(orbF n G (b:Int) 0 n).length:=by
  have:=sub_len (l1:= [ap g (b:Int),(b:Int)]) (l2:=orbF n G (b:Int) 0 n) (by simp[hne]) (fun x hx=>by
   simp only[List.mem_cons,List.not_mem_nil,or_false] at hx
   rcases hx with rfl|rfl
   ·exact m1
   ·exact m2)
  exact this
 unfold ZR lvsF
 rw[List.mem_filter,List.mem_map]
 refine⟨⟨b,?_,rfl⟩,dT hlen⟩
 rw[List.mem_range']
 exact⟨b,by omega,by omega⟩
theorem gens_pm {n:Nat} {G:List Int→Prop} (h:IsG n G):∀g∈ZP (ZR n G),G g:=by
 intro g hg
 obtain⟨x,hx,hgx⟩:=mem_gensOf.1 hg
 obtain⟨c,hc,rfl,_⟩:=Yd hx
 simp only[lvP,List.mem_map] at hgx
 obtain⟨y,hy,rfl⟩:=hgx
 obtain⟨_,_,q,hq⟩:=orbF_mem.1 hy
 rw[leastQ_eq hq];exact hq.1
theorem IsG.of {n:Nat} (h1:1≤n) (h64:n≤64) {l:List (List Int)} (hl:∀p∈l,Pm n p):IsG n (Gp n l):=⟨h1,h64,l,hl,rfl⟩
theorem gensE_ok {n:Nat} (h1:1≤n) (h64:n≤64) {l:List (List Int)} (hl:∀p∈l,Pm n p):gensE (n:Int) l=0:=by
 unfold gensE
 rw[if_neg (by omega)]
 exact allL_zero.2 (fun p hp=>⟨checkL_zero.2 ⟨by rw[(hl p hp).1];exact hl p hp,by have:=(hl p hp).1;omega,by have:=(hl p hp).1;omega⟩,by rw[(hl p hp).1]⟩)
theorem buildL_ok {n:Nat} (h1:1≤n) (h64:n≤64) {l:List (List Int)} (hl:∀p∈l,Pm n p):ZW (n:Int) l=((n:Int),ZR n (Gp n l),0):=by
 unfold ZW
 rw[if_pos (gensE_ok h1 h64 hl)];rfl
noncomputable def ccL (n:Int) (l:List S56):Int:=if n<1∨64<n then 4 else if(ZW n (ZP l)).2.2=0∧n=(ZW n (ZP l)).1∧l=(ZW n (ZP l)).2.1 then 0 else 5
theorem ccL_zero {n:Int} {l:List S56} (h:ccL n l=0):∃(m:Nat) (G:List Int→Prop),n=m∧IsG m G∧l=ZR m G:=by
 unfold ccL at h
 split at h
 ·cases h
 ·split at h
  ·rename_i h2
   obtain⟨h3,h4,h5⟩:=h2
   have he:gensE n (ZP l)=0:=by
    apply Classical.byContradiction;intro hc;unfold ZW at h3;rw[if_neg hc] at h3
    exact hc h3
   obtain⟨m,rfl,h1,e,hg⟩:=gensE_zero he
   refine⟨m,Gp m (ZP l),rfl,IsG.of h1 e hg,?_⟩;rw[buildL_ok h1 e hg] at h5
   exact h5
  ·cases h
theorem ccL_form {n:Int} {l:List S56} (h1:¬(n<1∨64<n)) (h:(n<l.length)∨∃x∈l,n<x.f1.length∨x.f2.length≠x.f1.length):ccL n l=5:=by
 have hne:ccL n l≠0:=by
  intro hz;obtain⟨m,G,rfl,hG,rfl⟩:=ccL_zero hz;have hs:=chainP_small (n:=m) (G:=G) (fun p hp=>hG.pm hp)
  rcases h with h|⟨x,hx,h⟩
  ·have:=hs.1;omega
  ·have:=hs.2 x hx
   rcases h with h|h
   ·omega
   ·exact h this.2.1
 unfold ccL at hne⊢
 rw[if_neg h1] at hne⊢
 split
 ·rename_i h2
  rw[if_pos h2] at hne;exact absurd rfl hne
 ·rfl
def SmallC (l:List S56):Prop:=l.length≤70∧∀x∈l,x.f1.length≤100∧x.f2.length≤1000∧∀r∈x.f2,r.length≤1000
theorem SmallC.fine {l:List S56} (h:SmallC l):Fine l:=⟨by have:=h.1;unfold Bg;omega,fun x hx=>by
 have:=h.2 x hx
 exact⟨by unfold Bg;omega,by unfold Bg;omega,fun r hr=>by have:=this.2.2 r hr;unfold Bg;omega⟩⟩
theorem SmallC.gens {l:List S56} (h:SmallC l):∀i:Nat,i≤l.length→(ZP (l.take i)).length≤1000*i
 |0,_=>by simp[ZP]
 | i+1,hi=>by
  rw[gensOf_take l i (by omega),List.length_append];have:=SmallC.gens h i (by omega);have:=(h.2 _ (List.getElem_mem (show i<l.length by omega))).2.1;omega
theorem Gens_loop (n:Int) {l:List S56} (h:SmallC l):∀(m i:Nat),i+m=l.length→Tells (fun k=>r30_Gens.l0 k (ZP (l.take i)) (i:Int) n l) (ZP l)
 | 0,i,hi=>by
  refine Tells.shift ?_;simp only[r30_Gens.l0]
  refine Tells.neg (by omega) (Tells.now' ?_);rw[List.take_of_length_le (by omega)]
 | m+1,i,hi=>by
  have hil:i<l.length:=by omega
  have h1:=h.gens i (by omega);have h2:=(h.2 _ (List.getElem_mem hil)).2.1;have h3:=h.1
  refine Tells.shift ?_;simp only[r30_Gens.l0,rd74_at hil]
  refine Tells.pos (by omega) (Tells.pos (by omega) (Tells.pos (by omega) ?_));rw[w64 (n:=(i:Int)+1) (by omega) (by omega),←gensOf_take l i hil]
  exact Gens_loop n h m (i+1) (by omega)
theorem Gens_tells (n:Int) {l:List S56} (h:SmallC l):Tells (fun k=>r30_Gens.f k n l) (ZP l):=by
 unfold r30_Gens.f
 exact Gens_loop n h l.length 0 (by omega)
theorem SmallC.total {l:List S56} (h:SmallC l):(ZP l).length≤70000:=by
 have:=h.gens l.length (Nat.le_refl _)
 rw[List.take_of_length_le (Nat.le_refl _)] at this
 have:=h.1
 omega
theorem RCheck_tells (n:Int) {l:List S56} (h:SmallC l) (hn:n≤6∨64<n):Tells (fun k=>r30_CheckChain.f k n l) (ccL n l):=by
 have bad:(n<1∨64<n)→Tells (fun k=>r30_CheckChain.j0 k true n l) (ccL n l):=by
  intro hb
  refine Tells.shift ?_;simp only[r30_CheckChain.j0]
  refine Tells.pos trivial (Tells.now' ?_);unfold ccL;rw[if_pos hb]
 unfold r30_CheckChain.f
 by_cases h1:n<1
 ·exact Tells.pos h1 (bad (.inl h1))
 refine Tells.neg h1 ?_
 by_cases h2:n>64
 ·rw[dT h2];exact bad (.inr h2)
 rw[dF h2]
 refine Tells.shift ?_
 simp only[r30_CheckChain.j0]
 have ht:=h.total
 refine Tells.neg (by simp) (Tells.bind (Gens_tells n h) (Tells.bind (RBuild_tells n _ hn (by omega)) ?_))
 have hcc:ccL n l=if(ZW n (ZP l)).2.2=0∧n=(ZW n (ZP l)).1∧l=(ZW n (ZP l)).2.1 then 0 else 5:=by
  unfold ccL;rw[if_neg (by omega)]
 rw[hcc]
 by_cases he:(ZW n (ZP l)).2.2=0
 ·refine Tells.pos he (Tells.bind (Same_tells _ _ _ _ h.fine) ?_)
  by_cases hs:n=(ZW n (ZP l)).1∧l=(ZW n (ZP l)).2.1
  ·refine Tells.pos (dT hs) (Tells.now' ?_);rw[if_pos ⟨he,hs⟩]
  refine Tells.neg (by rw[dF hs];decide) (Tells.now' ?_);rw[if_neg (fun k=>hs k.2)]
 refine Tells.neg he (Tells.now' ?_)
 rw[if_neg (fun k=>he k.1)]
theorem Equal_tells (x y:List Int) (hb:x.length≤9223372036854775807):Tells (fun k=>slEq.f k x y) (decide (x=y)):=by
 obtain⟨k,hk⟩:=Equal_is x y hb
 exact Tells.mono (fun k=>slEq.mono x y k) hk
theorem pcc_l1 (n:Int) (x y:List S56) (hxy:x.length=y.length) (hf:Fine x):∀(m i:Nat),i+m=x.length→x.take i=y.take i→Tells (fun k=>perm_CheckChain.l1 k x (x.length:Int) (i:Int) n y) (if x=y then 0 else 5)
 | 0,i,hi,ht=>by
  refine Tells.shift ?_;simp only[perm_CheckChain.l1]
  refine Tells.neg (by omega) (Tells.now' ?_);rw[List.take_of_length_le (by omega),List.take_of_length_le (by omega)] at ht;rw[if_pos ht]
 | m + 1, i,hi,ht=>by
  have hx:i<x.length:=by omega
  have hy:i<y.length:=by omega
  have hb:=hf.2 _ (List.getElem_mem hx);have hl:=hf.1;unfold Bg at hb hl;have bad:x[i]≠y[i]→(5:Int)=if x=y then 0 else 5:=fun h=>by rw[if_neg (fun e=>h (by simp only[e]))]
  refine Tells.shift ?_;simp only[perm_CheckChain.l1,rd74_at hx,rd74_at hy]
  refine Tells.pos (by omega) (Tells.pos (by omega) (Tells.pos (by omega) (Tells.pos (by omega) ?_)))
  by_cases e0:x[i].f0=y[i].f0
  ·refine Tells.pos e0 (Tells.bind (Equal_tells _ _ (by omega)) ?_)
   by_cases e1:x[i].f1=y[i].f1
   ·refine Tells.pos (dT e1) (Tells.bind (a:=decide (x[i].f2=y[i].f2)) Tells.now ?_)
    by_cases e2:x[i].f2=y[i].f2
    ·refine Tells.pos (dT e2) ?_;rw[w64 (n:=(i:Int)+1) (by omega) (by omega)]
     refine pcc_l1 n x y hxy hf m (i+1) (by omega) ?_;rw[List.take_succ_eq_append_getElem hx,List.take_succ_eq_append_getElem hy,ht,s74_ext e0 e1 e2]
    ·exact Tells.neg (by rw[dF e2];decide) (Tells.now' (bad (fun h=>e2 (by rw[h]))))
   ·exact Tells.neg (by rw[dF e1];decide) (Tells.now' (bad (fun h=>e1 (by rw[h]))))
  ·exact Tells.neg e0 (Tells.now' (bad (fun h=>e0 (by rw[h]))))
theorem pcc_l0 (n:Int) {l:List S56} (h:SmallC l) (h1:1≤n) (e:n≤64):∀(m i:Nat),i+m=l.length→Tells (fun k=>perm_CheckChain.l0 k (ZP (l.take i)) l (l.length:Int) (i:Int) n l) (ccL n l)
 | 0, i,hi=>by
  refine Tells.shift ?_;simp only[perm_CheckChain.l0];rw[List.take_of_length_le (by omega)]
  refine Tells.neg (by omega) (Tells.bind (PBuild_tells n (ZP l)) ?_)
  have hcc:ccL n l=if(ZW n (ZP l)).2.2=0∧n=(ZW n (ZP l)).1∧l=(ZW n (ZP l)).2.1 then 0 else 5:=by
   unfold ccL;rw[if_neg (by omega)]
  rw[hcc]
  have bad:¬((ZW n (ZP l)).2.2=0∧n=(ZW n (ZP l)).1∧l=(ZW n (ZP l)).2.1)→Tells (fun k=>perm_CheckChain.j1 k true n l (ZW n (ZP l)).1 (ZW n (ZP l)).2.1) (if(ZW n (ZP l)).2.2=0∧n=(ZW n (ZP l)).1∧l=(ZW n (ZP l)).2.1 then 0 else 5):=by
   intro hb
   refine Tells.shift ?_;simp only[perm_CheckChain.j1]
   refine Tells.pos trivial (Tells.now' ?_);rw[if_neg hb]
  by_cases he:(ZW n (ZP l)).2.2=0
  ·refine Tells.pos he ?_
   have hdeg:(ZW n (ZP l)).1=n:=by
    unfold ZW at he⊢
    split
    ·rfl
    ·rename_i hc;rw[if_neg hc] at he;exact absurd he hc
   by_cases hl:(ZW n (ZP l)).2.1.length=l.length
   ·rw[show(((ZW n (ZP l)).2.1.length:Int) !=(l.length:Int))=false by simp[hl]]
    refine Tells.shift ?_;simp only[perm_CheckChain.j1]
    refine Tells.neg (by simp) ?_
    refine(pcc_l1 _ l _ hl.symm h.fine l.length 0 (by omega) rfl).eq ?_
    by_cases hs:l=(ZW n (ZP l)).2.1
    ·rw[if_pos hs,if_pos ⟨he,hdeg.symm,hs⟩]
    ·rw[if_neg hs,if_neg (fun k=>hs k.2.2)]
   ·rw[show(((ZW n (ZP l)).2.1.length:Int) !=(l.length:Int))=true by simp;omega]
    exact bad (fun k=>hl (congrArg List.length k.2.2).symm)
  ·exact Tells.neg he (bad (fun k=>he k.1))
 | m + 1,i,hi=>by
  have hil:i<l.length:=by omega
  have o:=h.gens i (by omega);have z:=(h.2 _ (List.getElem_mem hil)).2.1;have B:=h.1
  refine Tells.shift ?_;simp only[perm_CheckChain.l0,rd74_at hil]
  refine Tells.pos (by omega) (Tells.pos (by omega) (Tells.pos (by omega) ?_))
  by_cases e1:(l[i].f1.length:Int)>n
  ·exact Tells.pos e1 (Tells.now' (ccL_form (by omega) (.inr ⟨_,List.getElem_mem hil,.inl e1⟩)).symm)
  ·refine Tells.neg e1 ?_
   by_cases e2:(l[i].f2.length:Int)=(l[i].f1.length:Int)
   ·refine Tells.pos e2 (Tells.pos (by omega) ?_);rw[w64 (n:=(i:Int)+1) (by omega) (by omega),←gensOf_take l i hil]
    exact pcc_l0 n h h1 e m (i+1) (by omega)
   ·exact Tells.neg e2 (Tells.now' (ccL_form (by omega) (.inr ⟨_,List.getElem_mem hil,.inr (by omega)⟩)).symm)
theorem PCheck_tells (n:Int) {l:List S56} (h:SmallC l):Tells (fun k=>perm_CheckChain.f k n l) (ccL n l):=by
 unfold perm_CheckChain.f
 by_cases hn:n<1∨64<n
 ·rw[degree_bad n hn]
  refine Tells.bind (a:=4) Tells.now (Tells.neg (by decide) (Tells.now' ?_));unfold ccL;rw[if_pos hn]
 rw[degree_ok n (by omega) (by omega)]
 refine Tells.bind (a:=0) Tells.now (Tells.pos rfl ?_)
 by_cases hl:(l.length:Int)>n
 ·exact Tells.pos hl (Tells.now' (ccL_form hn (.inl hl)).symm)
 exact Tells.neg hl (pcc_l0 n h (by omega) (by omega) l.length 0 (by omega))
theorem rfew_l0 (n:Int) (l:List S56) (o:l.length≤70):∀(m i:Nat) (x:Int),i+m=l.length→0≤x→x≤1000*i→(∀a:Nat,a<i→∀ha:a<l.length,l[a].f1.length≤100∧l[a].f2.length≤1000∧∀r∈l[a].f2,r.length≤1000)→∃b,Tells (fun k=>r30_Few.l0 k x (i:Int) n l) b∧(b=true→SmallC l)
 | 0, i,x,hi,h0,h1,ha=>by
  refine⟨decide (x≤200),Tells.shift ?_,fun _=>⟨o,fun y hy=> ?_⟩⟩
  ·simp only[r30_Few.l0]
   exact Tells.neg (by omega) Tells.now
  ·obtain⟨a,h,rfl⟩:=List.getElem_of_mem hy
   exact ha a (by omega) h
 | m + 1, i,x,hi,h0,h1,ha=>by
  have hil:i<l.length:=by omega
  by_cases e1:(l[i].f1.length:Int)>100
  ·refine⟨false,Tells.shift ?_,fun h=>by cases h⟩;simp only[r30_Few.l0,rd74_at hil]
   exact Tells.pos (by omega) (Tells.pos (by omega) (Tells.pos e1 Tells.now))
  ·obtain⟨b,htb,hb⟩:=Few_tells l[i].f2 1000 (by omega) (by omega)
   cases b with
   | false=>
    refine⟨false,Tells.shift ?_,fun h=>by cases h⟩;simp only[r30_Few.l0,rd74_at hil]
    exact Tells.pos (by omega) (Tells.pos (by omega) (Tells.neg e1 (Tells.bind htb (Tells.neg (by decide) Tells.now))))
   | true=>
    have hb':=hb rfl
    obtain⟨c,htc,hc⟩:=rfew_l0 n l o m (i+1) (x+l[i].f2.length) (by omega) (by omega) (by omega) (fun a h1 h2=>by
     by_cases e:a=i
     ·subst e;exact⟨by omega,hb'⟩
     ·exact ha a (by omega) h2)
    refine⟨c,Tells.shift ?_,hc⟩;simp only[r30_Few.l0,rd74_at hil]
    refine Tells.pos (by omega) (Tells.pos (by omega) (Tells.neg e1 (Tells.bind htb (Tells.pos rfl ?_))));rw[w64 (n:=x+(l[i].f2.length:Int)) (by omega) (by omega),w64 (n:=(i:Int)+1) (by omega) (by omega)]
    exact htc
theorem RFew_tells (n:Int) (l:List S56):∃b,Tells (fun k=>r30_Few.f k n l 6) b∧(b=true→SmallC l∧(n≤6∨64<n)):=by
 have bad:Tells (fun k=>r30_Few.j0 k true n l) false:=by
  refine Tells.shift ?_;simp only[r30_Few.j0]
  exact Tells.pos trivial Tells.now
 have main:(n≤6∨64<n)→∃b,Tells (fun k=>r30_Few.j0 k (decide ((l.length:Int)>70)) n l) b∧(b=true→SmallC l∧(n≤6∨64<n)):=by
  intro hn
  by_cases h:(l.length:Int)>70
  ·rw[dT h];exact⟨false,bad,fun h=>by cases h⟩
  ·rw[dF h];obtain⟨b,ht,hb⟩:=rfew_l0 n l (by omega) l.length 0 0 (by omega) (by omega) (by omega) (fun a h=>by omega)
   refine⟨b,Tells.shift ?_,fun h=>⟨hb h,hn⟩⟩;simp only[r30_Few.j0]
   exact Tells.neg (by simp) ht
 by_cases h6:n>6
 ·by_cases e:n≤64
  ·refine⟨false,?_,fun h=>by cases h⟩;unfold r30_Few.f
   exact Tells.pos h6 (Tells.pos e bad)
  obtain⟨b,ht,hb⟩:=main (by omega)
  refine⟨b,?_,hb⟩;unfold r30_Few.f
  exact Tells.pos h6 (Tells.neg e ht)
 obtain⟨b,ht,hb⟩:=main (by omega)
 refine⟨b,?_,hb⟩
 unfold r30_Few.f
 exact Tells.neg h6 ht
end Go.Proofs.YtjjlhbgpdncpcaaGreat.P.M
namespace Go.Proofs.YtjjlhbgpdncpcaaGreat.P
section
attribute [local go_sem] ZH ZF ZL ZK ZB ZA ZG ZE
def slIx.l0:Nat→List Int→Int→Int→Int→Option (Int)
 |0,_,_,_,_=>none
 |k+1,x0,x1,x7,x8=>if x8<x7 then(if 0≤x8 then(if x8<(x0.length:Int) then(if x1=(rd x0 x8) then(some x8) else(slIx.l0 k x0 x1 x7 (wrap64 (x8+1)))) else(none)) else(none)) else(some (-1))
def slIx.f (k:Nat) (l0:List Int) (a1:Int):Option (Int):=slIx.l0 k l0 a1 (l0.length:Int) 0
theorem slIx.calls (k:Nat) (A0:Option Addr) (c0:Nat) (l0:List Int) (a1:Int) (r:Int) (w:World) (X:Kd.C (Kd.int .i64) w A0 l0.length l0) (U:l0.length≤c0) (h:slIx.f k l0 a1=some r):
    Calls Tryz.prog 51 #[.slice A0 l0.length c0,.int .i64 a1] w fun e w'=>e= .returned (.int .i64 r)∧Drawn0 w w':=by
 have J:=aM X
 have aa:=aM U
 clear X U
 have H:(slIx.l0 k l0 a1 (l0.length:Int) 0)=some r:=h
 clear h
 have H':=aM H
 clear H
 go_enter Tryz.func51,Tryz.ntmps51
 go_wp2
 go_loopg [8] k (fun kq v8 w'=>∃(m:Int),v8= .int .i64 m∧Aside0 (slIx.l0 kq l0 a1 (l0.length:Int) m=some r)∧Aside0 (kq≤k)∧Drawn0 w w')
 case atStart=>exact⟨(0),zz157,H',⟨Nat.le_refl _⟩,by repeat(first|exact Drawn0.refl _|apply Drawn0.step)⟩
 case round =>
  clear H';(try clear p2);obtain⟨m,rfl,HA,HK1,⟨m1,rfl⟩⟩:=hrel
  cases gk with
  |zero=>exact absurd HA.out (by simp[slIx.l0])
  | succ k1=>
   have H:=HA.out;clear HA;simp only[slIx.l0] at H
   by_cases c3:m<(l0.length:Int)
   ·rw [if_pos c3] at H;have L:=dT c3;clear c3
    by_cases c4:0≤m
    ·rw [if_pos c4] at H;have Y:=dT c4;clear c4
     by_cases c5:m<(l0.length:Int)
     ·rw [if_pos c5] at H;have Z:=dT c5;clear c5
      by_cases c6:a1=(rd l0 m)
      ·rw[if_pos c6] at H;have O:=beq_iff_eq.mpr c6;have P:=bne_eq_false_iff_eq.mpr c6;clear c6;obtain rfl:=oI H;have o:0≤(m:Int):=oD zz156;have z:m<(l0.length:Int):=oD zz156;obtain⟨I,B,D⟩:=Kd.at_int J.out m o z
       cases B;replace o:=eq_true o;replace z:=eq_true z;go_wp2;go_ret
       exact⟨by first|rfl|(simp;done)|(simp[*];done),by repeat(first|exact Drawn0.refl _|apply Drawn0.step)⟩
      rw[if_neg c6] at H;have O:=beq_eq_false_iff_ne.mpr c6;have P:=bne_iff_ne.mpr c6;have H':=aM H;clear H;have o:0≤(m:Int):=oD zz156;have z:m<(l0.length:Int):=oD zz156;obtain⟨I,B,D⟩:=Kd.at_int J.out m o z
      cases B;replace o:=eq_true o;replace z:=eq_true z;go_wp2
      go_roundg k1
      case measure=>have:=HK1.out;omega
      case rel=>exact⟨(wrap64 (m+1)),zz157,H',⟨zz167⟩,by repeat(first|exact Drawn0.refl _|apply Drawn0.step)⟩
     rw[if_neg c5] at H
     exact absurd H (by simp)
    rw[if_neg c4] at H
    exact absurd H (by simp)
   rw[if_neg c3] at H;have L:=dF c3;clear c3;obtain rfl:=oI H;go_wp2;go_ret
   exact⟨by first|rfl|(simp;done)|(simp[*];done),by repeat(first|exact Drawn0.refl _|apply Drawn0.step)⟩
end
theorem perm_CheckChain.calls (k:Nat) (o:Int) (m:Option Addr) (z:Nat) (l0_1:List S56) (r:Int) (w:World) (D:Kd.C k56 w m l0_1.length l0_1) (B:l0_1.length≤z) (h:perm_CheckChain.f k o l0_1=some r):
    Calls Tryz.prog 27 #[.agg #[.int .i64 o,.slice m l0_1.length z]] w fun e w'=>e= .returned (.int .i64 r)∧Below w.heap.size w w':=
 perm_CheckChain.callsV k o (fun k_=>k_<w.heap.size) m z l0_1 r w (Kd.V_mk B (Kd.C_F k56_heap D)) h
def slices_Clone_int_int_32.f (l0:List Int):Option (List Int):=if l0.length≤1000000000 then some l0 else none
theorem slices_Clone_int_int_32.calls (A0:Option Addr) (c0:Nat) (l0:List Int) (r:List Int) (w:World) (z:Kd.C (Kd.int .i64) w A0 l0.length l0) (Y:l0.length≤c0) (h:slices_Clone_int_int_32.f l0=some r):
    Calls Tryz.prog 32 #[.slice A0 l0.length c0] w fun e w'=>∃L:Value,e= .returned (L)∧Kd.R (Kd.int .i64) 3 w' w.heap.size (fun _=>True) L r∧Below w.heap.size w w':=by
 have X:=aM z
 have HB:=aM (Below.refl w.heap.size w)
 have hq:l0.length≤1000000000∧l0=r:=by
  unfold slices_Clone_int_int_32.f at h
  split at h
  ·exact⟨by assumption,oI h⟩
  ·cases h
 obtain⟨hl,rfl⟩:=hq
 have HL:=aM hl
 have hn:A0=none→l0= []:=by
  intro h0
  rcases l0 with _|⟨x,l⟩
  ·rfl
  ·obtain⟨ad,he,_⟩:=z.2.2 (by simp);rw[h0] at he
   cases he
 have HN:=aM hn
 clear hl z h hn Y
 rcases A0 with _|ad
 ·have:=HN.out rfl
  subst this;have hq:=fun W=>run_eql_nil W none 0 c0
  clear HN
  go_enter Tryz.func32,Tryz.ntmps32
  go_wp2;go_ret
  exact⟨_,rfl,Kd.R_nil _ _ _ _ _,by first|exact HB.out|exact Zg HB.out _⟩
 ·have hq:=fun W=>run_eql_nil W (some ad) l0.length c0
  go_enter Tryz.func32,Tryz.ntmps32
  go_wp2_with (first
   |((with_reducible refine Zq (N:=5) rfl ?_);refine Kd.R_lit (Kd.int .i64) _ 3 ?hg (N:=5) ?hd (xs:=([]:List Int)) (inner:= []) (ok:=fun _=>True) (okp:=fun _=>True) ?hr ?hp (fun _ hk=>hk) trivial (Below.refl _ _) (Nat.le_refl _) (by simp) ?_;(case hd=>rfl);(case hg=>rfl);(case hr=>first|(go_simp;done)|(go_simp;rfl));(case hp=>exact(Reps.none _ _));intro v1 w1 J D hg_ hnew_;clear hg_ hnew_;have P:=aM J;have o:=aM D;clear J D)
   |((with_reducible refine ZQ (b:= .append) (xs:= #[.tmp 5,.tmp 6]) rfl ?_);at_builtin;refine Kd.R_append_rows (Kd.int .i64) (w0:=w) w.heap.size rfl (.tmp 5) (.tmp 6) 32 3 (.int .i64 0) 8 rfl Tryz.underlying32 info3 rfl (by decide) (by omega) v1 [] l0 _ _ _ (fun _=>True) (fun _=>False) rfl rfl ?aO ?aR (fun _ _ h=>h) (fun _ h=>h.elim) ?aF ?aB ?aS ?aL ?_;(case aR=>exact Kd.C_below X.out (o.out));(case aB=>exact o.out);(case aF=>exact(fun _ _=>trivial));(case aO=>exact P.out);(case aS=>exact o.out.size);(case aL=>have:=HL.out;simp only[List.length_nil];omega);intro v2 w2 m I Z B;have U:=aM m;have O:=aM I;clear m I Z B))
  go_ret;have m:=U.out;rw[List.nil_append] at m
  exact⟨_,rfl,m,O.out⟩
end Go.Proofs.YtjjlhbgpdncpcaaGreat.P