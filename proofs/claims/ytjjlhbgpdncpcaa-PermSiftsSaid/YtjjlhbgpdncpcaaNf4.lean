/- What the claim's theorem is built on, part 4: words, walks of the code, and what they tell. -/
import Derived.Shelf.Sort.Plain
import Derived.Sort.OwnSortedInts
import Derived.Shelf.Small.Bits
import Derived.Test.YtjjlhbgpdncpcaaNf1
import Derived.Test.YtjjlhbgpdncpcaaNf2
import Derived.Test.YtjjlhbgpdncpcaaNf3
namespace Go.Proofs.Ytjjlhbgpdncpcaa.P
open Go.RowKit Go.Proofs.YtjjlhbgpdncpcaaW.PrintWords Go.Proofs.YtjjlhbgpdncpcaaW.PrintLast Go.Proofs.YtjjlhbgpdncpcaaW.PrintMore
set_option linter.unusedVariables false
set_option linter.unusedSimpArgs false
set_option maxHeartbeats 8000000
set_option maxRecDepth 100000
section
attribute [local go_sem] ZG ZE ZL ZK ZA Zz ZF ZD
def r30_CheckChain.j0:Nat→Bool→Int→List (S74)→Option (Int)
 |0,_,_,_=>none
 |k+1,x12,x574000,x574001=>if x12=true then(some 4) else((r30_Gens.f k x574000 x574001).bind fun t574=>((r30_Build.f k x574000 t574).bind fun bt577=>(if bt577.2.2=0 then((r30_Same.f k x574000 x574001 bt577.1 bt577.2.1).bind fun t583=>(if t583=true then(some 0) else(some 5))) else(some 5))))
def r30_CheckChain.f (k:Nat) (a0_0:Int) (l0_1:List (S74)):Option (Int):=if a0_0<1 then(r30_CheckChain.j0 k true a0_0 l0_1) else(r30_CheckChain.j0 k (decide (a0_0>64)) a0_0 l0_1)
def r30_CheckChain.T3:Bool×List (List Nat×List Nat):=(true,[([],[]),([0],[0]),([],[]),([2],[2]),([1,3,3],[1,3]),([4],[4]),([5],[5]),([5],[5]),([],[]),([8,6,4,0,1,2,3,4,5,6,8],[6,8]),([7,9,0,1,2,3,4,5,6,7,8,9],[7])])
def r30_CheckChain.B3:List Nat:= [0,1,0,4,15,31,63,63,0,383,1023]
theorem r30_CheckChain.tab3:rtab .any (opsOf Try.f34 3)=r30_CheckChain.T3:=by kernel_rfl
theorem r30_CheckChain.bits3:waitsOk r30_CheckChain.T3.2 r30_CheckChain.B3=true:=by kernel_rfl
theorem r30_CheckChain.calls (k:Nat) (a0_0:Int) (A0_1:Option Addr) (c0_1:Nat) (l0_1:List (S74)) (r:Int) (w:World) (hr0_1:Kd.C k74 w A0_1 l0_1.length l0_1) (hc0_1:l0_1.length≤c0_1) (h:r30_CheckChain.f k a0_0 l0_1=some r):
    Calls Try.prog 34 #[.agg #[.int .i64 a0_0,.slice A0_1 l0_1.length c0_1]] w fun e w'=>e= .returned (.int .i64 r)∧Below w.heap.size w w':=by
 have hu46:=Try.underlying46
 have HR0_1:=aM hr0_1
 have HC0_1:=aM hc0_1
 clear hr0_1 hc0_1
 have HB:=aM (Below.refl w.heap.size w)
 have H:(if a0_0<1 then(r30_CheckChain.j0 k true a0_0 l0_1) else(r30_CheckChain.j0 k (decide (a0_0>64)) a0_0 l0_1))=some r:=h
 clear h
 have HC2:=aM H
 clear H
 go_enter Try.func34,Try.ntmps34
 go_upto_region 1 with(first|((with_reducible refine Zr (N:=1) rfl ?_);refine Zx ?hg (N:=1) ?hd (cs:= #[.int .i64 a0_0,.slice A0_1 l0_1.length c0_1]) (t:=46) ?hr ?_;(case hd=>rfl);(case hg=>rfl);(case hr=>first|(go_simp;done)|(go_simp;rfl));intro gb573 hg w3 hbox hb;have BK573:=aM (hbox);have GW573:=aM ((by rw[hg];exact(Zc zz128):w.heap.size≤gb573));have GE573:=aM ((by rw[hg];exact(Zc zz128):w.heap.size≤gb573));replace HB:=aM (Ze zz128 hb);clear hb hbox hg))
 (try simp only[Act.put,sA,sB,sC])
 go_cut [12] (fun v12 wc=>∃(kq:Nat) (x12_1:Bool),v12= .bool x12_1∧Aside0 (r30_CheckChain.j0 kq x12_1 a0_0 l0_1=some r)∧Aside0 (kq≤k)∧Aside0 (wc.heap[gb573]? =some (.cells #[.int .i64 a0_0,(.slice A0_1 l0_1.length c0_1)] 46 (0,0)))∧Aside0 (Below w.heap.size w wc))
 case first=>
  have H:=HC2.out;clear HC2
  by_cases c4:a0_0<1
  ·rw[if_pos c4] at H;have c4b0:=dT c4;clear c4
   (first|rw[c4b0]|(simp only[Zt,Zu];rw[c4b0])|skip)
   have H':=aM H;clear H;have hcz5_0:w3.cell? ⟨gb573,0,none⟩=some (.int .i64 a0_0):=(Zb BK573.out 0).trans rfl;have hcz5_1:w3.cell? ⟨gb573,1,none⟩=some (.slice A0_1 l0_1.length c0_1):=(Zb BK573.out 1).trans rfl;have hfz5_0:=Za BK573.out 0;have hfz5_1:=Za BK573.out 1;go_wp2;go_meet
   case rel=>exact⟨_,(true),zz154,H',⟨zz156⟩,⟨(zB BK573)⟩,⟨zz103⟩⟩
  rw[if_neg c4] at H;have c4b0:=dF c4;clear c4
  (first|rw[c4b0]|(simp only[Zt,Zu];rw[c4b0])|skip)
  have H':=aM H;clear H;have hcz6_0:w3.cell? ⟨gb573,0,none⟩=some (.int .i64 a0_0):=(Zb BK573.out 0).trans rfl;have hcz6_1:w3.cell? ⟨gb573,1,none⟩=some (.slice A0_1 l0_1.length c0_1):=(Zb BK573.out 1).trans rfl;have hfz6_0:=Za BK573.out 0;have hfz6_1:=Za BK573.out 1;go_wp2;go_meet
  case rel=>exact⟨_,(decide (a0_0>64)),zz154,H',⟨zz156⟩,⟨(zB BK573)⟩,⟨zz103⟩⟩
 case rest=>
  clear HC2;(try clear p2);(try clear c3);(try clear c4);(try clear c4b0);(try clear hcz5_0);(try clear hcz5_1);(try clear hcz6_0);(try clear hcz6_1);(try clear hfz5_0);(try clear hfz5_1);(try clear hfz6_0);(try clear hfz6_1);obtain⟨kq,x12_1,rfl,HA,HJ1,BK573,HB⟩:=hcut
  cases kq with
  |zero=>exact absurd HA.out (by simp[r30_CheckChain.j0])
  | succ kj1 =>
   have H:=HA.out;clear HA;simp only[r30_CheckChain.j0] at H
   by_cases c7:x12_1=true
   ·subst c7;have H1:(some 4)=some r:=by rw[if_pos rfl] at H;exact H
    clear H;have H:=H1;clear H1;obtain rfl:=oI H;go_wp2;go_ret
    exact⟨by first|rfl|(simp[Zj,Zi]<;>rfl)|(simp[*,Zj,Zi]<;>rfl),by repeat(first|(with_reducible first|exact HB.out|apply Zn|apply Zf|apply Zh|refine Zk ?_ GE573.out)|exact HB.out)⟩
   replace c7:=Bool.eq_false_iff.mpr c7;subst c7;have H1:((r30_Gens.f kj1 a0_0 l0_1).bind fun t574=>((r30_Build.f kj1 a0_0 t574).bind fun bt577=>(if bt577.2.2=0 then((r30_Same.f kj1 a0_0 l0_1 bt577.1 bt577.2.1).bind fun t583=>(if t583=true then(some 0) else(some 5))) else(some 5))))=some r:=by rw[if_neg (show¬(false=true) by decide)] at H;exact H
   clear H;have H:=H1;clear H1;replace H:=oB H;obtain⟨t574,A80,H⟩:=H;replace H:((r30_Build.f kj1 a0_0 t574).bind fun bt577=>(if bt577.2.2=0 then((r30_Same.f kj1 a0_0 l0_1 bt577.1 bt577.2.1).bind fun t583=>(if t583=true then(some 0) else(some 5))) else(some 5)))=some r:=H;have A8:=aM A80;clear A80;replace H:=oB H;obtain⟨⟨t577,t578,t581⟩,A90,H⟩:=H;replace H:(if t581=0 then((r30_Same.f kj1 a0_0 l0_1 t577 t578).bind fun t583=>(if t583=true then(some 0) else(some 5))) else(some 5))=some r:=H;have A9:=aM A90;clear A90
   by_cases c10:t581=0
   ·rw [if_pos c10] at H;have c10b0:=beq_iff_eq.mpr c10;have c10b1:=bne_eq_false_iff_eq.mpr c10;clear c10;replace H:=oB H;obtain⟨t583,A110,H⟩:=H;replace H:(if t583=true then(some 0) else(some 5))=some r:=H;have A11:=aM A110;clear A110
    by_cases c12:t583=true
    ·subst c12;have H1:(some 0)=some r:=by rw[if_pos rfl] at H;exact H
     clear H;have H:=H1;clear H1;obtain rfl:=oI H
     try go_wp2
     have n0_:=aM (Zo BK573.out);have n1_:=aM (Zh HB.out);clear BK573;clear HB;have BK573:=n0_;have HB:=n1_;clear n0_ n1_
     refine start_ (n:=11) (S:=fun w'=>w'.cell? ⟨gb573,0,none⟩=some (.int .i64 a0_0)∧w'.cell? ⟨gb573,1,none⟩=some (.slice A0_1 l0_1.length c0_1)) (ds:= []) #[false,false,false,false,false,false,false,false,false,false,false] (by kernel_rfl) rfl rfl ⟨(Zb BK573.out 0).trans rfl,(Zb BK573.out 1).trans rfl⟩ (fun hHeld=> ?_);refine Z6 r30_CheckChain.tab3 r30_CheckChain.bits3 (fun HT_ HW_=> ?_);generalize wc.drew=w13 at BK573 HB hHeld⊢
     refine ZC (i:=0) (N:=some 14) (v:= ?_) (a':= ?_) #[true,false,false,false,false,false,false,false,false,false,false] rfl rfl (Zy HT_.out (by kernel_rfl)) (fun _ _ _ h=>h) (Or.inl ⟨by rfl,?_⟩) ?_ ?_;rotate_left
     ·intro w';go_simp;with_reducible rfl
     rotate_left
     ·simp only[Act.put,sA,sB,sC,Zt,Zu];rfl
     refine Yc (i:=1) (N:=some 15) (v:= ?_) (a':= ?_) #[true,true,false,false,false,false,false,false,false,false,false] rfl rfl (ZW HT_.out HW_.out (by kernel_rfl)) (fun _ _ _ h=>h) (Or.inl ⟨by rfl,?_⟩) hHeld ?_ ?_;rotate_left
     ·rintro w' ⟨s0,s1⟩;go_simp;with_reducible rfl
     rotate_left
     ·simp only[Act.put,sA,sB,sC,Zt,Zu];rfl
     refine Yc (i:=2) (N:=some 16) (v:= ?_) (a':= ?_) #[true,true,true,false,false,false,false,false,false,false,false] rfl rfl (ZW HT_.out HW_.out (by kernel_rfl)) (fun _ _ _ h=>h) (Or.inl ⟨by rfl,?_⟩) hHeld ?_ ?_;rotate_left
     ·rintro w' ⟨s0,s1⟩;go_simp;with_reducible rfl
     rotate_left
     ·simp only[Act.put,sA,sB,sC,Zt,Zu];rfl
     refine join_ (σ:=Value×Value×Nat) 2 #[true,true,true,true,true,true,true,true,true,false,false] (fun s_=> [(17,s_.1),(18,.tuple #[.agg #[.int .i64 t577,s_.2.1],.int .i64 t581]),(3,.pointer (some ⟨s_.2.2,0,none⟩)),(13,.tuple #[.agg #[.int .i64 t577,s_.2.1],.int .i64 t581]),(19,.agg #[.int .i64 t577,s_.2.1]),(20,.int .i64 t581)]) (fun s_ w'=>(w'.cell? ⟨gb573,0,none⟩=some (.int .i64 a0_0)∧w'.cell? ⟨gb573,1,none⟩=some (.slice A0_1 l0_1.length c0_1))∧(Kd.N (Kd.slice 3 (Kd.int .i64)) 22 w' w.heap.size (fun k_=>some k_≠(s_.2.1:Value).ownBlock∧k_≠gb573∧k_≠s_.2.2) s_.1 t574)∧(Kd.N k74 74 w' w.heap.size (fun k_=>some k_≠(s_.1:Value).ownBlock∧k_≠gb573∧k_≠s_.2.2) s_.2.1 t578)∧(w'.heap[gb573]? =some (.cells #[.int .i64 a0_0,.slice A0_1 l0_1.length c0_1] 46 (0,0)))∧(w'.heap[s_.2.2]? =some (.cells #[.int .i64 0,.slice none 0 0] 46 (0,0)))∧(w.heap.size≤s_.2.2)∧(w.heap.size≤s_.2.2)∧(gb573≠s_.2.2)∧(s_.2.2≠gb573)∧(Below w.heap.size w w')) ?_ ?_;rotate_left
     ·intro hCont
      refine two_ (i:=3) (j:=8) (Ni:=some 17) (Nj:=some 3) #[true,true,true,true,false,false,false,false,false,false,false] #[true,true,true,false,false,false,false,false,true,false,false] rfl rfl rfl rfl (two_of HT_.out (by kernel_rfl)) (by decide) (by decide) (fun K hK=> ?_) (fun K hK=> ?_)
      ·skip
       refine Yh Try.func45 (by kernel_rfl) rfl #[.agg #[.int .i64 a0_0,.slice A0_1 l0_1.length c0_1]] (by rfl) rfl rfl zz127 ?_;with_reducible refine(r30_Gens.calls kj1 a0_0 (fun k_=>k_<w.heap.size) _ _ l0_1 t574 _ ?side1 A8.out).mono ?_
       (case side1=>exact Kd.V_mk HC0_1.out (Kd.F_below (Kd.C_F k74_heap HR0_1.out) zz103))
       rintro e w14 ⟨v575,rfl,ho0,hb⟩
       refine⟨_,rfl,?_⟩;have n0_:=aM (Kd.N_lower (Kd.N_mono (ok':=fun k_=>k_≠gb573) ho0 (fun k_ hk_=>Or.elim hk_ (fun hs_=>fun e_=>Nat.not_le.2 hs_ zz162) (fun hn_=>(Kd.freshB (g:=gb573) (o:= .cells #[.int .i64 a0_0,.slice A0_1 l0_1.length c0_1] 46 (0,0)) (zB BK573) k_ hn_)))) (Zc zz103));have n1_:=aM (Zg (g:=gb573) (o:= .cells #[.int .i64 a0_0,.slice A0_1 l0_1.length c0_1] 46 (0,0)) (zB BK573) hb);have n2_:=aM (Ze zz103 hb);clear BK573;clear HB;have HO576:=n0_;have BK573:=n1_;have HB:=n2_;clear n0_ n1_ n2_;(try clear hb);(try clear hb2);(try clear hk);(try clear hi);(try clear ho0);obtain⟨Ao15,co15,eo15⟩:=Kd.N_slice HO576.out
       (first|subst eo15|(injection eo15 with f1_ f2_ f3_;have f4_:=f1_.symm;have f5_:=f3_.symm;clear f1_ f2_ f3_;subst f4_;subst f5_))
       refine hK.out _ _ ⟨(Zb BK573.out 0).trans rfl,(Zb BK573.out 1).trans rfl⟩ (fun hHeld=> ?_);clear hK K
       refine ZS (a':= ?_) ?_ ?_;rotate_left
       ·show Act.put _ (some 17) _=_
        simp only[Act.put,sA,sB,sC,Zt,Zu];rfl
       refine two_ (i:=4) (j:=8) (Ni:=some 18) (Nj:=some 3) #[true,true,true,true,true,false,false,false,false,false,false] #[true,true,true,true,false,false,false,false,true,false,false] rfl rfl rfl rfl (two_of HT_.out (by kernel_rfl)) (by decide) (by decide) (fun K hK=> ?_) (fun K hK=> ?_)
       ·skip
        refine Yh Try.func31 (by kernel_rfl) rfl #[.int .i64 a0_0,.slice Ao15 t574.length co15] (by rfl) rfl rfl zz127 ?_;with_reducible refine(r30_Build.calls kj1 a0_0 _ _ t574 t577 t578 t581 _ ?side1 ?side2 A9.out).mono ?_
        (case side1=>exact zC ((Kd.N_reads' HO576.out).2.2))
        (case side2=>exact(Kd.N_reads' HO576.out).2.1)
        rintro e w16 ⟨v579,rfl,ho0,hb⟩
        refine⟨_,rfl,?_⟩;have n0_:=aM (Kd.N_elder' (zN HO576) (Kd.N_base ho0) hb);have n1_:=aM (Kd.N_lower (Kd.N_mono (ok':=fun k_=>some k_≠(.slice Ao15 t574.length co15:Value).ownBlock∧k_≠gb573) ho0 (fun k_ hk_=>⟨(Kd.fresh' (Kd.N_lt (zN HO576)) k_ hk_),(Kd.freshB (g:=gb573) (o:= .cells #[.int .i64 a0_0,.slice A0_1 l0_1.length c0_1] 46 (0,0)) (zB BK573) k_ hk_)⟩)) (Zc zz103));have n2_:=aM (Zg (g:=gb573) (o:= .cells #[.int .i64 a0_0,.slice A0_1 l0_1.length c0_1] 46 (0,0)) (zB BK573) hb);have n3_:=aM (Ze zz103 hb);clear HO576;clear BK573;clear HB;have HO576:=n0_;have HO580:=n1_;have BK573:=n2_;have HB:=n3_;clear n0_ n1_ n2_ n3_;(try clear hb);(try clear hb2);(try clear hk);(try clear hi);(try clear ho0)
        refine hK.out _ _ ⟨(Zb BK573.out 0).trans rfl,(Zb BK573.out 1).trans rfl⟩ (fun hHeld=> ?_);clear hK K
        refine ZS (a':= ?_) ?_ ?_;rotate_left
        ·show Act.put _ (some 18) _=_
         simp only[Act.put,sA,sB,sC,Zt,Zu];rfl
        refine ZC (i:=5) (N:=some 13) (v:= ?_) (a':= ?_) #[true,true,true,true,true,true,false,false,false,false,false] rfl rfl (Zy HT_.out (by kernel_rfl)) (fun _ _ _ h=>h) (Or.inl ⟨by rfl,?_⟩) ?_ ?_;rotate_left
        ·intro w';go_simp;with_reducible rfl
        rotate_left
        ·simp only[Act.put,sA,sB,sC,Zt,Zu];rfl
        refine ZC (i:=6) (N:=some 19) (v:= ?_) (a':= ?_) #[true,true,true,true,true,true,true,false,false,false,false] rfl rfl (Zy HT_.out (by kernel_rfl)) (fun _ _ _ h=>h) (Or.inl ⟨by rfl,?_⟩) ?_ ?_;rotate_left
        ·intro w';go_simp;with_reducible rfl
        rotate_left
        ·simp only[Act.put,sA,sB,sC,Zt,Zu];rfl
        refine ZC (i:=7) (N:=some 20) (v:= ?_) (a':= ?_) #[true,true,true,true,true,true,true,true,false,false,false] rfl rfl (Zy HT_.out (by kernel_rfl)) (fun _ _ _ h=>h) (Or.inl ⟨by rfl,?_⟩) ?_ ?_;rotate_left
        ·intro w';go_simp;with_reducible rfl
        rotate_left
        ·simp only[Act.put,sA,sB,sC,Zt,Zu];rfl
        refine one_ (i:=8) (N:=some 3) #[true,true,true,true,true,true,true,true,true,false,false] rfl rfl (ZZ HT_.out (by kernel_rfl)) (by decide) (fun K hK=> ?_)
        refine Z7 ?hg (N:=3) ?hd (cs:= #[.int .i64 0,.slice none 0 0]) (t:=46) ?hr ?_;(case hd=>rfl);(case hg=>rfl);(case hr=>first|(go_simp;done)|(go_simp;rfl));intro gb582 hg w17 hbox hb;have n0_:=aM (Kd.N_below (Kd.N_elderB (zN HO576) gb582 (Nat.le_of_eq hg.symm)) hb);have n1_:=aM (Kd.N_below (Kd.N_elderB (zN HO580) gb582 (Nat.le_of_eq hg.symm)) hb);have n2_:=aM (Zg (g:=gb573) (o:= .cells #[.int .i64 a0_0,.slice A0_1 l0_1.length c0_1] 46 (0,0)) (zB BK573) hb);have n3_:=aM (Ze zz103 hb);have n4_:=aM (hbox);have n5_:=aM ((by rw[hg];exact(Zc zz103):w.heap.size≤gb582));have n6_:=aM ((by rw[hg];exact(Zc zz103):w.heap.size≤gb582));have n7_:=aM ((by rw[hg];exact Nat.ne_of_lt (Zw (g:=gb573) (o:= .cells #[.int .i64 a0_0,.slice A0_1 l0_1.length c0_1] 46 (0,0)) (zB BK573)):gb573≠gb582));have n8_:=aM ((by rw[hg];exact Nat.ne_of_gt (Zw (g:=gb573) (o:= .cells #[.int .i64 a0_0,.slice A0_1 l0_1.length c0_1] 46 (0,0)) (zB BK573)):gb582≠gb573));clear HO576;clear HO580;clear BK573;clear HB;have HO576:=n0_;have HO580:=n1_;have BK573:=n2_;have HB:=n3_;have BK582:=n4_;have GW582:=n5_;have GE582:=n6_;have NB573_582:=n7_;have NB582_573:=n8_;clear n0_ n1_ n2_ n3_ n4_ n5_ n6_ n7_ n8_;clear hb hbox hg
        refine hK.out _ _ ⟨(Zb BK573.out 0).trans rfl,(Zb BK573.out 1).trans rfl⟩ (fun hHeld=> ?_);clear hK K
        refine ZS (a':= ?_) ?_ ?_;rotate_left
        ·show Act.put _ (some 3) _=_
         simp only[Act.put,sA,sB,sC,Zt,Zu];rfl
        exact ZS zz139 (hCont (.slice Ao15 t574.length co15,v579,gb582) _ ⟨hHeld,zz112,zz113,(zB BK573),(zB BK582),GW582.out,GE582.out,NB573_582.out,NB582_573.out,zz79⟩)
       ·skip
        refine Z7 ?hg (N:=3) ?hd (cs:= #[.int .i64 0,.slice none 0 0]) (t:=46) ?hr ?_;(case hd=>rfl);(case hg=>rfl);(case hr=>first|(go_simp;done)|(go_simp;rfl));intro gb582 hg w15 hbox hb;have n0_:=aM (Kd.N_below (Kd.N_elderB (zN HO576) gb582 (Nat.le_of_eq hg.symm)) hb);have n1_:=aM (Zg (g:=gb573) (o:= .cells #[.int .i64 a0_0,.slice A0_1 l0_1.length c0_1] 46 (0,0)) (zB BK573) hb);have n2_:=aM (Ze zz103 hb);have n3_:=aM (hbox);have n4_:=aM ((by rw[hg];exact(Zc zz103):w.heap.size≤gb582));have n5_:=aM ((by rw[hg];exact(Zc zz103):w.heap.size≤gb582));have n6_:=aM ((by rw[hg];exact Nat.ne_of_lt (Zw (g:=gb573) (o:= .cells #[.int .i64 a0_0,.slice A0_1 l0_1.length c0_1] 46 (0,0)) (zB BK573)):gb573≠gb582));have n7_:=aM ((by rw[hg];exact Nat.ne_of_gt (Zw (g:=gb573) (o:= .cells #[.int .i64 a0_0,.slice A0_1 l0_1.length c0_1] 46 (0,0)) (zB BK573)):gb582≠gb573));clear HO576;clear BK573;clear HB;have HO576:=n0_;have BK573:=n1_;have HB:=n2_;have BK582:=n3_;have GW582:=n4_;have GE582:=n5_;have NB573_582:=n6_;have NB582_573:=n7_;clear n0_ n1_ n2_ n3_ n4_ n5_ n6_ n7_;clear hb hbox hg;obtain⟨Ao16,co16,eo16⟩:=Kd.N_slice HO576.out
        (first|subst eo16|(injection eo16 with f1_ f2_ f3_;have f4_:=f1_.symm;have f5_:=f3_.symm;clear f1_ f2_ f3_;subst f4_;subst f5_))
        refine hK.out _ _ ⟨(Zb BK573.out 0).trans rfl,(Zb BK573.out 1).trans rfl⟩ (fun hHeld=> ?_);clear hK K
        refine ZS (a':= ?_) ?_ ?_;rotate_left
        ·show Act.put _ (some 3) _=_
         simp only[Act.put,sA,sB,sC,Zt,Zu];rfl
        refine one_ (i:=4) (N:=some 18) #[true,true,true,true,true,false,false,false,true,false,false] rfl rfl (ZZ HT_.out (by kernel_rfl)) (by decide) (fun K hK=> ?_)
        refine Yh Try.func31 (by kernel_rfl) rfl #[.int .i64 a0_0,.slice Ao16 t574.length co16] (by rfl) rfl rfl zz127 ?_;with_reducible refine(r30_Build.calls kj1 a0_0 _ _ t574 t577 t578 t581 _ ?side1 ?side2 A9.out).mono ?_
        (case side1=>exact zC ((Kd.N_reads' HO576.out).2.2))
        (case side2=>exact(Kd.N_reads' HO576.out).2.1)
        rintro e w17 ⟨v579,rfl,ho0,hb⟩
        refine⟨_,rfl,?_⟩;have n0_:=aM (Kd.N_elder' (zN HO576) (Kd.N_base ho0) hb);have n1_:=aM (Kd.N_lower (Kd.N_mono (ok':=fun k_=>some k_≠(.slice Ao16 t574.length co16:Value).ownBlock∧k_≠gb573∧k_≠gb582) ho0 (fun k_ hk_=>⟨(Kd.fresh' (Kd.N_lt (zN HO576)) k_ hk_),(Kd.freshB (g:=gb573) (o:= .cells #[.int .i64 a0_0,.slice A0_1 l0_1.length c0_1] 46 (0,0)) (zB BK573) k_ hk_),(Kd.freshB (g:=gb582) (o:= .cells #[.int .i64 0,.slice none 0 0] 46 (0,0)) (zB BK582) k_ hk_)⟩)) (Zc zz79));have n2_:=aM (Zg (g:=gb573) (o:= .cells #[.int .i64 a0_0,.slice A0_1 l0_1.length c0_1] 46 (0,0)) (zB BK573) hb);have n3_:=aM (Zg (g:=gb582) (o:= .cells #[.int .i64 0,.slice none 0 0] 46 (0,0)) (zB BK582) hb);have n4_:=aM (Ze zz79 hb);clear HO576;clear BK573;clear BK582;clear HB;have HO576:=n0_;have HO580:=n1_;have BK573:=n2_;have BK582:=n3_;have HB:=n4_;clear n0_ n1_ n2_ n3_ n4_;(try clear hb);(try clear hb2);(try clear hk);(try clear hi);(try clear ho0)
        refine hK.out _ _ ⟨(Zb BK573.out 0).trans rfl,(Zb BK573.out 1).trans rfl⟩ (fun hHeld=> ?_);clear hK K
        refine ZS (a':= ?_) ?_ ?_;rotate_left
        ·show Act.put _ (some 18) _=_
         simp only[Act.put,sA,sB,sC,Zt,Zu];rfl
        refine ZC (i:=5) (N:=some 13) (v:= ?_) (a':= ?_) #[true,true,true,true,true,true,false,false,true,false,false] rfl rfl (Zy HT_.out (by kernel_rfl)) (fun _ _ _ h=>h) (Or.inl ⟨by rfl,?_⟩) ?_ ?_;rotate_left
        ·intro w';go_simp;with_reducible rfl
        rotate_left
        ·simp only[Act.put,sA,sB,sC,Zt,Zu];rfl
        refine ZC (i:=6) (N:=some 19) (v:= ?_) (a':= ?_) #[true,true,true,true,true,true,true,false,true,false,false] rfl rfl (Zy HT_.out (by kernel_rfl)) (fun _ _ _ h=>h) (Or.inl ⟨by rfl,?_⟩) ?_ ?_;rotate_left
        ·intro w';go_simp;with_reducible rfl
        rotate_left
        ·simp only[Act.put,sA,sB,sC,Zt,Zu];rfl
        refine ZC (i:=7) (N:=some 20) (v:= ?_) (a':= ?_) #[true,true,true,true,true,true,true,true,true,false,false] rfl rfl (Zy HT_.out (by kernel_rfl)) (fun _ _ _ h=>h) (Or.inl ⟨by rfl,?_⟩) ?_ ?_;rotate_left
        ·intro w';go_simp;with_reducible rfl
        rotate_left
        ·simp only[Act.put,sA,sB,sC,Zt,Zu];rfl
        exact ZS zz139 (hCont (.slice Ao16 t574.length co16,v579,gb582) _ ⟨hHeld,zz114,(zN HO580),(zB BK573),(zB BK582),GW582.out,GE582.out,NB573_582.out,NB582_573.out,zz79⟩)
      ·skip
       refine Z7 ?hg (N:=3) ?hd (cs:= #[.int .i64 0,.slice none 0 0]) (t:=46) ?hr ?_;(case hd=>rfl);(case hg=>rfl);(case hr=>first|(go_simp;done)|(go_simp;rfl));intro gb582 hg w14 hbox hb;have n0_:=aM (Zg (g:=gb573) (o:= .cells #[.int .i64 a0_0,.slice A0_1 l0_1.length c0_1] 46 (0,0)) (zB BK573) hb);have n1_:=aM (Ze zz103 hb);have n2_:=aM (hbox);have n3_:=aM ((by rw[hg];exact(Zc zz103):w.heap.size≤gb582));have n4_:=aM ((by rw[hg];exact(Zc zz103):w.heap.size≤gb582));have n5_:=aM ((by rw[hg];exact Nat.ne_of_lt (Zw (g:=gb573) (o:= .cells #[.int .i64 a0_0,.slice A0_1 l0_1.length c0_1] 46 (0,0)) (zB BK573)):gb573≠gb582));have n6_:=aM ((by rw[hg];exact Nat.ne_of_gt (Zw (g:=gb573) (o:= .cells #[.int .i64 a0_0,.slice A0_1 l0_1.length c0_1] 46 (0,0)) (zB BK573)):gb582≠gb573));clear BK573;clear HB;have BK573:=n0_;have HB:=n1_;have BK582:=n2_;have GW582:=n3_;have GE582:=n4_;have NB573_582:=n5_;have NB582_573:=n6_;clear n0_ n1_ n2_ n3_ n4_ n5_ n6_;clear hb hbox hg
       refine hK.out _ _ ⟨(Zb BK573.out 0).trans rfl,(Zb BK573.out 1).trans rfl⟩ (fun hHeld=> ?_);clear hK K
       refine ZS (a':= ?_) ?_ ?_;rotate_left
       ·show Act.put _ (some 3) _=_
        simp only[Act.put,sA,sB,sC,Zt,Zu];rfl
       refine one_ (i:=3) (N:=some 17) #[true,true,true,true,false,false,false,false,true,false,false] rfl rfl (ZZ HT_.out (by kernel_rfl)) (by decide) (fun K hK=> ?_)
       refine Yh Try.func45 (by kernel_rfl) rfl #[.agg #[.int .i64 a0_0,.slice A0_1 l0_1.length c0_1]] (by rfl) rfl rfl zz127 ?_;with_reducible refine(r30_Gens.calls kj1 a0_0 (fun k_=>k_<w.heap.size) _ _ l0_1 t574 _ ?side1 A8.out).mono ?_
       (case side1=>exact Kd.V_mk HC0_1.out (Kd.F_below (Kd.C_F k74_heap HR0_1.out) zz79))
       rintro e w15 ⟨v575,rfl,ho0,hb⟩
       refine⟨_,rfl,?_⟩;have n0_:=aM (Kd.N_lower (Kd.N_mono (ok':=fun k_=>k_≠gb573∧k_≠gb582) ho0 (fun k_ hk_=>⟨Or.elim hk_ (fun hs_=>fun e_=>Nat.not_le.2 hs_ zz162) (fun hn_=>(Kd.freshB (g:=gb573) (o:= .cells #[.int .i64 a0_0,.slice A0_1 l0_1.length c0_1] 46 (0,0)) (zB BK573) k_ hn_)),Or.elim hk_ (fun hs_=>fun e_=>Nat.not_le.2 hs_ (by rw[e_];exact GW582.out)) (fun hn_=>(Kd.freshB (g:=gb582) (o:= .cells #[.int .i64 0,.slice none 0 0] 46 (0,0)) (zB BK582) k_ hn_))⟩)) (Zc zz79));have n1_:=aM (Zg (g:=gb573) (o:= .cells #[.int .i64 a0_0,.slice A0_1 l0_1.length c0_1] 46 (0,0)) (zB BK573) hb);have n2_:=aM (Zg (g:=gb582) (o:= .cells #[.int .i64 0,.slice none 0 0] 46 (0,0)) (zB BK582) hb);have n3_:=aM (Ze zz79 hb);clear BK573;clear BK582;clear HB;have HO576:=n0_;have BK573:=n1_;have BK582:=n2_;have HB:=n3_;clear n0_ n1_ n2_ n3_;(try clear hb);(try clear hb2);(try clear hk);(try clear hi);(try clear ho0);obtain⟨Ao16,co16,eo16⟩:=Kd.N_slice HO576.out
       (first|subst eo16|(injection eo16 with f1_ f2_ f3_;have f4_:=f1_.symm;have f5_:=f3_.symm;clear f1_ f2_ f3_;subst f4_;subst f5_))
       refine hK.out _ _ ⟨(Zb BK573.out 0).trans rfl,(Zb BK573.out 1).trans rfl⟩ (fun hHeld=> ?_);clear hK K
       refine ZS (a':= ?_) ?_ ?_;rotate_left
       ·show Act.put _ (some 17) _=_
        simp only[Act.put,sA,sB,sC,Zt,Zu];rfl
       refine one_ (i:=4) (N:=some 18) #[true,true,true,true,true,false,false,false,true,false,false] rfl rfl (ZZ HT_.out (by kernel_rfl)) (by decide) (fun K hK=> ?_)
       refine Yh Try.func31 (by kernel_rfl) rfl #[.int .i64 a0_0,.slice Ao16 t574.length co16] (by rfl) rfl rfl zz127 ?_;with_reducible refine(r30_Build.calls kj1 a0_0 _ _ t574 t577 t578 t581 _ ?side1 ?side2 A9.out).mono ?_
       (case side1=>exact zC ((Kd.N_reads' HO576.out).2.2))
       (case side2=>exact(Kd.N_reads' HO576.out).2.1)
       rintro e w17 ⟨v579,rfl,ho0,hb⟩
       refine⟨_,rfl,?_⟩;have n0_:=aM (Kd.N_elder' (zN HO576) (Kd.N_base ho0) hb);have n1_:=aM (Kd.N_lower (Kd.N_mono (ok':=fun k_=>some k_≠(.slice Ao16 t574.length co16:Value).ownBlock∧k_≠gb573∧k_≠gb582) ho0 (fun k_ hk_=>⟨(Kd.fresh' (Kd.N_lt (zN HO576)) k_ hk_),(Kd.freshB (g:=gb573) (o:= .cells #[.int .i64 a0_0,.slice A0_1 l0_1.length c0_1] 46 (0,0)) (zB BK573) k_ hk_),(Kd.freshB (g:=gb582) (o:= .cells #[.int .i64 0,.slice none 0 0] 46 (0,0)) (zB BK582) k_ hk_)⟩)) (Zc zz79));have n2_:=aM (Zg (g:=gb573) (o:= .cells #[.int .i64 a0_0,.slice A0_1 l0_1.length c0_1] 46 (0,0)) (zB BK573) hb);have n3_:=aM (Zg (g:=gb582) (o:= .cells #[.int .i64 0,.slice none 0 0] 46 (0,0)) (zB BK582) hb);have n4_:=aM (Ze zz79 hb);clear HO576;clear BK573;clear BK582;clear HB;have HO576:=n0_;have HO580:=n1_;have BK573:=n2_;have BK582:=n3_;have HB:=n4_;clear n0_ n1_ n2_ n3_ n4_;(try clear hb);(try clear hb2);(try clear hk);(try clear hi);(try clear ho0)
       refine hK.out _ _ ⟨(Zb BK573.out 0).trans rfl,(Zb BK573.out 1).trans rfl⟩ (fun hHeld=> ?_);clear hK K
       refine ZS (a':= ?_) ?_ ?_;rotate_left
       ·show Act.put _ (some 18) _=_
        simp only[Act.put,sA,sB,sC,Zt,Zu];rfl
       refine ZC (i:=5) (N:=some 13) (v:= ?_) (a':= ?_) #[true,true,true,true,true,true,false,false,true,false,false] rfl rfl (Zy HT_.out (by kernel_rfl)) (fun _ _ _ h=>h) (Or.inl ⟨by rfl,?_⟩) ?_ ?_;rotate_left
       ·intro w';go_simp;with_reducible rfl
       rotate_left
       ·simp only[Act.put,sA,sB,sC,Zt,Zu];rfl
       refine ZC (i:=6) (N:=some 19) (v:= ?_) (a':= ?_) #[true,true,true,true,true,true,true,false,true,false,false] rfl rfl (Zy HT_.out (by kernel_rfl)) (fun _ _ _ h=>h) (Or.inl ⟨by rfl,?_⟩) ?_ ?_;rotate_left
       ·intro w';go_simp;with_reducible rfl
       rotate_left
       ·simp only[Act.put,sA,sB,sC,Zt,Zu];rfl
       refine ZC (i:=7) (N:=some 20) (v:= ?_) (a':= ?_) #[true,true,true,true,true,true,true,true,true,false,false] rfl rfl (Zy HT_.out (by kernel_rfl)) (fun _ _ _ h=>h) (Or.inl ⟨by rfl,?_⟩) ?_ ?_;rotate_left
       ·intro w';go_simp;with_reducible rfl
       rotate_left
       ·simp only[Act.put,sA,sB,sC,Zt,Zu];rfl
       exact ZS zz139 (hCont (.slice Ao16 t574.length co16,v579,gb582) _ ⟨hHeld,zz114,(zN HO580),(zB BK573),(zB BK582),GW582.out,GE582.out,NB573_582.out,NB582_573.out,zz79⟩)
     rintro ⟨v575,v579,gb582⟩ w18 ⟨hS_,h0_,h1_,h2_,h3_,h4_,h5_,h6_,h7_,h8_⟩;have n0_:Aside0 (Kd.N (Kd.slice 3 (Kd.int .i64)) 22 w18 w.heap.size (fun k_=>some k_≠(v579:Value).ownBlock∧k_≠gb573∧k_≠gb582) v575 t574):=⟨h0_⟩;have n1_:Aside0 (Kd.N k74 74 w18 w.heap.size (fun k_=>some k_≠(v575:Value).ownBlock∧k_≠gb573∧k_≠gb582) v579 t578):=⟨h1_⟩;have n2_:Aside0 (w18.heap[gb573]? =some (.cells #[.int .i64 a0_0,.slice A0_1 l0_1.length c0_1] 46 (0,0))):=⟨h2_⟩;have n3_:Aside0 (w18.heap[gb582]? =some (.cells #[.int .i64 0,.slice none 0 0] 46 (0,0))):=⟨h3_⟩;have n4_:Aside0 (w.heap.size≤gb582):=⟨h4_⟩;have n5_:Aside0 (w.heap.size≤gb582):=⟨h5_⟩;have n6_:Aside0 (gb573≠gb582):=⟨h6_⟩;have n7_:Aside0 (gb582≠gb573):=⟨h7_⟩;have n8_:Aside0 (Below w.heap.size w w18):=⟨h8_⟩;clear BK573;clear HB;clear h0_ h1_ h2_ h3_ h4_ h5_ h6_ h7_ h8_;have HO576:=n0_;have HO580:=n1_;have BK573:=n2_;have BK582:=n3_;have GW582:=n4_;have GE582:=n5_;have NB573_582:=n6_;have NB582_573:=n7_;have HB:=n8_;clear n0_ n1_ n2_ n3_ n4_ n5_ n6_ n7_ n8_;have hHeld:w18.cell? ⟨gb573,0,none⟩=some (.int .i64 a0_0)∧w18.cell? ⟨gb573,1,none⟩=some (.slice A0_1 l0_1.length c0_1):=hS_;obtain⟨Ao20,co20,eo20⟩:=Kd.N_slice HO580.out
     (first|subst eo20|(injection eo20 with f1_ f2_ f3_;have f4_:=f1_.symm;have f5_:=f3_.symm;clear f1_ f2_ f3_;subst f4_;subst f5_))
     refine ZS (a':= ?_) ?_ ?_;rotate_left
     ·simp only[putAll,Act.put,sA,sB,sC];rfl
     refine one_ (i:=9) (N:=none) #[true,true,true,true,true,true,true,true,true,true,false] rfl rfl (ZZ HT_.out (by kernel_rfl)) (by decide) (fun K hK=> ?_);have hs19:w18.cell? ⟨gb582,0,none⟩=some (.int .i64 0):=(Zb BK582.out 0).trans rfl;have hfs19:=Za BK582.out 0;have hns19_0:=NB573_582.out;have hms19_0:=NB582_573.out;have hs21:w18.cell? ⟨gb582,1,none⟩=some (.slice none 0 0):=(Zb BK582.out 1).trans rfl;have hfs21:=Za BK582.out 1;have hns21_0:=NB573_582.out;have hms21_0:=NB582_573.out
     refine skip_ (w1:= ?_) (by rfl) rfl ?_ ?_;rotate_left
     ·go_simp;rfl
     refine hK.out _ _ ⟨((cell_far (p:=⟨gb582,_,none⟩) NB573_582.out _).trans (((cell_far (p:=⟨gb582,_,none⟩) NB573_582.out _).trans (hHeld.1)))),((cell_far (p:=⟨gb582,_,none⟩) NB573_582.out _).trans (((cell_far (p:=⟨gb582,_,none⟩) NB573_582.out _).trans (hHeld.2))))⟩ (fun hHeld=> ?_);clear hK K
     refine ZC (i:=10) (N:=some 4) (v:= ?_) (a':= ?_) #[true,true,true,true,true,true,true,true,true,true,true] rfl rfl (Zy HT_.out (by kernel_rfl)) (fun _ _ _ h=>h) (Or.inl ⟨by rfl,?_⟩) ?_ ?_;rotate_left
     ·intro w';go_simp;with_reducible rfl
     rotate_left
     ·simp only[Act.put,sA,sB,sC,Zt,Zu];rfl
     refine done_ (done_of HT_.out (by kernel_rfl)) ?_;have hnb22:=NB573_582.out;have hnc22:=NB582_573.out;have hcz23_0:w18.cell? ⟨gb573,0,none⟩=some (.int .i64 a0_0):=(Zb BK573.out 0).trans rfl;have hcz23_1:w18.cell? ⟨gb573,1,none⟩=some (.slice A0_1 l0_1.length c0_1):=(Zb BK573.out 1).trans rfl;have hfz23_0:=Za BK573.out 0;have hfz23_1:=Za BK573.out 1;have hcz24_0:w18.cell? ⟨gb582,0,none⟩=some (.int .i64 0):=(Zb BK582.out 0).trans rfl;have hcz24_1:w18.cell? ⟨gb582,1,none⟩=some (.slice none 0 0):=(Zb BK582.out 1).trans rfl;have hfz24_0:=Za BK582.out 0;have hfz24_1:=Za BK582.out 1
     try go_wp2_with (first|(go_at_call 32;(with_reducible refine(r30_Same.calls kj1 a0_0 _ _ l0_1 t577 _ _ t578 true _ ?side1 ?side2 ?side3 ?side4 A11.out).mono ?_);(case side1=>exact Kd.C_below HR0_1.out zz79);(case side2=>exact HC0_1.out);(case side3=>refine(Kd.N_reads' (e:=74) (base:=w.heap.size) (ok:=fun k_=>(some k_≠(v575:Value).ownBlock∧(k_≠gb573∧k_≠gb582))) (n:=t578.length) (c:=co20) ?_).2.2;exact zz57);(case side4=>exact(Kd.N_reads' HO580.out).2.1);rintro e w25 ⟨rfl,hb⟩;replace HO576:=aM (Kd.N_below (by(with_reducible repeat(first|apply Kd.N_alloc|apply Kd.N_drewN|apply Kd.N_drew));exact(Kd.N_mono (Kd.N_far (p:=⟨gb582,1,none⟩) (Kd.N_far (p:=⟨gb582,0,none⟩) (Kd.N_mono HO576.out (fun k_ hk=>(⟨hk,hk.2.2⟩:_∧k_≠gb582))) (fun _ hk=>hk.2) (.int .i64 t577)) (fun _ hk=>hk.2) (.slice Ao20 t578.length co20)) (fun _ h_=>h_.1))) hb);replace HO580:=aM (Kd.N_below zz57 hb);replace BK573:=aM (Zg (g:=gb573) (o:= .cells #[.int .i64 a0_0,.slice A0_1 l0_1.length c0_1] 46 (0,0)) zz56 hb);replace BK582:=aM (Zg (g:=gb582) (o:= .cells #[.int .i64 t577,.slice Ao20 t578.length co20] 46 (0,0)) zz54 hb);replace HB:=aM (Ze zz79 hb);(try clear hb);(try clear hb2);(try clear hk);(try clear hi)))
     go_ret
     exact⟨by first|rfl|(simp[Zj,Zi]<;>rfl)|(simp[*,Zj,Zi]<;>rfl),by repeat(first|(with_reducible first|exact HB.out|apply Zn|apply Zf|apply Zh|refine Zk ?_ GE573.out|refine Zk ?_ GE582.out)|exact HB.out)⟩
    replace c12:=Bool.eq_false_iff.mpr c12;subst c12;have H1:(some 5)=some r:=by rw[if_neg (show¬(false=true) by decide)] at H;exact H
    clear H;have H:=H1;clear H1;obtain rfl:=oI H
    try go_wp2
    have n0_:=aM (Zo BK573.out);have n1_:=aM (Zh HB.out);clear BK573;clear HB;have BK573:=n0_;have HB:=n1_;clear n0_ n1_
    refine start_ (n:=11) (S:=fun w'=>w'.cell? ⟨gb573,0,none⟩=some (.int .i64 a0_0)∧w'.cell? ⟨gb573,1,none⟩=some (.slice A0_1 l0_1.length c0_1)) (ds:= []) #[false,false,false,false,false,false,false,false,false,false,false] (by kernel_rfl) rfl rfl ⟨(Zb BK573.out 0).trans rfl,(Zb BK573.out 1).trans rfl⟩ (fun hHeld=> ?_);refine Z6 r30_CheckChain.tab3 r30_CheckChain.bits3 (fun HT_ HW_=> ?_);generalize wc.drew=w26 at BK573 HB hHeld⊢
    refine ZC (i:=0) (N:=some 14) (v:= ?_) (a':= ?_) #[true,false,false,false,false,false,false,false,false,false,false] rfl rfl (Zy HT_.out (by kernel_rfl)) (fun _ _ _ h=>h) (Or.inl ⟨by rfl,?_⟩) ?_ ?_;rotate_left
    ·intro w';go_simp;with_reducible rfl
    rotate_left
    ·simp only[Act.put,sA,sB,sC,Zt,Zu];rfl
    refine Yc (i:=1) (N:=some 15) (v:= ?_) (a':= ?_) #[true,true,false,false,false,false,false,false,false,false,false] rfl rfl (ZW HT_.out HW_.out (by kernel_rfl)) (fun _ _ _ h=>h) (Or.inl ⟨by rfl,?_⟩) hHeld ?_ ?_;rotate_left
    ·rintro w' ⟨s0,s1⟩;go_simp;with_reducible rfl
    rotate_left
    ·simp only[Act.put,sA,sB,sC,Zt,Zu];rfl
    refine Yc (i:=2) (N:=some 16) (v:= ?_) (a':= ?_) #[true,true,true,false,false,false,false,false,false,false,false] rfl rfl (ZW HT_.out HW_.out (by kernel_rfl)) (fun _ _ _ h=>h) (Or.inl ⟨by rfl,?_⟩) hHeld ?_ ?_;rotate_left
    ·rintro w' ⟨s0,s1⟩;go_simp;with_reducible rfl
    rotate_left
    ·simp only[Act.put,sA,sB,sC,Zt,Zu];rfl
    refine join_ (σ:=Value×Value×Nat) 2 #[true,true,true,true,true,true,true,true,true,false,false] (fun s_=> [(17,s_.1),(18,.tuple #[.agg #[.int .i64 t577,s_.2.1],.int .i64 t581]),(3,.pointer (some ⟨s_.2.2,0,none⟩)),(13,.tuple #[.agg #[.int .i64 t577,s_.2.1],.int .i64 t581]),(19,.agg #[.int .i64 t577,s_.2.1]),(20,.int .i64 t581)]) (fun s_ w'=>(w'.cell? ⟨gb573,0,none⟩=some (.int .i64 a0_0)∧w'.cell? ⟨gb573,1,none⟩=some (.slice A0_1 l0_1.length c0_1))∧(Kd.N (Kd.slice 3 (Kd.int .i64)) 22 w' w.heap.size (fun k_=>some k_≠(s_.2.1:Value).ownBlock∧k_≠gb573∧k_≠s_.2.2) s_.1 t574)∧(Kd.N k74 74 w' w.heap.size (fun k_=>some k_≠(s_.1:Value).ownBlock∧k_≠gb573∧k_≠s_.2.2) s_.2.1 t578)∧(w'.heap[gb573]? =some (.cells #[.int .i64 a0_0,.slice A0_1 l0_1.length c0_1] 46 (0,0)))∧(w'.heap[s_.2.2]? =some (.cells #[.int .i64 0,.slice none 0 0] 46 (0,0)))∧(w.heap.size≤s_.2.2)∧(w.heap.size≤s_.2.2)∧(gb573≠s_.2.2)∧(s_.2.2≠gb573)∧(Below w.heap.size w w')) ?_ ?_;rotate_left
    ·intro hCont
     refine two_ (i:=3) (j:=8) (Ni:=some 17) (Nj:=some 3) #[true,true,true,true,false,false,false,false,false,false,false] #[true,true,true,false,false,false,false,false,true,false,false] rfl rfl rfl rfl (two_of HT_.out (by kernel_rfl)) (by decide) (by decide) (fun K hK=> ?_) (fun K hK=> ?_)
     ·skip
      refine Yh Try.func45 (by kernel_rfl) rfl #[.agg #[.int .i64 a0_0,.slice A0_1 l0_1.length c0_1]] (by rfl) rfl rfl zz127 ?_;with_reducible refine(r30_Gens.calls kj1 a0_0 (fun k_=>k_<w.heap.size) _ _ l0_1 t574 _ ?side1 A8.out).mono ?_
      (case side1=>exact Kd.V_mk HC0_1.out (Kd.F_below (Kd.C_F k74_heap HR0_1.out) zz103))
      rintro e w27 ⟨v575,rfl,ho0,hb⟩
      refine⟨_,rfl,?_⟩;have n0_:=aM (Kd.N_lower (Kd.N_mono (ok':=fun k_=>k_≠gb573) ho0 (fun k_ hk_=>Or.elim hk_ (fun hs_=>fun e_=>Nat.not_le.2 hs_ zz162) (fun hn_=>(Kd.freshB (g:=gb573) (o:= .cells #[.int .i64 a0_0,.slice A0_1 l0_1.length c0_1] 46 (0,0)) (zB BK573) k_ hn_)))) (Zc zz103));have n1_:=aM (Zg (g:=gb573) (o:= .cells #[.int .i64 a0_0,.slice A0_1 l0_1.length c0_1] 46 (0,0)) (zB BK573) hb);have n2_:=aM (Ze zz103 hb);clear BK573;clear HB;have HO576:=n0_;have BK573:=n1_;have HB:=n2_;clear n0_ n1_ n2_;(try clear hb);(try clear hb2);(try clear hk);(try clear hi);(try clear ho0);obtain⟨Ao28,co28,eo28⟩:=Kd.N_slice HO576.out
      (first|subst eo28|(injection eo28 with f1_ f2_ f3_;have f4_:=f1_.symm;have f5_:=f3_.symm;clear f1_ f2_ f3_;subst f4_;subst f5_))
      refine hK.out _ _ ⟨(Zb BK573.out 0).trans rfl,(Zb BK573.out 1).trans rfl⟩ (fun hHeld=> ?_);clear hK K
      refine ZS (a':= ?_) ?_ ?_;rotate_left
      ·show Act.put _ (some 17) _=_
       simp only[Act.put,sA,sB,sC,Zt,Zu];rfl
      refine two_ (i:=4) (j:=8) (Ni:=some 18) (Nj:=some 3) #[true,true,true,true,true,false,false,false,false,false,false] #[true,true,true,true,false,false,false,false,true,false,false] rfl rfl rfl rfl (two_of HT_.out (by kernel_rfl)) (by decide) (by decide) (fun K hK=> ?_) (fun K hK=> ?_)
      ·skip
       refine Yh Try.func31 (by kernel_rfl) rfl #[.int .i64 a0_0,.slice Ao28 t574.length co28] (by rfl) rfl rfl zz127 ?_;with_reducible refine(r30_Build.calls kj1 a0_0 _ _ t574 t577 t578 t581 _ ?side1 ?side2 A9.out).mono ?_
       (case side1=>exact zC ((Kd.N_reads' HO576.out).2.2))
       (case side2=>exact(Kd.N_reads' HO576.out).2.1)
       rintro e w29 ⟨v579,rfl,ho0,hb⟩
       refine⟨_,rfl,?_⟩;have n0_:=aM (Kd.N_elder' (zN HO576) (Kd.N_base ho0) hb);have n1_:=aM (Kd.N_lower (Kd.N_mono (ok':=fun k_=>some k_≠(.slice Ao28 t574.length co28:Value).ownBlock∧k_≠gb573) ho0 (fun k_ hk_=>⟨(Kd.fresh' (Kd.N_lt (zN HO576)) k_ hk_),(Kd.freshB (g:=gb573) (o:= .cells #[.int .i64 a0_0,.slice A0_1 l0_1.length c0_1] 46 (0,0)) (zB BK573) k_ hk_)⟩)) (Zc zz103));have n2_:=aM (Zg (g:=gb573) (o:= .cells #[.int .i64 a0_0,.slice A0_1 l0_1.length c0_1] 46 (0,0)) (zB BK573) hb);have n3_:=aM (Ze zz103 hb);clear HO576;clear BK573;clear HB;have HO576:=n0_;have HO580:=n1_;have BK573:=n2_;have HB:=n3_;clear n0_ n1_ n2_ n3_;(try clear hb);(try clear hb2);(try clear hk);(try clear hi);(try clear ho0)
       refine hK.out _ _ ⟨(Zb BK573.out 0).trans rfl,(Zb BK573.out 1).trans rfl⟩ (fun hHeld=> ?_);clear hK K
       refine ZS (a':= ?_) ?_ ?_;rotate_left
       ·show Act.put _ (some 18) _=_
        simp only[Act.put,sA,sB,sC,Zt,Zu];rfl
       refine ZC (i:=5) (N:=some 13) (v:= ?_) (a':= ?_) #[true,true,true,true,true,true,false,false,false,false,false] rfl rfl (Zy HT_.out (by kernel_rfl)) (fun _ _ _ h=>h) (Or.inl ⟨by rfl,?_⟩) ?_ ?_;rotate_left
       ·intro w';go_simp;with_reducible rfl
       rotate_left
       ·simp only[Act.put,sA,sB,sC,Zt,Zu];rfl
       refine ZC (i:=6) (N:=some 19) (v:= ?_) (a':= ?_) #[true,true,true,true,true,true,true,false,false,false,false] rfl rfl (Zy HT_.out (by kernel_rfl)) (fun _ _ _ h=>h) (Or.inl ⟨by rfl,?_⟩) ?_ ?_;rotate_left
       ·intro w';go_simp;with_reducible rfl
       rotate_left
       ·simp only[Act.put,sA,sB,sC,Zt,Zu];rfl
       refine ZC (i:=7) (N:=some 20) (v:= ?_) (a':= ?_) #[true,true,true,true,true,true,true,true,false,false,false] rfl rfl (Zy HT_.out (by kernel_rfl)) (fun _ _ _ h=>h) (Or.inl ⟨by rfl,?_⟩) ?_ ?_;rotate_left
       ·intro w';go_simp;with_reducible rfl
       rotate_left
       ·simp only[Act.put,sA,sB,sC,Zt,Zu];rfl
       refine one_ (i:=8) (N:=some 3) #[true,true,true,true,true,true,true,true,true,false,false] rfl rfl (ZZ HT_.out (by kernel_rfl)) (by decide) (fun K hK=> ?_)
       refine Z7 ?hg (N:=3) ?hd (cs:= #[.int .i64 0,.slice none 0 0]) (t:=46) ?hr ?_;(case hd=>rfl);(case hg=>rfl);(case hr=>first|(go_simp;done)|(go_simp;rfl));intro gb582 hg w30 hbox hb;have n0_:=aM (Kd.N_below (Kd.N_elderB (zN HO576) gb582 (Nat.le_of_eq hg.symm)) hb);have n1_:=aM (Kd.N_below (Kd.N_elderB (zN HO580) gb582 (Nat.le_of_eq hg.symm)) hb);have n2_:=aM (Zg (g:=gb573) (o:= .cells #[.int .i64 a0_0,.slice A0_1 l0_1.length c0_1] 46 (0,0)) (zB BK573) hb);have n3_:=aM (Ze zz103 hb);have n4_:=aM (hbox);have n5_:=aM ((by rw[hg];exact(Zc zz103):w.heap.size≤gb582));have n6_:=aM ((by rw[hg];exact(Zc zz103):w.heap.size≤gb582));have n7_:=aM ((by rw[hg];exact Nat.ne_of_lt (Zw (g:=gb573) (o:= .cells #[.int .i64 a0_0,.slice A0_1 l0_1.length c0_1] 46 (0,0)) (zB BK573)):gb573≠gb582));have n8_:=aM ((by rw[hg];exact Nat.ne_of_gt (Zw (g:=gb573) (o:= .cells #[.int .i64 a0_0,.slice A0_1 l0_1.length c0_1] 46 (0,0)) (zB BK573)):gb582≠gb573));clear HO576;clear HO580;clear BK573;clear HB;have HO576:=n0_;have HO580:=n1_;have BK573:=n2_;have HB:=n3_;have BK582:=n4_;have GW582:=n5_;have GE582:=n6_;have NB573_582:=n7_;have NB582_573:=n8_;clear n0_ n1_ n2_ n3_ n4_ n5_ n6_ n7_ n8_;clear hb hbox hg
       refine hK.out _ _ ⟨(Zb BK573.out 0).trans rfl,(Zb BK573.out 1).trans rfl⟩ (fun hHeld=> ?_);clear hK K
       refine ZS (a':= ?_) ?_ ?_;rotate_left
       ·show Act.put _ (some 3) _=_
        simp only[Act.put,sA,sB,sC,Zt,Zu];rfl
       exact ZS zz139 (hCont (.slice Ao28 t574.length co28,v579,gb582) _ ⟨hHeld,zz112,zz113,(zB BK573),(zB BK582),GW582.out,GE582.out,NB573_582.out,NB582_573.out,zz79⟩)
      ·skip
       refine Z7 ?hg (N:=3) ?hd (cs:= #[.int .i64 0,.slice none 0 0]) (t:=46) ?hr ?_;(case hd=>rfl);(case hg=>rfl);(case hr=>first|(go_simp;done)|(go_simp;rfl));intro gb582 hg w28 hbox hb;have n0_:=aM (Kd.N_below (Kd.N_elderB (zN HO576) gb582 (Nat.le_of_eq hg.symm)) hb);have n1_:=aM (Zg (g:=gb573) (o:= .cells #[.int .i64 a0_0,.slice A0_1 l0_1.length c0_1] 46 (0,0)) (zB BK573) hb);have n2_:=aM (Ze zz103 hb);have n3_:=aM (hbox);have n4_:=aM ((by rw[hg];exact(Zc zz103):w.heap.size≤gb582));have n5_:=aM ((by rw[hg];exact(Zc zz103):w.heap.size≤gb582));have n6_:=aM ((by rw[hg];exact Nat.ne_of_lt (Zw (g:=gb573) (o:= .cells #[.int .i64 a0_0,.slice A0_1 l0_1.length c0_1] 46 (0,0)) (zB BK573)):gb573≠gb582));have n7_:=aM ((by rw[hg];exact Nat.ne_of_gt (Zw (g:=gb573) (o:= .cells #[.int .i64 a0_0,.slice A0_1 l0_1.length c0_1] 46 (0,0)) (zB BK573)):gb582≠gb573));clear HO576;clear BK573;clear HB;have HO576:=n0_;have BK573:=n1_;have HB:=n2_;have BK582:=n3_;have GW582:=n4_;have GE582:=n5_;have NB573_582:=n6_;have NB582_573:=n7_;clear n0_ n1_ n2_ n3_ n4_ n5_ n6_ n7_;clear hb hbox hg;obtain⟨Ao29,co29,eo29⟩:=Kd.N_slice HO576.out
       (first|subst eo29|(injection eo29 with f1_ f2_ f3_;have f4_:=f1_.symm;have f5_:=f3_.symm;clear f1_ f2_ f3_;subst f4_;subst f5_))
       refine hK.out _ _ ⟨(Zb BK573.out 0).trans rfl,(Zb BK573.out 1).trans rfl⟩ (fun hHeld=> ?_);clear hK K
       refine ZS (a':= ?_) ?_ ?_;rotate_left
       ·show Act.put _ (some 3) _=_
        simp only[Act.put,sA,sB,sC,Zt,Zu];rfl
       refine one_ (i:=4) (N:=some 18) #[true,true,true,true,true,false,false,false,true,false,false] rfl rfl (ZZ HT_.out (by kernel_rfl)) (by decide) (fun K hK=> ?_)
       refine Yh Try.func31 (by kernel_rfl) rfl #[.int .i64 a0_0,.slice Ao29 t574.length co29] (by rfl) rfl rfl zz127 ?_;with_reducible refine(r30_Build.calls kj1 a0_0 _ _ t574 t577 t578 t581 _ ?side1 ?side2 A9.out).mono ?_
       (case side1=>exact zC ((Kd.N_reads' HO576.out).2.2))
       (case side2=>exact(Kd.N_reads' HO576.out).2.1)
       rintro e w30 ⟨v579,rfl,ho0,hb⟩
       refine⟨_,rfl,?_⟩;have n0_:=aM (Kd.N_elder' (zN HO576) (Kd.N_base ho0) hb);have n1_:=aM (Kd.N_lower (Kd.N_mono (ok':=fun k_=>some k_≠(.slice Ao29 t574.length co29:Value).ownBlock∧k_≠gb573∧k_≠gb582) ho0 (fun k_ hk_=>⟨(Kd.fresh' (Kd.N_lt (zN HO576)) k_ hk_),(Kd.freshB (g:=gb573) (o:= .cells #[.int .i64 a0_0,.slice A0_1 l0_1.length c0_1] 46 (0,0)) (zB BK573) k_ hk_),(Kd.freshB (g:=gb582) (o:= .cells #[.int .i64 0,.slice none 0 0] 46 (0,0)) (zB BK582) k_ hk_)⟩)) (Zc zz79));have n2_:=aM (Zg (g:=gb573) (o:= .cells #[.int .i64 a0_0,.slice A0_1 l0_1.length c0_1] 46 (0,0)) (zB BK573) hb);have n3_:=aM (Zg (g:=gb582) (o:= .cells #[.int .i64 0,.slice none 0 0] 46 (0,0)) (zB BK582) hb);have n4_:=aM (Ze zz79 hb);clear HO576;clear BK573;clear BK582;clear HB;have HO576:=n0_;have HO580:=n1_;have BK573:=n2_;have BK582:=n3_;have HB:=n4_;clear n0_ n1_ n2_ n3_ n4_;(try clear hb);(try clear hb2);(try clear hk);(try clear hi);(try clear ho0)
       refine hK.out _ _ ⟨(Zb BK573.out 0).trans rfl,(Zb BK573.out 1).trans rfl⟩ (fun hHeld=> ?_);clear hK K
       refine ZS (a':= ?_) ?_ ?_;rotate_left
       ·show Act.put _ (some 18) _=_
        simp only[Act.put,sA,sB,sC,Zt,Zu];rfl
       refine ZC (i:=5) (N:=some 13) (v:= ?_) (a':= ?_) #[true,true,true,true,true,true,false,false,true,false,false] rfl rfl (Zy HT_.out (by kernel_rfl)) (fun _ _ _ h=>h) (Or.inl ⟨by rfl,?_⟩) ?_ ?_;rotate_left
       ·intro w';go_simp;with_reducible rfl
       rotate_left
       ·simp only[Act.put,sA,sB,sC,Zt,Zu];rfl
       refine ZC (i:=6) (N:=some 19) (v:= ?_) (a':= ?_) #[true,true,true,true,true,true,true,false,true,false,false] rfl rfl (Zy HT_.out (by kernel_rfl)) (fun _ _ _ h=>h) (Or.inl ⟨by rfl,?_⟩) ?_ ?_;rotate_left
       ·intro w';go_simp;with_reducible rfl
       rotate_left
       ·simp only[Act.put,sA,sB,sC,Zt,Zu];rfl
       refine ZC (i:=7) (N:=some 20) (v:= ?_) (a':= ?_) #[true,true,true,true,true,true,true,true,true,false,false] rfl rfl (Zy HT_.out (by kernel_rfl)) (fun _ _ _ h=>h) (Or.inl ⟨by rfl,?_⟩) ?_ ?_;rotate_left
       ·intro w';go_simp;with_reducible rfl
       rotate_left
       ·simp only[Act.put,sA,sB,sC,Zt,Zu];rfl
       exact ZS zz139 (hCont (.slice Ao29 t574.length co29,v579,gb582) _ ⟨hHeld,zz114,(zN HO580),(zB BK573),(zB BK582),GW582.out,GE582.out,NB573_582.out,NB582_573.out,zz79⟩)
     ·skip
      refine Z7 ?hg (N:=3) ?hd (cs:= #[.int .i64 0,.slice none 0 0]) (t:=46) ?hr ?_;(case hd=>rfl);(case hg=>rfl);(case hr=>first|(go_simp;done)|(go_simp;rfl));intro gb582 hg w27 hbox hb;have n0_:=aM (Zg (g:=gb573) (o:= .cells #[.int .i64 a0_0,.slice A0_1 l0_1.length c0_1] 46 (0,0)) (zB BK573) hb);have n1_:=aM (Ze zz103 hb);have n2_:=aM (hbox);have n3_:=aM ((by rw[hg];exact(Zc zz103):w.heap.size≤gb582));have n4_:=aM ((by rw[hg];exact(Zc zz103):w.heap.size≤gb582));have n5_:=aM ((by rw[hg];exact Nat.ne_of_lt (Zw (g:=gb573) (o:= .cells #[.int .i64 a0_0,.slice A0_1 l0_1.length c0_1] 46 (0,0)) (zB BK573)):gb573≠gb582));have n6_:=aM ((by rw[hg];exact Nat.ne_of_gt (Zw (g:=gb573) (o:= .cells #[.int .i64 a0_0,.slice A0_1 l0_1.length c0_1] 46 (0,0)) (zB BK573)):gb582≠gb573));clear BK573;clear HB;have BK573:=n0_;have HB:=n1_;have BK582:=n2_;have GW582:=n3_;have GE582:=n4_;have NB573_582:=n5_;have NB582_573:=n6_;clear n0_ n1_ n2_ n3_ n4_ n5_ n6_;clear hb hbox hg
      refine hK.out _ _ ⟨(Zb BK573.out 0).trans rfl,(Zb BK573.out 1).trans rfl⟩ (fun hHeld=> ?_);clear hK K
      refine ZS (a':= ?_) ?_ ?_;rotate_left
      ·show Act.put _ (some 3) _=_
       simp only[Act.put,sA,sB,sC,Zt,Zu];rfl
      refine one_ (i:=3) (N:=some 17) #[true,true,true,true,false,false,false,false,true,false,false] rfl rfl (ZZ HT_.out (by kernel_rfl)) (by decide) (fun K hK=> ?_)
      refine Yh Try.func45 (by kernel_rfl) rfl #[.agg #[.int .i64 a0_0,.slice A0_1 l0_1.length c0_1]] (by rfl) rfl rfl zz127 ?_;with_reducible refine(r30_Gens.calls kj1 a0_0 (fun k_=>k_<w.heap.size) _ _ l0_1 t574 _ ?side1 A8.out).mono ?_
      (case side1=>exact Kd.V_mk HC0_1.out (Kd.F_below (Kd.C_F k74_heap HR0_1.out) zz79))
      rintro e w28 ⟨v575,rfl,ho0,hb⟩
      refine⟨_,rfl,?_⟩;have n0_:=aM (Kd.N_lower (Kd.N_mono (ok':=fun k_=>k_≠gb573∧k_≠gb582) ho0 (fun k_ hk_=>⟨Or.elim hk_ (fun hs_=>fun e_=>Nat.not_le.2 hs_ zz162) (fun hn_=>(Kd.freshB (g:=gb573) (o:= .cells #[.int .i64 a0_0,.slice A0_1 l0_1.length c0_1] 46 (0,0)) (zB BK573) k_ hn_)),Or.elim hk_ (fun hs_=>fun e_=>Nat.not_le.2 hs_ (by rw[e_];exact GW582.out)) (fun hn_=>(Kd.freshB (g:=gb582) (o:= .cells #[.int .i64 0,.slice none 0 0] 46 (0,0)) (zB BK582) k_ hn_))⟩)) (Zc zz79));have n1_:=aM (Zg (g:=gb573) (o:= .cells #[.int .i64 a0_0,.slice A0_1 l0_1.length c0_1] 46 (0,0)) (zB BK573) hb);have n2_:=aM (Zg (g:=gb582) (o:= .cells #[.int .i64 0,.slice none 0 0] 46 (0,0)) (zB BK582) hb);have n3_:=aM (Ze zz79 hb);clear BK573;clear BK582;clear HB;have HO576:=n0_;have BK573:=n1_;have BK582:=n2_;have HB:=n3_;clear n0_ n1_ n2_ n3_;(try clear hb);(try clear hb2);(try clear hk);(try clear hi);(try clear ho0);obtain⟨Ao29,co29,eo29⟩:=Kd.N_slice HO576.out
      (first|subst eo29|(injection eo29 with f1_ f2_ f3_;have f4_:=f1_.symm;have f5_:=f3_.symm;clear f1_ f2_ f3_;subst f4_;subst f5_))
      refine hK.out _ _ ⟨(Zb BK573.out 0).trans rfl,(Zb BK573.out 1).trans rfl⟩ (fun hHeld=> ?_);clear hK K
      refine ZS (a':= ?_) ?_ ?_;rotate_left
      ·show Act.put _ (some 17) _=_
       simp only[Act.put,sA,sB,sC,Zt,Zu];rfl
      refine one_ (i:=4) (N:=some 18) #[true,true,true,true,true,false,false,false,true,false,false] rfl rfl (ZZ HT_.out (by kernel_rfl)) (by decide) (fun K hK=> ?_)
      refine Yh Try.func31 (by kernel_rfl) rfl #[.int .i64 a0_0,.slice Ao29 t574.length co29] (by rfl) rfl rfl zz127 ?_;with_reducible refine(r30_Build.calls kj1 a0_0 _ _ t574 t577 t578 t581 _ ?side1 ?side2 A9.out).mono ?_
      (case side1=>exact zC ((Kd.N_reads' HO576.out).2.2))
      (case side2=>exact(Kd.N_reads' HO576.out).2.1)
      rintro e w30 ⟨v579,rfl,ho0,hb⟩
      refine⟨_,rfl,?_⟩;have n0_:=aM (Kd.N_elder' (zN HO576) (Kd.N_base ho0) hb);have n1_:=aM (Kd.N_lower (Kd.N_mono (ok':=fun k_=>some k_≠(.slice Ao29 t574.length co29:Value).ownBlock∧k_≠gb573∧k_≠gb582) ho0 (fun k_ hk_=>⟨(Kd.fresh' (Kd.N_lt (zN HO576)) k_ hk_),(Kd.freshB (g:=gb573) (o:= .cells #[.int .i64 a0_0,.slice A0_1 l0_1.length c0_1] 46 (0,0)) (zB BK573) k_ hk_),(Kd.freshB (g:=gb582) (o:= .cells #[.int .i64 0,.slice none 0 0] 46 (0,0)) (zB BK582) k_ hk_)⟩)) (Zc zz79));have n2_:=aM (Zg (g:=gb573) (o:= .cells #[.int .i64 a0_0,.slice A0_1 l0_1.length c0_1] 46 (0,0)) (zB BK573) hb);have n3_:=aM (Zg (g:=gb582) (o:= .cells #[.int .i64 0,.slice none 0 0] 46 (0,0)) (zB BK582) hb);have n4_:=aM (Ze zz79 hb);clear HO576;clear BK573;clear BK582;clear HB;have HO576:=n0_;have HO580:=n1_;have BK573:=n2_;have BK582:=n3_;have HB:=n4_;clear n0_ n1_ n2_ n3_ n4_;(try clear hb);(try clear hb2);(try clear hk);(try clear hi);(try clear ho0)
      refine hK.out _ _ ⟨(Zb BK573.out 0).trans rfl,(Zb BK573.out 1).trans rfl⟩ (fun hHeld=> ?_);clear hK K
      refine ZS (a':= ?_) ?_ ?_;rotate_left
      ·show Act.put _ (some 18) _=_
       simp only[Act.put,sA,sB,sC,Zt,Zu];rfl
      refine ZC (i:=5) (N:=some 13) (v:= ?_) (a':= ?_) #[true,true,true,true,true,true,false,false,true,false,false] rfl rfl (Zy HT_.out (by kernel_rfl)) (fun _ _ _ h=>h) (Or.inl ⟨by rfl,?_⟩) ?_ ?_;rotate_left
      ·intro w';go_simp;with_reducible rfl
      rotate_left
      ·simp only[Act.put,sA,sB,sC,Zt,Zu];rfl
      refine ZC (i:=6) (N:=some 19) (v:= ?_) (a':= ?_) #[true,true,true,true,true,true,true,false,true,false,false] rfl rfl (Zy HT_.out (by kernel_rfl)) (fun _ _ _ h=>h) (Or.inl ⟨by rfl,?_⟩) ?_ ?_;rotate_left
      ·intro w';go_simp;with_reducible rfl
      rotate_left
      ·simp only[Act.put,sA,sB,sC,Zt,Zu];rfl
      refine ZC (i:=7) (N:=some 20) (v:= ?_) (a':= ?_) #[true,true,true,true,true,true,true,true,true,false,false] rfl rfl (Zy HT_.out (by kernel_rfl)) (fun _ _ _ h=>h) (Or.inl ⟨by rfl,?_⟩) ?_ ?_;rotate_left
      ·intro w';go_simp;with_reducible rfl
      rotate_left
      ·simp only[Act.put,sA,sB,sC,Zt,Zu];rfl
      exact ZS zz139 (hCont (.slice Ao29 t574.length co29,v579,gb582) _ ⟨hHeld,zz114,(zN HO580),(zB BK573),(zB BK582),GW582.out,GE582.out,NB573_582.out,NB582_573.out,zz79⟩)
    rintro ⟨v575,v579,gb582⟩ w31 ⟨hS_,h0_,h1_,h2_,h3_,h4_,h5_,h6_,h7_,h8_⟩;have n0_:Aside0 (Kd.N (Kd.slice 3 (Kd.int .i64)) 22 w31 w.heap.size (fun k_=>some k_≠(v579:Value).ownBlock∧k_≠gb573∧k_≠gb582) v575 t574):=⟨h0_⟩;have n1_:Aside0 (Kd.N k74 74 w31 w.heap.size (fun k_=>some k_≠(v575:Value).ownBlock∧k_≠gb573∧k_≠gb582) v579 t578):=⟨h1_⟩;have n2_:Aside0 (w31.heap[gb573]? =some (.cells #[.int .i64 a0_0,.slice A0_1 l0_1.length c0_1] 46 (0,0))):=⟨h2_⟩;have n3_:Aside0 (w31.heap[gb582]? =some (.cells #[.int .i64 0,.slice none 0 0] 46 (0,0))):=⟨h3_⟩;have n4_:Aside0 (w.heap.size≤gb582):=⟨h4_⟩;have n5_:Aside0 (w.heap.size≤gb582):=⟨h5_⟩;have n6_:Aside0 (gb573≠gb582):=⟨h6_⟩;have n7_:Aside0 (gb582≠gb573):=⟨h7_⟩;have n8_:Aside0 (Below w.heap.size w w31):=⟨h8_⟩;clear BK573;clear HB;clear h0_ h1_ h2_ h3_ h4_ h5_ h6_ h7_ h8_;have HO576:=n0_;have HO580:=n1_;have BK573:=n2_;have BK582:=n3_;have GW582:=n4_;have GE582:=n5_;have NB573_582:=n6_;have NB582_573:=n7_;have HB:=n8_;clear n0_ n1_ n2_ n3_ n4_ n5_ n6_ n7_ n8_;have hHeld:w31.cell? ⟨gb573,0,none⟩=some (.int .i64 a0_0)∧w31.cell? ⟨gb573,1,none⟩=some (.slice A0_1 l0_1.length c0_1):=hS_;obtain⟨Ao33,co33,eo33⟩:=Kd.N_slice HO580.out
    (first|subst eo33|(injection eo33 with f1_ f2_ f3_;have f4_:=f1_.symm;have f5_:=f3_.symm;clear f1_ f2_ f3_;subst f4_;subst f5_))
    refine ZS (a':= ?_) ?_ ?_;rotate_left
    ·simp only[putAll,Act.put,sA,sB,sC];rfl
    refine one_ (i:=9) (N:=none) #[true,true,true,true,true,true,true,true,true,true,false] rfl rfl (ZZ HT_.out (by kernel_rfl)) (by decide) (fun K hK=> ?_);have hs32:w31.cell? ⟨gb582,0,none⟩=some (.int .i64 0):=(Zb BK582.out 0).trans rfl;have hfs32:=Za BK582.out 0;have hns32_0:=NB573_582.out;have hms32_0:=NB582_573.out;have hs34:w31.cell? ⟨gb582,1,none⟩=some (.slice none 0 0):=(Zb BK582.out 1).trans rfl;have hfs34:=Za BK582.out 1;have hns34_0:=NB573_582.out;have hms34_0:=NB582_573.out
    refine skip_ (w1:= ?_) (by rfl) rfl ?_ ?_;rotate_left
    ·go_simp;rfl
    refine hK.out _ _ ⟨((cell_far (p:=⟨gb582,_,none⟩) NB573_582.out _).trans (((cell_far (p:=⟨gb582,_,none⟩) NB573_582.out _).trans (hHeld.1)))),((cell_far (p:=⟨gb582,_,none⟩) NB573_582.out _).trans (((cell_far (p:=⟨gb582,_,none⟩) NB573_582.out _).trans (hHeld.2))))⟩ (fun hHeld=> ?_);clear hK K
    refine ZC (i:=10) (N:=some 4) (v:= ?_) (a':= ?_) #[true,true,true,true,true,true,true,true,true,true,true] rfl rfl (Zy HT_.out (by kernel_rfl)) (fun _ _ _ h=>h) (Or.inl ⟨by rfl,?_⟩) ?_ ?_;rotate_left
    ·intro w';go_simp;with_reducible rfl
    rotate_left
    ·simp only[Act.put,sA,sB,sC,Zt,Zu];rfl
    refine done_ (done_of HT_.out (by kernel_rfl)) ?_;have hnb35:=NB573_582.out;have hnc35:=NB582_573.out;have hcz36_0:w31.cell? ⟨gb573,0,none⟩=some (.int .i64 a0_0):=(Zb BK573.out 0).trans rfl;have hcz36_1:w31.cell? ⟨gb573,1,none⟩=some (.slice A0_1 l0_1.length c0_1):=(Zb BK573.out 1).trans rfl;have hfz36_0:=Za BK573.out 0;have hfz36_1:=Za BK573.out 1;have hcz37_0:w31.cell? ⟨gb582,0,none⟩=some (.int .i64 0):=(Zb BK582.out 0).trans rfl;have hcz37_1:w31.cell? ⟨gb582,1,none⟩=some (.slice none 0 0):=(Zb BK582.out 1).trans rfl;have hfz37_0:=Za BK582.out 0;have hfz37_1:=Za BK582.out 1
    try go_wp2_with (first|(go_at_call 32;(with_reducible refine(r30_Same.calls kj1 a0_0 _ _ l0_1 t577 _ _ t578 false _ ?side1 ?side2 ?side3 ?side4 A11.out).mono ?_);(case side1=>exact Kd.C_below HR0_1.out zz79);(case side2=>exact HC0_1.out);(case side3=>refine(Kd.N_reads' (e:=74) (base:=w.heap.size) (ok:=fun k_=>(some k_≠(v575:Value).ownBlock∧(k_≠gb573∧k_≠gb582))) (n:=t578.length) (c:=co33) ?_).2.2;exact zz58);(case side4=>exact(Kd.N_reads' HO580.out).2.1);rintro e w38 ⟨rfl,hb⟩;replace HO576:=aM (Kd.N_below (by(with_reducible repeat(first|apply Kd.N_alloc|apply Kd.N_drewN|apply Kd.N_drew));exact(Kd.N_mono (Kd.N_far (p:=⟨gb582,1,none⟩) (Kd.N_far (p:=⟨gb582,0,none⟩) (Kd.N_mono HO576.out (fun k_ hk=>(⟨hk,hk.2.2⟩:_∧k_≠gb582))) (fun _ hk=>hk.2) (.int .i64 t577)) (fun _ hk=>hk.2) (.slice Ao33 t578.length co33)) (fun _ h_=>h_.1))) hb);replace HO580:=aM (Kd.N_below zz58 hb);replace BK573:=aM (Zg (g:=gb573) (o:= .cells #[.int .i64 a0_0,.slice A0_1 l0_1.length c0_1] 46 (0,0)) zz56 hb);replace BK582:=aM (Zg (g:=gb582) (o:= .cells #[.int .i64 t577,.slice Ao33 t578.length co33] 46 (0,0)) zz54 hb);replace HB:=aM (Ze zz79 hb);(try clear hb);(try clear hb2);(try clear hk);(try clear hi)))
    go_ret
    exact⟨by first|rfl|(simp[Zj,Zi]<;>rfl)|(simp[*,Zj,Zi]<;>rfl),by repeat(first|(with_reducible first|exact HB.out|apply Zn|apply Zf|apply Zh|refine Zk ?_ GE573.out|refine Zk ?_ GE582.out)|exact HB.out)⟩
   rw[if_neg c10] at H;have c10b0:=beq_eq_false_iff_ne.mpr c10;have c10b1:=bne_iff_ne.mpr c10;obtain rfl:=oI H
   try go_wp2
   have n0_:=aM (Zo BK573.out);have n1_:=aM (Zh HB.out);clear BK573;clear HB;have BK573:=n0_;have HB:=n1_;clear n0_ n1_
   refine start_ (n:=11) (S:=fun w'=>w'.cell? ⟨gb573,0,none⟩=some (.int .i64 a0_0)∧w'.cell? ⟨gb573,1,none⟩=some (.slice A0_1 l0_1.length c0_1)) (ds:= []) #[false,false,false,false,false,false,false,false,false,false,false] (by kernel_rfl) rfl rfl ⟨(Zb BK573.out 0).trans rfl,(Zb BK573.out 1).trans rfl⟩ (fun hHeld=> ?_);refine Z6 r30_CheckChain.tab3 r30_CheckChain.bits3 (fun HT_ HW_=> ?_);generalize wc.drew=w39 at BK573 HB hHeld⊢
   refine ZC (i:=0) (N:=some 14) (v:= ?_) (a':= ?_) #[true,false,false,false,false,false,false,false,false,false,false] rfl rfl (Zy HT_.out (by kernel_rfl)) (fun _ _ _ h=>h) (Or.inl ⟨by rfl,?_⟩) ?_ ?_;rotate_left
   ·intro w';go_simp;with_reducible rfl
   rotate_left
   ·simp only[Act.put,sA,sB,sC,Zt,Zu];rfl
   refine Yc (i:=1) (N:=some 15) (v:= ?_) (a':= ?_) #[true,true,false,false,false,false,false,false,false,false,false] rfl rfl (ZW HT_.out HW_.out (by kernel_rfl)) (fun _ _ _ h=>h) (Or.inl ⟨by rfl,?_⟩) hHeld ?_ ?_;rotate_left
   ·rintro w' ⟨s0,s1⟩;go_simp;with_reducible rfl
   rotate_left
   ·simp only[Act.put,sA,sB,sC,Zt,Zu];rfl
   refine Yc (i:=2) (N:=some 16) (v:= ?_) (a':= ?_) #[true,true,true,false,false,false,false,false,false,false,false] rfl rfl (ZW HT_.out HW_.out (by kernel_rfl)) (fun _ _ _ h=>h) (Or.inl ⟨by rfl,?_⟩) hHeld ?_ ?_;rotate_left
   ·rintro w' ⟨s0,s1⟩;go_simp;with_reducible rfl
   rotate_left
   ·simp only[Act.put,sA,sB,sC,Zt,Zu];rfl
   refine join_ (σ:=Value×Value×Nat) 2 #[true,true,true,true,true,true,true,true,true,false,false] (fun s_=> [(17,s_.1),(18,.tuple #[.agg #[.int .i64 t577,s_.2.1],.int .i64 t581]),(3,.pointer (some ⟨s_.2.2,0,none⟩)),(13,.tuple #[.agg #[.int .i64 t577,s_.2.1],.int .i64 t581]),(19,.agg #[.int .i64 t577,s_.2.1]),(20,.int .i64 t581)]) (fun s_ w'=>(w'.cell? ⟨gb573,0,none⟩=some (.int .i64 a0_0)∧w'.cell? ⟨gb573,1,none⟩=some (.slice A0_1 l0_1.length c0_1))∧(Kd.N (Kd.slice 3 (Kd.int .i64)) 22 w' w.heap.size (fun k_=>some k_≠(s_.2.1:Value).ownBlock∧k_≠gb573∧k_≠s_.2.2) s_.1 t574)∧(Kd.N k74 74 w' w.heap.size (fun k_=>some k_≠(s_.1:Value).ownBlock∧k_≠gb573∧k_≠s_.2.2) s_.2.1 t578)∧(w'.heap[gb573]? =some (.cells #[.int .i64 a0_0,.slice A0_1 l0_1.length c0_1] 46 (0,0)))∧(w'.heap[s_.2.2]? =some (.cells #[.int .i64 0,.slice none 0 0] 46 (0,0)))∧(w.heap.size≤s_.2.2)∧(w.heap.size≤s_.2.2)∧(gb573≠s_.2.2)∧(s_.2.2≠gb573)∧(Below w.heap.size w w')) ?_ ?_;rotate_left
   ·intro hCont
    refine two_ (i:=3) (j:=8) (Ni:=some 17) (Nj:=some 3) #[true,true,true,true,false,false,false,false,false,false,false] #[true,true,true,false,false,false,false,false,true,false,false] rfl rfl rfl rfl (two_of HT_.out (by kernel_rfl)) (by decide) (by decide) (fun K hK=> ?_) (fun K hK=> ?_)
    ·skip
     refine Yh Try.func45 (by kernel_rfl) rfl #[.agg #[.int .i64 a0_0,.slice A0_1 l0_1.length c0_1]] (by rfl) rfl rfl zz127 ?_;with_reducible refine(r30_Gens.calls kj1 a0_0 (fun k_=>k_<w.heap.size) _ _ l0_1 t574 _ ?side1 A8.out).mono ?_
     (case side1=>exact Kd.V_mk HC0_1.out (Kd.F_below (Kd.C_F k74_heap HR0_1.out) zz103))
     rintro e w40 ⟨v575,rfl,ho0,hb⟩
     refine⟨_,rfl,?_⟩;have n0_:=aM (Kd.N_lower (Kd.N_mono (ok':=fun k_=>k_≠gb573) ho0 (fun k_ hk_=>Or.elim hk_ (fun hs_=>fun e_=>Nat.not_le.2 hs_ zz162) (fun hn_=>(Kd.freshB (g:=gb573) (o:= .cells #[.int .i64 a0_0,.slice A0_1 l0_1.length c0_1] 46 (0,0)) (zB BK573) k_ hn_)))) (Zc zz103));have n1_:=aM (Zg (g:=gb573) (o:= .cells #[.int .i64 a0_0,.slice A0_1 l0_1.length c0_1] 46 (0,0)) (zB BK573) hb);have n2_:=aM (Ze zz103 hb);clear BK573;clear HB;have HO576:=n0_;have BK573:=n1_;have HB:=n2_;clear n0_ n1_ n2_;(try clear hb);(try clear hb2);(try clear hk);(try clear hi);(try clear ho0);obtain⟨Ao41,co41,eo41⟩:=Kd.N_slice HO576.out
     (first|subst eo41|(injection eo41 with f1_ f2_ f3_;have f4_:=f1_.symm;have f5_:=f3_.symm;clear f1_ f2_ f3_;subst f4_;subst f5_))
     refine hK.out _ _ ⟨(Zb BK573.out 0).trans rfl,(Zb BK573.out 1).trans rfl⟩ (fun hHeld=> ?_);clear hK K
     refine ZS (a':= ?_) ?_ ?_;rotate_left
     ·show Act.put _ (some 17) _=_
      simp only[Act.put,sA,sB,sC,Zt,Zu];rfl
     refine two_ (i:=4) (j:=8) (Ni:=some 18) (Nj:=some 3) #[true,true,true,true,true,false,false,false,false,false,false] #[true,true,true,true,false,false,false,false,true,false,false] rfl rfl rfl rfl (two_of HT_.out (by kernel_rfl)) (by decide) (by decide) (fun K hK=> ?_) (fun K hK=> ?_)
     ·skip
      refine Yh Try.func31 (by kernel_rfl) rfl #[.int .i64 a0_0,.slice Ao41 t574.length co41] (by rfl) rfl rfl zz127 ?_;with_reducible refine(r30_Build.calls kj1 a0_0 _ _ t574 t577 t578 t581 _ ?side1 ?side2 A9.out).mono ?_
      (case side1=>exact zC ((Kd.N_reads' HO576.out).2.2))
      (case side2=>exact(Kd.N_reads' HO576.out).2.1)
      rintro e w42 ⟨v579,rfl,ho0,hb⟩
      refine⟨_,rfl,?_⟩;have n0_:=aM (Kd.N_elder' (zN HO576) (Kd.N_base ho0) hb);have n1_:=aM (Kd.N_lower (Kd.N_mono (ok':=fun k_=>some k_≠(.slice Ao41 t574.length co41:Value).ownBlock∧k_≠gb573) ho0 (fun k_ hk_=>⟨(Kd.fresh' (Kd.N_lt (zN HO576)) k_ hk_),(Kd.freshB (g:=gb573) (o:= .cells #[.int .i64 a0_0,.slice A0_1 l0_1.length c0_1] 46 (0,0)) (zB BK573) k_ hk_)⟩)) (Zc zz103));have n2_:=aM (Zg (g:=gb573) (o:= .cells #[.int .i64 a0_0,.slice A0_1 l0_1.length c0_1] 46 (0,0)) (zB BK573) hb);have n3_:=aM (Ze zz103 hb);clear HO576;clear BK573;clear HB;have HO576:=n0_;have HO580:=n1_;have BK573:=n2_;have HB:=n3_;clear n0_ n1_ n2_ n3_;(try clear hb);(try clear hb2);(try clear hk);(try clear hi);(try clear ho0)
      refine hK.out _ _ ⟨(Zb BK573.out 0).trans rfl,(Zb BK573.out 1).trans rfl⟩ (fun hHeld=> ?_);clear hK K
      refine ZS (a':= ?_) ?_ ?_;rotate_left
      ·show Act.put _ (some 18) _=_
       simp only[Act.put,sA,sB,sC,Zt,Zu];rfl
      refine ZC (i:=5) (N:=some 13) (v:= ?_) (a':= ?_) #[true,true,true,true,true,true,false,false,false,false,false] rfl rfl (Zy HT_.out (by kernel_rfl)) (fun _ _ _ h=>h) (Or.inl ⟨by rfl,?_⟩) ?_ ?_;rotate_left
      ·intro w';go_simp;with_reducible rfl
      rotate_left
      ·simp only[Act.put,sA,sB,sC,Zt,Zu];rfl
      refine ZC (i:=6) (N:=some 19) (v:= ?_) (a':= ?_) #[true,true,true,true,true,true,true,false,false,false,false] rfl rfl (Zy HT_.out (by kernel_rfl)) (fun _ _ _ h=>h) (Or.inl ⟨by rfl,?_⟩) ?_ ?_;rotate_left
      ·intro w';go_simp;with_reducible rfl
      rotate_left
      ·simp only[Act.put,sA,sB,sC,Zt,Zu];rfl
      refine ZC (i:=7) (N:=some 20) (v:= ?_) (a':= ?_) #[true,true,true,true,true,true,true,true,false,false,false] rfl rfl (Zy HT_.out (by kernel_rfl)) (fun _ _ _ h=>h) (Or.inl ⟨by rfl,?_⟩) ?_ ?_;rotate_left
      ·intro w';go_simp;with_reducible rfl
      rotate_left
      ·simp only[Act.put,sA,sB,sC,Zt,Zu];rfl
      refine one_ (i:=8) (N:=some 3) #[true,true,true,true,true,true,true,true,true,false,false] rfl rfl (ZZ HT_.out (by kernel_rfl)) (by decide) (fun K hK=> ?_)
      refine Z7 ?hg (N:=3) ?hd (cs:= #[.int .i64 0,.slice none 0 0]) (t:=46) ?hr ?_;(case hd=>rfl);(case hg=>rfl);(case hr=>first|(go_simp;done)|(go_simp;rfl));intro gb582 hg w43 hbox hb;have n0_:=aM (Kd.N_below (Kd.N_elderB (zN HO576) gb582 (Nat.le_of_eq hg.symm)) hb);have n1_:=aM (Kd.N_below (Kd.N_elderB (zN HO580) gb582 (Nat.le_of_eq hg.symm)) hb);have n2_:=aM (Zg (g:=gb573) (o:= .cells #[.int .i64 a0_0,.slice A0_1 l0_1.length c0_1] 46 (0,0)) (zB BK573) hb);have n3_:=aM (Ze zz103 hb);have n4_:=aM (hbox);have n5_:=aM ((by rw[hg];exact(Zc zz103):w.heap.size≤gb582));have n6_:=aM ((by rw[hg];exact(Zc zz103):w.heap.size≤gb582));have n7_:=aM ((by rw[hg];exact Nat.ne_of_lt (Zw (g:=gb573) (o:= .cells #[.int .i64 a0_0,.slice A0_1 l0_1.length c0_1] 46 (0,0)) (zB BK573)):gb573≠gb582));have n8_:=aM ((by rw[hg];exact Nat.ne_of_gt (Zw (g:=gb573) (o:= .cells #[.int .i64 a0_0,.slice A0_1 l0_1.length c0_1] 46 (0,0)) (zB BK573)):gb582≠gb573));clear HO576;clear HO580;clear BK573;clear HB;have HO576:=n0_;have HO580:=n1_;have BK573:=n2_;have HB:=n3_;have BK582:=n4_;have GW582:=n5_;have GE582:=n6_;have NB573_582:=n7_;have NB582_573:=n8_;clear n0_ n1_ n2_ n3_ n4_ n5_ n6_ n7_ n8_;clear hb hbox hg
      refine hK.out _ _ ⟨(Zb BK573.out 0).trans rfl,(Zb BK573.out 1).trans rfl⟩ (fun hHeld=> ?_);clear hK K
      refine ZS (a':= ?_) ?_ ?_;rotate_left
      ·show Act.put _ (some 3) _=_
       simp only[Act.put,sA,sB,sC,Zt,Zu];rfl
      exact ZS zz139 (hCont (.slice Ao41 t574.length co41,v579,gb582) _ ⟨hHeld,zz112,zz113,(zB BK573),(zB BK582),GW582.out,GE582.out,NB573_582.out,NB582_573.out,zz79⟩)
     ·skip
      refine Z7 ?hg (N:=3) ?hd (cs:= #[.int .i64 0,.slice none 0 0]) (t:=46) ?hr ?_;(case hd=>rfl);(case hg=>rfl);(case hr=>first|(go_simp;done)|(go_simp;rfl));intro gb582 hg w41 hbox hb;have n0_:=aM (Kd.N_below (Kd.N_elderB (zN HO576) gb582 (Nat.le_of_eq hg.symm)) hb);have n1_:=aM (Zg (g:=gb573) (o:= .cells #[.int .i64 a0_0,.slice A0_1 l0_1.length c0_1] 46 (0,0)) (zB BK573) hb);have n2_:=aM (Ze zz103 hb);have n3_:=aM (hbox);have n4_:=aM ((by rw[hg];exact(Zc zz103):w.heap.size≤gb582));have n5_:=aM ((by rw[hg];exact(Zc zz103):w.heap.size≤gb582));have n6_:=aM ((by rw[hg];exact Nat.ne_of_lt (Zw (g:=gb573) (o:= .cells #[.int .i64 a0_0,.slice A0_1 l0_1.length c0_1] 46 (0,0)) (zB BK573)):gb573≠gb582));have n7_:=aM ((by rw[hg];exact Nat.ne_of_gt (Zw (g:=gb573) (o:= .cells #[.int .i64 a0_0,.slice A0_1 l0_1.length c0_1] 46 (0,0)) (zB BK573)):gb582≠gb573));clear HO576;clear BK573;clear HB;have HO576:=n0_;have BK573:=n1_;have HB:=n2_;have BK582:=n3_;have GW582:=n4_;have GE582:=n5_;have NB573_582:=n6_;have NB582_573:=n7_;clear n0_ n1_ n2_ n3_ n4_ n5_ n6_ n7_;clear hb hbox hg;obtain⟨Ao42,co42,eo42⟩:=Kd.N_slice HO576.out
      (first|subst eo42|(injection eo42 with f1_ f2_ f3_;have f4_:=f1_.symm;have f5_:=f3_.symm;clear f1_ f2_ f3_;subst f4_;subst f5_))
      refine hK.out _ _ ⟨(Zb BK573.out 0).trans rfl,(Zb BK573.out 1).trans rfl⟩ (fun hHeld=> ?_);clear hK K
      refine ZS (a':= ?_) ?_ ?_;rotate_left
      ·show Act.put _ (some 3) _=_
       simp only[Act.put,sA,sB,sC,Zt,Zu];rfl
      refine one_ (i:=4) (N:=some 18) #[true,true,true,true,true,false,false,false,true,false,false] rfl rfl (ZZ HT_.out (by kernel_rfl)) (by decide) (fun K hK=> ?_)
      refine Yh Try.func31 (by kernel_rfl) rfl #[.int .i64 a0_0,.slice Ao42 t574.length co42] (by rfl) rfl rfl zz127 ?_;with_reducible refine(r30_Build.calls kj1 a0_0 _ _ t574 t577 t578 t581 _ ?side1 ?side2 A9.out).mono ?_
      (case side1=>exact zC ((Kd.N_reads' HO576.out).2.2))
      (case side2=>exact(Kd.N_reads' HO576.out).2.1)
      rintro e w43 ⟨v579,rfl,ho0,hb⟩
      refine⟨_,rfl,?_⟩;have n0_:=aM (Kd.N_elder' (zN HO576) (Kd.N_base ho0) hb);have n1_:=aM (Kd.N_lower (Kd.N_mono (ok':=fun k_=>some k_≠(.slice Ao42 t574.length co42:Value).ownBlock∧k_≠gb573∧k_≠gb582) ho0 (fun k_ hk_=>⟨(Kd.fresh' (Kd.N_lt (zN HO576)) k_ hk_),(Kd.freshB (g:=gb573) (o:= .cells #[.int .i64 a0_0,.slice A0_1 l0_1.length c0_1] 46 (0,0)) (zB BK573) k_ hk_),(Kd.freshB (g:=gb582) (o:= .cells #[.int .i64 0,.slice none 0 0] 46 (0,0)) (zB BK582) k_ hk_)⟩)) (Zc zz79));have n2_:=aM (Zg (g:=gb573) (o:= .cells #[.int .i64 a0_0,.slice A0_1 l0_1.length c0_1] 46 (0,0)) (zB BK573) hb);have n3_:=aM (Zg (g:=gb582) (o:= .cells #[.int .i64 0,.slice none 0 0] 46 (0,0)) (zB BK582) hb);have n4_:=aM (Ze zz79 hb);clear HO576;clear BK573;clear BK582;clear HB;have HO576:=n0_;have HO580:=n1_;have BK573:=n2_;have BK582:=n3_;have HB:=n4_;clear n0_ n1_ n2_ n3_ n4_;(try clear hb);(try clear hb2);(try clear hk);(try clear hi);(try clear ho0)
      refine hK.out _ _ ⟨(Zb BK573.out 0).trans rfl,(Zb BK573.out 1).trans rfl⟩ (fun hHeld=> ?_);clear hK K
      refine ZS (a':= ?_) ?_ ?_;rotate_left
      ·show Act.put _ (some 18) _=_
       simp only[Act.put,sA,sB,sC,Zt,Zu];rfl
      refine ZC (i:=5) (N:=some 13) (v:= ?_) (a':= ?_) #[true,true,true,true,true,true,false,false,true,false,false] rfl rfl (Zy HT_.out (by kernel_rfl)) (fun _ _ _ h=>h) (Or.inl ⟨by rfl,?_⟩) ?_ ?_;rotate_left
      ·intro w';go_simp;with_reducible rfl
      rotate_left
      ·simp only[Act.put,sA,sB,sC,Zt,Zu];rfl
      refine ZC (i:=6) (N:=some 19) (v:= ?_) (a':= ?_) #[true,true,true,true,true,true,true,false,true,false,false] rfl rfl (Zy HT_.out (by kernel_rfl)) (fun _ _ _ h=>h) (Or.inl ⟨by rfl,?_⟩) ?_ ?_;rotate_left
      ·intro w';go_simp;with_reducible rfl
      rotate_left
      ·simp only[Act.put,sA,sB,sC,Zt,Zu];rfl
      refine ZC (i:=7) (N:=some 20) (v:= ?_) (a':= ?_) #[true,true,true,true,true,true,true,true,true,false,false] rfl rfl (Zy HT_.out (by kernel_rfl)) (fun _ _ _ h=>h) (Or.inl ⟨by rfl,?_⟩) ?_ ?_;rotate_left
      ·intro w';go_simp;with_reducible rfl
      rotate_left
      ·simp only[Act.put,sA,sB,sC,Zt,Zu];rfl
      exact ZS zz139 (hCont (.slice Ao42 t574.length co42,v579,gb582) _ ⟨hHeld,zz114,(zN HO580),(zB BK573),(zB BK582),GW582.out,GE582.out,NB573_582.out,NB582_573.out,zz79⟩)
    ·skip
     refine Z7 ?hg (N:=3) ?hd (cs:= #[.int .i64 0,.slice none 0 0]) (t:=46) ?hr ?_;(case hd=>rfl);(case hg=>rfl);(case hr=>first|(go_simp;done)|(go_simp;rfl));intro gb582 hg w40 hbox hb;have n0_:=aM (Zg (g:=gb573) (o:= .cells #[.int .i64 a0_0,.slice A0_1 l0_1.length c0_1] 46 (0,0)) (zB BK573) hb);have n1_:=aM (Ze zz103 hb);have n2_:=aM (hbox);have n3_:=aM ((by rw[hg];exact(Zc zz103):w.heap.size≤gb582));have n4_:=aM ((by rw[hg];exact(Zc zz103):w.heap.size≤gb582));have n5_:=aM ((by rw[hg];exact Nat.ne_of_lt (Zw (g:=gb573) (o:= .cells #[.int .i64 a0_0,.slice A0_1 l0_1.length c0_1] 46 (0,0)) (zB BK573)):gb573≠gb582));have n6_:=aM ((by rw[hg];exact Nat.ne_of_gt (Zw (g:=gb573) (o:= .cells #[.int .i64 a0_0,.slice A0_1 l0_1.length c0_1] 46 (0,0)) (zB BK573)):gb582≠gb573));clear BK573;clear HB;have BK573:=n0_;have HB:=n1_;have BK582:=n2_;have GW582:=n3_;have GE582:=n4_;have NB573_582:=n5_;have NB582_573:=n6_;clear n0_ n1_ n2_ n3_ n4_ n5_ n6_;clear hb hbox hg
     refine hK.out _ _ ⟨(Zb BK573.out 0).trans rfl,(Zb BK573.out 1).trans rfl⟩ (fun hHeld=> ?_);clear hK K
     refine ZS (a':= ?_) ?_ ?_;rotate_left
     ·show Act.put _ (some 3) _=_
      simp only[Act.put,sA,sB,sC,Zt,Zu];rfl
     refine one_ (i:=3) (N:=some 17) #[true,true,true,true,false,false,false,false,true,false,false] rfl rfl (ZZ HT_.out (by kernel_rfl)) (by decide) (fun K hK=> ?_)
     refine Yh Try.func45 (by kernel_rfl) rfl #[.agg #[.int .i64 a0_0,.slice A0_1 l0_1.length c0_1]] (by rfl) rfl rfl zz127 ?_;with_reducible refine(r30_Gens.calls kj1 a0_0 (fun k_=>k_<w.heap.size) _ _ l0_1 t574 _ ?side1 A8.out).mono ?_
     (case side1=>exact Kd.V_mk HC0_1.out (Kd.F_below (Kd.C_F k74_heap HR0_1.out) zz79))
     rintro e w41 ⟨v575,rfl,ho0,hb⟩
     refine⟨_,rfl,?_⟩;have n0_:=aM (Kd.N_lower (Kd.N_mono (ok':=fun k_=>k_≠gb573∧k_≠gb582) ho0 (fun k_ hk_=>⟨Or.elim hk_ (fun hs_=>fun e_=>Nat.not_le.2 hs_ zz162) (fun hn_=>(Kd.freshB (g:=gb573) (o:= .cells #[.int .i64 a0_0,.slice A0_1 l0_1.length c0_1] 46 (0,0)) (zB BK573) k_ hn_)),Or.elim hk_ (fun hs_=>fun e_=>Nat.not_le.2 hs_ (by rw[e_];exact GW582.out)) (fun hn_=>(Kd.freshB (g:=gb582) (o:= .cells #[.int .i64 0,.slice none 0 0] 46 (0,0)) (zB BK582) k_ hn_))⟩)) (Zc zz79));have n1_:=aM (Zg (g:=gb573) (o:= .cells #[.int .i64 a0_0,.slice A0_1 l0_1.length c0_1] 46 (0,0)) (zB BK573) hb);have n2_:=aM (Zg (g:=gb582) (o:= .cells #[.int .i64 0,.slice none 0 0] 46 (0,0)) (zB BK582) hb);have n3_:=aM (Ze zz79 hb);clear BK573;clear BK582;clear HB;have HO576:=n0_;have BK573:=n1_;have BK582:=n2_;have HB:=n3_;clear n0_ n1_ n2_ n3_;(try clear hb);(try clear hb2);(try clear hk);(try clear hi);(try clear ho0);obtain⟨Ao42,co42,eo42⟩:=Kd.N_slice HO576.out
     (first|subst eo42|(injection eo42 with f1_ f2_ f3_;have f4_:=f1_.symm;have f5_:=f3_.symm;clear f1_ f2_ f3_;subst f4_;subst f5_))
     refine hK.out _ _ ⟨(Zb BK573.out 0).trans rfl,(Zb BK573.out 1).trans rfl⟩ (fun hHeld=> ?_);clear hK K
     refine ZS (a':= ?_) ?_ ?_;rotate_left
     ·show Act.put _ (some 17) _=_
      simp only[Act.put,sA,sB,sC,Zt,Zu];rfl
     refine one_ (i:=4) (N:=some 18) #[true,true,true,true,true,false,false,false,true,false,false] rfl rfl (ZZ HT_.out (by kernel_rfl)) (by decide) (fun K hK=> ?_)
     refine Yh Try.func31 (by kernel_rfl) rfl #[.int .i64 a0_0,.slice Ao42 t574.length co42] (by rfl) rfl rfl zz127 ?_;with_reducible refine(r30_Build.calls kj1 a0_0 _ _ t574 t577 t578 t581 _ ?side1 ?side2 A9.out).mono ?_
     (case side1=>exact zC ((Kd.N_reads' HO576.out).2.2))
     (case side2=>exact(Kd.N_reads' HO576.out).2.1)
     rintro e w43 ⟨v579,rfl,ho0,hb⟩
     refine⟨_,rfl,?_⟩;have n0_:=aM (Kd.N_elder' (zN HO576) (Kd.N_base ho0) hb);have n1_:=aM (Kd.N_lower (Kd.N_mono (ok':=fun k_=>some k_≠(.slice Ao42 t574.length co42:Value).ownBlock∧k_≠gb573∧k_≠gb582) ho0 (fun k_ hk_=>⟨(Kd.fresh' (Kd.N_lt (zN HO576)) k_ hk_),(Kd.freshB (g:=gb573) (o:= .cells #[.int .i64 a0_0,.slice A0_1 l0_1.length c0_1] 46 (0,0)) (zB BK573) k_ hk_),(Kd.freshB (g:=gb582) (o:= .cells #[.int .i64 0,.slice none 0 0] 46 (0,0)) (zB BK582) k_ hk_)⟩)) (Zc zz79));have n2_:=aM (Zg (g:=gb573) (o:= .cells #[.int .i64 a0_0,.slice A0_1 l0_1.length c0_1] 46 (0,0)) (zB BK573) hb);have n3_:=aM (Zg (g:=gb582) (o:= .cells #[.int .i64 0,.slice none 0 0] 46 (0,0)) (zB BK582) hb);have n4_:=aM (Ze zz79 hb);clear HO576;clear BK573;clear BK582;clear HB;have HO576:=n0_;have HO580:=n1_;have BK573:=n2_;have BK582:=n3_;have HB:=n4_;clear n0_ n1_ n2_ n3_ n4_;(try clear hb);(try clear hb2);(try clear hk);(try clear hi);(try clear ho0)
     refine hK.out _ _ ⟨(Zb BK573.out 0).trans rfl,(Zb BK573.out 1).trans rfl⟩ (fun hHeld=> ?_);clear hK K
     refine ZS (a':= ?_) ?_ ?_;rotate_left
     ·show Act.put _ (some 18) _=_
      simp only[Act.put,sA,sB,sC,Zt,Zu];rfl
     refine ZC (i:=5) (N:=some 13) (v:= ?_) (a':= ?_) #[true,true,true,true,true,true,false,false,true,false,false] rfl rfl (Zy HT_.out (by kernel_rfl)) (fun _ _ _ h=>h) (Or.inl ⟨by rfl,?_⟩) ?_ ?_;rotate_left
     ·intro w';go_simp;with_reducible rfl
     rotate_left
     ·simp only[Act.put,sA,sB,sC,Zt,Zu];rfl
     refine ZC (i:=6) (N:=some 19) (v:= ?_) (a':= ?_) #[true,true,true,true,true,true,true,false,true,false,false] rfl rfl (Zy HT_.out (by kernel_rfl)) (fun _ _ _ h=>h) (Or.inl ⟨by rfl,?_⟩) ?_ ?_;rotate_left
     ·intro w';go_simp;with_reducible rfl
     rotate_left
     ·simp only[Act.put,sA,sB,sC,Zt,Zu];rfl
     refine ZC (i:=7) (N:=some 20) (v:= ?_) (a':= ?_) #[true,true,true,true,true,true,true,true,true,false,false] rfl rfl (Zy HT_.out (by kernel_rfl)) (fun _ _ _ h=>h) (Or.inl ⟨by rfl,?_⟩) ?_ ?_;rotate_left
     ·intro w';go_simp;with_reducible rfl
     rotate_left
     ·simp only[Act.put,sA,sB,sC,Zt,Zu];rfl
     exact ZS zz139 (hCont (.slice Ao42 t574.length co42,v579,gb582) _ ⟨hHeld,zz114,(zN HO580),(zB BK573),(zB BK582),GW582.out,GE582.out,NB573_582.out,NB582_573.out,zz79⟩)
   rintro ⟨v575,v579,gb582⟩ w44 ⟨hS_,h0_,h1_,h2_,h3_,h4_,h5_,h6_,h7_,h8_⟩;have n0_:Aside0 (Kd.N (Kd.slice 3 (Kd.int .i64)) 22 w44 w.heap.size (fun k_=>some k_≠(v579:Value).ownBlock∧k_≠gb573∧k_≠gb582) v575 t574):=⟨h0_⟩;have n1_:Aside0 (Kd.N k74 74 w44 w.heap.size (fun k_=>some k_≠(v575:Value).ownBlock∧k_≠gb573∧k_≠gb582) v579 t578):=⟨h1_⟩;have n2_:Aside0 (w44.heap[gb573]? =some (.cells #[.int .i64 a0_0,.slice A0_1 l0_1.length c0_1] 46 (0,0))):=⟨h2_⟩;have n3_:Aside0 (w44.heap[gb582]? =some (.cells #[.int .i64 0,.slice none 0 0] 46 (0,0))):=⟨h3_⟩;have n4_:Aside0 (w.heap.size≤gb582):=⟨h4_⟩;have n5_:Aside0 (w.heap.size≤gb582):=⟨h5_⟩;have n6_:Aside0 (gb573≠gb582):=⟨h6_⟩;have n7_:Aside0 (gb582≠gb573):=⟨h7_⟩;have n8_:Aside0 (Below w.heap.size w w44):=⟨h8_⟩;clear BK573;clear HB;clear h0_ h1_ h2_ h3_ h4_ h5_ h6_ h7_ h8_;have HO576:=n0_;have HO580:=n1_;have BK573:=n2_;have BK582:=n3_;have GW582:=n4_;have GE582:=n5_;have NB573_582:=n6_;have NB582_573:=n7_;have HB:=n8_;clear n0_ n1_ n2_ n3_ n4_ n5_ n6_ n7_ n8_;have hHeld:w44.cell? ⟨gb573,0,none⟩=some (.int .i64 a0_0)∧w44.cell? ⟨gb573,1,none⟩=some (.slice A0_1 l0_1.length c0_1):=hS_;obtain⟨Ao46,co46,eo46⟩:=Kd.N_slice HO580.out
   (first|subst eo46|(injection eo46 with f1_ f2_ f3_;have f4_:=f1_.symm;have f5_:=f3_.symm;clear f1_ f2_ f3_;subst f4_;subst f5_))
   refine ZS (a':= ?_) ?_ ?_;rotate_left
   ·simp only[putAll,Act.put,sA,sB,sC];rfl
   refine one_ (i:=9) (N:=none) #[true,true,true,true,true,true,true,true,true,true,false] rfl rfl (ZZ HT_.out (by kernel_rfl)) (by decide) (fun K hK=> ?_);have hs45:w44.cell? ⟨gb582,0,none⟩=some (.int .i64 0):=(Zb BK582.out 0).trans rfl;have hfs45:=Za BK582.out 0;have hns45_0:=NB573_582.out;have hms45_0:=NB582_573.out;have hs47:w44.cell? ⟨gb582,1,none⟩=some (.slice none 0 0):=(Zb BK582.out 1).trans rfl;have hfs47:=Za BK582.out 1;have hns47_0:=NB573_582.out;have hms47_0:=NB582_573.out
   refine skip_ (w1:= ?_) (by rfl) rfl ?_ ?_;rotate_left
   ·go_simp;rfl
   refine hK.out _ _ ⟨((cell_far (p:=⟨gb582,_,none⟩) NB573_582.out _).trans (((cell_far (p:=⟨gb582,_,none⟩) NB573_582.out _).trans (hHeld.1)))),((cell_far (p:=⟨gb582,_,none⟩) NB573_582.out _).trans (((cell_far (p:=⟨gb582,_,none⟩) NB573_582.out _).trans (hHeld.2))))⟩ (fun hHeld=> ?_);clear hK K
   refine ZC (i:=10) (N:=some 4) (v:= ?_) (a':= ?_) #[true,true,true,true,true,true,true,true,true,true,true] rfl rfl (Zy HT_.out (by kernel_rfl)) (fun _ _ _ h=>h) (Or.inl ⟨by rfl,?_⟩) ?_ ?_;rotate_left
   ·intro w';go_simp;with_reducible rfl
   rotate_left
   ·simp only[Act.put,sA,sB,sC,Zt,Zu];rfl
   refine done_ (done_of HT_.out (by kernel_rfl)) ?_
   try go_wp2
   go_ret
   exact⟨by first|rfl|(simp[Zj,Zi]<;>rfl)|(simp[*,Zj,Zi]<;>rfl),by repeat(first|(with_reducible first|exact HB.out|apply Zn|apply Zf|apply Zh|refine Zk ?_ GE573.out|refine Zk ?_ GE582.out)|exact HB.out)⟩
def r30_Back.l0:Nat→List Int→List Int→Int→Option (List Int)
 |0,_,_,_=>none
 |k+1,x0,x3,x4=>if x4<(x0.length:Int) then(if 0≤x4 then(if 0≤(rd x0 x4) then(if(rd x0 x4)<(x3.length:Int) then(r30_Back.l0 k x0 (x3.set ((rd x0 x4):Int).toNat x4) (wrap64 (x4+1))) else(none)) else(none)) else(none)) else(some x3)
def r30_Back.f (k:Nat) (l0:List Int):Option (List Int):=if 0≤(l0.length:Int) then(if((l0.length:Int):Int).toNat≤35184372088832 then(r30_Back.l0 k l0 (List.replicate ((l0.length:Int):Int).toNat 0) 0) else(none)) else(none)
theorem r30_Back.calls (k:Nat) (A0:Option Addr) (c0:Nat) (l0:List Int) (r:List Int) (w:World) (hr0:Kd.C (Kd.int .i64) w A0 l0.length l0) (hc0:l0.length≤c0) (h:r30_Back.f k l0=some r):
    Calls Try.prog 44 #[.slice A0 l0.length c0] w fun e w'=>∃v0_:Value,e= .returned (v0_)∧Kd.R (Kd.int .i64) 3 w' w.heap.size (fun _=>True) v0_ r∧Below w.heap.size w w':=by
 have HR0:=aM hr0
 have HC0:=aM hc0
 clear hr0 hc0
 have HB:=aM (Below.refl w.heap.size w)
 have H:(if 0≤(l0.length:Int) then(if((l0.length:Int):Int).toNat≤35184372088832 then(r30_Back.l0 k l0 (List.replicate ((l0.length:Int):Int).toNat 0) 0) else(none)) else(none))=some r:=h
 clear h
 by_cases c2:0≤(l0.length:Int)
 ·rw [if_pos c2] at H
  have c2b0:=eq_true c2;have c2b1:=dT c2;clear c2
  by_cases c3:((l0.length:Int):Int).toNat≤35184372088832
  ·rw [if_pos c3] at H;have c3b0:=eq_true c3;have c3b1:=dT c3;clear c3;obtain⟨y328,hy328⟩:∃y_:List Int,y_=(List.replicate ((l0.length:Int):Int).toNat 0):=⟨_,rfl⟩;replace H:(r30_Back.l0 k l0 y328 0)=some r:=by first|(rw[hy328];with_reducible exact H)|(have H2_:=(Option.bind_some _ _).symm.trans H;rw[hy328];with_reducible exact H2_)|(have H2_:=(Option.bind_some _ _).symm.trans H;with_reducible exact H2_)|with_reducible exact H|(rw[hy328];exact H)|exact H
   have Ny328:=aM hy328;clear hy328;have H':=aM H;clear H
   go_enter Try.func44,Try.ntmps44
   go_wp2_with (first|((with_reducible refine Zr (N:=7) rfl ?_);refine Kd.R_make (Kd.int .i64) _ 3 rfl (N:=7) rfl 22 _ _ rfl (l0.length:Int) rfl rfl Try.underlying22 (.int .i64 0) 8 info3 rfl (by decide) (by omega) 0 (ok:=fun _=>True) (okp:=fun _=>True) rfl (fun _ hk=>hk) trivial (oD zz153) (Nat.le_trans (Nat.mul_le_mul_right _ (oD zz153:(l0.length:Int).toNat≤35184372088832)) (by omega)) (Below.refl _ _) (Nat.le_refl _) ?_;intro v329 w4 ho5 hb hg_ hnew_;clear hg_ hnew_;(first|rw[←Ny328.out] at ho5|(simp only[Int.reduceToNat] at ho5;rw[←Ny328.out] at ho5));have HO330:=aM (Kd.R_lower ho5 (Zc zz128));replace HB:=aM (Ze zz128 hb);clear hb ho5))
   go_loopg [4] k (fun kq v4 w'=>∃(x3_1:List Int) (x4_1:Int),v4= .int .i64 x4_1∧Aside0 (r30_Back.l0 kq l0 x3_1 x4_1=some r)∧Aside0 (kq≤k)∧Aside0 (Kd.R (Kd.int .i64) 3 w' w.heap.size (fun _=>True) v329 x3_1)∧Aside0 (Below w.heap.size w w'))
   case atStart=>exact⟨(y328),(0),zz154,H',⟨Nat.le_refl _⟩,⟨(zR HO330)⟩,⟨zz128⟩⟩
   case round =>
    clear H';(try clear c2);(try clear c2b0);(try clear c2b1);(try clear p2);(try clear c3);(try clear c3b0);(try clear c3b1);(try clear c4);obtain⟨x3_1,x4_1,rfl,HA,HK1,HO_3,HB⟩:=hrel
    cases gk with
    |zero=>exact absurd HA.out (by simp[r30_Back.l0])
    | succ k1=>
     have H:=HA.out;clear HA;simp only[r30_Back.l0] at H
     by_cases c6:x4_1<(l0.length:Int)
     ·rw [if_pos c6] at H;have c6b0:=dT c6;clear c6
      by_cases c7:0≤x4_1
      ·rw [if_pos c7] at H;have c7b0:=dT c7;clear c7
       by_cases c8:0≤(rd l0 x4_1)
       ·rw [if_pos c8] at H;have c8b0:=dT c8;clear c8
        by_cases c9:(rd l0 x4_1)<(x3_1.length:Int)
        ·rw[if_pos c9] at H;have c9b0:=dT c9;clear c9;obtain⟨y332,hy332⟩:∃y_:List Int,y_=(x3_1.set ((rd l0 x4_1):Int).toNat x4_1):=⟨_,rfl⟩;replace H:(r30_Back.l0 k1 l0 y332 (wrap64 (x4_1+1)))=some r:=by first|(rw[hy332];with_reducible exact H)|(have H2_:=(Option.bind_some _ _).symm.trans H;rw[hy332];with_reducible exact H2_)|(have H2_:=(Option.bind_some _ _).symm.trans H;with_reducible exact H2_)|with_reducible exact H|(rw[hy332];exact H)|exact H
         have Ny332:=aM hy332;clear hy332;have H':=aM H;clear H;have p331:0≤(x4_1:Int):=oD zz153;have q331:x4_1<(l0.length:Int):=oD zz153;obtain⟨ad331,e331,hx331_0⟩:=Kd.at_int HR0.out x4_1 p331 q331
         cases e331;replace hx331_0:=(HB.out.cell (wB w _ hx331_0)).trans hx331_0;replace p331:=eq_true p331;replace q331:=eq_true q331;have p10:0≤((rd l0 x4_1):Int):=oD zz153;have q10:((rd l0 x4_1):Int)<((x3_1.length:Int):Int):=oD zz153;obtain⟨go10,co10,eo10,gb10,gl10,cl10,HG10⟩:=Kd.R_form HO_3.out (by omega)
         (first|cases eo10|(injection eo10 with ea_ en_ ec_;(first|subst ea_|(injection ea_ with ea_;subst ea_));subst ec_;clear en_))
         have GB10:=aM gb10;have GG10:=aM HG10;clear gb10 gl10 HG10;obtain⟨hx10_0,hf10_0⟩:=Kd.R_celln 0 HO_3.out ((rd l0 x4_1):Int) p10 q10;replace p10:=eq_true p10;replace q10:=eq_true q10;have HP11:=Kd.R_putg HO_3.out ((rd l0 x4_1):Int) x4_1
         go_wp2_with (first|((with_reducible refine ZU (t:=3) (p:=20) rfl ?_);refine ZO (t:=3) (p:=20) (v:= ?vo_w12) (w1:=(wr.setCell ⟨go10,((rd l0 x4_1):Int).toNat,none⟩ (.int .i64 x4_1))) ?hg ?ho ?hn ?hr ?_;(case ho=>rfl);(case hg=>rfl);(case hn=>rfl);(case hr=>first|(go_simp;done)|(go_simp;rfl));intro w12 hw;have hg:wr.grownBy w12 (some go10):=(by rw[hw];exact HP11.2);have hp_:Kd.R (Kd.int .i64) 3 w12 w.heap.size (fun _=>True) (.slice (some ⟨go10,0,none⟩) x3_1.length co10) y332:=(by rw[hw,Ny332.out];exact HP11.1);clear HP11;replace HO_3:=aM (hp_);replace HB:=aM ((by rw[hw];exact Zk (HB.out) GB10.out:Below w.heap.size w w12));clear hg hw hp_))
         go_roundg k1
         case measure=>have:=HK1.out;omega
         case rel=>exact⟨(y332),(wrap64 (x4_1+1)),zz154,H',⟨zz163⟩,⟨(zR HO_3)⟩,⟨zz128⟩⟩
        rw[if_neg c9] at H
        exact absurd H (by simp)
       rw[if_neg c8] at H
       exact absurd H (by simp)
      rw[if_neg c7] at H
      exact absurd H (by simp)
     rw[if_neg c6] at H;have c6b0:=dF c6;clear c6;obtain rfl:=oI H;go_wp2;go_ret
     exact⟨_,by first|rfl|(simp[Zj,Zi]<;>rfl)|(simp[*,Zj,Zi]<;>rfl),by(with_reducible repeat(first|apply Kd.R_alloc|apply Kd.R_drewN|apply Kd.R_drew));exact HO_3.out,by repeat(first|(with_reducible first|exact HB.out|apply Zn|apply Zf|apply Zh)|exact HB.out)⟩
  rw[if_neg c3] at H
  exact absurd H (by simp)
 rw[if_neg c2] at H
 exact absurd H (by simp)
mutual
def r30_Sift.l0:Nat→List Int→Int→Int→List (S74)→Option (List Int×Int)
 |0,_,_,_,_=>none
 |k+1,x1,x6,x629000,x629001=>if x6<(x629001.length:Int) then(if 0≤x6 then(r30_Sift.l1 k x1 x6 (-1) 0 x629000 x629001 ((Zd x629001 x6).f0) ((Zd x629001 x6).f1) ((Zd x629001 x6).f2)) else(none)) else(some (x1,(x629001.length:Int)))
def r30_Sift.l1:Nat→List Int→Int→Int→Int→Int→List (S74)→Int→List Int→List (List Int)→Option (List Int×Int)
 |0,_,_,_,_,_,_,_,_,_=>none
 |k+1,x1,x6,x8,x9,x629000,x629001,x631000,x631001,x631002=>if x9<(x631001.length:Int) then(if 0≤x9 then(if 0≤x631000 then(if x631000<(x1.length:Int) then(if(rd x631001 x9)=(rd x1 x631000) then(r30_Sift.l1 k x1 x6 x9 (wrap64 (x9+1)) x629000 x629001 x631000 x631001 x631002) else(r30_Sift.l1 k x1 x6 x8 (wrap64 (x9+1)) x629000 x629001 x631000 x631001 x631002)) else(none)) else(none)) else(none)) else(if x8<0 then(some (x1,x6)) else(if 0≤x8 then(if x8<(x631002.length:Int) then((r30_Back.f k (Zp x631002 x8)).bind fun t634=>((r30_Then.f k x1 t634).bind fun t637=>(r30_Sift.l0 k t637 (wrap64 (x6+1)) x629000 x629001))) else(none)) else(none)))
end
def r30_Sift.f (k:Nat) (a0_0:Int) (l0_1:List (S74)) (l1:List Int):Option (List Int×Int):=r30_Sift.l0 k l1 0 a0_0 l0_1
theorem r30_Sift.calls (k:Nat) (a0_0:Int) (A0_1:Option Addr) (c0_1:Nat) (l0_1:List (S74)) (P1_:Nat→Prop) (A1:Option Addr) (c1:Nat) (l1:List Int) (r1:List Int) (r2:Int) (w:World) (hr0_1:Kd.C k74 w A0_1 l0_1.length l0_1) (hc0_1:l0_1.length≤c0_1) (hs1:Kd.V (Kd.int .i64) 3 w w.heap.size (fun k_=>P1_ k_) (.slice A1 l1.length c1) l1) (h:r30_Sift.f k a0_0 l0_1 l1=some (r1,r2)):
    Calls Try.prog 41 #[.agg #[.int .i64 a0_0,.slice A0_1 l0_1.length c0_1],.slice A1 l1.length c1] w fun e w'=>∃v0_:Value,e= .returned (.tuple #[v0_,.int .i64 r2])∧Kd.V (Kd.int .i64) 3 w' w.heap.size (fun k_=>(P1_ k_∨w.heap.size≤k_)) v0_ r1∧Below w.heap.size w w':=by
 have hu46:=Try.underlying46
 have hu74:=Try.underlying74
 have HR0_1:=aM hr0_1
 have HC0_1:=aM hc0_1
 clear hr0_1 hc0_1
 have HO1:=aM (show Kd.V (Kd.int .i64) 3 w w.heap.size (fun k_=>(P1_ k_∨w.heap.size≤k_)) (.slice A1 l1.length c1) l1 from Kd.V_mono hs1 (fun k_ hk=> .inl hk))
 have HB:=aM (Below.refl w.heap.size w)
 have H:(r30_Sift.l0 k l1 0 a0_0 l0_1)=some (r1,r2):=h
 clear h
 have H':=aM H
 clear H
 go_enter Try.func41,Try.ntmps41
 go_wp2_with (first|((with_reducible refine Zr (N:=2) rfl ?_);refine Zx ?hg (N:=2) ?hd (cs:= #[.int .i64 a0_0,.slice A0_1 l0_1.length c0_1]) (t:=46) ?hr ?_;(case hd=>rfl);(case hg=>rfl);(case hr=>first|(go_simp;done)|(go_simp;rfl));intro gb628 hg w3 hbox hb;replace HO1:=aM (Kd.V_below (Kd.V_elderB (zV HO1) gb628 (Nat.le_of_eq hg.symm)) hb);have BK628:=aM (hbox);have GW628:=aM ((by rw[hg];exact(Zc zz128):w.heap.size≤gb628));have GE628:=aM ((by rw[hg];exact(Zc zz128):w.heap.size≤gb628));replace HB:=aM (Ze zz128 hb);clear hb hbox hg))
 repeat(go_quiet (first|((with_reducible refine Zr (N:=2) rfl ?_);refine Zx ?hg (N:=2) ?hd (cs:= #[.int .i64 a0_0,.slice A0_1 l0_1.length c0_1]) (t:=46) ?hr ?_;(case hd=>rfl);(case hg=>rfl);(case hr=>first|(go_simp;done)|(go_simp;rfl));intro gb628 hg w3 hbox hb;replace HO1:=aM (Kd.V_below (Kd.V_elderB (zV HO1) gb628 (Nat.le_of_eq hg.symm)) hb);have BK628:=aM (hbox);have GW628:=aM ((by rw[hg];exact(Zc zz128):w.heap.size≤gb628));have GE628:=aM ((by rw[hg];exact(Zc zz128):w.heap.size≤gb628));replace HB:=aM (Ze zz128 hb);clear hb hbox hg));try go_wp2_with (first|((with_reducible refine Zr (N:=2) rfl ?_);refine Zx ?hg (N:=2) ?hd (cs:= #[.int .i64 a0_0,.slice A0_1 l0_1.length c0_1]) (t:=46) ?hr ?_;(case hd=>rfl);(case hg=>rfl);(case hr=>first|(go_simp;done)|(go_simp;rfl));intro gb628 hg w3 hbox hb;replace HO1:=aM (Kd.V_below (Kd.V_elderB (zV HO1) gb628 (Nat.le_of_eq hg.symm)) hb);have BK628:=aM (hbox);have GW628:=aM ((by rw[hg];exact(Zc zz128):w.heap.size≤gb628));have GE628:=aM ((by rw[hg];exact(Zc zz128):w.heap.size≤gb628));replace HB:=aM (Ze zz128 hb);clear hb hbox hg)))
 go_loopg [1,6] k (fun kq v1 v6 w'=>∃(x1_1:List Int) (x6_1:Int),v6= .int .i64 x6_1∧Aside0 (r30_Sift.l0 kq x1_1 x6_1 a0_0 l0_1=some (r1,r2))∧Aside0 (kq≤k)∧Aside0 (Kd.V (Kd.int .i64) 3 w' w.heap.size (fun k_=>(P1_ k_∨w.heap.size≤k_)∧k_≠gb628) v1 x1_1)∧Aside0 (w'.heap[gb628]? =some (.cells #[.int .i64 a0_0,(.slice A0_1 l0_1.length c0_1)] 46 (0,0)))∧Aside0 (Below w.heap.size w w'))
 case atStart=>exact⟨(l1),(0),zz154,H',⟨Nat.le_refl _⟩,⟨(zV HO1)⟩,⟨(zB BK628)⟩,⟨zz104⟩⟩
 case round =>
  clear H';(try clear c1);(try clear p2);obtain⟨x1_1,x6_1,rfl,HA,HK1,HO_1,BK628,HB⟩:=hrel
  cases gk with
  |zero=>exact absurd HA.out (by simp[r30_Sift.l0])
  | succ k1=>
   have H:=HA.out;clear HA;simp only[r30_Sift.l0] at H
   by_cases c4:x6_1<(l0_1.length:Int)
   ·rw [if_pos c4] at H;have c4b0:=dT c4;clear c4
    by_cases c5:0≤x6_1
    ·rw [if_pos c5] at H;have c5b0:=dT c5;clear c5;have H':=aM H;clear H;have hcz6_0:wr.cell? ⟨gb628,0,none⟩=some (.int .i64 a0_0):=(Zb BK628.out 0).trans rfl;have hcz6_1:wr.cell? ⟨gb628,1,none⟩=some (.slice A0_1 l0_1.length c0_1):=(Zb BK628.out 1).trans rfl;have hfz6_0:=Za BK628.out 0;have hfz6_1:=Za BK628.out 1;have p629:0≤(x6_1:Int):=oD zz153;have q629:x6_1<(l0_1.length:Int):=oD zz153;obtain⟨ad629,A629_1,c629_1,A629_2,c629_2,e629,hx629_0,hx629_1,hx629_2,hl629_1,hi629_1,hl629_2,hi629_2⟩:=Z0 HR0_1.out x6_1 p629 q629
     cases e629;replace hx629_0:=(HB.out.cell (wB w _ hx629_0)).trans hx629_0;replace hx629_1:=(HB.out.cell (wB w _ hx629_1)).trans hx629_1;replace hx629_2:=(HB.out.cell (wB w _ hx629_2)).trans hx629_2;have HR629_1:=aM hi629_1;have HC629_1:=aM hl629_1;clear hi629_1 hl629_1;have HR629_2:=aM hi629_2;have HC629_2:=aM hl629_2;clear hi629_2 hl629_2;replace p629:=eq_true p629;replace q629:=eq_true q629
     go_wp2_with (first|((with_reducible refine Zr (N:=7) rfl ?_);refine Zx ?hg (N:=7) ?hd (cs:= #[.int .i64 0,.slice none 0 0,.slice none 0 0]) (t:=74) ?hr ?_;(case hd=>rfl);(case hg=>rfl);(case hr=>first|(go_simp;done)|(go_simp;rfl));intro gb630 hg w7 hbox hb;replace HO_1:=aM (Kd.V_below (Kd.V_elderB (zV HO_1) gb630 (Nat.le_of_eq hg.symm)) hb);have BK630:=aM (hbox);have GW630:=aM ((by rw[hg];exact(Zc zz104):w.heap.size≤gb630));have GE630:=aM ((by rw[hg];exact(Zc zz104):w.heap.size≤gb630));replace HB:=aM (Ze zz104 hb);have NB628_630:=aM ((by rw[hg];exact Nat.ne_of_lt (Zw (g:=gb628) (o:= .cells #[.int .i64 a0_0,.slice (some ad629) l0_1.length c0_1] 46 (0,0)) (zB BK628)):gb628≠gb630));have NB630_628:=aM ((by rw[hg];exact Nat.ne_of_gt (Zw (g:=gb628) (o:= .cells #[.int .i64 a0_0,.slice (some ad629) l0_1.length c0_1] 46 (0,0)) (zB BK628)):gb630≠gb628));replace BK628:=aM (Zg (g:=gb628) (o:= .cells #[.int .i64 a0_0,.slice (some ad629) l0_1.length c0_1] 46 (0,0)) (zB BK628) hb);clear hb hbox hg;have hnb8:=NB630_628.out;have hnc8:=NB628_630.out;have hcz9_0:w7.cell? ⟨gb630,0,none⟩=some (.int .i64 0):=(Zb BK630.out 0).trans rfl;have hcz9_1:w7.cell? ⟨gb630,1,none⟩=some (.slice none 0 0):=(Zb BK630.out 1).trans rfl;have hcz9_2:w7.cell? ⟨gb630,2,none⟩=some (.slice none 0 0):=(Zb BK630.out 2).trans rfl;have hfz9_0:=Za BK630.out 0;have hfz9_1:=Za BK630.out 1;have hfz9_2:=Za BK630.out 2))
     repeat(go_quiet (first|((with_reducible refine Zr (N:=7) rfl ?_);refine Zx ?hg (N:=7) ?hd (cs:= #[.int .i64 0,.slice none 0 0,.slice none 0 0]) (t:=74) ?hr ?_;(case hd=>rfl);(case hg=>rfl);(case hr=>first|(go_simp;done)|(go_simp;rfl));intro gb630 hg w7 hbox hb;replace HO_1:=aM (Kd.V_below (Kd.V_elderB (zV HO_1) gb630 (Nat.le_of_eq hg.symm)) hb);have BK630:=aM (hbox);have GW630:=aM ((by rw[hg];exact(Zc zz104):w.heap.size≤gb630));have GE630:=aM ((by rw[hg];exact(Zc zz104):w.heap.size≤gb630));replace HB:=aM (Ze zz104 hb);have NB628_630:=aM ((by rw[hg];exact Nat.ne_of_lt (Zw (g:=gb628) (o:= .cells #[.int .i64 a0_0,.slice (some ad629) l0_1.length c0_1] 46 (0,0)) (zB BK628)):gb628≠gb630));have NB630_628:=aM ((by rw[hg];exact Nat.ne_of_gt (Zw (g:=gb628) (o:= .cells #[.int .i64 a0_0,.slice (some ad629) l0_1.length c0_1] 46 (0,0)) (zB BK628)):gb630≠gb628));replace BK628:=aM (Zg (g:=gb628) (o:= .cells #[.int .i64 a0_0,.slice (some ad629) l0_1.length c0_1] 46 (0,0)) (zB BK628) hb);clear hb hbox hg;have hnb8:=NB630_628.out;have hnc8:=NB628_630.out;have hcz9_0:w7.cell? ⟨gb630,0,none⟩=some (.int .i64 0):=(Zb BK630.out 0).trans rfl;have hcz9_1:w7.cell? ⟨gb630,1,none⟩=some (.slice none 0 0):=(Zb BK630.out 1).trans rfl;have hcz9_2:w7.cell? ⟨gb630,2,none⟩=some (.slice none 0 0):=(Zb BK630.out 2).trans rfl;have hfz9_0:=Za BK630.out 0;have hfz9_1:=Za BK630.out 1;have hfz9_2:=Za BK630.out 2));try go_wp2_with (first|((with_reducible refine Zr (N:=7) rfl ?_);refine Zx ?hg (N:=7) ?hd (cs:= #[.int .i64 0,.slice none 0 0,.slice none 0 0]) (t:=74) ?hr ?_;(case hd=>rfl);(case hg=>rfl);(case hr=>first|(go_simp;done)|(go_simp;rfl));intro gb630 hg w7 hbox hb;replace HO_1:=aM (Kd.V_below (Kd.V_elderB (zV HO_1) gb630 (Nat.le_of_eq hg.symm)) hb);have BK630:=aM (hbox);have GW630:=aM ((by rw[hg];exact(Zc zz104):w.heap.size≤gb630));have GE630:=aM ((by rw[hg];exact(Zc zz104):w.heap.size≤gb630));replace HB:=aM (Ze zz104 hb);have NB628_630:=aM ((by rw[hg];exact Nat.ne_of_lt (Zw (g:=gb628) (o:= .cells #[.int .i64 a0_0,.slice (some ad629) l0_1.length c0_1] 46 (0,0)) (zB BK628)):gb628≠gb630));have NB630_628:=aM ((by rw[hg];exact Nat.ne_of_gt (Zw (g:=gb628) (o:= .cells #[.int .i64 a0_0,.slice (some ad629) l0_1.length c0_1] 46 (0,0)) (zB BK628)):gb630≠gb628));replace BK628:=aM (Zg (g:=gb628) (o:= .cells #[.int .i64 a0_0,.slice (some ad629) l0_1.length c0_1] 46 (0,0)) (zB BK628) hb);clear hb hbox hg;have hnb8:=NB630_628.out;have hnc8:=NB628_630.out;have hcz9_0:w7.cell? ⟨gb630,0,none⟩=some (.int .i64 0):=(Zb BK630.out 0).trans rfl;have hcz9_1:w7.cell? ⟨gb630,1,none⟩=some (.slice none 0 0):=(Zb BK630.out 1).trans rfl;have hcz9_2:w7.cell? ⟨gb630,2,none⟩=some (.slice none 0 0):=(Zb BK630.out 2).trans rfl;have hfz9_0:=Za BK630.out 0;have hfz9_1:=Za BK630.out 1;have hfz9_2:=Za BK630.out 2)))
     go_loopg [8,9] k1 (fun kq v8 v9 w'=>∃(x8_2:Int) (x9_2:Int),v8= .int .i64 x8_2∧v9= .int .i64 x9_2∧Aside0 (r30_Sift.l1 kq x1_1 x6_1 x8_2 x9_2 a0_0 l0_1 ((Zd l0_1 x6_1).f0) ((Zd l0_1 x6_1).f1) ((Zd l0_1 x6_1).f2)=some (r1,r2))∧Aside0 (kq≤k1)∧Aside0 (Kd.V (Kd.int .i64) 3 w' w.heap.size (fun k_=>(P1_ k_∨w.heap.size≤k_)∧k_≠gb628∧k_≠gb630) u1 x1_1)∧Aside0 (w'.heap[gb628]? =some (.cells #[.int .i64 a0_0,(.slice (some ad629) l0_1.length c0_1)] 46 (0,0)))∧Aside0 (w'.heap[gb630]? =some (.cells #[.int .i64 ((Zd l0_1 x6_1).f0),(.slice A629_1 ((Zd l0_1 x6_1).f1).length c629_1),(.slice A629_2 ((Zd l0_1 x6_1).f2).length c629_2)] 74 (0,0)))∧Aside0 (Below w.heap.size w w'))
     case atStart=>exact⟨((-1)),(0),zz154,zz154,H',⟨Nat.le_refl _⟩,⟨by(with_reducible repeat(first|apply Kd.V_alloc|apply Kd.V_drewN|apply Kd.V_drew));exact Kd.V_mono (Kd.V_far (p:=⟨gb630,2,none⟩) (Kd.V_far (p:=⟨gb630,1,none⟩) (Kd.V_far (p:=⟨gb630,0,none⟩) (Kd.V_mono HO_1.out (fun k_ hk=>(⟨hk,hk.2⟩:_∧k_≠gb630))) (fun _ hk=>by first|exact hk.2|exact zN0) (.int .i64 ((Zd l0_1 x6_1).f0))) (fun _ hk=>by first|exact hk.2|exact zN0) (.slice A629_1 ((Zd l0_1 x6_1).f1).length c629_1)) (fun _ hk=>by first|exact hk.2|exact zN0) (.slice A629_2 ((Zd l0_1 x6_1).f2).length c629_2)) (fun _ hk=>by first|exact⟨hk.1.1.1,⟨hk.1.1.2,hk.1.2⟩⟩|exact zN0)⟩,⟨(by(with_reducible repeat(first|refine Zm ?_ _|refine Zo ?_|refine Zl ?_ _));refine ZH ?_ NB628_630.out _;(with_reducible repeat(first|refine Zm ?_ _|refine Zo ?_|refine Zl ?_ _));refine ZH ?_ NB628_630.out _;(with_reducible repeat(first|refine Zm ?_ _|refine Zo ?_|refine Zl ?_ _));refine ZH ?_ NB628_630.out _;(with_reducible repeat(first|refine Zm ?_ _|refine Zo ?_|refine Zl ?_ _));exact BK628.out)⟩,⟨(by(with_reducible repeat(first|refine Zm ?_ _|refine Zo ?_|refine Zl ?_ _));refine ZI (cs:= #[.int .i64 ((Zd l0_1 x6_1).f0),.slice A629_1 ((Zd l0_1 x6_1).f1).length c629_1,.slice none 0 0]) ?_ 2 _ rfl;(with_reducible repeat(first|refine Zm ?_ _|refine Zo ?_|refine Zl ?_ _));refine ZI (cs:= #[.int .i64 ((Zd l0_1 x6_1).f0),.slice none 0 0,.slice none 0 0]) ?_ 1 _ rfl;(with_reducible repeat(first|refine Zm ?_ _|refine Zo ?_|refine Zl ?_ _));refine ZI (cs:= #[.int .i64 0,.slice none 0 0,.slice none 0 0]) ?_ 0 _ rfl;(with_reducible repeat(first|refine Zm ?_ _|refine Zo ?_|refine Zl ?_ _));exact BK630.out)⟩,⟨zz80⟩⟩
     case round =>
      clear H';(try clear c1);(try clear p2);(try clear c4);(try clear c4b0);(try clear c5);(try clear c5b0);(try clear c6);(try clear p6);(try clear q6);(try clear hx6);(try clear c8);(try clear hcz6_0);(try clear hcz6_1);(try clear hcz9_0);(try clear hcz9_1);(try clear hcz9_2);(try clear hfz6_0);(try clear hfz6_1);(try clear hfz9_0);(try clear hfz9_1);(try clear hfz9_2);(try clear hx629_0);(try clear hx629_1);(try clear hx629_2);(try clear p2);(try clear p629);(try clear q629);obtain⟨x8_2,x9_2,rfl,rfl,HA,HK2,HO_1,BK628,BK630,HB⟩:=hrel
      cases gk with
      |zero=>exact absurd HA.out (by simp[r30_Sift.l1])
      | succ k2=>
       have H:=HA.out;clear HA;simp only[r30_Sift.l1] at H
       by_cases c10:x9_2<(((Zd l0_1 x6_1).f1).length:Int)
       ·rw [if_pos c10] at H;have c10b0:=dT c10;clear c10
        by_cases c11:0≤x9_2
        ·rw [if_pos c11] at H;have c11b0:=dT c11;clear c11
         by_cases c12:0≤((Zd l0_1 x6_1).f0)
         ·rw [if_pos c12] at H;have c12b0:=dT c12;clear c12
          by_cases c13:((Zd l0_1 x6_1).f0)<(x1_1.length:Int)
          ·rw [if_pos c13] at H;have c13b0:=dT c13;clear c13
           by_cases c14:(rd ((Zd l0_1 x6_1).f1) x9_2)=(rd x1_1 ((Zd l0_1 x6_1).f0))
           ·rw[if_pos c14] at H;have c14b0:=beq_iff_eq.mpr c14;have c14b1:=bne_eq_false_iff_eq.mpr c14;clear c14;have H':=aM H;clear H;have hnb15:=NB630_628.out;have hnc15:=NB628_630.out;have hcz16_0:wr.cell? ⟨gb630,0,none⟩=some (.int .i64 ((Zd l0_1 x6_1).f0)):=(Zb BK630.out 0).trans rfl;have hcz16_1:wr.cell? ⟨gb630,1,none⟩=some (.slice A629_1 ((Zd l0_1 x6_1).f1).length c629_1):=(Zb BK630.out 1).trans rfl;have hcz16_2:wr.cell? ⟨gb630,2,none⟩=some (.slice A629_2 ((Zd l0_1 x6_1).f2).length c629_2):=(Zb BK630.out 2).trans rfl;have hfz16_0:=Za BK630.out 0;have hfz16_1:=Za BK630.out 1;have hfz16_2:=Za BK630.out 2;have p631:0≤(x9_2:Int):=oD zz153;have q631:x9_2<(((Zd l0_1 x6_1).f1).length:Int):=oD zz153;obtain⟨ad631,e631,hx631_0⟩:=Kd.at_int HR629_1.out x9_2 p631 q631
            cases e631;replace hx631_0:=(HB.out.cell (wB w _ hx631_0)).trans hx631_0;replace p631:=eq_true p631;replace q631:=eq_true q631;obtain⟨Ao17,co17,eo17⟩:=Kd.V_slice HO_1.out;subst eo17;have p632:0≤(((Zd l0_1 x6_1).f0):Int):=oD zz153;have q632:((Zd l0_1 x6_1).f0)<(x1_1.length:Int):=oD zz153;obtain⟨ad632,e632,hx632_0⟩:=Kd.at_int (Kd.V_reads' HO_1.out).2.2 ((Zd l0_1 x6_1).f0) p632 q632
            cases e632;replace p632:=eq_true p632;replace q632:=eq_true q632;go_wp2
            repeat(go_quiet (fail);try go_wp2)
            go_roundg k2
            case measure=>have:=HK1.out;have:=HK2.out;omega
            case rel=>exact⟨(x9_2),(wrap64 (x9_2+1)),zz154,zz154,H',⟨zz155⟩,⟨(zV HO_1)⟩,⟨(zB BK628)⟩,⟨(zB BK630)⟩,⟨zz80⟩⟩
           rw[if_neg c14] at H;have c14b0:=beq_eq_false_iff_ne.mpr c14;have c14b1:=bne_iff_ne.mpr c14;have H':=aM H;clear H;have hnb18:=NB630_628.out;have hnc18:=NB628_630.out;have hcz19_0:wr.cell? ⟨gb630,0,none⟩=some (.int .i64 ((Zd l0_1 x6_1).f0)):=(Zb BK630.out 0).trans rfl;have hcz19_1:wr.cell? ⟨gb630,1,none⟩=some (.slice A629_1 ((Zd l0_1 x6_1).f1).length c629_1):=(Zb BK630.out 1).trans rfl;have hcz19_2:wr.cell? ⟨gb630,2,none⟩=some (.slice A629_2 ((Zd l0_1 x6_1).f2).length c629_2):=(Zb BK630.out 2).trans rfl;have hfz19_0:=Za BK630.out 0;have hfz19_1:=Za BK630.out 1;have hfz19_2:=Za BK630.out 2;have p631:0≤(x9_2:Int):=oD zz153;have q631:x9_2<(((Zd l0_1 x6_1).f1).length:Int):=oD zz153;obtain⟨ad631,e631,hx631_0⟩:=Kd.at_int HR629_1.out x9_2 p631 q631
           cases e631;replace hx631_0:=(HB.out.cell (wB w _ hx631_0)).trans hx631_0;replace p631:=eq_true p631;replace q631:=eq_true q631;obtain⟨Ao20,co20,eo20⟩:=Kd.V_slice HO_1.out;subst eo20;have p632:0≤(((Zd l0_1 x6_1).f0):Int):=oD zz153;have q632:((Zd l0_1 x6_1).f0)<(x1_1.length:Int):=oD zz153;obtain⟨ad632,e632,hx632_0⟩:=Kd.at_int (Kd.V_reads' HO_1.out).2.2 ((Zd l0_1 x6_1).f0) p632 q632
           cases e632;replace p632:=eq_true p632;replace q632:=eq_true q632;go_wp2
           repeat(go_quiet (fail);try go_wp2)
           go_roundg k2
           case measure=>have:=HK1.out;have:=HK2.out;omega
           case rel=>exact⟨(x8_2),(wrap64 (x9_2+1)),zz154,zz154,H',⟨zz155⟩,⟨(zV HO_1)⟩,⟨(zB BK628)⟩,⟨(zB BK630)⟩,⟨zz80⟩⟩
          rw[if_neg c13] at H
          exact absurd H (by simp)
         rw[if_neg c12] at H
         exact absurd H (by simp)
        rw[if_neg c11] at H
        exact absurd H (by simp)
       rw[if_neg c10] at H;have c10b0:=dF c10;clear c10
       by_cases c21:x8_2<0
       ·rw[if_pos c21] at H;have c21b0:=dT c21;clear c21;simp only[Option.some.injEq,Prod.mk.injEq] at H;obtain⟨rfl,rfl⟩:=H;have hnb22:=NB630_628.out;have hnc22:=NB628_630.out;have hcz23_0:wr.cell? ⟨gb630,0,none⟩=some (.int .i64 ((Zd l0_1 x6_1).f0)):=(Zb BK630.out 0).trans rfl;have hcz23_1:wr.cell? ⟨gb630,1,none⟩=some (.slice A629_1 ((Zd l0_1 x6_1).f1).length c629_1):=(Zb BK630.out 1).trans rfl;have hcz23_2:wr.cell? ⟨gb630,2,none⟩=some (.slice A629_2 ((Zd l0_1 x6_1).f2).length c629_2):=(Zb BK630.out 2).trans rfl;have hfz23_0:=Za BK630.out 0;have hfz23_1:=Za BK630.out 1;have hfz23_2:=Za BK630.out 2;go_wp2
        repeat(go_quiet (fail);try go_wp2)
        go_ret2
        exact⟨_,by first|rfl|(simp[Zj,Zi]<;>rfl)|(simp[*,Zj,Zi]<;>rfl),by(with_reducible repeat(first|apply Kd.V_alloc|apply Kd.V_drewN|apply Kd.V_drew));exact Kd.V_mono HO_1.out (fun _ hk=>by first|exact hk.1|exact zN0),by repeat(first|(with_reducible first|exact HB.out|apply Zn|apply Zf|apply Zh|refine Zk ?_ GE628.out|refine Zk ?_ GE630.out)|exact HB.out)⟩
       rw[if_neg c21] at H;have c21b0:=dF c21;clear c21
       by_cases c24:0≤x8_2
       ·rw [if_pos c24] at H;have c24b0:=dT c24;clear c24
        by_cases c25:x8_2<(((Zd l0_1 x6_1).f2).length:Int)
        ·rw[if_pos c25] at H;have c25b0:=dT c25;clear c25;replace H:=oB H;obtain⟨t634,A260,H⟩:=H;replace H:((r30_Then.f k2 x1_1 t634).bind fun t637=>(r30_Sift.l0 k2 t637 (wrap64 (x6_1+1)) a0_0 l0_1))=some (r1,r2):=H;have A26:=aM A260;clear A260;replace H:=oB H;obtain⟨t637,A270,H⟩:=H;replace H:(r30_Sift.l0 k2 t637 (wrap64 (x6_1+1)) a0_0 l0_1)=some (r1,r2):=H;have A27:=aM A270;clear A270;have H':=aM H;clear H;have hnb28:=NB630_628.out;have hnc28:=NB628_630.out;have hcz29_0:wr.cell? ⟨gb630,0,none⟩=some (.int .i64 ((Zd l0_1 x6_1).f0)):=(Zb BK630.out 0).trans rfl;have hcz29_1:wr.cell? ⟨gb630,1,none⟩=some (.slice A629_1 ((Zd l0_1 x6_1).f1).length c629_1):=(Zb BK630.out 1).trans rfl;have hcz29_2:wr.cell? ⟨gb630,2,none⟩=some (.slice A629_2 ((Zd l0_1 x6_1).f2).length c629_2):=(Zb BK630.out 2).trans rfl;have hfz29_0:=Za BK630.out 0;have hfz29_1:=Za BK630.out 1;have hfz29_2:=Za BK630.out 2;have p633:0≤(x8_2:Int):=oD zz153;have q633:x8_2<(((Zd l0_1 x6_1).f2).length:Int):=oD zz153;obtain⟨ad633,A633_0,c633_0,e633,hx633_0,hl633_0,hi633_0⟩:=ZY HR629_2.out x8_2 p633 q633
         cases e633;replace hx633_0:=(HB.out.cell (wB w _ hx633_0)).trans hx633_0;have HR633_0:=aM hi633_0;have HC633_0:=aM hl633_0;clear hi633_0 hl633_0;replace p633:=eq_true p633;replace q633:=eq_true q633
         go_wp2_with (first|(go_at_call 44;(with_reducible refine(r30_Back.calls k2 _ _ (Zp ((Zd l0_1 x6_1).f2) x8_2) t634 _ ?side1 ?side2 A26.out).mono ?_);(case side1=>exact zC (Kd.C_below HR633_0.out HB.out));(case side2=>exact HC633_0.out);rintro e w30 ⟨v635,rfl,ho0,hb⟩;replace HO_1:=aM (Kd.V_elder' (zV HO_1) (Kd.R_base ho0) hb);have HO636:=aM (Kd.R_lower (Kd.R_newM (M:=fun k_=>(w.heap.size≤k_)) ho0 (Zc zz80) (fun k_ h_=>h_)) (Zc zz80));replace BK628:=aM (Zg (g:=gb628) (o:= .cells #[.int .i64 a0_0,.slice (some ad629) l0_1.length c0_1] 46 (0,0)) (zB BK628) hb);replace BK630:=aM (Zg (g:=gb630) (o:= .cells #[.int .i64 ((Zd l0_1 x6_1).f0),.slice A629_1 ((Zd l0_1 x6_1).f1).length c629_1,.slice (some ad633) ((Zd l0_1 x6_1).f2).length c629_2] 74 (0,0)) (zB BK630) hb);replace HB:=aM (Ze zz80 hb);(try clear hb);(try clear hb2);(try clear hk);(try clear hi);(try clear ho0);obtain⟨Ao31,co31,eo31⟩:=Kd.V_slice HO_1.out;subst eo31;obtain⟨Ao32,co32,eo32⟩:=Kd.R_slice HO636.out;subst eo32)|(go_at_call 43;(with_reducible refine(r30_Then.calls k2 _ _ x1_1 _ _ t634 t637 _ ?side1 ?side2 ?side3 ?side4 A27.out).mono ?_);(case side1=>exact zC ((Kd.V_reads' HO_1.out).2.2));(case side2=>exact(Kd.V_reads' HO_1.out).2.1);(case side3=>exact zC ((Kd.R_reads' HO636.out).2.2));(case side4=>exact(Kd.R_reads' HO636.out).2.1);rintro e w33 ⟨v638,rfl,ho0,hb⟩;replace HO_1:=aM (Kd.V_elder' (zV HO_1) (Kd.R_base ho0) hb);have HO639:=aM (Kd.R_lower (Kd.R_new' (Kd.R_newM (M:=fun k_=>(w.heap.size≤k_)) ho0 (Zc zz80) (fun k_ h_=>h_)) (Kd.R_lt (zR HO636))) (Zc zz80));replace HO636:=aM (Kd.R_elder' (zR HO636) (Kd.R_base ho0) hb);replace BK628:=aM (Zg (g:=gb628) (o:= .cells #[.int .i64 a0_0,.slice (some ad629) l0_1.length c0_1] 46 (0,0)) (zB BK628) hb);replace BK630:=aM (Zg (g:=gb630) (o:= .cells #[.int .i64 ((Zd l0_1 x6_1).f0),.slice A629_1 ((Zd l0_1 x6_1).f1).length c629_1,.slice (some ad633) ((Zd l0_1 x6_1).f2).length c629_2] 74 (0,0)) (zB BK630) hb);replace HB:=aM (Ze zz80 hb);(try clear hb);(try clear hb2);(try clear hk);(try clear hi);(try clear ho0)))
         repeat(go_quiet (first|(go_at_call 44;(with_reducible refine(r30_Back.calls k2 _ _ (Zp ((Zd l0_1 x6_1).f2) x8_2) t634 _ ?side1 ?side2 A26.out).mono ?_);(case side1=>exact zC (Kd.C_below HR633_0.out HB.out));(case side2=>exact HC633_0.out);rintro e w30 ⟨v635,rfl,ho0,hb⟩;replace HO_1:=aM (Kd.V_elder' (zV HO_1) (Kd.R_base ho0) hb);have HO636:=aM (Kd.R_lower (Kd.R_newM (M:=fun k_=>(w.heap.size≤k_)) ho0 (Zc zz80) (fun k_ h_=>h_)) (Zc zz80));replace BK628:=aM (Zg (g:=gb628) (o:= .cells #[.int .i64 a0_0,.slice (some ad629) l0_1.length c0_1] 46 (0,0)) (zB BK628) hb);replace BK630:=aM (Zg (g:=gb630) (o:= .cells #[.int .i64 ((Zd l0_1 x6_1).f0),.slice A629_1 ((Zd l0_1 x6_1).f1).length c629_1,.slice (some ad633) ((Zd l0_1 x6_1).f2).length c629_2] 74 (0,0)) (zB BK630) hb);replace HB:=aM (Ze zz80 hb);(try clear hb);(try clear hb2);(try clear hk);(try clear hi);(try clear ho0);obtain⟨Ao31,co31,eo31⟩:=Kd.V_slice HO_1.out;subst eo31;obtain⟨Ao32,co32,eo32⟩:=Kd.R_slice HO636.out;subst eo32)|(go_at_call 43;(with_reducible refine(r30_Then.calls k2 _ _ x1_1 _ _ t634 t637 _ ?side1 ?side2 ?side3 ?side4 A27.out).mono ?_);(case side1=>exact zC ((Kd.V_reads' HO_1.out).2.2));(case side2=>exact(Kd.V_reads' HO_1.out).2.1);(case side3=>exact zC ((Kd.R_reads' HO636.out).2.2));(case side4=>exact(Kd.R_reads' HO636.out).2.1);rintro e w33 ⟨v638,rfl,ho0,hb⟩;replace HO_1:=aM (Kd.V_elder' (zV HO_1) (Kd.R_base ho0) hb);have HO639:=aM (Kd.R_lower (Kd.R_new' (Kd.R_newM (M:=fun k_=>(w.heap.size≤k_)) ho0 (Zc zz80) (fun k_ h_=>h_)) (Kd.R_lt (zR HO636))) (Zc zz80));replace HO636:=aM (Kd.R_elder' (zR HO636) (Kd.R_base ho0) hb);replace BK628:=aM (Zg (g:=gb628) (o:= .cells #[.int .i64 a0_0,.slice (some ad629) l0_1.length c0_1] 46 (0,0)) (zB BK628) hb);replace BK630:=aM (Zg (g:=gb630) (o:= .cells #[.int .i64 ((Zd l0_1 x6_1).f0),.slice A629_1 ((Zd l0_1 x6_1).f1).length c629_1,.slice (some ad633) ((Zd l0_1 x6_1).f2).length c629_2] 74 (0,0)) (zB BK630) hb);replace HB:=aM (Ze zz80 hb);(try clear hb);(try clear hb2);(try clear hk);(try clear hi);(try clear ho0)));try go_wp2_with (first|(go_at_call 44;(with_reducible refine(r30_Back.calls k2 _ _ (Zp ((Zd l0_1 x6_1).f2) x8_2) t634 _ ?side1 ?side2 A26.out).mono ?_);(case side1=>exact zC (Kd.C_below HR633_0.out HB.out));(case side2=>exact HC633_0.out);rintro e w30 ⟨v635,rfl,ho0,hb⟩;replace HO_1:=aM (Kd.V_elder' (zV HO_1) (Kd.R_base ho0) hb);have HO636:=aM (Kd.R_lower (Kd.R_newM (M:=fun k_=>(w.heap.size≤k_)) ho0 (Zc zz80) (fun k_ h_=>h_)) (Zc zz80));replace BK628:=aM (Zg (g:=gb628) (o:= .cells #[.int .i64 a0_0,.slice (some ad629) l0_1.length c0_1] 46 (0,0)) (zB BK628) hb);replace BK630:=aM (Zg (g:=gb630) (o:= .cells #[.int .i64 ((Zd l0_1 x6_1).f0),.slice A629_1 ((Zd l0_1 x6_1).f1).length c629_1,.slice (some ad633) ((Zd l0_1 x6_1).f2).length c629_2] 74 (0,0)) (zB BK630) hb);replace HB:=aM (Ze zz80 hb);(try clear hb);(try clear hb2);(try clear hk);(try clear hi);(try clear ho0);obtain⟨Ao31,co31,eo31⟩:=Kd.V_slice HO_1.out;subst eo31;obtain⟨Ao32,co32,eo32⟩:=Kd.R_slice HO636.out;subst eo32)|(go_at_call 43;(with_reducible refine(r30_Then.calls k2 _ _ x1_1 _ _ t634 t637 _ ?side1 ?side2 ?side3 ?side4 A27.out).mono ?_);(case side1=>exact zC ((Kd.V_reads' HO_1.out).2.2));(case side2=>exact(Kd.V_reads' HO_1.out).2.1);(case side3=>exact zC ((Kd.R_reads' HO636.out).2.2));(case side4=>exact(Kd.R_reads' HO636.out).2.1);rintro e w33 ⟨v638,rfl,ho0,hb⟩;replace HO_1:=aM (Kd.V_elder' (zV HO_1) (Kd.R_base ho0) hb);have HO639:=aM (Kd.R_lower (Kd.R_new' (Kd.R_newM (M:=fun k_=>(w.heap.size≤k_)) ho0 (Zc zz80) (fun k_ h_=>h_)) (Kd.R_lt (zR HO636))) (Zc zz80));replace HO636:=aM (Kd.R_elder' (zR HO636) (Kd.R_base ho0) hb);replace BK628:=aM (Zg (g:=gb628) (o:= .cells #[.int .i64 a0_0,.slice (some ad629) l0_1.length c0_1] 46 (0,0)) (zB BK628) hb);replace BK630:=aM (Zg (g:=gb630) (o:= .cells #[.int .i64 ((Zd l0_1 x6_1).f0),.slice A629_1 ((Zd l0_1 x6_1).f1).length c629_1,.slice (some ad633) ((Zd l0_1 x6_1).f2).length c629_2] 74 (0,0)) (zB BK630) hb);replace HB:=aM (Ze zz80 hb);(try clear hb);(try clear hb2);(try clear hk);(try clear hi);(try clear ho0))))
         go_roundg k2
         case measure=>have:=HK1.out;have:=HK2.out;omega
         case rel=>exact⟨(t637),(wrap64 (x6_1+1)),zz154,H',⟨zz155⟩,⟨(by(with_reducible repeat(first|apply Kd.V_alloc|apply Kd.V_drewN|apply Kd.V_drew));exact Kd.V_mono (Kd.R_V (Kd.R_types HO639.out BK628.out (by decide))) (fun k_ hk=>by first|exact⟨.inr hk.1.1.1,hk.2⟩|exact⟨.inr hk.1.1,hk.2⟩|exact⟨.inr hk.1,hk.2⟩))⟩,⟨(zB BK628)⟩,⟨zz80⟩⟩
        rw[if_neg c25] at H
        exact absurd H (by simp)
       rw[if_neg c24] at H
       exact absurd H (by simp)
    rw[if_neg c5] at H
    exact absurd H (by simp)
   rw[if_neg c4] at H;have c4b0:=dF c4;clear c4;simp only[Option.some.injEq,Prod.mk.injEq] at H;obtain⟨rfl,rfl⟩:=H;have hcz34_0:wr.cell? ⟨gb628,0,none⟩=some (.int .i64 a0_0):=(Zb BK628.out 0).trans rfl;have hcz34_1:wr.cell? ⟨gb628,1,none⟩=some (.slice A0_1 l0_1.length c0_1):=(Zb BK628.out 1).trans rfl;have hfz34_0:=Za BK628.out 0;have hfz34_1:=Za BK628.out 1;go_wp2
   repeat(go_quiet (fail);try go_wp2)
   go_ret2
   exact⟨_,by first|rfl|(simp[Zj,Zi]<;>rfl)|(simp[*,Zj,Zi]<;>rfl),by(with_reducible repeat(first|apply Kd.V_alloc|apply Kd.V_drewN|apply Kd.V_drew));exact Kd.V_mono HO_1.out (fun _ hk=>by first|exact hk.1|exact zN0),by repeat(first|(with_reducible first|exact HB.out|apply Zn|apply Zf|apply Zh|refine Zk ?_ GE628.out)|exact HB.out)⟩
def r30_Has.f (k:Nat) (a0_0:Int) (l0_1:List (S74)) (l1:List Int):Option (Bool):=(r30_Sift.f k a0_0 l0_1 l1).bind fun bt641=>(if bt641.2=(l0_1.length:Int) then((r30_Unit.f k (l1.length:Int)).bind fun t645=>((r09_SameInts.f k bt641.1 t645).bind fun t648=>(some t648))) else(some false))
theorem r30_Has.calls (k:Nat) (a0_0:Int) (A0_1:Option Addr) (c0_1:Nat) (l0_1:List (S74)) (A1:Option Addr) (c1:Nat) (l1:List Int) (r:Bool) (w:World) (hr0_1:Kd.C k74 w A0_1 l0_1.length l0_1) (hc0_1:l0_1.length≤c0_1) (hr1:Kd.C (Kd.int .i64) w A1 l1.length l1) (hc1:l1.length≤c1) (h:r30_Has.f k a0_0 l0_1 l1=some r):
    Calls Try.prog 42 #[.agg #[.int .i64 a0_0,.slice A0_1 l0_1.length c0_1],.slice A1 l1.length c1] w fun e w'=>e= .returned (.bool r)∧Below w.heap.size w w':=by
 have hu46:=Try.underlying46
 have HR0_1:=aM hr0_1
 have HC0_1:=aM hc0_1
 clear hr0_1 hc0_1
 have HR1:=aM hr1
 have HC1:=aM hc1
 clear hr1 hc1
 have HB:=aM (Below.refl w.heap.size w)
 have H:((r30_Sift.f k a0_0 l0_1 l1).bind fun bt641=>(if bt641.2=(l0_1.length:Int) then((r30_Unit.f k (l1.length:Int)).bind fun t645=>((r09_SameInts.f k bt641.1 t645).bind fun t648=>(some t648))) else(some false)))=some r:=h
 clear h
 replace H:=oB H
 obtain⟨⟨t641,t644⟩,A30,H⟩:=H
 replace H:(if t644=(l0_1.length:Int) then((r30_Unit.f k (l1.length:Int)).bind fun t645=>((r09_SameInts.f k t641 t645).bind fun t648=>(some t648))) else(some false))=some r:=H
 have A3:=aM A30
 clear A30
 by_cases c4:t644=(l0_1.length:Int)
 ·rw[if_pos c4] at H
  have c4b0:=beq_iff_eq.mpr c4;have c4b1:=bne_eq_false_iff_eq.mpr c4;clear c4;replace H:=oB H;obtain⟨t645,A50,H⟩:=H;replace H:((r09_SameInts.f k t641 t645).bind fun t648=>(some t648))=some r:=H;have A5:=aM A50;clear A50;replace H:=oB H;obtain⟨t648,A60,H⟩:=H;replace H:(some t648)=some r:=H;have A6:=aM A60;clear A60;obtain rfl:=oI H
  go_enter Try.func42,Try.ntmps42
  go_wp2_with (first|((with_reducible refine Zr (N:=2) rfl ?_);(try(refine Zv (by rfl) ?_;dsimp only));refine Zx ?hg (N:=2) ?hd (cs:= #[.int .i64 a0_0,.slice A0_1 l0_1.length c0_1]) (t:=46) ?hr ?_;(case hd=>rfl);(case hg=>rfl);(case hr=>first|(go_simp;done)|(go_simp;rfl));intro gb640 hg w7 hbox hb;have BK640:=aM (hbox);have GW640:=aM ((by rw[hg];exact(Zc zz128):w.heap.size≤gb640));have GE640:=aM ((by rw[hg];exact(Zc zz128):w.heap.size≤gb640));replace HB:=aM (Ze zz128 hb);clear hb hbox hg;have hcz8_0:w7.cell? ⟨gb640,0,none⟩=some (.int .i64 a0_0):=(Zb BK640.out 0).trans rfl;have hcz8_1:w7.cell? ⟨gb640,1,none⟩=some (.slice A0_1 l0_1.length c0_1):=(Zb BK640.out 1).trans rfl;have hfz8_0:=Za BK640.out 0;have hfz8_1:=Za BK640.out 1)|((with_reducible refine Zq (f:=41) rfl ?_);refine ZB (some 10) rfl rfl Try.func41 (by kernel_rfl) rfl #[.agg #[.int .i64 a0_0,.slice A0_1 l0_1.length c0_1],.slice A1 l1.length c1] rfl zz127 ?_;(with_reducible refine(r30_Sift.calls k a0_0 _ _ l0_1 (fun k_=>k_<w.heap.size) _ _ l1 t641 t644 _ ?side1 ?side2 ?side3 A3.out).mono ?_);(case side1=>exact zC (Kd.C_below HR0_1.out HB.out));(case side2=>exact HC0_1.out);(case side3=>exact Kd.V_mk HC1.out (Kd.F_below (Kd.C_F (Kd.heap_int .i64) HR1.out) zz105));rintro e w9 ⟨v642,rfl,ho0,hb⟩;refine⟨_,rfl,?_⟩;have HO643:=aM (Kd.V_lower (Kd.V_mono (ok':=fun k_=>k_≠gb640) ho0 (fun k_ hk_=>Or.elim hk_ (fun hs_=>fun e_=>Nat.not_le.2 hs_ (by rw[e_];exact GW640.out)) (fun hn_=>(Kd.freshB (g:=gb640) (o:= .cells #[.int .i64 a0_0,.slice A0_1 l0_1.length c0_1] 46 (0,0)) (zB BK640) k_ hn_)))) (Zc zz105));replace BK640:=aM (Zg (g:=gb640) (o:= .cells #[.int .i64 a0_0,.slice A0_1 l0_1.length c0_1] 46 (0,0)) (zB BK640) hb);replace HB:=aM (Ze zz105 hb);(try clear hb);(try clear hb2);(try clear hk);(try clear hi);(try clear ho0);have hcz10_0:w9.cell? ⟨gb640,0,none⟩=some (.int .i64 a0_0):=(Zb BK640.out 0).trans rfl;have hcz10_1:w9.cell? ⟨gb640,1,none⟩=some (.slice A0_1 l0_1.length c0_1):=(Zb BK640.out 1).trans rfl;have hfz10_0:=Za BK640.out 0;have hfz10_1:=Za BK640.out 1)|(go_at_call 26;(with_reducible refine(r30_Unit.calls k (l1.length:Int) t645 _ A5.out).mono ?_);rintro e w11 ⟨v646,rfl,ho0,hb⟩;replace HO643:=aM (Kd.V_elder' (zV HO643) (Kd.R_base ho0) hb);have HO647:=aM (Kd.R_lower ho0 (Zc zz105));replace BK640:=aM (Zg (g:=gb640) (o:= .cells #[.int .i64 a0_0,.slice A0_1 l0_1.length c0_1] 46 (0,0)) (zB BK640) hb);replace HB:=aM (Ze zz105 hb);(try clear hb);(try clear hb2);(try clear hk);(try clear hi);(try clear ho0);obtain⟨Ao12,co12,eo12⟩:=Kd.V_slice HO643.out;subst eo12;obtain⟨Ao13,co13,eo13⟩:=Kd.R_slice HO647.out;subst eo13)|(go_at_call 15;(with_reducible refine(r09_SameInts.calls k _ _ t641 _ _ t645 t648 _ ?side1 ?side2 ?side3 ?side4 A6.out).mono ?_);(case side1=>exact zC ((Kd.V_reads' HO643.out).2.2));(case side2=>exact(Kd.V_reads' HO643.out).2.1);(case side3=>exact zC ((Kd.R_reads' HO647.out).2.2));(case side4=>exact(Kd.R_reads' HO647.out).2.1);rintro e w' ⟨rfl,⟨nd,rfl⟩⟩))
  go_ret
  exact⟨by first|rfl|(simp[Zj,Zi]<;>rfl)|(simp[*,Zj,Zi]<;>rfl),by repeat(first|(with_reducible first|exact HB.out|apply Zn|apply Zf|apply Zh|refine Zk ?_ GE640.out)|exact HB.out)⟩
 rw[if_neg c4] at H
 have c4b0:=beq_eq_false_iff_ne.mpr c4
 have c4b1:=bne_iff_ne.mpr c4
 obtain rfl:=oI H
 go_enter Try.func42,Try.ntmps42
 go_wp2_with (first|((with_reducible refine Zr (N:=2) rfl ?_);(try(refine Zv (by rfl) ?_;dsimp only));refine Zx ?hg (N:=2) ?hd (cs:= #[.int .i64 a0_0,.slice A0_1 l0_1.length c0_1]) (t:=46) ?hr ?_;(case hd=>rfl);(case hg=>rfl);(case hr=>first|(go_simp;done)|(go_simp;rfl));intro gb640 hg w14 hbox hb;have BK640:=aM (hbox);have GW640:=aM ((by rw[hg];exact(Zc zz128):w.heap.size≤gb640));have GE640:=aM ((by rw[hg];exact(Zc zz128):w.heap.size≤gb640));replace HB:=aM (Ze zz128 hb);clear hb hbox hg;have hcz15_0:w14.cell? ⟨gb640,0,none⟩=some (.int .i64 a0_0):=(Zb BK640.out 0).trans rfl;have hcz15_1:w14.cell? ⟨gb640,1,none⟩=some (.slice A0_1 l0_1.length c0_1):=(Zb BK640.out 1).trans rfl;have hfz15_0:=Za BK640.out 0;have hfz15_1:=Za BK640.out 1)|((with_reducible refine Zq (f:=41) rfl ?_);refine ZB (some 10) rfl rfl Try.func41 (by kernel_rfl) rfl #[.agg #[.int .i64 a0_0,.slice A0_1 l0_1.length c0_1],.slice A1 l1.length c1] rfl zz127 ?_;(with_reducible refine(r30_Sift.calls k a0_0 _ _ l0_1 (fun k_=>k_<w.heap.size) _ _ l1 t641 t644 _ ?side1 ?side2 ?side3 A3.out).mono ?_);(case side1=>exact zC (Kd.C_below HR0_1.out HB.out));(case side2=>exact HC0_1.out);(case side3=>exact Kd.V_mk HC1.out (Kd.F_below (Kd.C_F (Kd.heap_int .i64) HR1.out) zz105));rintro e w16 ⟨v642,rfl,ho0,hb⟩;refine⟨_,rfl,?_⟩;have HO643:=aM (Kd.V_lower (Kd.V_mono (ok':=fun k_=>k_≠gb640) ho0 (fun k_ hk_=>Or.elim hk_ (fun hs_=>fun e_=>Nat.not_le.2 hs_ (by rw[e_];exact GW640.out)) (fun hn_=>(Kd.freshB (g:=gb640) (o:= .cells #[.int .i64 a0_0,.slice A0_1 l0_1.length c0_1] 46 (0,0)) (zB BK640) k_ hn_)))) (Zc zz105));replace BK640:=aM (Zg (g:=gb640) (o:= .cells #[.int .i64 a0_0,.slice A0_1 l0_1.length c0_1] 46 (0,0)) (zB BK640) hb);replace HB:=aM (Ze zz105 hb);(try clear hb);(try clear hb2);(try clear hk);(try clear hi);(try clear ho0);have hcz17_0:w16.cell? ⟨gb640,0,none⟩=some (.int .i64 a0_0):=(Zb BK640.out 0).trans rfl;have hcz17_1:w16.cell? ⟨gb640,1,none⟩=some (.slice A0_1 l0_1.length c0_1):=(Zb BK640.out 1).trans rfl;have hfz17_0:=Za BK640.out 0;have hfz17_1:=Za BK640.out 1))
 go_ret
 exact⟨by first|rfl|(simp[Zj,Zi]<;>rfl)|(simp[*,Zj,Zi]<;>rfl),by repeat(first|(with_reducible first|exact HB.out|apply Zn|apply Zf|apply Zh|refine Zk ?_ GE640.out)|exact HB.out)⟩
mutual
def perm_Compose.l0:Nat→List (List Int)→List (List Int)→Int→Int→Option (List Int×Int)
 |0,_,_,_,_=>none
 |k+1,x0,x13,x14,x15=>if x15<x14 then(if 0≤x15 then(if x15<(x13.length:Int) then((perm_Check.f (Zp x13 x15)).bind fun t112=>(if t112=0 then(perm_Compose.l0 k x0 x13 x14 (wrap64 (x15+1))) else(some (([]:List Int),t112)))) else(none)) else(none)) else(if 0<(x0.length:Int) then((perm_identity.f k ((Zp x0 0).length:Int)).bind fun t114=>(perm_Compose.l1 k t114 x0 (x0.length:Int) 0)) else(none))
def perm_Compose.l1:Nat→List Int→List (List Int)→Int→Int→Option (List Int×Int)
 |0,_,_,_,_=>none
 |k+1,x7,x30,x31,x32=>if x32<x31 then(if 0≤x32 then(if x32<(x30.length:Int) then(if((Zp x30 x32).length:Int)=(x7.length:Int) then((perm_then.f k x7 (Zp x30 x32)).bind fun t118=>(perm_Compose.l1 k t118 x30 x31 (wrap64 (x32+1)))) else(some (([]:List Int),10))) else(none)) else(none)) else(some (x7,0))
end
def perm_Compose.f (k:Nat) (l0:List (List Int)):Option (List Int×Int):=if(l0.length:Int)=0 then(some (([]:List Int),11)) else(perm_Compose.l0 k l0 l0 (l0.length:Int) 0)
theorem perm_Compose.calls (k:Nat) (A0:Option Addr) (c0:Nat) (l0:List (List Int)) (r1:List Int) (r2:Int) (w:World) (hr0:Kd.C (Kd.slice 3 (Kd.int .i64)) w A0 l0.length l0) (hc0:l0.length≤c0) (h:perm_Compose.f k l0=some (r1,r2)):
    Calls Try.prog 13 #[.slice A0 l0.length c0] w fun e w'=>∃v0_:Value,e= .returned (.tuple #[v0_,.int .i64 r2])∧Kd.R (Kd.int .i64) 3 w' w.heap.size (fun _=>True) v0_ r1∧Below w.heap.size w w':=by
 have HR0:=aM hr0
 have HC0:=aM hc0
 clear hr0 hc0
 have HB:=aM (Below.refl w.heap.size w)
 have H:(if(l0.length:Int)=0 then(some (([]:List Int),11)) else(perm_Compose.l0 k l0 l0 (l0.length:Int) 0))=some (r1,r2):=h
 clear h
 by_cases c2:(l0.length:Int)=0
 ·rw[if_pos c2] at H
  have c2b0:=beq_iff_eq.mpr c2;have c2b1:=bne_eq_false_iff_eq.mpr c2;clear c2;simp only[Option.some.injEq,Prod.mk.injEq] at H;obtain⟨rfl,rfl⟩:=H
  go_enter Try.func13,Try.ntmps13
  go_wp2
  go_ret2
  exact⟨_,by first|rfl|(simp[Zj,Zi]<;>rfl)|(simp[*,Zj,Zi]<;>rfl),by first|exact Kd.R_nil _ _ _ _ _|exact Kd.N_nil _ _ _ _ _|exact Kd.V_nil _ _ _ _ _|exact Kd.Q_nil _ _ _ _ _|exact Kd.S_nil _ _ _ _ _,by repeat(first|(with_reducible first|exact HB.out|apply Zn|apply Zf|apply Zh)|exact HB.out)⟩
 rw[if_neg c2] at H
 have c2b0:=beq_eq_false_iff_ne.mpr c2
 have c2b1:=bne_iff_ne.mpr c2
 have c2b2:¬(l0= []):=fun h_=>c2 (by rw[h_];rfl)
 have H':=aM H
 clear H
 go_enter Try.func13,Try.ntmps13
 go_wp2
 go_loopg [15] k (fun kq v15 w'=>∃(x15_1:Int),v15= .int .i64 x15_1∧Aside0 (perm_Compose.l0 kq l0 l0 (l0.length:Int) x15_1=some (r1,r2))∧Aside0 (kq≤k)∧Aside0 (Below w.heap.size w w'))
 case atStart=>exact⟨(0),zz154,H',⟨Nat.le_refl _⟩,⟨zz128⟩⟩
 case round =>
  clear H';(try clear c1);(try clear c2);(try clear c2b0);(try clear c2b1);(try clear c2b2);(try clear p2);obtain⟨x15_1,rfl,HA,HK1,HB⟩:=hrel
  cases gk with
  |zero=>exact absurd HA.out (by simp[perm_Compose.l0])
  | succ k1=>
   have H:=HA.out;clear HA;simp only[perm_Compose.l0] at H
   by_cases c3:x15_1<(l0.length:Int)
   ·rw [if_pos c3] at H;have c3b0:=dT c3;clear c3
    by_cases c4:0≤x15_1
    ·rw [if_pos c4] at H;have c4b0:=dT c4;clear c4
     by_cases c5:x15_1<(l0.length:Int)
     ·rw [if_pos c5] at H;have c5b0:=dT c5;clear c5;replace H:=oB H;obtain⟨t112,A60,H⟩:=H;replace H:(if t112=0 then(perm_Compose.l0 k1 l0 l0 (l0.length:Int) (wrap64 (x15_1+1))) else(some (([]:List Int),t112)))=some (r1,r2):=H;have A6:=aM A60;clear A60
      by_cases c7:t112=0
      ·rw[if_pos c7] at H;have c7b0:=beq_iff_eq.mpr c7;have c7b1:=bne_eq_false_iff_eq.mpr c7;clear c7;have H':=aM H;clear H;have p111:0≤(x15_1:Int):=oD zz153;have q111:x15_1<(l0.length:Int):=oD zz153;obtain⟨ad111,A111_0,c111_0,e111,hx111_0,hl111_0,hi111_0⟩:=ZY HR0.out x15_1 p111 q111
       cases e111;replace hx111_0:=(HB.out.cell (wB w _ hx111_0)).trans hx111_0;have HR111_0:=aM hi111_0;have HC111_0:=aM hl111_0;clear hi111_0 hl111_0;replace p111:=eq_true p111;replace q111:=eq_true q111
       go_wp2_with (first|((with_reducible refine Zq (f:=16) rfl ?_);refine ZB (some 20) rfl rfl Try.func16 (by kernel_rfl) rfl #[.slice A111_0 (Zp l0 x15_1).length c111_0] rfl zz127 ?_;(with_reducible refine(perm_Check.calls _ _ (Zp l0 x15_1) t112 _ ?side1 ?side2 A6.out).mono ?_);(case side1=>exact zC (Kd.C_below HR111_0.out HB.out));(case side2=>exact HC111_0.out);rintro e w8 ⟨rfl,hb⟩;refine⟨_,rfl,?_⟩;replace HB:=aM (Ze zz128 hb);(try clear hb);(try clear hb2);(try clear hk);(try clear hi)))
       go_roundg k1
       case measure=>have:=HK1.out;omega
       case rel=>exact⟨(wrap64 (x15_1+1)),zz154,H',⟨zz163⟩,⟨zz128⟩⟩
      rw[if_neg c7] at H;have c7b0:=beq_eq_false_iff_ne.mpr c7;have c7b1:=bne_iff_ne.mpr c7;simp only[Option.some.injEq,Prod.mk.injEq] at H;obtain⟨rfl,rfl⟩:=H;have p111:0≤(x15_1:Int):=oD zz153;have q111:x15_1<(l0.length:Int):=oD zz153;obtain⟨ad111,A111_0,c111_0,e111,hx111_0,hl111_0,hi111_0⟩:=ZY HR0.out x15_1 p111 q111
      cases e111;replace hx111_0:=(HB.out.cell (wB w _ hx111_0)).trans hx111_0;have HR111_0:=aM hi111_0;have HC111_0:=aM hl111_0;clear hi111_0 hl111_0;replace p111:=eq_true p111;replace q111:=eq_true q111
      go_wp2_with (first|((with_reducible refine Zq (f:=16) rfl ?_);refine ZB (some 20) rfl rfl Try.func16 (by kernel_rfl) rfl #[.slice A111_0 (Zp l0 x15_1).length c111_0] rfl zz127 ?_;(with_reducible refine(perm_Check.calls _ _ (Zp l0 x15_1) t112 _ ?side1 ?side2 A6.out).mono ?_);(case side1=>exact zC (Kd.C_below HR111_0.out HB.out));(case side2=>exact HC111_0.out);rintro e w9 ⟨rfl,hb⟩;refine⟨_,rfl,?_⟩;replace HB:=aM (Ze zz128 hb);(try clear hb);(try clear hb2);(try clear hk);(try clear hi)))
      go_ret2
      exact⟨_,by first|rfl|(simp[Zj,Zi]<;>rfl)|(simp[*,Zj,Zi]<;>rfl),by first|exact Kd.R_nil _ _ _ _ _|exact Kd.N_nil _ _ _ _ _|exact Kd.V_nil _ _ _ _ _|exact Kd.Q_nil _ _ _ _ _|exact Kd.S_nil _ _ _ _ _,by repeat(first|(with_reducible first|exact HB.out|apply Zn|apply Zf|apply Zh)|exact HB.out)⟩
     rw[if_neg c5] at H
     exact absurd H (by simp)
    rw[if_neg c4] at H
    exact absurd H (by simp)
   rw[if_neg c3] at H;have c3b0:=dF c3;clear c3
   by_cases c10:0<(l0.length:Int)
   ·rw [if_pos c10] at H;have c10b0:=dT c10;have c10b1:decide (0<l0.length)=true:=dT (by omega);clear c10;replace H:=oB H;obtain⟨t114,A110,H⟩:=H;replace H:(perm_Compose.l1 k1 t114 l0 (l0.length:Int) 0)=some (r1,r2):=H;have A11:=aM A110;clear A110;have H':=aM H;clear H;have p113:0≤(0:Int):=(by omega);have q113:0<(l0.length:Int):=oD zz153;obtain⟨ad113,A113_0,c113_0,e113,hx113_0,hl113_0,hi113_0⟩:=ZY HR0.out 0 p113 q113
    cases e113;have qi113:(0<l0.length)=True:=eq_true (by omega)
    (try rw[show((0:Int)).toNat=0 from rfl] at hx113_0)
    (try rw[Addr.add_zero'] at hx113_0)
    replace hx113_0:=(HB.out.cell (wB w _ hx113_0)).trans hx113_0;have HR113_0:=aM hi113_0;have HC113_0:=aM hl113_0;clear hi113_0 hl113_0;replace p113:=eq_true p113;replace q113:=eq_true q113
    go_wp2_with (first|((with_reducible refine Zq (f:=49) rfl ?_);refine ZB (some 29) rfl rfl Try.func49 (by kernel_rfl) rfl #[.int .i64 ((Zp l0 0).length:Int)] rfl zz127 ?_;(with_reducible refine(perm_identity.calls k1 ((Zp l0 0).length:Int) t114 _ A11.out).mono ?_);rintro e w12 ⟨v115,rfl,ho0,hb⟩;refine⟨_,rfl,?_⟩;have HO116:=aM (Kd.R_lower ho0 (Zc zz128));replace HB:=aM (Ze zz128 hb);(try clear hb);(try clear hb2);(try clear hk);(try clear hi);(try clear ho0)))
    go_loopg [7,32] k1 (fun kq v7 v32 w'=>∃(x7_2:List Int) (x32_2:Int),v32= .int .i64 x32_2∧Aside0 (perm_Compose.l1 kq x7_2 l0 (l0.length:Int) x32_2=some (r1,r2))∧Aside0 (kq≤k1)∧Aside0 (Kd.R (Kd.int .i64) 3 w' w.heap.size (fun _=>True) v7 x7_2)∧Aside0 (Below w.heap.size w w'))
    case atStart=>exact⟨(t114),(0),zz154,H',⟨Nat.le_refl _⟩,⟨(zR HO116)⟩,⟨zz128⟩⟩
    case round =>
     clear H';(try clear c1);(try clear p1);(try clear q1);(try clear hx1);(try clear qi1);(try clear c2);(try clear c2b0);(try clear c2b1);(try clear c2b2);(try clear p2);(try clear c3);(try clear c3b0);(try clear c4);(try clear c4b0);(try clear c5);(try clear c5b0);(try clear p6);(try clear c7);(try clear c7b0);(try clear c7b1);(try clear c10);(try clear c10b0);(try clear c10b1);(try clear c11);(try clear p11);(try clear q11);(try clear hx11);(try clear qi11);(try clear hx111_0);(try clear hx113_0);(try clear p111);(try clear p113);(try clear p2);(try clear q111);(try clear q113);obtain⟨x7_2,x32_2,rfl,HA,HK2,HO_7,HB⟩:=hrel
     cases gk with
     |zero=>exact absurd HA.out (by simp[perm_Compose.l1])
     | succ k2=>
      have H:=HA.out;clear HA;simp only[perm_Compose.l1] at H
      by_cases c13:x32_2<(l0.length:Int)
      ·rw [if_pos c13] at H;have c13b0:=dT c13;clear c13
       by_cases c14:0≤x32_2
       ·rw [if_pos c14] at H;have c14b0:=dT c14;clear c14
        by_cases c15:x32_2<(l0.length:Int)
        ·rw [if_pos c15] at H;have c15b0:=dT c15;clear c15
         by_cases c16:((Zp l0 x32_2).length:Int)=(x7_2.length:Int)
         ·rw[if_pos c16] at H;have c16b0:=beq_iff_eq.mpr c16;have c16b1:=bne_eq_false_iff_eq.mpr c16;have c16b2:((Zp l0 x32_2).length==x7_2.length)=true:=by first|simpa using c16|(simp at c16⊢;omega)
          clear c16;replace H:=oB H;obtain⟨t118,A170,H⟩:=H;replace H:(perm_Compose.l1 k2 t118 l0 (l0.length:Int) (wrap64 (x32_2+1)))=some (r1,r2):=H;have A17:=aM A170;clear A170;have H':=aM H;clear H;have p117:0≤(x32_2:Int):=oD zz153;have q117:x32_2<(l0.length:Int):=oD zz153;obtain⟨ad117,A117_0,c117_0,e117,hx117_0,hl117_0,hi117_0⟩:=ZY HR0.out x32_2 p117 q117;obtain rfl:ad113=ad117:=(by injection e117);replace hx117_0:=(HB.out.cell (wB w _ hx117_0)).trans hx117_0;have HR117_0:=aM hi117_0;have HC117_0:=aM hl117_0;clear hi117_0 hl117_0;replace p117:=eq_true p117;replace q117:=eq_true q117;obtain⟨Ao18,co18,eo18⟩:=Kd.R_slice HO_7.out;subst eo18
          go_wp2_with (first|((with_reducible refine Zq (f:=50) rfl ?_);refine ZB (some 43) rfl rfl Try.func50 (by kernel_rfl) rfl #[.slice Ao18 x7_2.length co18,.slice A117_0 (Zp l0 x32_2).length c117_0] rfl zz127 ?_;(with_reducible refine(perm_then.calls k2 _ _ x7_2 _ _ (Zp l0 x32_2) t118 _ ?side1 ?side2 ?side3 ?side4 A17.out).mono ?_);(case side1=>exact zC ((Kd.R_reads' HO_7.out).2.2));(case side2=>exact(Kd.R_reads' HO_7.out).2.1);(case side3=>exact zC (Kd.C_below HR117_0.out HB.out));(case side4=>exact HC117_0.out);rintro e w19 ⟨v119,rfl,ho0,hb⟩;refine⟨_,rfl,?_⟩;have HO120:=aM (Kd.R_lower (Kd.R_new' ho0 (Kd.R_lt (zR HO_7))) (Zc zz128));replace HO_7:=aM (Kd.R_elder' (zR HO_7) (Kd.R_base ho0) hb);replace HB:=aM (Ze zz128 hb);(try clear hb);(try clear hb2);(try clear hk);(try clear hi);(try clear ho0)))
          go_roundg k2
          case measure=>have:=HK1.out;have:=HK2.out;omega
          case rel=>exact⟨(t118),(wrap64 (x32_2+1)),zz154,H',⟨zz155⟩,⟨(by(with_reducible repeat(first|apply Kd.R_alloc|apply Kd.R_drewN|apply Kd.R_drew));exact Kd.R_mono HO120.out (fun _ hk=>trivial))⟩,⟨zz128⟩⟩
         rw[if_neg c16] at H;have c16b0:=beq_eq_false_iff_ne.mpr c16;have c16b1:=bne_iff_ne.mpr c16;have c16b2:((Zp l0 x32_2).length==x7_2.length)=false:=by first|simpa using c16|(simp at c16⊢;omega)
         simp only[Option.some.injEq,Prod.mk.injEq] at H;obtain⟨rfl,rfl⟩:=H;have p117:0≤(x32_2:Int):=oD zz153;have q117:x32_2<(l0.length:Int):=oD zz153;obtain⟨ad117,A117_0,c117_0,e117,hx117_0,hl117_0,hi117_0⟩:=ZY HR0.out x32_2 p117 q117;obtain rfl:ad113=ad117:=(by injection e117);replace hx117_0:=(HB.out.cell (wB w _ hx117_0)).trans hx117_0;have HR117_0:=aM hi117_0;have HC117_0:=aM hl117_0;clear hi117_0 hl117_0;replace p117:=eq_true p117;replace q117:=eq_true q117;obtain⟨Ao20,co20,eo20⟩:=Kd.R_slice HO_7.out;subst eo20;go_wp2
         go_ret2
         exact⟨_,by first|rfl|(simp[Zj,Zi]<;>rfl)|(simp[*,Zj,Zi]<;>rfl),by first|exact Kd.R_nil _ _ _ _ _|exact Kd.N_nil _ _ _ _ _|exact Kd.V_nil _ _ _ _ _|exact Kd.Q_nil _ _ _ _ _|exact Kd.S_nil _ _ _ _ _,by repeat(first|(with_reducible first|exact HB.out|apply Zn|apply Zf|apply Zh)|exact HB.out)⟩
        rw[if_neg c15] at H
        exact absurd H (by simp)
       rw[if_neg c14] at H
       exact absurd H (by simp)
      rw[if_neg c13] at H;have c13b0:=dF c13;clear c13;simp only[Option.some.injEq,Prod.mk.injEq] at H;obtain⟨rfl,rfl⟩:=H;go_wp2
      go_ret2
      exact⟨_,by first|rfl|(simp[Zj,Zi]<;>rfl)|(simp[*,Zj,Zi]<;>rfl),by(with_reducible repeat(first|apply Kd.R_alloc|apply Kd.R_drewN|apply Kd.R_drew));exact HO_7.out,by repeat(first|(with_reducible first|exact HB.out|apply Zn|apply Zf|apply Zh)|exact HB.out)⟩
   rw[if_neg c10] at H
   exact absurd H (by simp)
def perm_Inverse.f (k:Nat) (l0:List Int):Option (List Int×Int):=(perm_Check.f l0).bind fun t128=>(if t128=0 then((perm_inverse.f k l0).bind fun t129=>(some (t129,0))) else(some (([]:List Int),t128)))
theorem perm_Inverse.calls (k:Nat) (A0:Option Addr) (c0:Nat) (l0:List Int) (r1:List Int) (r2:Int) (w:World) (hr0:Kd.C (Kd.int .i64) w A0 l0.length l0) (hc0:l0.length≤c0) (h:perm_Inverse.f k l0=some (r1,r2)):
    Calls Try.prog 18 #[.slice A0 l0.length c0] w fun e w'=>∃v0_:Value,e= .returned (.tuple #[v0_,.int .i64 r2])∧Kd.R (Kd.int .i64) 3 w' w.heap.size (fun _=>True) v0_ r1∧Below w.heap.size w w':=by
 have HR0:=aM hr0
 have HC0:=aM hc0
 clear hr0 hc0
 have HB:=aM (Below.refl w.heap.size w)
 have H:((perm_Check.f l0).bind fun t128=>(if t128=0 then((perm_inverse.f k l0).bind fun t129=>(some (t129,0))) else(some (([]:List Int),t128))))=some (r1,r2):=h
 clear h
 replace H:=oB H
 obtain⟨t128,A20,H⟩:=H
 replace H:(if t128=0 then((perm_inverse.f k l0).bind fun t129=>(some (t129,0))) else(some (([]:List Int),t128)))=some (r1,r2):=H
 have A2:=aM A20
 clear A20
 by_cases c3:t128=0
 ·rw[if_pos c3] at H
  have c3b0:=beq_iff_eq.mpr c3;have c3b1:=bne_eq_false_iff_eq.mpr c3;clear c3;replace H:=oB H;obtain⟨t129,A40,H⟩:=H;replace H:(some (t129,0))=some (r1,r2):=H;have A4:=aM A40;clear A40;simp only[Option.some.injEq,Prod.mk.injEq] at H;obtain⟨rfl,rfl⟩:=H
  go_enter Try.func18,Try.ntmps18
  go_wp2_with (first|((with_reducible refine Zq (f:=16) rfl ?_);refine ZB (some 6) rfl rfl Try.func16 (by kernel_rfl) rfl #[.slice A0 l0.length c0] rfl zz127 ?_;(with_reducible refine(perm_Check.calls _ _ l0 t128 _ ?side1 ?side2 A2.out).mono ?_);(case side1=>exact zC HR0.out);(case side2=>exact HC0.out);rintro e w5 ⟨rfl,hb⟩;refine⟨_,rfl,?_⟩;replace HB:=aM (Ze zz128 hb);(try clear hb);(try clear hb2);(try clear hk);(try clear hi))|((with_reducible refine Zq (f:=55) rfl ?_);refine ZB (some 11) rfl rfl Try.func55 (by kernel_rfl) rfl #[.slice A0 l0.length c0] rfl zz127 ?_;(with_reducible refine(perm_inverse.calls k _ _ l0 t129 _ ?side1 ?side2 A4.out).mono ?_);(case side1=>exact zC (Kd.C_below HR0.out HB.out));(case side2=>exact HC0.out);rintro e w6 ⟨v130,rfl,ho0,hb⟩;refine⟨_,rfl,?_⟩;have HO131:=aM (Kd.R_lower ho0 (Zc zz128));replace HB:=aM (Ze zz128 hb);(try clear hb);(try clear hb2);(try clear hk);(try clear hi);(try clear ho0)))
  go_ret2
  exact⟨_,by first|rfl|(simp[Zj,Zi]<;>rfl)|(simp[*,Zj,Zi]<;>rfl),by(with_reducible repeat(first|apply Kd.R_alloc|apply Kd.R_drewN|apply Kd.R_drew));exact HO131.out,by repeat(first|(with_reducible first|exact HB.out|apply Zn|apply Zf|apply Zh)|exact HB.out)⟩
 rw[if_neg c3] at H
 have c3b0:=beq_eq_false_iff_ne.mpr c3
 have c3b1:=bne_iff_ne.mpr c3
 simp only[Option.some.injEq,Prod.mk.injEq] at H
 obtain⟨rfl,rfl⟩:=H
 go_enter Try.func18,Try.ntmps18
 go_wp2_with (first|((with_reducible refine Zq (f:=16) rfl ?_);refine ZB (some 6) rfl rfl Try.func16 (by kernel_rfl) rfl #[.slice A0 l0.length c0] rfl zz127 ?_;(with_reducible refine(perm_Check.calls _ _ l0 t128 _ ?side1 ?side2 A2.out).mono ?_);(case side1=>exact zC HR0.out);(case side2=>exact HC0.out);rintro e w7 ⟨rfl,hb⟩;refine⟨_,rfl,?_⟩;replace HB:=aM (Ze zz128 hb);(try clear hb);(try clear hb2);(try clear hk);(try clear hi)))
 go_ret2
 exact⟨_,by first|rfl|(simp[Zj,Zi]<;>rfl)|(simp[*,Zj,Zi]<;>rfl),by first|exact Kd.R_nil _ _ _ _ _|exact Kd.N_nil _ _ _ _ _|exact Kd.V_nil _ _ _ _ _|exact Kd.Q_nil _ _ _ _ _|exact Kd.S_nil _ _ _ _ _,by repeat(first|(with_reducible first|exact HB.out|apply Zn|apply Zf|apply Zh)|exact HB.out)⟩
mutual
def perm_Cycles.l0:Nat→List Int→List (List Int)→List Bool→Int→Int→Option ((List (List Int))×Int)
 |0,_,_,_,_,_=>none
 |k+1,x0,x5,x6,x19,x20=>if x20<x19 then(perm_Cycles.l1 k x0 x5 x6 ([]:List Int) x20 x19 x20) else(some (x5,0))
def perm_Cycles.l1:Nat→List Int→List (List Int)→List Bool→List Int→Int→Int→Int→Option ((List (List Int))×Int)
 |0,_,_,_,_,_,_,_=>none
 |k+1,x0,x5,x6,x8,x9,x19,x20=>if 0≤x9 then(if x9<(x6.length:Int) then(if rdOf false x6 x9=true then(if(x8.length:Int)>1 then(if x5.length<5864062014805 then(perm_Cycles.l0 k x0 (x5++ [x8]) x6 x19 (wrap64 (x20+1))) else(none)) else(perm_Cycles.l0 k x0 x5 x6 x19 (wrap64 (x20+1)))) else(if x8.length<17592186044416 then(if x9<(x0.length:Int) then(perm_Cycles.l1 k x0 x5 (x6.set (x9:Int).toNat true) (x8++ [x9]) (rd x0 x9) x19 x20) else(none)) else(none))) else(none)) else(none)
end
def perm_Cycles.f (k:Nat) (l0:List Int):Option ((List (List Int))×Int):=(perm_Check.f l0).bind fun t132=>(if t132=0 then(if 0≤(l0.length:Int) then(if((l0.length:Int):Int).toNat≤281474976710656 then(perm_Cycles.l0 k l0 ([]:List (List Int)) (List.replicate ((l0.length:Int):Int).toNat false) (l0.length:Int) 0) else(none)) else(none)) else(some (([]:List (List Int)),t132)))
theorem perm_Cycles.calls (k :Nat) (A0:Option Addr) (c0:Nat) (l0:List Int) (r1:List (List Int)) (r2:Int) (w:World) (hr0:Kd.C (Kd.int .i64) w A0 l0.length l0) (hc0:l0.length≤c0) (h:perm_Cycles.f k l0=some (r1,r2)):
    Calls Try.prog 20 #[.slice A0 l0.length c0] w fun e w'=>∃v0_:Value,e= .returned (.tuple #[v0_,.int .i64 r2])∧Kd.S (Kd.slice 3 (Kd.int .i64)) 22 w' w.heap.size (fun _=>True) v0_ r1∧Below w.heap.size w w':=by
 have HR0:=aM hr0
 have HC0:=aM hc0
 clear hr0 hc0
 have HB:=aM (Below.refl w.heap.size w)
 have H:((perm_Check.f l0).bind fun t132=>(if t132=0 then(if 0≤(l0.length:Int) then(if((l0.length:Int):Int).toNat≤281474976710656 then(perm_Cycles.l0 k l0 ([]:List (List Int)) (List.replicate ((l0.length:Int):Int).toNat false) (l0.length:Int) 0) else(none)) else(none)) else(some (([]:List (List Int)),t132))))=some (r1,r2):=h
 clear h
 replace H:=oB H
 obtain⟨t132,A20,H⟩:=H
 replace H:(if t132=0 then(if 0≤(l0.length:Int) then(if((l0.length:Int):Int).toNat≤281474976710656 then(perm_Cycles.l0 k l0 ([]:List (List Int)) (List.replicate ((l0.length:Int):Int).toNat false) (l0.length:Int) 0) else(none)) else(none)) else(some (([]:List (List Int)),t132)))=some (r1,r2):=H
 have A2:=aM A20
 clear A20
 by_cases c3:t132=0
 ·rw [if_pos c3] at H
  have c3b0:=beq_iff_eq.mpr c3;have c3b1:=bne_eq_false_iff_eq.mpr c3;clear c3
  by_cases c4:0≤(l0.length:Int)
  ·rw [if_pos c4] at H; have c4b0:=eq_true c4;have c4b1:=dT c4;clear c4
   by_cases c5:((l0.length:Int):Int).toNat≤281474976710656
   ·rw [if_pos c5] at H; have c5b0:=eq_true c5;have c5b1:=dT c5;clear c5;obtain⟨y133,hy133⟩:∃y_:List Bool,y_=(List.replicate ((l0.length:Int):Int).toNat false):=⟨_,rfl⟩;replace H:(perm_Cycles.l0 k l0 ([]:List (List Int)) y133 (l0.length:Int) 0)=some (r1,r2):=by first|(rw[hy133];with_reducible exact H)|(have H2_:=(Option.bind_some _ _).symm.trans H;rw[hy133];with_reducible exact H2_)|(have H2_:=(Option.bind_some _ _).symm.trans H;with_reducible exact H2_)|with_reducible exact H|(rw[hy133];exact H)|exact H
    have Ny133:=aM hy133;clear hy133;have H':=aM H;clear H
    go_enter Try.func20,Try.ntmps20
    go_wp2_with (first|((with_reducible refine Zq (f:=16) rfl ?_);refine ZB (some 11) rfl rfl Try.func16 (by kernel_rfl) rfl #[.slice A0 l0.length c0] rfl zz127 ?_;(with_reducible refine(perm_Check.calls _ _ l0 t132 _ ?side1 ?side2 A2.out).mono ?_);(case side1=>exact zC HR0.out);(case side2=>exact HC0.out);rintro e w6 ⟨rfl,hb⟩;refine⟨_,rfl,?_⟩;replace HB:=aM (Ze zz128 hb);(try clear hb);(try clear hb2);(try clear hk);(try clear hi))|((with_reducible refine Zr (N:=17) rfl ?_);refine Kd.R_make Kd.bool _ 4 rfl (N:=17) rfl 83 _ _ rfl (l0.length:Int) rfl rfl Try.underlying83 (.bool false) 1 info4 rfl (by decide) (by omega) false (ok:=fun _=>True) (okp:=fun _=>True) rfl (fun _ hk=>hk) trivial (oD zz153) (Nat.le_trans (Nat.mul_le_mul_right _ (oD zz153:(l0.length:Int).toNat≤281474976710656)) (by omega)) (Below.refl _ _) (Nat.le_refl _) ?_;intro v134 w7 ho8 hb hg_ hnew_;clear hg_ hnew_;(first|rw[←Ny133.out] at ho8|(simp only[Int.reduceToNat] at ho8;rw[←Ny133.out] at ho8));have HO135:=aM (Kd.R_lower ho8 (Zc zz128));replace HB:=aM (Ze zz128 hb);clear hb ho8))
    go_loopg [5,20] k (fun kq v5 v20 w'=>∃(x5_1:List (List Int)) (x6_1:List Bool) (x20_1:Int),v20= .int .i64 x20_1∧Aside0 (perm_Cycles.l0 kq l0 x5_1 x6_1 (l0.length:Int) x20_1=some (r1,r2))∧Aside0 (kq≤k)∧Aside0 (Kd.S (Kd.slice 3 (Kd.int .i64)) 22 w' w.heap.size (fun _=>True) v5 x5_1)∧Aside0 (Kd.R Kd.bool 4 w' w.heap.size (fun _=>True) v134 x6_1)∧Aside0 (Below w.heap.size w w'))
    case atStart=>exact⟨(([]:List (List Int))),(y133),(0),zz154,H',⟨Nat.le_refl _⟩,⟨zz125⟩,⟨(zR HO135)⟩,⟨zz128⟩⟩
    case round =>
     clear H';(try clear c1);(try clear c2);(try clear p2);(try clear c3);(try clear c3b0);(try clear c3b1);(try clear c4);(try clear c4b0);(try clear c4b1);(try clear c5);(try clear c5b0);(try clear c5b1);obtain⟨x5_1,x6_1,x20_1,rfl,HA,HK1,HO_5,HO_6,HB⟩:=hrel
     cases gk with
     |zero=>exact absurd HA.out (by simp[perm_Cycles.l0])
     | succ k1=>
      have H:=HA.out;clear HA;simp only[perm_Cycles.l0] at H
      by_cases c9:x20_1<(l0.length:Int)
      ·rw [if_pos c9] at H;have c9b0:=dT c9;clear c9;have H':=aM H;clear H;go_wp2
       go_loopg [8,9] k1 (fun kq v8 v9 w'=>∃(x6_2:List Bool) (x8_2:List Int) (x9_2:Int),v9= .int .i64 x9_2∧Aside0 (perm_Cycles.l1 kq l0 x5_1 x6_2 x8_2 x9_2 (l0.length:Int) x20_1=some (r1,r2))∧Aside0 (kq≤k1)∧Aside0 (Kd.S (Kd.slice 3 (Kd.int .i64)) 22 w' w.heap.size (fun k_=>some k_≠(v8:Value).ownBlock) u5 x5_1)∧Aside0 (Kd.R Kd.bool 4 w' w.heap.size (fun _=>True) v134 x6_2)∧Aside0 (Kd.R (Kd.int .i64) 3 w' w.heap.size (fun _=>True) v8 x8_2)∧Aside0 (Below w.heap.size w w'))
       case atStart=>exact⟨(x6_1),(([]:List Int)),(x20_1),zz154,H',⟨Nat.le_refl _⟩,⟨(by(with_reducible repeat(first|apply Kd.S_alloc|apply Kd.S_drewN|apply Kd.S_drew));exact Kd.S_mono HO_5.out (fun _ hk=>zz164))⟩,⟨(zR HO_6)⟩,⟨zz126⟩,⟨zz128⟩⟩
       case round =>
        clear H';(try clear c1);(try clear c2);(try clear p2);(try clear c3);(try clear c3b0);(try clear c3b1);(try clear c4);(try clear c4b0);(try clear c4b1);(try clear c5);(try clear c5b0);(try clear c5b1);(try clear c9);(try clear c9b0);(try clear p2);obtain⟨x6_2,x8_2,x9_2,rfl,HA,HK2,HO_5,HO_6,HO_8,HB⟩:=hrel
        cases gk with
        |zero=>exact absurd HA.out (by simp[perm_Cycles.l1])
        | succ k2=>
         have H:=HA.out;clear HA;simp only[perm_Cycles.l1] at H
         by_cases c10:0≤x9_2
         ·rw [if_pos c10] at H;have c10b0:=dT c10;clear c10
          by_cases c11:x9_2<(x6_2.length:Int)
          ·rw [if_pos c11] at H;have c11b0:=dT c11;clear c11;obtain⟨bq12,hbq12⟩:∃b_:Bool,b_=(rdOf false x6_2 x9_2):=⟨_,rfl⟩;replace H:(if bq12=true then(if(x8_2.length:Int)>1 then(if x5_1.length<5864062014805 then(perm_Cycles.l0 k2 l0 (x5_1++ [x8_2]) x6_2 (l0.length:Int) (wrap64 (x20_1+1))) else(none)) else(perm_Cycles.l0 k2 l0 x5_1 x6_2 (l0.length:Int) (wrap64 (x20_1+1)))) else(if x8_2.length<17592186044416 then(if x9_2<(l0.length:Int) then(perm_Cycles.l1 k2 l0 x5_1 (x6_2.set (x9_2:Int).toNat true) (x8_2++ [x9_2]) (rd l0 x9_2) (l0.length:Int) x20_1) else(none)) else(none)))=some (r1,r2):=by rw[←hbq12] at H;exact H
           have Nbq12:=aM hbq12;clear hbq12
           by_cases c13:bq12=true
           ·subst c13;have H1:(if(x8_2.length:Int)>1 then(if x5_1.length<5864062014805 then(perm_Cycles.l0 k2 l0 (x5_1++ [x8_2]) x6_2 (l0.length:Int) (wrap64 (x20_1+1))) else(none)) else(perm_Cycles.l0 k2 l0 x5_1 x6_2 (l0.length:Int) (wrap64 (x20_1+1))))=some (r1,r2):=by rw[if_pos rfl] at H;exact H
            clear H;have H:=H1;clear H1
            by_cases c14:(x8_2.length:Int)>1
            ·rw [if_pos c14] at H;have c14b0:=dT c14;have c14b1:decide (1<x8_2.length)=true:=dT (by omega);clear c14
             by_cases c15:x5_1.length<5864062014805
             ·rw[if_pos c15] at H;have LMc15:=aM c15;clear c15;obtain⟨y137,hy137⟩:∃y_:List (List Int),y_=(x5_1++ [x8_2]):=⟨_,rfl⟩;replace H:(perm_Cycles.l0 k2 l0 y137 x6_2 (l0.length:Int) (wrap64 (x20_1+1)))=some (r1,r2):=by first|(rw[hy137];with_reducible exact H)|(have H2_:=(Option.bind_some _ _).symm.trans H;rw[hy137];with_reducible exact H2_)|(have H2_:=(Option.bind_some _ _).symm.trans H;with_reducible exact H2_)|with_reducible exact H|(rw[hy137];exact H)|exact H
              have Ny137:=aM hy137;clear hy137;have H':=aM H;clear H;obtain⟨Ao16,co16,eo16⟩:=Kd.R_slice HO_6.out;subst eo16;have p136:0≤(x9_2:Int):=oD zz153;have q136:x9_2<(x6_2.length:Int):=oD zz153;obtain⟨ad136,e136,hx136_0⟩:=Kd.at_bool (Kd.R_reads' HO_6.out).2.2 x9_2 p136 q136
              (try rw[←Nbq12.out] at hx136_0)
              cases e136;replace p136:=eq_true p136;replace q136:=eq_true q136;obtain⟨Ao17,co17,eo17⟩:=Kd.R_slice HO_8.out;subst eo17
              go_wp2_with (first|((with_reducible refine ZT (b:= .append) (xs:= #[.tmp 43,.tmp 45]) rfl ?_);at_builtin;refine Kd.S_append (Kd.slice 3 (Kd.int .i64)) (w0:=w) w.heap.size rfl (.tmp 43) (.tmp 45) 28 22 (.slice none 0 0) 24 rfl Try.underlying28 info22 rfl (by decide) (by omega) u5 x5_1 x8_2 [.slice Ao17 x8_2.length co17] (fun _=>True) (fun k_=>some k_=(.slice Ao17 x8_2.length co17:Value).ownBlock) rfl rfl ?aP (fun k_ hk_=>((Kd.R_mono (ok':=fun k_=>((fun _=>True)) k_∧some k_≠(u5:Value).ownBlock) (Kd.R_apart' (HO_8.out) (Kd.S_typed HO_5.out) (by decide)) (fun k_ hk=>⟨trivial,hk.2⟩))).1 k_ hk_.symm) ?aF ?aO ?aB ?aS ?aL ?_;(case aP=>exact Kd.M_row (Kd.R_mono (Kd.R_tight rfl (Kd.R_mono (ok':=fun k_=>((fun _=>True)) k_∧some k_≠(u5:Value).ownBlock) (Kd.R_apart' (HO_8.out) (Kd.S_typed HO_5.out) (by decide)) (fun k_ hk=>⟨trivial,hk.2⟩))) (fun _ h_=>h_)));(case aB=>exact zz128);(case aF=>exact(fun _ _=>trivial));(case aO=>exact(by(with_reducible repeat(first|apply Kd.S_alloc|apply Kd.S_drewN|apply Kd.S_drew));exact Kd.S_mono HO_5.out (fun k_ hk=>⟨trivial,fun e_=>hk e_⟩)));(case aS=>exact(Zc zz128));(case aL=>have:=LMc15.out;omega);intro v138 w18 ho hb hg hat;rw[←Ny137.out] at ho;replace HO_6:=aM (Kd.R_over' (zR HO_6) (Kd.S_typed (zS HO_5)) (by decide) hg);replace HB:=aM (hb);have HO139:=aM (ho);clear HO_5 HO_8;clear ho hb hg hat))
              go_roundg k2
              case measure=>have:=HK1.out;have:=HK2.out;omega
              case rel=>exact⟨(y137),(x6_2),(wrap64 (x20_1+1)),zz154,H',⟨zz155⟩,⟨(zS HO139)⟩,⟨(zR HO_6)⟩,⟨zz128⟩⟩
             rw[if_neg c15] at H
             exact absurd H (by simp)
            rw[if_neg c14] at H;have c14b0:=dF c14;have c14b1:decide (1<x8_2.length)=false:=dF (by omega);clear c14;have H':=aM H;clear H;obtain⟨Ao19,co19,eo19⟩:=Kd.R_slice HO_6.out;subst eo19;have p136:0≤(x9_2:Int):=oD zz153;have q136:x9_2<(x6_2.length:Int):=oD zz153;obtain⟨ad136,e136,hx136_0⟩:=Kd.at_bool (Kd.R_reads' HO_6.out).2.2 x9_2 p136 q136
            (try rw[←Nbq12.out] at hx136_0)
            cases e136;replace p136:=eq_true p136;replace q136:=eq_true q136;obtain⟨Ao20,co20,eo20⟩:=Kd.R_slice HO_8.out;subst eo20;go_wp2
            go_roundg k2
            case measure=>have:=HK1.out;have:=HK2.out;omega
            case rel=>exact⟨(x5_1),(x6_2),(wrap64 (x20_1+1)),zz154,H',⟨zz155⟩,⟨(by(with_reducible repeat(first|apply Kd.S_alloc|apply Kd.S_drewN|apply Kd.S_drew));exact Kd.S_mono HO_5.out (fun _ hk=>trivial))⟩,⟨(zR HO_6)⟩,⟨zz128⟩⟩
           replace c13:=Bool.eq_false_iff.mpr c13;subst c13;have H1:(if x8_2.length<17592186044416 then(if x9_2<(l0.length:Int) then(perm_Cycles.l1 k2 l0 x5_1 (x6_2.set (x9_2:Int).toNat true) (x8_2++ [x9_2]) (rd l0 x9_2) (l0.length:Int) x20_1) else(none)) else(none))=some (r1,r2):=by rw[if_neg (show¬(false=true) by decide)] at H;exact H
           clear H;have H:=H1;clear H1;obtain⟨y140,hy140⟩:∃y_:List Bool,y_=(x6_2.set (x9_2:Int).toNat true):=⟨_,rfl⟩;replace H:(if x8_2.length<17592186044416 then(if x9_2<(l0.length:Int) then(perm_Cycles.l1 k2 l0 x5_1 y140 (x8_2++ [x9_2]) (rd l0 x9_2) (l0.length:Int) x20_1) else(none)) else(none))=some (r1,r2):=by first|(rw[hy140];with_reducible exact H)|(have H2_:=(Option.bind_some _ _).symm.trans H;rw[hy140];with_reducible exact H2_)|(have H2_:=(Option.bind_some _ _).symm.trans H;with_reducible exact H2_)|with_reducible exact H|(rw[hy140];exact H)|exact H
           have Ny140:=aM hy140;clear hy140
           by_cases c22:x8_2.length<17592186044416
           ·rw [if_pos c22] at H;have LMc22:=aM c22;clear c22;obtain⟨y141,hy141⟩:∃y_:List Int,y_=(x8_2++ [x9_2]):=⟨_,rfl⟩;replace H:(if x9_2<(l0.length:Int) then(perm_Cycles.l1 k2 l0 x5_1 y140 y141 (rd l0 x9_2) (l0.length:Int) x20_1) else(none))=some (r1,r2):=by first|(rw[hy141];with_reducible exact H)|(have H2_:=(Option.bind_some _ _).symm.trans H;rw[hy141];with_reducible exact H2_)|(have H2_:=(Option.bind_some _ _).symm.trans H;with_reducible exact H2_)|with_reducible exact H|(rw[hy141];exact H)|exact H
            have Ny141:=aM hy141;clear hy141
            by_cases c23:x9_2<(l0.length:Int)
            ·rw[if_pos c23] at H;have c23b0:=dT c23;clear c23;have H':=aM H;clear H;obtain⟨Ao24,co24,eo24⟩:=Kd.R_slice HO_6.out;subst eo24;have p136:0≤(x9_2:Int):=oD zz153;have q136:x9_2<(x6_2.length:Int):=oD zz153;obtain⟨ad136,e136,hx136_0⟩:=Kd.at_bool (Kd.R_reads' HO_6.out).2.2 x9_2 p136 q136
             (try rw[←Nbq12.out] at hx136_0)
             cases e136;replace p136:=eq_true p136;replace q136:=eq_true q136;have p21:0≤(x9_2:Int):=oD zz153;have q21:(x9_2:Int)<((x6_2.length:Int):Int):=oD zz153;obtain⟨go21,co21,eo21,gb21,gl21,cl21,HG21⟩:=Kd.R_form HO_6.out (by omega)
             (first|cases eo21|(injection eo21 with ea_ en_ ec_;(first|subst ea_|(injection ea_ with ea_;subst ea_));subst ec_;clear en_))
             have GB21:=aM gb21;have GG21:=aM HG21;clear gb21 gl21 HG21
             (first|simp only[Z3] at hx136_0|skip)
             obtain⟨hx21_0,hf21_0⟩:=Kd.R_celln false HO_6.out (x9_2:Int) p21 q21;replace p21:=eq_true p21;replace q21:=eq_true q21;have HP25:=Kd.R_putg HO_6.out (x9_2:Int) true
             go_wp2_with (first|((with_reducible refine ZU (t:=4) (p:=35) rfl ?_);refine ZO (t:=4) (p:=35) (v:= ?vo_w26) (w1:=(wr.setCell ⟨go21,(x9_2:Int).toNat,none⟩ (.bool true))) ?hg ?ho ?hn ?hr ?_;(case ho=>rfl);(case hg=>rfl);(case hn=>rfl);(case hr=>first|(go_simp;done)|(go_simp;rfl));intro w26 hw;have hg:wr.grownBy w26 (some go21):=(by rw[hw];exact HP25.2);have hp_:Kd.R Kd.bool 4 w26 w.heap.size (fun _=>True) (.slice (some ⟨go21,0,none⟩) x6_2.length co24) y140:=(by rw[hw,Ny140.out];exact HP25.1);clear HP25;replace HO_5:=aM (Kd.S_over' (v:=(.slice (some ⟨go21,0,none⟩) x6_2.length co24)) (zS HO_5) (Kd.R_typed HO_6.out) (by decide) hg);replace HO_8:=aM (Kd.R_over' (v:=(.slice (some ⟨go21,0,none⟩) x6_2.length co24)) (zR HO_8) (Kd.R_typed HO_6.out) (by decide) hg);replace HO_6:=aM (hp_);replace HB:=aM ((by rw[hw];exact Zk (HB.out) GB21.out:Below w.heap.size w w26));clear hg hw hp_)|((with_reducible refine ZT (b:= .append) (xs:= #[.tmp 36,.tmp 38]) rfl ?_);at_builtin;refine Kd.R_append (Kd.int .i64) (w0:=w) w.heap.size rfl (.tmp 36) (.tmp 38) 22 3 (.int .i64 0) 8 rfl Try.underlying22 info3 rfl (by decide) (by omega) u8 x8_2 x9_2 [.int .i64 x9_2] (fun _=>True) (fun _=>False) rfl rfl ?aP (fun _ hk=>hk.elim) ?aF ?aO ?aB ?aS ?aL ?_;(case aP=>exact rfl);(case aB=>exact zz128);(case aF=>exact(fun _ _=>trivial));(case aO=>exact(zR HO_8));(case aS=>exact(Zc zz128));(case aL=>have:=LMc22.out;omega);intro v142 w27 ho hb hg hat;rw[←Ny141.out] at ho;replace HO_5:=aM (Kd.S_after (ok:=(fun _=>True)) (by(with_reducible repeat(first|apply Kd.S_alloc|apply Kd.S_drewN|apply Kd.S_drew));exact Kd.S_mono HO_5.out (fun _ hk=>⟨trivial,hk⟩)) hg hat);replace HO_6:=aM (Kd.R_over' (zR HO_6) (Kd.R_typed (zR HO_8)) (by decide) hg);replace HB:=aM (hb);have HO143:=aM (ho);clear HO_8;clear ho hb hg hat;have p144:0≤(x9_2:Int):=oD zz153;have q144:x9_2<(l0.length:Int):=oD zz153;obtain⟨ad144,e144,hx144_0⟩:=Kd.at_int HR0.out x9_2 p144 q144;cases e144;replace hx144_0:=(HB.out.cell (wB w _ hx144_0)).trans hx144_0;replace p144:=eq_true p144;replace q144:=eq_true q144))
             go_roundg k2
             case measure=>have:=HK1.out;have:=HK2.out;omega
             case rel=>exact⟨(y140),(y141),(rd l0 x9_2),zz154,H',⟨zz155⟩,⟨(by(with_reducible repeat(first|apply Kd.S_alloc|apply Kd.S_drewN|apply Kd.S_drew));exact Kd.S_mono HO_5.out (fun _ hk=>hk.2))⟩,⟨(zR HO_6)⟩,⟨(zR HO143)⟩,⟨zz128⟩⟩
            rw[if_neg c23] at H
            exact absurd H (by simp)
           rw[if_neg c22] at H
           exact absurd H (by simp)
          rw[if_neg c11] at H
          exact absurd H (by simp)
         rw[if_neg c10] at H
         exact absurd H (by simp)
      rw[if_neg c9] at H;have c9b0:=dF c9;clear c9;simp only[Option.some.injEq,Prod.mk.injEq] at H;obtain⟨rfl,rfl⟩:=H;go_wp2
      go_ret2
      exact⟨_,by first|rfl|(simp[Zj,Zi]<;>rfl)|(simp[*,Zj,Zi]<;>rfl),by(with_reducible repeat(first|apply Kd.S_alloc|apply Kd.S_drewN|apply Kd.S_drew));exact HO_5.out,by repeat(first|(with_reducible first|exact HB.out|apply Zn|apply Zf|apply Zh)|exact HB.out)⟩
   rw[if_neg c5] at H
   exact absurd H (by simp)
  rw[if_neg c4] at H
  exact absurd H (by simp)
 rw[if_neg c3] at H
 have c3b0:=beq_eq_false_iff_ne.mpr c3
 have c3b1:=bne_iff_ne.mpr c3
 simp only[Option.some.injEq,Prod.mk.injEq] at H
 obtain⟨rfl,rfl⟩:=H
 go_enter Try.func20,Try.ntmps20
 go_wp2_with (first|((with_reducible refine Zq (f:=16) rfl ?_);refine ZB (some 11) rfl rfl Try.func16 (by kernel_rfl) rfl #[.slice A0 l0.length c0] rfl zz127 ?_;(with_reducible refine(perm_Check.calls _ _ l0 t132 _ ?side1 ?side2 A2.out).mono ?_);(case side1=>exact zC HR0.out);(case side2=>exact HC0.out);rintro e w28 ⟨rfl,hb⟩;refine⟨_,rfl,?_⟩;replace HB:=aM (Ze zz128 hb);(try clear hb);(try clear hb2);(try clear hk);(try clear hi)))
 go_ret2
 exact⟨_,by first|rfl|(simp[Zj,Zi]<;>rfl)|(simp[*,Zj,Zi]<;>rfl),by first|exact Kd.S_nil _ _ _ _ _|exact Kd.N_nil _ _ _ _ _|exact Kd.V_nil _ _ _ _ _|exact Kd.Q_nil _ _ _ _ _|exact Kd.R_nil _ _ _ _ _,by repeat(first|(with_reducible first|exact HB.out|apply Zn|apply Zf|apply Zh)|exact HB.out)⟩
mutual
def perm_Order.l0:Nat→Int→List (List Int)→Int→Int→Option (Int×Int)
 |0,_,_,_,_=>none
 |k+1,x6,x19,x20,x21=>if x21<x20 then(if 0≤x21 then(if x21<(x19.length:Int) then(perm_Order.l1 k x6 (Zp x19 x21) x6 ((Zp x19 x21).length:Int) x19 x20 x21) else(none)) else(none)) else(some (x6,0))
def perm_Order.l1:Nat→Int→List Int→Int→Int→List (List Int)→Int→Int→Option (Int×Int)
 |0,_,_,_,_,_,_,_=>none
 |k+1,x6,x8,x9,x10,x19,x20,x21=>if x10>0 then(if x10=0 then(none) else(perm_Order.l1 k x6 x8 x10 (Int.tmod x9 x10) x19 x20 x21)) else(if x9=0 then(none) else(perm_Order.l0 k (wrap64 ((wrap64 (Int.tdiv x6 x9))*(x8.length:Int))) x19 x20 (wrap64 (x21+1))))
end
def perm_Order.f (k:Nat) (l0:List Int):Option (Int×Int):=(perm_Cycles.f k l0).bind fun bt145=>(if bt145.2=0 then(perm_Order.l0 k 1 bt145.1 (bt145.1.length:Int) 0) else(some (0,bt145.2)))
theorem perm_Order.calls (k:Nat) (A0:Option Addr) (c0:Nat) (l0:List Int) (r1:Int) (r2:Int) (w:World) (hr0:Kd.C (Kd.int .i64) w A0 l0.length l0) (hc0:l0.length≤c0) (h:perm_Order.f k l0=some (r1,r2)):
    Calls Try.prog 22 #[.slice A0 l0.length c0] w fun e w'=>e= .returned (.tuple #[.int .i64 r1,.int .i64 r2])∧Below w.heap.size w w':=by
 have HR0:=aM hr0
 have HC0:=aM hc0
 clear hr0 hc0
 have HB:=aM (Below.refl w.heap.size w)
 have H:((perm_Cycles.f k l0).bind fun bt145=>(if bt145.2=0 then(perm_Order.l0 k 1 bt145.1 (bt145.1.length:Int) 0) else(some (0,bt145.2))))=some (r1,r2):=h
 clear h
 replace H:=oB H
 obtain⟨⟨t145,t146⟩,A20,H⟩:=H
 replace H:(if t146=0 then(perm_Order.l0 k 1 t145 (t145.length:Int) 0) else(some (0,t146)))=some (r1,r2):=H
 have A2:=aM A20
 clear A20
 by_cases c3:t146=0
 ·rw [if_pos c3] at H
  have c3b0:=beq_iff_eq.mpr c3;have c3b1:=bne_eq_false_iff_eq.mpr c3;clear c3;have H':=aM H;clear H
  go_enter Try.func22,Try.ntmps22
  go_wp2_with (first|(go_at_call 20;(with_reducible refine(perm_Cycles.calls k _ _ l0 t145 t146 _ ?side1 ?side2 A2.out).mono ?_);(case side1=>exact zC HR0.out);(case side2=>exact HC0.out);rintro e w4 ⟨v147,rfl,ho0,hb⟩;have HO148:=aM (Kd.S_lower ho0 (Zc zz128));replace HB:=aM (Ze zz128 hb);(try clear hb);(try clear hb2);(try clear hk);(try clear hi);(try clear ho0);obtain⟨Ao5,co5,eo5⟩:=Kd.S_slice HO148.out;subst eo5))
  repeat(go_quiet (first|(go_at_call 20;(with_reducible refine(perm_Cycles.calls k _ _ l0 t145 t146 _ ?side1 ?side2 A2.out).mono ?_);(case side1=>exact zC HR0.out);(case side2=>exact HC0.out);rintro e w4 ⟨v147,rfl,ho0,hb⟩;have HO148:=aM (Kd.S_lower ho0 (Zc zz128));replace HB:=aM (Ze zz128 hb);(try clear hb);(try clear hb2);(try clear hk);(try clear hi);(try clear ho0);obtain⟨Ao5,co5,eo5⟩:=Kd.S_slice HO148.out;subst eo5));try go_wp2_with (first|(go_at_call 20;(with_reducible refine(perm_Cycles.calls k _ _ l0 t145 t146 _ ?side1 ?side2 A2.out).mono ?_);(case side1=>exact zC HR0.out);(case side2=>exact HC0.out);rintro e w4 ⟨v147,rfl,ho0,hb⟩;have HO148:=aM (Kd.S_lower ho0 (Zc zz128));replace HB:=aM (Ze zz128 hb);(try clear hb);(try clear hb2);(try clear hk);(try clear hi);(try clear ho0);obtain⟨Ao5,co5,eo5⟩:=Kd.S_slice HO148.out;subst eo5)))
  go_loopg [6,21] k (fun kq v6 v21 w'=>∃(x6_1:Int) (x21_1:Int),v6= .int .i64 x6_1∧v21= .int .i64 x21_1∧Aside0 (perm_Order.l0 kq x6_1 t145 (t145.length:Int) x21_1=some (r1,r2))∧Aside0 (kq≤k)∧Aside0 (Kd.S (Kd.slice 3 (Kd.int .i64)) 22 w' w.heap.size (fun _=>True) (.slice Ao5 t145.length co5) t145)∧Aside0 (Below w.heap.size w w'))
  case atStart=>exact⟨(1),(0),zz154,zz154,H',⟨Nat.le_refl _⟩,⟨(zS HO148)⟩,⟨zz128⟩⟩
  case round =>
   clear H';(try clear c2);(try clear p2);(try clear c3);(try clear c3b0);(try clear c3b1);obtain⟨x6_1,x21_1,rfl,rfl,HA,HK1,HO_19,HB⟩:=hrel
   cases gk with
   |zero=>exact absurd HA.out (by simp[perm_Order.l0])
   | succ k1=>
    have H:=HA.out;clear HA;simp only[perm_Order.l0] at H
    by_cases c6:x21_1<(t145.length:Int)
    ·rw [if_pos c6] at H;have c6b0:=dT c6;clear c6
     by_cases c7:0≤x21_1
     ·rw [if_pos c7] at H;have c7b0:=dT c7;clear c7
      by_cases c8:x21_1<(t145.length:Int)
      ·rw [if_pos c8] at H;have c8b0:=dT c8;clear c8;have H':=aM H;clear H;have p149:0≤(x21_1:Int):=oD zz153;have q149:x21_1<(t145.length:Int):=oD zz153;obtain⟨ad149,A149_0,c149_0,e149,hx149_0,hl149_0,hi149_0⟩:=ZY (Kd.S_reads' HO_19.out).2.2 x21_1 p149 q149
       cases e149;obtain⟨ce149,hce149,hMe149,hcc149⟩:=Kd.S_get HO_19.out [] x21_1 p149 (by first|exact q149|exact oD zz153|(have e_:=(Kd.S_reads' HO_19.out).1;omega));obtain⟨ve149_0,rfl,ge149_0⟩:=hMe149;have hv149_0:=hcc149 0 _ rfl;rw[Nat.add_zero,show((Kd.slice 3 (Kd.int .i64))).sz=1 from rfl,Nat.mul_one] at hv149_0;replace hv149_0:=oI (hv149_0.symm.trans hx149_0);rw[hv149_0] at ge149_0;have HL149_0:=aM (show Kd.R (Kd.int .i64) 3 _ _ _ _ (Zp t145 x21_1) from ge149_0);clear hv149_0 ge149_0;clear hcc149 hce149;have HR149_0:=aM hi149_0;have HC149_0:=aM hl149_0;clear hi149_0 hl149_0;replace p149:=eq_true p149;replace q149:=eq_true q149;go_wp2
       repeat(go_quiet (fail);try go_wp2)
       go_loopg [9,10] k1 (fun kq v9 v10 w'=>∃(x9_2:Int) (x10_2:Int),v9= .int .i64 x9_2∧v10= .int .i64 x10_2∧Aside0 (perm_Order.l1 kq x6_1 (Zp t145 x21_1) x9_2 x10_2 t145 (t145.length:Int) x21_1=some (r1,r2))∧Aside0 (kq≤k1)∧Aside0 (Kd.S (Kd.slice 3 (Kd.int .i64)) 22 w' w.heap.size (fun _=>True) (.slice (some ad149) t145.length co5) t145)∧Aside0 (Kd.C (Kd.int .i64) w' A149_0 (Zp t145 x21_1).length (Zp t145 x21_1))∧Aside0 (Below w.heap.size w w'))
       case atStart=>exact⟨(x6_1),(((Zp t145 x21_1).length:Int)),zz154,zz154,H',⟨Nat.le_refl _⟩,⟨(zS HO_19)⟩,⟨zz89⟩,⟨zz128⟩⟩
       case round=>
        clear H';(try clear c1);(try clear p1);(try clear q1);(try clear hx1);(try clear c2);(try clear p2);(try clear c3);(try clear c3b0);(try clear c3b1);(try clear c6);(try clear c6b0);(try clear c7);(try clear c7b0);(try clear c8);(try clear c8b0);(try clear hx149_0);(try clear p149);(try clear p2);(try clear q149);obtain⟨x9_2,x10_2,rfl,rfl,HA,HK2,HO_19,HR149_0,HB⟩:=hrel
        cases gk with
        |zero=>exact absurd HA.out (by simp[perm_Order.l1])
        | succ k2=>
         have H:=HA.out;clear HA;simp only[perm_Order.l1] at H
         by_cases c9:x10_2>0
         ·rw [if_pos c9] at H;have c9b0:=dT c9;clear c9
          by_cases c10:x10_2=0
          ·rw[if_pos c10] at H
           exact absurd H (by simp)
          rw[if_neg c10] at H;have c10b0:=beq_eq_false_iff_ne.mpr c10;have c10b1:=bne_iff_ne.mpr c10;have H':=aM H;clear H;go_wp2
          repeat(go_quiet (fail);try go_wp2)
          go_roundg k2
          case measure=>have:=HK1.out;have:=HK2.out;omega
          case rel=>exact⟨(x10_2),(Int.tmod x9_2 x10_2),zz154,zz154,H',⟨zz155⟩,⟨(zS HO_19)⟩,⟨zz89⟩,⟨zz128⟩⟩
         rw[if_neg c9] at H;have c9b0:=dF c9;clear c9
         by_cases c11:x9_2=0
         ·rw[if_pos c11] at H
          exact absurd H (by simp)
         rw[if_neg c11] at H;have c11b0:=beq_eq_false_iff_ne.mpr c11;have c11b1:=bne_iff_ne.mpr c11;have H':=aM H;clear H;go_wp2
         repeat(go_quiet (fail);try go_wp2)
         go_roundg k2
         case measure=>have:=HK1.out;have:=HK2.out;omega
         case rel=>exact⟨(wrap64 ((wrap64 (Int.tdiv x6_1 x9_2))*((Zp t145 x21_1).length:Int))),(wrap64 (x21_1+1)),zz154,zz154,H',⟨zz155⟩,⟨(zS HO_19)⟩,⟨zz128⟩⟩
      rw[if_neg c8] at H
      exact absurd H (by simp)
     rw[if_neg c7] at H
     exact absurd H (by simp)
    rw[if_neg c6] at H;have c6b0:=dF c6;clear c6;simp only[Option.some.injEq,Prod.mk.injEq] at H;obtain⟨rfl,rfl⟩:=H;go_wp2
    repeat(go_quiet (fail);try go_wp2)
    go_ret2
    exact⟨by first|rfl|(simp[Zj,Zi]<;>rfl)|(simp[*,Zj,Zi]<;>rfl),by repeat(first|(with_reducible first|exact HB.out|apply Zn|apply Zf|apply Zh)|exact HB.out)⟩
 rw[if_neg c3] at H
 have c3b0:=beq_eq_false_iff_ne.mpr c3
 have c3b1:=bne_iff_ne.mpr c3
 simp only[Option.some.injEq,Prod.mk.injEq] at H
 obtain⟨rfl,rfl⟩:=H
 go_enter Try.func22,Try.ntmps22
 go_wp2_with (first|(go_at_call 20;(with_reducible refine(perm_Cycles.calls k _ _ l0 t145 t146 _ ?side1 ?side2 A2.out).mono ?_);(case side1=>exact zC HR0.out);(case side2=>exact HC0.out);rintro e w12 ⟨v147,rfl,ho0,hb⟩;have HO148:=aM (Kd.S_lower ho0 (Zc zz128));replace HB:=aM (Ze zz128 hb);(try clear hb);(try clear hb2);(try clear hk);(try clear hi);(try clear ho0)))
 repeat(go_quiet (first|(go_at_call 20;(with_reducible refine(perm_Cycles.calls k _ _ l0 t145 t146 _ ?side1 ?side2 A2.out).mono ?_);(case side1=>exact zC HR0.out);(case side2=>exact HC0.out);rintro e w12 ⟨v147,rfl,ho0,hb⟩;have HO148:=aM (Kd.S_lower ho0 (Zc zz128));replace HB:=aM (Ze zz128 hb);(try clear hb);(try clear hb2);(try clear hk);(try clear hi);(try clear ho0)));try go_wp2_with (first|(go_at_call 20;(with_reducible refine(perm_Cycles.calls k _ _ l0 t145 t146 _ ?side1 ?side2 A2.out).mono ?_);(case side1=>exact zC HR0.out);(case side2=>exact HC0.out);rintro e w12 ⟨v147,rfl,ho0,hb⟩;have HO148:=aM (Kd.S_lower ho0 (Zc zz128));replace HB:=aM (Ze zz128 hb);(try clear hb);(try clear hb2);(try clear hk);(try clear hi);(try clear ho0))))
 go_ret2
 exact⟨by first|rfl|(simp[Zj,Zi]<;>rfl)|(simp[*,Zj,Zi]<;>rfl),by repeat(first|(with_reducible first|exact HB.out|apply Zn|apply Zf|apply Zh)|exact HB.out)⟩
end
section
def sortL (l:List Int):List Int:=l.mergeSort (fun a b=>decide (a≤b))
theorem sortL_perm (l:List Int):(sortL l).Perm l:=List.mergeSort_perm _ _
theorem sortL_sorted (l:List Int):(sortL l).Pairwise (· ≤·):=by
 have:=List.pairwise_mergeSort (le:=fun a b:Int=>decide (a≤b)) (by intro a b c;simp;omega) (by intro a b;simp;omega) l
 exact this.imp (by intro a b h;simpa using h)
theorem sortL_unique {l r:List Int} (hp:r.Perm l) (hs:r.Pairwise (· ≤·)):r=sortL l:=
 (hp.trans (sortL_perm l).symm).eq_of_pairwise (fun a b _ _ h1 h2=>by omega) hs (sortL_sorted l)
theorem sortL_eq_self {l:List Int} (hs:l.Pairwise (· ≤·)):sortL l=l:=(sortL_unique (List.Perm.refl l) hs).symm
def insOne (a:Int):List Int→List Int
 | []=> [a]
 |b::l=>if a≤b then a::b::l else b::insOne a l
def insL:List Int→List Int
 | []=> []
 |a::l=>insOne a (insL l)
theorem insOne_perm (a:Int):∀l,(insOne a l).Perm (a::l)
 | []=>List.Perm.refl _
 | b::l=>by
  unfold insOne
  split
  ·exact List.Perm.refl _
  ·exact((insOne_perm a l).cons b).trans (List.Perm.swap a b l)
theorem insOne_sorted (a:Int):∀ {l:List Int},l.Pairwise (· ≤·)→(insOne a l).Pairwise (· ≤·)
 | [],_=>by simp[insOne]
 | b ::l,h=>by
  have h':=List.pairwise_cons.1 h;unfold insOne
  split
  ·rename_i hab
   refine List.pairwise_cons.2 ⟨fun x hx=> ?_,h⟩
   rcases List.mem_cons.1 hx with rfl|hx
   ·exact hab
   ·have:=h'.1 x hx;omega
  ·refine List.pairwise_cons.2 ⟨fun x hx=> ?_,insOne_sorted a h'.2⟩
   rcases List.mem_cons.1 ((insOne_perm a l).mem_iff.1 hx) with rfl|hx
   ·omega
   ·exact h'.1 x hx
theorem insL_perm:∀l,(insL l).Perm l
 | []=>List.Perm.refl _
 |a::l=>(insOne_perm a _).trans ((insL_perm l).cons a)
theorem insL_sorted:∀l,(insL l).Pairwise (· ≤·)
 | []=>by simp[insL]
 |a::l=>insOne_sorted a (insL_sorted l)
theorem insL_eq (l:List Int):insL l=sortL l:=sortL_unique (insL_perm l) (insL_sorted l)
end
end Go.Proofs.Ytjjlhbgpdncpcaa.P
section
namespace Go.Proofs.Ytjjlhbgpdncpcaa.P
open Go.Shelf in
def sortRen:Ren where
 f:=fun|189=>58|125=>82|257=>81|128=>101|129=>102|294=>92|295=>93|296=>94|297=>95|298=>96|299=>97|216=>98|300=>99|301=>100|328=>103|329=>104|330=>105|331=>106|332=>107|215=>108|343=>109|n=>n
 t:=fun|28=>22|3=>3|46=>98|0=>0|51=>72|53=>77|4=>4|183=>117|182=>116|131=>122|5=>5|9=>9|218=>126|222=>130|228=>132|229=>133|n=>n
 g:=fun n=>n
theorem sortLays:Lays.n189 Try.prog sortRen where
 mixed:=by kernel_rfl
 f125:=Try.func82.trans (congrArg some (by kernel_rfl))
 f128:=Try.func101.trans (congrArg some (by kernel_rfl))
 f129:=Try.func102.trans (congrArg some (by kernel_rfl))
 f189:=Try.func58.trans (congrArg some (by kernel_rfl))
 f215:=Try.func108.trans (congrArg some (by kernel_rfl))
 f216:=Try.func98.trans (congrArg some (by kernel_rfl))
 f257:=Try.func81.trans (congrArg some (by kernel_rfl))
 f294:=Try.func92.trans (congrArg some (by kernel_rfl))
 f295:=Try.func93.trans (congrArg some (by kernel_rfl))
 f296:=Try.func94.trans (congrArg some (by kernel_rfl))
 f297:=Try.func95.trans (congrArg some (by kernel_rfl))
 f298:=Try.func96.trans (congrArg some (by kernel_rfl))
 f299:=Try.func97.trans (congrArg some (by kernel_rfl))
 f300:=Try.func99.trans (congrArg some (by kernel_rfl))
 f301:=Try.func100.trans (congrArg some (by kernel_rfl))
 f328:=Try.func103.trans (congrArg some (by kernel_rfl))
 f329:=Try.func104.trans (congrArg some (by kernel_rfl))
 f330:=Try.func105.trans (congrArg some (by kernel_rfl))
 f331:=Try.func106.trans (congrArg some (by kernel_rfl))
 f332:=Try.func107.trans (congrArg some (by kernel_rfl))
 f343:=Try.func109.trans (congrArg some (by kernel_rfl))
 t0:=Try.underlying0
 a0:=Try.isAgg0
 z0:=Try.sizeOf0
 v0:=Try.zeroValue0
 t3:=Try.underlying3
 a3:=Try.isAgg3
 z3:=Try.sizeOf3
 v3:=Try.zeroValue3
 t4:=Try.underlying4
 a4:=Try.isAgg4
 z4:=Try.sizeOf4
 v4:=Try.zeroValue4
 t5:=Try.underlying5
 a5:=Try.isAgg5
 z5:=Try.sizeOf5
 v5:=Try.zeroValue5
 t9:=Try.underlying9
 a9:=Try.isAgg9
 z9:=Try.sizeOf9
 v9:=Try.zeroValue9
 t28:=Try.underlying22
 a28:=Try.isAgg22
 z28:=Try.sizeOf22
 v28:=Try.zeroValue22
 t46:=Try.underlying98
 a46:=Try.isAgg98
 z46:=Try.sizeOf98
 v46:=Try.zeroValue98
 t51:=Try.underlying72
 a51:=Try.isAgg72
 z51:=Try.sizeOf72
 v51:=Try.zeroValue72
 t53:=Try.underlying77
 a53:=Try.isAgg77
 z53:=Try.sizeOf77
 v53:=Try.zeroValue77
 t131:=Try.underlying122
 a131:=Try.isAgg122
 z131:=Try.sizeOf122
 v131:=Try.zeroValue122
 t182:=Try.underlying116
 a182:=Try.isAgg116
 z182:=Try.sizeOf116
 v182:=Try.zeroValue116
 t183:=Try.underlying117
 a183:=Try.isAgg117
 z183:=Try.sizeOf117
 v183:=Try.zeroValue117
 t218:=Try.underlying126
 a218:=Try.isAgg126
 z218:=Try.sizeOf126
 v218:=Try.zeroValue126
 t222:=Try.underlying130
 a222:=Try.isAgg130
 z222:=Try.sizeOf130
 v222:=Try.zeroValue130
 t228:=Try.underlying132
 a228:=Try.isAgg132
 z228:=Try.sizeOf132
 v228:=Try.zeroValue132
 t229:=Try.underlying133
 a229:=Try.isAgg133
 z229:=Try.sizeOf133
 v229:=Try.zeroValue133
end Go.Proofs.Ytjjlhbgpdncpcaa.P
end
section
namespace Go.Proofs.Ytjjlhbgpdncpcaa.P
open Go.RowKit Go.Sort Go.Proofs.YtjjlhbgpdncpcaaW.PrintWords Go.Proofs.YtjjlhbgpdncpcaaW.PrintLast Go.Proofs.YtjjlhbgpdncpcaaW.PrintMore
set_option linter.unusedVariables false
set_option linter.unusedSimpArgs false
theorem sort_big (P0_:Nat→Prop) (u:Value) (l0:List Int) (w0 w:World) (hl:0<l0.length) (hsz:l0.length<4611686018427387904) (hB:Below w0.heap.size w0 w) (ho0:Kd.R (Kd.int .i64) 3 w w0.heap.size P0_ u l0):
    Calls Try.prog 58 #[u] w fun e w'=>e= .returned (.tuple #[])∧Kd.R (Kd.int .i64) 3 w' w0.heap.size (fun k_=>(P0_ k_∨w.heap.size≤k_)) u (sortL l0)∧Below w0.heap.size w0 w'∧Kept w w' (fun k_=>P0_ k_):=by
 have hP:=ho0.1
 have ho:=Kd.own_of_R ho0
 obtain⟨hlen,h0|⟨g,cap,cur,rfl,hbg,hheap,hn,hcap,hsz',htake⟩⟩:=ho
 ·omega
 have hH:=Go.holds_of_blockI hheap (ss:=l0) (by rw[Nat.mul_one] at htake;exact htake)
 have hlt:g<w.heap.size:=(Array.getElem?_eq_some_iff.1 hheap).1
 refine(Any.slices_Sort_int sortLays g 0 cap l0 w hH hlt hsz).mono ?_
 rintro e w' ⟨rfl,n,os,rfl⟩
 have hln:(sortL l0).length=l0.length:=(sortL_perm l0).length_eq
 have hown:=Go.ownsRow_sortedI (n:=n) (os:=os) (ts:=sortL l0) (ss:=l0) hln hbg hheap hn hcap hsz'
 have hg:=Go.grownBy_sortedI (w:=w) (g:=g) (n:=n) (os:=os) (sortL l0).toArray
 have hPg:P0_ g:=hP g rfl
 refine⟨rfl,Kd.R_of_own (by rw[hln];exact hown) (fun k hk=> .inl (hP k hk)),hB.grown hg hB.size (fun k hk=>by injection hk with hk;omega),⟨hg.size,fun i hi hs=>hg.block i hi (fun e_=>hs (by injection e_ with e_;rw[e_];exact hPg))⟩⟩
end Go.Proofs.Ytjjlhbgpdncpcaa.P
end
namespace Go.Proofs.Ytjjlhbgpdncpcaa.P
open Go.RowKit Go.Proofs.YtjjlhbgpdncpcaaW.PrintWords Go.Proofs.YtjjlhbgpdncpcaaW.PrintLast Go.Proofs.YtjjlhbgpdncpcaaW.PrintMore
set_option linter.unusedVariables false
set_option linter.unusedSimpArgs false
set_option maxHeartbeats 8000000
set_option maxRecDepth 100000
section
open Go.Shelf in
def lenRen:Ren where
 f:=fun|125=>82|128=>101|129=>102|n=>n
 t:=fun|46=>98|51=>72|53=>77|n=>n
 g:=fun n=>n
theorem lenLays:Lays.n125 Try.prog lenRen where
 mixed:=by kernel_rfl
 f125:=Try.func82.trans (congrArg some (by kernel_rfl))
 f128:=Try.func101.trans (congrArg some (by kernel_rfl))
 f129:=Try.func102.trans (congrArg some (by kernel_rfl))
 t3:=Try.underlying3
 a3:=Try.isAgg3
 z3:=Try.sizeOf3
 v3:=Try.zeroValue3
 t4:=Try.underlying4
 a4:=Try.isAgg4
 z4:=Try.sizeOf4
 v4:=Try.zeroValue4
 t5:=Try.underlying5
 a5:=Try.isAgg5
 z5:=Try.sizeOf5
 v5:=Try.zeroValue5
 t9:=Try.underlying9
 a9:=Try.isAgg9
 z9:=Try.sizeOf9
 v9:=Try.zeroValue9
 t46:=Try.underlying98
 a46:=Try.isAgg98
 z46:=Try.sizeOf98
 v46:=Try.zeroValue98
 t51:=Try.underlying72
 a51:=Try.isAgg72
 z51:=Try.sizeOf72
 v51:=Try.zeroValue72
 t53:=Try.underlying77
 a53:=Try.isAgg77
 z53:=Try.sizeOf77
 v53:=Try.zeroValue77
theorem bits_Len.calls (x:Int) (w:World) (h0:0≤x) (h1:x≤18446744073709551615):
    Calls Try.prog 82 #[.int .u64 x] w fun e w'=>e= .returned (.int .i64 (Lib.bitLen x.toNat))∧w'=w:=Any.bits_Len lenLays x w h0 h1
theorem ins0.calls (u:Value) (w:World):Calls Try.prog 92 #[u,.int .i64 0,.int .i64 0] w fun e w'=>e= .returned (.tuple #[])∧w'=w:=by
 go_enter Try.func92,Try.ntmps92
 go_wp2
 go_loopg [6] 1 (fun kq v6 w'=>v6= .int .i64 1∧w'=w)
 case atStart=>exact⟨rfl,rfl⟩
 case round=>
  obtain⟨rfl,rfl⟩:=hrel;go_wp2
  first|go_end0|((try simp only[Exit.inBlock,Exit.then]);refine bodyPost_ret (results_none rfl _ _ _) rfl ?_)
  exact⟨rfl,rfl⟩
theorem pdq0.calls (u:Value) (lim:Int) (w:World):Calls Try.prog 81 #[u,.int .i64 0,.int .i64 0,.int .i64 lim] w fun e w'=>e= .returned (.tuple #[])∧w'=w:=by
 go_enter Try.func81,Try.ntmps81
 go_wp2
 go_loopg [1,2,3,8,9] 1 (fun kq v1 v2 v3 v8 v9 w'=>v1= .int .i64 0∧v2= .int .i64 0∧v3= .int .i64 lim∧v8= .bool true∧v9= .bool true∧w'=w)
 case atStart=>exact⟨rfl,rfl,rfl,rfl,rfl,rfl⟩
 case round=>
  obtain⟨rfl,rfl,rfl,rfl,rfl,rfl⟩:=hrel
  go_wp2_with (first
   |(go_at_call 92;(with_reducible refine(ins0.calls u _).mono ?_);rintro e w1 ⟨rfl,rfl⟩))
  first|go_end0|((try simp only[Exit.inBlock,Exit.then]);refine bodyPost_ret (results_none rfl _ _ _) rfl ?_)
  exact⟨rfl,rfl⟩
def slSort.f (l0:List Int):Option (List Int):=if l0.length<4611686018427387904 then some (insL l0) else none
theorem slSort.calls (P0_:Nat→Prop) (u9000_:Value) (l0:List Int) (r:List Int) (w0 w:World) (hB:Below w0.heap.size w0 w) (ho0:Kd.R (Kd.int .i64) 3 w w0.heap.size P0_ u9000_ l0) (h:slSort.f l0=some r):
    Calls Try.prog 58 #[u9000_] w fun e w'=>e= .returned (.tuple #[])∧Kd.R (Kd.int .i64) 3 w' w0.heap.size (fun k_=>(P0_ k_∨w.heap.size≤k_)) u9000_ r∧Below w0.heap.size w0 w'∧Kept w w' (fun k_=>P0_ k_):=by
 have hq:l0.length<4611686018427387904∧sortL l0=r:=by
  unfold slSort.f at h;rw[insL_eq] at h
  split at h
  ·exact⟨by assumption,oI h⟩
  ·cases h
 obtain⟨hl',rfl⟩:=hq
 by_cases hz:0<l0.length
 ·exact sort_big P0_ u9000_ l0 w0 w hz hl' hB ho0
 have h0:l0= []:=by cases l0 with
  |nil=>rfl
  |cons a l=>simp at hz
 subst h0
 have hK:Kd.R (Kd.int .i64) 3 w w0.heap.size (fun k_=>(P0_ k_∨w.heap.size≤k_)) u9000_ (sortL []):=by
  rw[sortL_eq_self List.Pairwise.nil]
  exact Kd.R_mono ho0 (fun k hk=> .inl hk)
 have HK:=aM hK
 have HB:=aM hB
 obtain⟨A,c,rfl⟩:=Kd.R_slice ho0
 clear ho0 hB h hK hz hl'
 go_enter Try.func58,Try.ntmps58
 go_wp2_with (first
  |(go_at_call 82;(with_reducible refine(bits_Len.calls _ _ ?s1 ?s2).mono ?_);(case s1=>decide);(case s2=>decide);rintro e w1 ⟨rfl,rfl⟩)
  |(go_at_call 81;(with_reducible refine(pdq0.calls _ _ _).mono ?_);rintro e w1 ⟨rfl,rfl⟩))
 go_end0
 exact⟨rfl,HK.out,HB.out,Kept.refl _ _⟩
end
section
attribute [local go_sem] ZG ZE ZL ZK ZA Zz ZF ZD
mutual
def perm_Orbits.l0:Nat→List (List Int)→List Bool→List (List Int)→Int→Int→Option ((List (List Int))×Int)
 |0,_,_,_,_,_=>none
 |k+1,x1,x7,x8,x23,x24=>if x24<x23 then(if 0≤x24 then(if x24<(x7.length:Int) then(if rdOf false x7 x24=true then(perm_Orbits.l0 k x1 x7 x8 x23 (wrap64 (x24+1))) else(perm_Orbits.l1 k x1 (x7.set (x24:Int).toNat true) x8 (([x24]:List Int)) 0 x23 x24)) else(none)) else(none)) else(some (x8,0))
def perm_Orbits.l1:Nat→List (List Int)→List Bool→List (List Int)→List Int→Int→Int→Int→Option ((List (List Int))×Int)
 |0,_,_,_,_,_,_,_=>none
 |k+1,x1,x7,x8,x10,x11,x23,x24=>if x11<(x10.length:Int) then(perm_Orbits.l2 k x1 x7 x8 x10 x11 x23 x24 x1 (x1.length:Int) 0) else((slSort.f x10).bind fun t172=>(if x8.length<5864062014805 then(perm_Orbits.l0 k x1 x7 (x8++ [t172]) x23 (wrap64 (x24+1))) else(none)))
def perm_Orbits.l2:Nat→List (List Int)→List Bool→List (List Int)→List Int→Int→Int→Int→List (List Int)→Int→Int→Option ((List (List Int))×Int)
 |0,_,_,_,_,_,_,_,_,_,_=>none
 |k+1,x1,x7,x8,x10,x11,x23,x24,x42,x43,x44=>if x44<x43 then(if 0≤x44 then(if x44<(x42.length:Int) then(if 0≤x11 then(if x11<(x10.length:Int) then(if 0≤(rd x10 x11) then(if(rd x10 x11)<((Zp x42 x44).length:Int) then(if 0≤(rd (Zp x42 x44) (rd x10 x11)) then(if(rd (Zp x42 x44) (rd x10 x11))<(x7.length:Int) then(if(rdOf false x7 (rd (Zp x42 x44) (rd x10 x11))=true) then(perm_Orbits.l2 k x1 x7 x8 x10 x11 x23 x24 x42 x43 (wrap64 (x44+1))) else(if x10.length<17592186044416 then(perm_Orbits.l2 k x1 (x7.set ((rd (Zp x42 x44) (rd x10 x11)):Int).toNat true) x8 (x10++ [rd (Zp x42 x44) (rd x10 x11)]) x11 x23 x24 x42 x43 (wrap64 (x44+1))) else(none))) else(none)) else(none)) else(none)) else(none)) else(none)) else(none)) else(none)) else(none)) else(perm_Orbits.l1 k x1 x7 x8 x10 (wrap64 (x11+1)) x23 x24)
end
def perm_Orbits.f (k:Nat) (a0:Int) (l1:List (List Int)):Option ((List (List Int))×Int):=(perm_generators.f a0 l1).bind fun t163=>(if t163=0 then(if 0≤a0 then(if(a0:Int).toNat≤281474976710656 then(perm_Orbits.l0 k l1 (List.replicate (a0:Int).toNat false) ([]:List (List Int)) a0 0) else(none)) else(none)) else(some (([]:List (List Int)),t163)))
theorem perm_Orbits.calls (k : Nat) (a0 : Int) (A1:Option Addr) (c1:Nat) (l1:List (List Int)) (r1:List (List Int)) (r2:Int) (w:World) (hr1:Kd.C (Kd.slice 3 (Kd.int .i64)) w A1 l1.length l1) (hc1:l1.length≤c1) (h:perm_Orbits.f k a0 l1=some (r1,r2)):
    Calls Try.prog 28 #[.int .i64 a0,.slice A1 l1.length c1] w fun e w'=>∃v0_:Value,e= .returned (.tuple #[v0_,.int .i64 r2])∧Kd.S (Kd.slice 3 (Kd.int .i64)) 22 w' w.heap.size (fun _=>True) v0_ r1∧Below w.heap.size w w':=by
 have HR1:=aM hr1
 have HC1:=aM hc1
 clear hr1 hc1
 have HB:=aM (Below.refl w.heap.size w)
 have H:((perm_generators.f a0 l1).bind fun t163=>(if t163=0 then(if 0≤a0 then(if(a0:Int).toNat≤281474976710656 then(perm_Orbits.l0 k l1 (List.replicate (a0:Int).toNat false) ([]:List (List Int)) a0 0) else(none)) else(none)) else(some (([]:List (List Int)),t163))))=some (r1,r2):=h
 clear h
 replace H:=oB H
 obtain⟨t163,A30,H⟩:=H
 replace H:(if t163=0 then(if 0≤a0 then(if(a0:Int).toNat≤281474976710656 then(perm_Orbits.l0 k l1 (List.replicate (a0:Int).toNat false) ([]:List (List Int)) a0 0) else(none)) else(none)) else(some (([]:List (List Int)),t163)))=some (r1,r2):=H
 have A3:=aM A30
 clear A30
 by_cases c4:t163=0
 ·rw [if_pos c4] at H
  have c4b0:=beq_iff_eq.mpr c4;have c4b1:=bne_eq_false_iff_eq.mpr c4;clear c4
  by_cases c5:0≤a0
  ·rw [if_pos c5] at H; have c5b0 := eq_true c5;have c5b1:=dT c5;clear c5
   by_cases c6:(a0:Int).toNat≤281474976710656
   ·rw [if_pos c6] at H; have c6b0 := eq_true c6;have c6b1:=dT c6;clear c6;obtain⟨y164,hy164⟩:∃y_:List Bool,y_=(List.replicate (a0:Int).toNat false):=⟨_,rfl⟩;replace H:(perm_Orbits.l0 k l1 y164 ([]:List (List Int)) a0 0)=some (r1,r2):=by first|(rw[hy164];with_reducible exact H)|(have H2_:=(Option.bind_some _ _).symm.trans H;rw[hy164];with_reducible exact H2_)|(have H2_:=(Option.bind_some _ _).symm.trans H;with_reducible exact H2_)|with_reducible exact H|(rw[hy164];exact H)|exact H
    have Ny164:=aM hy164;clear hy164;have H':=aM H;clear H
    go_enter Try.func28,Try.ntmps28
    go_wp2_with (first|((with_reducible refine Zq (f:=57) rfl ?_);refine ZB (some 17) rfl rfl Try.func57 (by kernel_rfl) rfl #[.int .i64 a0,.slice A1 l1.length c1] rfl zz127 ?_;(with_reducible refine(perm_generators.calls a0 _ _ l1 t163 _ ?side1 ?side2 A3.out).mono ?_);(case side1=>exact zC HR1.out);(case side2=>exact HC1.out);rintro e w7 ⟨rfl,hb⟩;refine⟨_,rfl,?_⟩;replace HB:=aM (Ze zz128 hb);(try clear hb);(try clear hb2);(try clear hk);(try clear hi))|((with_reducible refine Zr (N:=22) rfl ?_);refine Kd.R_make Kd.bool _ 4 rfl (N:=22) rfl 83 _ _ rfl a0 rfl rfl Try.underlying83 (.bool false) 1 info4 rfl (by decide) (by omega) false (ok:=fun _=>True) (okp:=fun _=>True) rfl (fun _ hk=>hk) trivial (oD zz153) (Nat.le_trans (Nat.mul_le_mul_right _ (oD zz153:a0.toNat≤281474976710656)) (by omega)) (Below.refl _ _) (Nat.le_refl _) ?_;intro v165 w8 ho9 hb hg_ hnew_;clear hg_ hnew_;(first|rw[←Ny164.out] at ho9|(simp only[Int.reduceToNat] at ho9;rw[←Ny164.out] at ho9));have HO166:=aM (Kd.R_lower ho9 (Zc zz128));replace HB:=aM (Ze zz128 hb);clear hb ho9))
    go_loopg [8,24] k (fun kq v8 v24 w'=>∃(x7_1:List Bool) (x8_1:List (List Int)) (x24_1:Int),v24= .int .i64 x24_1∧Aside0 (perm_Orbits.l0 kq l1 x7_1 x8_1 a0 x24_1=some (r1,r2))∧Aside0 (kq≤k)∧Aside0 (Kd.R Kd.bool 4 w' w.heap.size (fun _=>True) v165 x7_1)∧Aside0 (Kd.S (Kd.slice 3 (Kd.int .i64)) 22 w' w.heap.size (fun _=>True) v8 x8_1)∧Aside0 (Below w.heap.size w w'))
    case atStart=>exact⟨(y164),(([]:List (List Int))),(0),zz154,H',⟨Nat.le_refl _⟩,⟨(zR HO166)⟩,⟨zz125⟩,⟨zz128⟩⟩
    case round =>
     clear H';(try clear c1);(try clear c2);(try clear p2);(try clear c4);(try clear c4b0);(try clear c4b1);(try clear c5);(try clear c5b0);(try clear c5b1);(try clear c6);(try clear c6b0);(try clear c6b1);obtain⟨x7_1,x8_1,x24_1,rfl,HA,HK1,HO_7,HO_8,HB⟩:=hrel
     cases gk with
     |zero=>exact absurd HA.out (by simp[perm_Orbits.l0])
     | succ k1=>
      have H:=HA.out;clear HA;simp only[perm_Orbits.l0] at H
      by_cases c10:x24_1<a0
      ·rw [if_pos c10] at H; have c10b0 :=dT c10;clear c10
       by_cases c11:0≤x24_1
       ·rw [if_pos c11] at H; have c11b0 :=dT c11;clear c11
        by_cases c12:x24_1<(x7_1.length:Int)
        ·rw [if_pos c12] at H; have c12b0:=dT c12;clear c12;obtain⟨bq13,hbq13⟩:∃b_:Bool,b_=(rdOf false x7_1 x24_1):=⟨_,rfl⟩;replace H:(if bq13=true then(perm_Orbits.l0 k1 l1 x7_1 x8_1 a0 (wrap64 (x24_1+1))) else(perm_Orbits.l1 k1 l1 (x7_1.set (x24_1:Int).toNat true) x8_1 (([x24_1]:List Int)) 0 a0 x24_1))=some (r1,r2):=by rw[←hbq13] at H;exact H
         have Nbq13:=aM hbq13;clear hbq13
         by_cases c14:bq13=true
         ·subst c14;have H1:(perm_Orbits.l0 k1 l1 x7_1 x8_1 a0 (wrap64 (x24_1+1)))=some (r1,r2):=by rw[if_pos rfl] at H;exact H
          clear H;have H:=H1;clear H1;have H':=aM H;clear H;obtain⟨Ao15,co15,eo15⟩:=Kd.R_slice HO_7.out;subst eo15;have p167:0≤(x24_1:Int):=oD zz153;have q167:x24_1<(x7_1.length:Int):=oD zz153;obtain⟨ad167,e167,hx167_0⟩:=Kd.at_bool (Kd.R_reads' HO_7.out).2.2 x24_1 p167 q167
          (try rw[←Nbq13.out] at hx167_0)
          cases e167;replace p167:=eq_true p167;replace q167:=eq_true q167;go_wp2
          go_roundg k1
          case measure=>have:=HK1.out;omega
          case rel=>exact⟨(x7_1),(x8_1),(wrap64 (x24_1+1)),zz154,H',⟨zz163⟩,⟨(zR HO_7)⟩,⟨(zS HO_8)⟩,⟨zz128⟩⟩
         replace c14:=Bool.eq_false_iff.mpr c14;subst c14;have H1:(perm_Orbits.l1 k1 l1 (x7_1.set (x24_1:Int).toNat true) x8_1 (([x24_1]:List Int)) 0 a0 x24_1)=some (r1,r2):=by rw[if_neg (show¬(false=true) by decide)] at H;exact H
         clear H;have H:=H1;clear H1;obtain⟨y168,hy168⟩:∃y_:List Bool,y_=(x7_1.set (x24_1:Int).toNat true):=⟨_,rfl⟩;replace H:(perm_Orbits.l1 k1 l1 y168 x8_1 (([x24_1]:List Int)) 0 a0 x24_1)=some (r1,r2):=by first|(rw[hy168];with_reducible exact H)|(have H2_:=(Option.bind_some _ _).symm.trans H;rw[hy168];with_reducible exact H2_)|(have H2_:=(Option.bind_some _ _).symm.trans H;with_reducible exact H2_)|with_reducible exact H|(rw[hy168];exact H)|exact H
         have Ny168:=aM hy168;clear hy168;obtain⟨y169,hy169⟩:∃y_:List Int,y_=(([x24_1]:List Int)):=⟨_,rfl⟩;replace H:(perm_Orbits.l1 k1 l1 y168 x8_1 y169 0 a0 x24_1)=some (r1,r2):=by first|(rw[hy169];with_reducible exact H)|(have H2_:=(Option.bind_some _ _).symm.trans H;rw[hy169];with_reducible exact H2_)|(have H2_:=(Option.bind_some _ _).symm.trans H;with_reducible exact H2_)|with_reducible exact H|(rw[hy169];exact H)|exact H
         have Ny169:=aM hy169;clear hy169;have H':=aM H;clear H;obtain⟨Ao17,co17,eo17⟩:=Kd.R_slice HO_7.out;subst eo17;have p167:0≤(x24_1:Int):=oD zz153;have q167:x24_1<(x7_1.length:Int):=oD zz153;obtain⟨ad167,e167,hx167_0⟩:=Kd.at_bool (Kd.R_reads' HO_7.out).2.2 x24_1 p167 q167
         (try rw[←Nbq13.out] at hx167_0)
         cases e167;replace p167:=eq_true p167;replace q167:=eq_true q167;have p16:0≤(x24_1:Int):=oD zz153;have q16:(x24_1:Int)<((x7_1.length:Int):Int):=oD zz153;obtain⟨go16,co16,eo16,gb16,gl16,cl16,HG16⟩:=Kd.R_form HO_7.out (by omega)
         (first|cases eo16|(injection eo16 with ea_ en_ ec_;(first|subst ea_|(injection ea_ with ea_;subst ea_));subst ec_;clear en_))
         have GB16:=aM gb16;have GG16:=aM HG16;clear gb16 gl16 HG16
         (first|simp only[Z3] at hx167_0|skip)
         obtain⟨hx16_0,hf16_0⟩:=Kd.R_celln false HO_7.out (x24_1:Int) p16 q16;replace p16:=eq_true p16;replace q16:=eq_true q16;have HP18:=Kd.R_putg HO_7.out (x24_1:Int) true
         go_wp2_with (first|((with_reducible refine ZU (t:=4) (p:=33) rfl ?_);refine ZO (t:=4) (p:=33) (v:= ?vo_w19) (w1:=(wr.setCell ⟨go16,(x24_1:Int).toNat,none⟩ (.bool true))) ?hg ?ho ?hn ?hr ?_;(case ho=>rfl);(case hg=>rfl);(case hn=>rfl);(case hr=>first|(go_simp;done)|(go_simp;rfl));intro w19 hw;have hg:wr.grownBy w19 (some go16):=(by rw[hw];exact HP18.2);have hp_:Kd.R Kd.bool 4 w19 w.heap.size (fun _=>True) (.slice (some ⟨go16,0,none⟩) x7_1.length co17) y168:=(by rw[hw,Ny168.out];exact HP18.1);clear HP18;replace HO_8:=aM (Kd.S_over' (v:=(.slice (some ⟨go16,0,none⟩) x7_1.length co17)) (zS HO_8) (Kd.R_typed HO_7.out) (by decide) hg);replace HO_7:=aM (hp_);replace HB:=aM ((by rw[hw];exact Zk (HB.out) GB16.out:Below w.heap.size w w19));clear hg hw hp_)|((with_reducible refine Zr (N:=35) rfl ?_);refine Kd.R_lit (Kd.int .i64) _ 3 ?hg (N:=35) ?hd (xs:=([x24_1]:List Int)) (inner:= [.int .i64 x24_1]) (ok:=fun _=>True) (okp:=fun _=>True) ?hr ?hp (fun _ hk=>hk) trivial (Below.refl _ _) (Nat.le_refl _) (by simp) ?_;(case hd=>rfl);(case hg=>rfl);(case hr=>first|(go_simp;done)|(go_simp;rfl));(case hp=>exact(Reps.one (show Kd.M (Kd.int .i64) _ _ _ x24_1 [.int .i64 x24_1] from rfl) (Reps.none _ _)));intro v170 w20 ho21 hb hg_ hnew_;clear hg_ hnew_;(first|rw[←Ny169.out] at ho21|(simp only[Int.reduceToNat] at ho21;rw[←Ny169.out] at ho21));replace HO_7:=aM (Kd.R_below (zR HO_7) hb);replace HO_8:=aM (Kd.S_elder' (zS HO_8) (Kd.R_base ho21) hb);have HO171:=aM (Kd.R_lower ho21 (Zc zz128));replace HB:=aM (Ze zz128 hb);clear hb ho21))
         go_loopg [10,11] k1 (fun kq v10 v11 w'=>∃(x7_2:List Bool) (x10_2:List Int) (x11_2:Int),v11= .int .i64 x11_2∧Aside0 (perm_Orbits.l1 kq l1 x7_2 x8_1 x10_2 x11_2 a0 x24_1=some (r1,r2))∧Aside0 (kq≤k1)∧Aside0 (Kd.R Kd.bool 4 w' w.heap.size (fun _=>True) (.slice (some ⟨go16,0,none⟩) x7_1.length co17) x7_2)∧Aside0 (Kd.S (Kd.slice 3 (Kd.int .i64)) 22 w' w.heap.size (fun k_=>some k_≠(v10:Value).ownBlock) u8 x8_1)∧Aside0 (Kd.R (Kd.int .i64) 3 w' w.heap.size (fun _=>True) v10 x10_2)∧Aside0 (Below w.heap.size w w'))
         case atStart=>exact⟨(y168),(y169),(0),zz154,H',⟨Nat.le_refl _⟩,⟨(zR HO_7)⟩,⟨(by(with_reducible repeat(first|apply Kd.S_alloc|apply Kd.S_drewN|apply Kd.S_drew));exact Kd.S_mono HO_8.out (fun _ hk=>hk.2))⟩,⟨(zR HO171)⟩,⟨zz128⟩⟩
         case round =>
          clear H';(try clear c1);(try clear p1);(try clear q1);(try clear hx1);(try clear c2);(try clear p2);(try clear c4);(try clear c4b0);(try clear c4b1);(try clear c5);(try clear c5b0);(try clear c5b1);(try clear c6);(try clear c6b0);(try clear c6b1);(try clear p6);(try clear c10);(try clear c10b0);(try clear c11);(try clear c11b0);(try clear c12);(try clear c12b0);(try clear q13);(try clear c14);(try clear p16);(try clear q16);(try clear hx16);(try clear hf16);(try clear hx167_0);(try clear hx16_0);(try clear p16);(try clear p167);(try clear p2);(try clear q16);(try clear q167);obtain⟨x7_2,x10_2,x11_2,rfl,HA,HK2,HO_7,HO_8,HO_10,HB⟩:=hrel;have hl7_2:=(Kd.R_reads' HO_7.out).1;rw[hl7_2] at HO_7
          (try simp only[hl7_2])
          (try simp only[hl7_2] at HO_8)
          (try simp only[hl7_2] at HO_10)
          cases gk with
          |zero=>exact absurd HA.out (by simp[perm_Orbits.l1])
          | succ k2=>
           have H:=HA.out;clear HA;simp only[perm_Orbits.l1] at H
           by_cases c22:x11_2<(x10_2.length:Int)
           ·rw [if_pos c22] at H; have c22b0:=dT c22;clear c22;have H':=aM H;clear H;obtain⟨Ao23,co23,eo23⟩:=Kd.R_slice HO_10.out;subst eo23;go_wp2
            go_loopg [10,44] k2 (fun kq v10 v44 w'=>∃(x7_3:List Bool) (x10_3:List Int) (x44_3:Int),v44= .int .i64 x44_3∧Aside0 (perm_Orbits.l2 kq l1 x7_3 x8_1 x10_3 x11_2 a0 x24_1 l1 (l1.length:Int) x44_3=some (r1,r2))∧Aside0 (kq≤k2)∧Aside0 (Kd.R Kd.bool 4 w' w.heap.size (fun _=>True) (.slice (some ⟨go16,0,none⟩) x7_2.length co17) x7_3)∧Aside0 (Kd.S (Kd.slice 3 (Kd.int .i64)) 22 w' w.heap.size (fun k_=>some k_≠(v10:Value).ownBlock) u8 x8_1)∧Aside0 (Kd.R (Kd.int .i64) 3 w' w.heap.size (fun _=>True) v10 x10_3)∧Aside0 (Below w.heap.size w w'))
            case atStart=>exact⟨(x7_2),(x10_2),(0),zz154,H',⟨Nat.le_refl _⟩,⟨zz129⟩,⟨(by(try simp only[hl7_2]);(with_reducible repeat(first|apply Kd.S_alloc|apply Kd.S_drewN|apply Kd.S_drew));exact HO_8.out)⟩,⟨(by(try simp only[hl7_2]);(with_reducible repeat(first|apply Kd.R_alloc|apply Kd.R_drewN|apply Kd.R_drew));exact HO_10.out)⟩,⟨zz128⟩⟩
            case round =>
             clear H';(try clear c1);(try clear p1);(try clear q1);(try clear hx1);(try clear c2);(try clear p2);(try clear c4);(try clear c4b0);(try clear c4b1);(try clear c5);(try clear c5b0);(try clear c5b1);(try clear c6);(try clear c6b0);(try clear c6b1);(try clear p6);(try clear c10);(try clear c10b0);(try clear c11);(try clear c11b0);(try clear c12);(try clear c12b0);(try clear q13);(try clear c14);(try clear p16);(try clear q16);(try clear hx16);(try clear hf16);(try clear c22);(try clear c22b0);(try clear hx167_0);(try clear hx16_0);(try clear p1);(try clear p16);(try clear p167);(try clear p2);(try clear p6);(try clear q1);(try clear q13);(try clear q16);(try clear q167);obtain⟨x7_3,x10_3,x44_3,rfl,HA,HK3,HO_7,HO_8,HO_10,HB⟩:=hrel;have hl7_3:=(Kd.R_reads' HO_7.out).1;rw[hl7_3] at HO_7
             (try simp only[hl7_3])
             (try simp only[hl7_3] at HO_8)
             (try simp only[hl7_3] at HO_10)
             cases gk with
             |zero=>exact absurd HA.out (by simp[perm_Orbits.l2])
             | succ k3=>
              have H:=HA.out;clear HA;simp only[perm_Orbits.l2] at H
              by_cases c24:x44_3<(l1.length:Int)
              ·rw [if_pos c24] at H;have c24b0:=dT c24;clear c24
               by_cases c25:0≤x44_3
               ·rw [if_pos c25] at H;have c25b0:=dT c25;clear c25
                by_cases c26:x44_3<(l1.length:Int)
                ·rw [if_pos c26] at H;have c26b0:=dT c26;clear c26
                 by_cases c27:0≤x11_2
                 ·rw [if_pos c27] at H;have c27b0:=dT c27;clear c27
                  by_cases c28:x11_2<(x10_3.length:Int)
                  ·rw [if_pos c28] at H;have c28b0:=dT c28;clear c28
                   by_cases c29:0≤(rd x10_3 x11_2)
                   ·rw [if_pos c29] at H;have c29b0:=dT c29;clear c29
                    by_cases c30:(rd x10_3 x11_2)<((Zp l1 x44_3).length:Int)
                    ·rw [if_pos c30] at H;have c30b0:=dT c30;clear c30
                     by_cases c31:0≤(rd (Zp l1 x44_3) (rd x10_3 x11_2))
                     ·rw [if_pos c31] at H;have c31b0:=dT c31;clear c31
                      by_cases c32:(rd (Zp l1 x44_3) (rd x10_3 x11_2))<(x7_3.length:Int)
                      ·rw [if_pos c32] at H;have c32b0:=dT c32;clear c32;obtain⟨bq33,hbq33⟩:∃b_:Bool,b_=(rdOf false x7_3 (rd (Zp l1 x44_3) (rd x10_3 x11_2))):=⟨_,rfl⟩;replace H:(if(bq33=true) then(perm_Orbits.l2 k3 l1 x7_3 x8_1 x10_3 x11_2 a0 x24_1 l1 (l1.length:Int) (wrap64 (x44_3+1))) else(if x10_3.length<17592186044416 then(perm_Orbits.l2 k3 l1 (x7_3.set ((rd (Zp l1 x44_3) (rd x10_3 x11_2)):Int).toNat true) x8_1 (x10_3++ [rd (Zp l1 x44_3) (rd x10_3 x11_2)]) x11_2 a0 x24_1 l1 (l1.length:Int) (wrap64 (x44_3+1))) else(none)))=some (r1,r2):=by rw[←hbq33] at H;exact H
                       have Nbq33:=aM hbq33;clear hbq33
                       by_cases c34:(bq33=true)
                       ·subst c34;have H1:(perm_Orbits.l2 k3 l1 x7_3 x8_1 x10_3 x11_2 a0 x24_1 l1 (l1.length:Int) (wrap64 (x44_3+1)))=some (r1,r2):=by rw[if_pos rfl] at H;exact H
                        clear H;have H:=H1;clear H1;have H':=aM H;clear H;have p176:0≤(x44_3:Int):=oD zz153;have q176:x44_3<(l1.length:Int):=oD zz153;obtain⟨ad176,A176_0,c176_0,e176,hx176_0,hl176_0,hi176_0⟩:=ZY HR1.out x44_3 p176 q176
                        cases e176;replace hx176_0:=(HB.out.cell (wB w _ hx176_0)).trans hx176_0;have HR176_0:=aM hi176_0;have HC176_0:=aM hl176_0;clear hi176_0 hl176_0;replace p176:=eq_true p176;replace q176:=eq_true q176;obtain⟨Ao35,co35,eo35⟩:=Kd.R_slice HO_10.out;subst eo35;have p177:0≤(x11_2:Int):=oD zz153;have q177:x11_2<(x10_3.length:Int):=oD zz153;obtain⟨ad177,e177,hx177_0⟩:=Kd.at_int (Kd.R_reads' HO_10.out).2.2 x11_2 p177 q177
                        cases e177;replace p177:=eq_true p177;replace q177:=eq_true q177;have p178:0≤((rd x10_3 x11_2):Int):=oD zz153;have q178:(rd x10_3 x11_2)<((Zp l1 x44_3).length:Int):=oD zz153;obtain⟨ad178,e178,hx178_0⟩:=Kd.at_int HR176_0.out (rd x10_3 x11_2) p178 q178
                        cases e178;replace hx178_0:=(HB.out.cell (wB w _ hx178_0)).trans hx178_0;replace p178:=eq_true p178;replace q178:=eq_true q178;have p179:0≤((rd (Zp l1 x44_3) (rd x10_3 x11_2)):Int):=oD zz153;have q179:(rd (Zp l1 x44_3) (rd x10_3 x11_2))<(x7_3.length:Int):=oD zz153;obtain⟨ad179,e179,hx179_0⟩:=Kd.at_bool (Kd.R_reads' HO_7.out).2.2 (rd (Zp l1 x44_3) (rd x10_3 x11_2)) p179 q179
                        (try rw[←Nbq13.out] at hx179_0)
                        (try rw[←Nbq33.out] at hx179_0)
                        obtain rfl:(⟨go16,0,none⟩:Addr)=ad179:=(by injection e179)
                        (first|simp only[Z3] at hx179_0|simp only[add_at] at hx179_0|simp only[Addr.add,Nat.zero_add] at hx179_0|skip)
                        replace p179:=eq_true p179;replace q179:=eq_true q179;go_wp2
                        (try simp only[←hl7_3])
                        go_roundg k3
                        case measure=>have:=HK1.out;have:=HK2.out;have:=HK3.out;omega
                        case rel=>exact⟨(x7_3),(x10_3),(wrap64 (x44_3+1)),zz154,H',⟨zz152⟩,⟨zz115⟩,⟨zz116⟩,⟨zz110⟩,⟨zz128⟩⟩
                       replace c34:=Bool.eq_false_iff.mpr c34;subst c34;have H1:(if x10_3.length<17592186044416 then(perm_Orbits.l2 k3 l1 (x7_3.set ((rd (Zp l1 x44_3) (rd x10_3 x11_2)):Int).toNat true) x8_1 (x10_3++ [rd (Zp l1 x44_3) (rd x10_3 x11_2)]) x11_2 a0 x24_1 l1 (l1.length:Int) (wrap64 (x44_3+1))) else(none))=some (r1,r2):=by rw[if_neg (show¬(false=true) by decide)] at H;exact H
                       clear H;have H:=H1;clear H1;obtain⟨y180,hy180⟩:∃y_:List Bool,y_=(x7_3.set ((rd (Zp l1 x44_3) (rd x10_3 x11_2)):Int).toNat true):=⟨_,rfl⟩;replace H:(if x10_3.length<17592186044416 then(perm_Orbits.l2 k3 l1 y180 x8_1 (x10_3++ [rd (Zp l1 x44_3) (rd x10_3 x11_2)]) x11_2 a0 x24_1 l1 (l1.length:Int) (wrap64 (x44_3+1))) else(none))=some (r1,r2):=by first|(rw[hy180];with_reducible exact H)|(have H2_:=(Option.bind_some _ _).symm.trans H;rw[hy180];with_reducible exact H2_)|(have H2_:=(Option.bind_some _ _).symm.trans H;with_reducible exact H2_)|with_reducible exact H|(rw[hy180];exact H)|exact H
                       have Ny180:=aM hy180;clear hy180
                       by_cases c37:x10_3.length<17592186044416
                       ·rw[if_pos c37] at H;have LMc37:=aM c37;clear c37;obtain⟨y181,hy181⟩:∃y_:List Int,y_=(x10_3++ [rd (Zp l1 x44_3) (rd x10_3 x11_2)]):=⟨_,rfl⟩;replace H:(perm_Orbits.l2 k3 l1 y180 x8_1 y181 x11_2 a0 x24_1 l1 (l1.length:Int) (wrap64 (x44_3+1)))=some (r1,r2):=by first|(rw[hy181];with_reducible exact H)|(have H2_:=(Option.bind_some _ _).symm.trans H;rw[hy181];with_reducible exact H2_)|(have H2_:=(Option.bind_some _ _).symm.trans H;with_reducible exact H2_)|with_reducible exact H|(rw[hy181];exact H)|exact H
                        have Ny181:=aM hy181;clear hy181;have H':=aM H;clear H;have p176:0≤(x44_3:Int):=oD zz153;have q176:x44_3<(l1.length:Int):=oD zz153;obtain⟨ad176,A176_0,c176_0,e176,hx176_0,hl176_0,hi176_0⟩:=ZY HR1.out x44_3 p176 q176
                        cases e176;replace hx176_0:=(HB.out.cell (wB w _ hx176_0)).trans hx176_0;have HR176_0:=aM hi176_0;have HC176_0:=aM hl176_0;clear hi176_0 hl176_0;replace p176:=eq_true p176;replace q176:=eq_true q176;obtain⟨Ao38,co38,eo38⟩:=Kd.R_slice HO_10.out;subst eo38;have p177:0≤(x11_2:Int):=oD zz153;have q177:x11_2<(x10_3.length:Int):=oD zz153;obtain⟨ad177,e177,hx177_0⟩:=Kd.at_int (Kd.R_reads' HO_10.out).2.2 x11_2 p177 q177
                        cases e177;replace p177:=eq_true p177;replace q177:=eq_true q177;have p178:0≤((rd x10_3 x11_2):Int):=oD zz153;have q178:(rd x10_3 x11_2)<((Zp l1 x44_3).length:Int):=oD zz153;obtain⟨ad178,e178,hx178_0⟩:=Kd.at_int HR176_0.out (rd x10_3 x11_2) p178 q178
                        cases e178;replace hx178_0:=(HB.out.cell (wB w _ hx178_0)).trans hx178_0;replace p178:=eq_true p178;replace q178:=eq_true q178;have p179:0≤((rd (Zp l1 x44_3) (rd x10_3 x11_2)):Int):=oD zz153;have q179:(rd (Zp l1 x44_3) (rd x10_3 x11_2))<(x7_3.length:Int):=oD zz153;obtain⟨ad179,e179,hx179_0⟩:=Kd.at_bool (Kd.R_reads' HO_7.out).2.2 (rd (Zp l1 x44_3) (rd x10_3 x11_2)) p179 q179
                        (try rw[←Nbq13.out] at hx179_0)
                        (try rw[←Nbq33.out] at hx179_0)
                        obtain rfl:(⟨go16,0,none⟩:Addr)=ad179:=(by injection e179)
                        (first|simp only[Z3] at hx179_0|simp only[add_at] at hx179_0|simp only[Addr.add,Nat.zero_add] at hx179_0|skip)
                        replace p179:=eq_true p179;replace q179:=eq_true q179;have p36:0≤((rd (Zp l1 x44_3) (rd x10_3 x11_2)):Int):=oD zz153;have q36:((rd (Zp l1 x44_3) (rd x10_3 x11_2)):Int)<((x7_3.length:Int):Int):=oD zz153;obtain⟨hx36_0,hf36_0⟩:=Kd.R_celln false HO_7.out ((rd (Zp l1 x44_3) (rd x10_3 x11_2)):Int) p36 q36;replace p36:=eq_true p36;replace q36:=eq_true q36;have HP39:=Kd.R_putg HO_7.out ((rd (Zp l1 x44_3) (rd x10_3 x11_2)):Int) true
                        go_wp2_with (first|((with_reducible refine ZU (t:=4) (p:=62) rfl ?_);refine ZO (t:=4) (p:=62) (v:= ?vo_w40) (w1:=(wr.setCell ⟨go16,((rd (Zp l1 x44_3) (rd x10_3 x11_2)):Int).toNat,none⟩ (.bool true))) ?hg ?ho ?hn ?hr ?_;(case ho=>rfl);(case hg=>rfl);(case hn=>rfl);(case hr=>first|(go_simp;done)|(go_simp;rfl));intro w40 hw;have hg:wr.grownBy w40 (some go16):=(by rw[hw];exact HP39.2);have hp_:Kd.R Kd.bool 4 w40 w.heap.size (fun _=>True) (.slice (some ⟨go16,0,none⟩) x7_3.length co17) y180:=(by rw[hw,Ny180.out];exact HP39.1);clear HP39;replace HO_8:=aM (Kd.S_over' (v:=(.slice (some ⟨go16,0,none⟩) x7_3.length co17)) (zS HO_8) (Kd.R_typed HO_7.out) (by decide) hg);replace HO_10:=aM (Kd.R_over' (v:=(.slice (some ⟨go16,0,none⟩) x7_3.length co17)) (zR HO_10) (Kd.R_typed HO_7.out) (by decide) hg);replace HO_7:=aM (hp_);replace HB:=aM ((by rw[hw];exact Zk (HB.out) GB16.out:Below w.heap.size w w40));clear hg hw hp_)|((with_reducible refine ZT (b:= .append) (xs:= #[.tmp 63,.tmp 65]) rfl ?_);at_builtin;refine Kd.R_append (Kd.int .i64) (w0:=w) w.heap.size rfl (.tmp 63) (.tmp 65) 22 3 (.int .i64 0) 8 rfl Try.underlying22 info3 rfl (by decide) (by omega) (.slice (some ad177) x10_3.length co38) x10_3 (rd (Zp l1 x44_3) (rd x10_3 x11_2)) [.int .i64 (rd (Zp l1 x44_3) (rd x10_3 x11_2))] (fun _=>True) (fun _=>False) rfl rfl ?aP (fun _ hk=>hk.elim) ?aF ?aO ?aB ?aS ?aL ?_;(case aP=>exact rfl);(case aB=>exact zz128);(case aF=>exact(fun _ _=>trivial));(case aO=>exact(zR HO_10));(case aS=>exact(Zc zz128));(case aL=>have:=LMc37.out;omega);intro v182 w41 ho hb hg hat;rw[←Ny181.out] at ho;replace HO_7:=aM (Kd.R_over' (zR HO_7) (Kd.R_typed (zR HO_10)) (by decide) hg);replace HO_8:=aM (Kd.S_after (ok:=(fun _=>True)) (by(with_reducible repeat(first|apply Kd.S_alloc|apply Kd.S_drewN|apply Kd.S_drew));exact Kd.S_mono HO_8.out (fun _ hk=>⟨trivial,hk⟩)) hg hat);replace HB:=aM (hb);have HO183:=aM (ho);clear HO_10;clear ho hb hg hat))
                        (try simp only[←hl7_3])
                        go_roundg k3
                        case measure=>have:=HK1.out;have:=HK2.out;have:=HK3.out;omega
                        case rel=>exact⟨(y180),(y181),(wrap64 (x44_3+1)),zz154,H',⟨zz152⟩,⟨zz115⟩,⟨(by(try simp only[hl7_2]);(try simp only[hl7_3]);(with_reducible repeat(first|apply Kd.S_alloc|apply Kd.S_drewN|apply Kd.S_drew));exact Kd.S_mono HO_8.out (fun _ hk=>hk.2))⟩,⟨(by(try simp only[hl7_2]);(try simp only[hl7_3]);(with_reducible repeat(first|apply Kd.R_alloc|apply Kd.R_drewN|apply Kd.R_drew));exact HO183.out)⟩,⟨zz128⟩⟩
                       rw[if_neg c37] at H
                       exact absurd H (by simp)
                      rw[if_neg c32] at H
                      exact absurd H (by simp)
                     rw[if_neg c31] at H
                     exact absurd H (by simp)
                    rw[if_neg c30] at H
                    exact absurd H (by simp)
                   rw[if_neg c29] at H
                   exact absurd H (by simp)
                  rw[if_neg c28] at H
                  exact absurd H (by simp)
                 rw[if_neg c27] at H
                 exact absurd H (by simp)
                rw[if_neg c26] at H
                exact absurd H (by simp)
               rw[if_neg c25] at H
               exact absurd H (by simp)
              rw[if_neg c24] at H;have c24b0:=dF c24;clear c24;have H':=aM H;clear H;go_wp2
              (try simp only[←hl7_2,←hl7_3])
              go_roundg k3
              case measure=>have:=HK1.out;have:=HK2.out;have:=HK3.out;omega
              case rel=>exact⟨(x7_3),(x10_3),(wrap64 (x11_2+1)),zz154,H',⟨zz152⟩,⟨zz115⟩,⟨zz116⟩,⟨zz110⟩,⟨zz128⟩⟩
           rw[if_neg c22] at H;have c22b0:=dF c22;clear c22;replace H:=oB H;obtain⟨t172,A420,H⟩:=H;replace H:(if x8_1.length<5864062014805 then(perm_Orbits.l0 k2 l1 x7_2 (x8_1++ [t172]) a0 (wrap64 (x24_1+1))) else(none))=some (r1,r2):=H;have A42:=aM A420;clear A420
           by_cases c43:x8_1.length<5864062014805
           ·rw[if_pos c43] at H;have LMc43:=aM c43;clear c43;obtain⟨y173,hy173⟩:∃y_:List (List Int),y_=(x8_1++ [t172]):=⟨_,rfl⟩;replace H:(perm_Orbits.l0 k2 l1 x7_2 y173 a0 (wrap64 (x24_1+1)))=some (r1,r2):=by first|(rw[hy173];with_reducible exact H)|(have H2_:=(Option.bind_some _ _).symm.trans H;rw[hy173];with_reducible exact H2_)|(have H2_:=(Option.bind_some _ _).symm.trans H;with_reducible exact H2_)|with_reducible exact H|(rw[hy173];exact H)|exact H
            have Ny173:=aM hy173;clear hy173;have H':=aM H;clear H;obtain⟨Ao44,co44,eo44⟩:=Kd.R_slice HO_10.out;subst eo44
            go_wp2_with (first|((with_reducible refine Zq (f:=58) rfl ?_);refine ZB (some 69) rfl rfl Try.func58 (by kernel_rfl) rfl #[.slice Ao44 x10_2.length co44] rfl zz127 ?_;(with_reducible refine(slSort.calls (fun k_=>some k_=(.slice Ao44 x10_2.length co44:Value).ownBlock) (.slice Ao44 x10_2.length co44) x10_2 t172 w _ ?side1 ?side2 A42.out).mono ?_);(case side1=>repeat(first|(with_reducible first|exact HB.out|apply Zn|apply Zf|apply Zh)|exact HB.out));(case side2=>exact Kd.R_tight rfl HO_10.out);rintro e w45 ⟨rfl,hy0,hb,hkp⟩;refine⟨_,rfl,?_⟩;replace HO_7:=aM (Kd.R_mono (ok':=fun k_=>True) (Kd.R_keptB ((Kd.R_apart' HO_7.out (Kd.R_typed HO_10.out) (by decide))) hkp (fun k_ hk_ hs_=>(hk_.2) hs_)) (fun k_ hk_=>trivial));replace HO_8:=aM (Kd.S_mono (ok':=fun k_=>some k_≠(.slice Ao44 x10_2.length co44:Value).ownBlock) (Kd.S_keptB (HO_8.out) hkp (fun k_ hk_ hs_=>(hk_) hs_)) (fun k_ hk_=>hk_.1));replace HO_10:=aM (Kd.R_reok rfl hy0 (fun k_ e_=>HO_10.out.1 k_ e_));replace HB:=aM (hb);(try clear hb);(try clear hkp);(try clear hy0))|((with_reducible refine ZT (b:= .append) (xs:= #[.tmp 70,.tmp 72]) rfl ?_);at_builtin;refine Kd.S_append (Kd.slice 3 (Kd.int .i64)) (w0:=w) w.heap.size rfl (.tmp 70) (.tmp 72) 28 22 (.slice none 0 0) 24 rfl Try.underlying28 info22 rfl (by decide) (by omega) u8 x8_1 t172 [.slice Ao44 x10_2.length co44] (fun _=>True) (fun k_=>some k_=(.slice Ao44 x10_2.length co44:Value).ownBlock) rfl rfl ?aP (fun k_ hk_=>((Kd.R_mono (ok':=fun k_=>((fun _=>True)) k_∧some k_≠(u8:Value).ownBlock) (Kd.R_apart' (HO_10.out) (Kd.S_typed HO_8.out) (by decide)) (fun k_ hk=>⟨trivial,hk.2⟩))).1 k_ hk_.symm) ?aF ?aO ?aB ?aS ?aL ?_;(case aP=>exact Kd.M_row (Kd.R_mono (Kd.R_tight rfl (Kd.R_mono (ok':=fun k_=>((fun _=>True)) k_∧some k_≠(u8:Value).ownBlock) (Kd.R_apart' (HO_10.out) (Kd.S_typed HO_8.out) (by decide)) (fun k_ hk=>⟨trivial,hk.2⟩))) (fun _ h_=>h_)));(case aB=>exact zz128);(case aF=>exact(fun _ _=>trivial));(case aO=>exact(by(with_reducible repeat(first|apply Kd.S_alloc|apply Kd.S_drewN|apply Kd.S_drew));exact Kd.S_mono HO_8.out (fun k_ hk=>⟨trivial,fun e_=>hk e_⟩)));(case aS=>exact(Zc zz128));(case aL=>have:=LMc43.out;omega);intro v174 w46 ho hb hg hat;rw[←Ny173.out] at ho;replace HO_7:=aM (Kd.R_over' (zR HO_7) (Kd.S_typed (zS HO_8)) (by decide) hg);replace HB:=aM (hb);have HO175:=aM (ho);clear HO_8 HO_10;clear ho hb hg hat))
            (try simp only[←hl7_2])
            go_roundg k2
            case measure=>have:=HK1.out;have:=HK2.out;omega
            case rel=>exact⟨(x7_2),(y173),(wrap64 (x24_1+1)),zz154,H',⟨zz155⟩,⟨zz129⟩,⟨(by(try simp only[hl7_2]);(with_reducible repeat(first|apply Kd.S_alloc|apply Kd.S_drewN|apply Kd.S_drew));exact HO175.out)⟩,⟨zz128⟩⟩
           rw[if_neg c43] at H
           exact absurd H (by simp)
        rw[if_neg c12] at H
        exact absurd H (by simp)
       rw[if_neg c11] at H
       exact absurd H (by simp)
      rw[if_neg c10] at H;have c10b0:=dF c10;clear c10;simp only[Option.some.injEq,Prod.mk.injEq] at H;obtain⟨rfl,rfl⟩:=H;go_wp2
      go_ret2
      exact⟨_,by first|rfl|(simp[Zj,Zi]<;>rfl)|(simp[*,Zj,Zi]<;>rfl),by(with_reducible repeat(first|apply Kd.S_alloc|apply Kd.S_drewN|apply Kd.S_drew));exact HO_8.out,by repeat(first|(with_reducible first|exact HB.out|apply Zn|apply Zf|apply Zh)|exact HB.out)⟩
   rw[if_neg c6] at H
   exact absurd H (by simp)
  rw[if_neg c5] at H
  exact absurd H (by simp)
 rw[if_neg c4] at H
 have c4b0:=beq_eq_false_iff_ne.mpr c4
 have c4b1:=bne_iff_ne.mpr c4
 simp only[Option.some.injEq,Prod.mk.injEq] at H
 obtain⟨rfl,rfl⟩:=H
 go_enter Try.func28,Try.ntmps28
 go_wp2_with (first|((with_reducible refine Zq (f:=57) rfl ?_);refine ZB (some 17) rfl rfl Try.func57 (by kernel_rfl) rfl #[.int .i64 a0,.slice A1 l1.length c1] rfl zz127 ?_;(with_reducible refine(perm_generators.calls a0 _ _ l1 t163 _ ?side1 ?side2 A3.out).mono ?_);(case side1=>exact zC HR1.out);(case side2=>exact HC1.out);rintro e w47 ⟨rfl,hb⟩;refine⟨_,rfl,?_⟩;replace HB:=aM (Ze zz128 hb);(try clear hb);(try clear hb2);(try clear hk);(try clear hi)))
 go_ret2
 exact⟨_,by first|rfl|(simp[Zj,Zi]<;>rfl)|(simp[*,Zj,Zi]<;>rfl),by first|exact Kd.S_nil _ _ _ _ _|exact Kd.N_nil _ _ _ _ _|exact Kd.V_nil _ _ _ _ _|exact Kd.Q_nil _ _ _ _ _|exact Kd.R_nil _ _ _ _ _,by repeat(first|(with_reducible first|exact HB.out|apply Zn|apply Zf|apply Zh)|exact HB.out)⟩
end
section
def Z4 (l:List Int):List Int:=(l.reverse.dropWhile (fun x=>x==0)).reverse
def nat_short.f (l0:List Int):Option (List Int):=some (Z4 l0)
theorem shortL_snoc0 (l:List Int):Z4 (l++ [0])=Z4 l:=by simp[Z4]
theorem shortL_snoc (l:List Int) {x:Int} (h:x≠0):Z4 (l++ [x])=l++ [x]:=by simp[Z4,h]
theorem shortL_take0 (l:List Int) {n:Nat} (hn:n<l.length) (h:rd l (n:Int)=0):Z4 (l.take (n+1))=Z4 (l.take n):=by
 have h1:l[n]=0:=by simpa[rd,List.getD_eq_getElem?_getD,hn] using h
 rw[List.take_succ_eq_append_getElem hn,h1,shortL_snoc0]
theorem shortL_take (l:List Int) {n:Nat} (hn:n<l.length) (h:rd l (n:Int)≠0):Z4 (l.take (n+1))=l.take (n+1):=by
 have h1:l[n]≠0:=by simpa[rd,List.getD_eq_getElem?_getD,hn] using h
 rw[List.take_succ_eq_append_getElem hn,shortL_snoc _ h1]
theorem short_slice3 (t e:TypeId) (kl:IntKind) {i:TypeInfo} (ht:Try.prog.underlying t=some (.slice e)) (hi:Try.prog.info? e=some i) (hsz:i.size=1) (A:Option Addr) (c len:Nat) (n:Nat) (hc:n≤c):
    ∀W:World,(Instr.slice t (.slice A len c) none (some (.int kl (n:Int))) (some (.int kl (n:Int)))).run Try.prog W= .ok (.slice A n n) W:=by
 intro W
 have hel:Try.prog.elem t=e:=by simp[Program.elem,ht]
 have hu:Try.prog.underlying t=some (.slice (Try.prog.elem t)):=by rw[hel];exact ht
 have ha:(A.map fun x=>x.add 0)=A:=by cases A<;>simp[Addr.add]
 rw[run_slice_hm W t A len c hu kl kl n n (by omega) (by omega) (by omega),hel]
 simp[sizeOf,typeInfo,hi,hsz,sliced,Result.andThen,ha]
theorem nat_short.calls (P0_:Nat→Prop) (A0:Option Addr) (c0:Nat) (l0:List Int) (r:List Int) (w:World) (hs0:Kd.V (Kd.int .u32) 72 w w.heap.size (fun k_=>P0_ k_) (.slice A0 l0.length c0) l0) (h:nat_short.f l0=some r):
    Calls Try.prog 73 #[.slice A0 l0.length c0] w fun e w'=>∃v0_:Value,e= .returned (v0_)∧Kd.V (Kd.int .u32) 72 w' w.heap.size (fun k_=>(P0_ k_∨w.heap.size≤k_)) v0_ r∧Below w.heap.size w w':=by
 have HS:=aM hs0
 obtain⟨_,hc,hC⟩:=Kd.V_reads' hs0
 have hlen:l0.length≤9223372036854775807:=by have:=hC.2.1;omega
 have HR0:=aM hC
 have HC0:=aM hc
 have HB:=aM (Below.refl w.heap.size w)
 have HQ:Aside0 (Z4 (l0.take l0.length)=r):=⟨by rw[List.take_length];exact oI h⟩
 have HN:=aM hlen
 clear h hs0 hc hC hlen
 go_enter Try.func73,Try.ntmps73
 go_wp2
 go_loopg [3] (l0.length+1) (fun kq v3 w'=>∃x3:Int,v3= .int .i64 x3∧Aside0 (0≤x3∧x3.toNat<kq∧x3≤l0.length)∧Aside0 (Z4 (l0.take x3.toNat)=r)∧Aside0 (Below w.heap.size w w'))
 case atStart=>exact⟨(l0.length:Int),rfl,⟨by omega⟩,by simpa using HQ,HB⟩
 case round =>
  clear HQ;obtain⟨x3,rfl,HK1,HQ,HB⟩:=hrel
  cases gk with
  |zero=>exact absurd HK1.out.2.1 (by omega)
  | succ k1=>
   have HF:Aside0 (Z4 (l0.take x3.toNat)=l0.take x3.toNat→∀W,Below w.heap.size w W→Kd.V (Kd.int .u32) 72 W w.heap.size (fun k_=>(P0_ k_∨w.heap.size≤k_)) (.slice A0 x3.toNat x3.toNat) r):=by
    refine⟨?_⟩;intro hq W hW;have hl:(l0.take x3.toNat).length=x3.toNat:=by rw[List.length_take];have:=HK1.out;omega
    have:=Kd.V_mk (e:=72) (base:=w.heap.size) (c:=x3.toNat) (by omega) (Kd.F_take (Kd.V_F HS.out) (m:=x3.toNat) zz163);rw[hl] at this;rw[←HQ.out,hq]
    exact Kd.V_below (Kd.V_mono this (fun _ hk=> .inl hk)) hW
   have hs:∀W:World,(Instr.slice 53 (.slice A0 l0.length c0) none (some (.int .i64 x3)) (some (.int .i64 x3))).run Try.prog W= .ok (.slice A0 x3.toNat x3.toNat) W:=by
    have h0:=short_slice3 53 72 .i64 Try.underlying53 (info_parts info72).choose_spec.1 (info_parts info72).choose_spec.2.2.1 A0 c0 l0.length x3.toNat (by have:=HK1.out;have:=HC0.out;omega);rw[show((x3.toNat:Nat):Int)=x3 from by have:=HK1.out;omega] at h0
    exact h0
   by_cases c2:x3>0
   ·have c2b0:decide (0<x3)=true:=dT c2;obtain⟨ji3,hji3⟩:∃j_:Int,(wrap64 (x3-1))=j_:=⟨_,rfl⟩;have hji3w:(IntKind.i64.wrap (x3-1))=ji3:=(Zt _).trans hji3
    have hj:ji3=x3-1:=by
     rw[←hji3];have:=HN.out;have:=HK1.out;unfold wrap64;omega
    have p0:(0:Int)≤ji3:=by omega
    have q0:ji3<(l0.length:Int):=by have:=HK1.out;omega
    obtain⟨ad,e1,hx⟩:=Kd.at_int HR0.out ji3 p0 q0
    cases e1;replace hx:=(HB.out.cell (wB w _ hx)).trans hx;have HJ:=aM hj;replace p0:=eq_true p0;replace q0:=eq_true q0;clear hj c2
    by_cases c6:rd l0 ji3=0
    ·have c6b0:(rd l0 ji3==0)=true:=beq_iff_eq.mpr c6;have HZ:=aM c6;clear c6;go_wp2
     go_roundg k1
     case measure=>have:=HK1.out;omega
     case rel=> 
      have p0':(0:Int)≤ji3:=of_eq_true p0;have hjn:x3.toNat=ji3.toNat+1:=by have:=HJ.out;omega
      refine⟨ji3,(by first|rfl|(simp only[←hji3]<;>(first|rfl|simp))|(simp[*];done)),⟨by have:=HK1.out;have:=HJ.out;omega⟩,⟨?_⟩,⟨by first|exact HB.out|exact Zf HB.out _⟩⟩;rw[←HQ.out,hjn]
      exact(shortL_take0 l0 zz163 (by rw[show((ji3.toNat:Nat):Int)=ji3 from by omega];exact HZ.out)).symm
    have c6b0:(rd l0 ji3==0)=false:=beq_eq_false_iff_ne.mpr c6;have hjn:x3.toNat=ji3.toNat+1:=by have:=HJ.out;have:=of_eq_true p0;omega
    have HE:Aside0 (Z4 (l0.take x3.toNat)=l0.take x3.toNat):=⟨by rw[hjn];exact shortL_take l0 (by have:=HK1.out;have:=HJ.out;have:=of_eq_true p0;omega) (by rw[show((ji3.toNat:Nat):Int)=ji3 from by have:=of_eq_true p0;omega];exact c6)⟩;clear c6 hjn;go_wp2;go_ret
    exact⟨_,rfl,HF.out HE.out _ (by first|exact HB.out|exact Zf HB.out _),by first|exact HB.out|exact Zf HB.out _⟩
   have c2b0:decide (0<x3)=false:=dF c2;have HE:Aside0 (Z4 (l0.take x3.toNat)=l0.take x3.toNat):=⟨by rw[show x3.toNat=0 from by omega];simp[Z4]⟩;clear c2;go_wp2;go_ret
   exact⟨_,rfl,HF.out HE.out _ (by first|exact HB.out|exact Zf HB.out _),by first|exact HB.out|exact Zf HB.out _⟩
end
section
attribute [local go_sem] ZG ZE ZL ZK ZA Zz ZF ZD
mutual
def nat_times.l0:Nat→List Int→List Int→List Int→Int→Int→Option (List Int)
 |0,_,_,_,_,_=>none
 |k+1,x1,x5,x18,x19,x20=>if x20<x19 then(if 0≤x20 then(if x20<(x18.length:Int) then(nat_times.l1 k x1 x5 x20 (rd x18 x20) 0 x18 x19 x20 x1 (x1.length:Int) 0) else(none)) else(none)) else((nat_short.f x5).bind fun t225=>(some t225))
def nat_times.l1:Nat→List Int→List Int→Int→Int→Int→List Int→Int→Int→List Int→Int→Int→Option (List Int)
 |0,_,_,_,_,_,_,_,_,_,_,_=>none
 |k+1,x1,x5,x6,x7,x8,x18,x19,x20,x25,x26,x27=>if x27<x26 then(if 0≤x27 then(if x27<(x25.length:Int) then(if 0≤(wrap64 (x6+x27)) then(if(wrap64 (x6+x27))<(x5.length:Int) then(nat_times.l1 k x1 (x5.set ((wrap64 (x6+x27)):Int).toNat ((IntKind.u64.wrap ((IntKind.u64.wrap ((IntKind.u64.wrap ((IntKind.u64.wrap (x7))*(IntKind.u64.wrap (rd x25 x27))))+(IntKind.u64.wrap (rd x5 (wrap64 (x6+x27))))))+x8))%4294967296)) x6 x7 ((IntKind.u64.wrap ((IntKind.u64.wrap ((IntKind.u64.wrap ((IntKind.u64.wrap (x7))*(IntKind.u64.wrap (rd x25 x27))))+(IntKind.u64.wrap (rd x5 (wrap64 (x6+x27))))))+x8))/4294967296) x18 x19 x20 x25 x26 (wrap64 (x27+1))) else(none)) else(none)) else(none)) else(none)) else(if 0≤(wrap64 (x6+(x1.length:Int))) then(if(wrap64 (x6+(x1.length:Int)))<(x5.length:Int) then(nat_times.l0 k x1 (x5.set ((wrap64 (x6+(x1.length:Int))):Int).toNat ((x8)%4294967296)) x18 x19 (wrap64 (x20+1))) else(none)) else(none))
end
def nat_times.f (k:Nat) (l0:List Int) (l1:List Int):Option (List Int):=if 0≤(wrap64 ((l0.length:Int)+(l1.length:Int))) then(if(wrap64 ((l0.length:Int)+(l1.length:Int)):Int).toNat≤70368744177664 then(nat_times.l0 k l1 (List.replicate (wrap64 ((l0.length:Int)+(l1.length:Int)):Int).toNat 0) l0 (l0.length:Int) 0) else(none)) else(none)
theorem nat_times.calls (k : Nat) (A0:Option Addr) (c0:Nat) (l0:List Int) (A1:Option Addr) (c1:Nat) (l1:List Int) (r:List Int) (w:World) (hr0:Kd.C (Kd.int .u32) w A0 l0.length l0) (hc0:l0.length≤c0) (hr1:Kd.C (Kd.int .u32) w A1 l1.length l1) (hc1:l1.length≤c1) (h:nat_times.f k l0 l1=some r):
    Calls Try.prog 72 #[.slice A0 l0.length c0,.slice A1 l1.length c1] w fun e w'=>∃v0_:Value,e= .returned (v0_)∧Kd.V (Kd.int .u32) 72 w' w.heap.size (fun k_=>(w.heap.size≤k_)) v0_ r∧Below w.heap.size w w':=by
 have HR0:=aM hr0
 have HC0:=aM hc0
 clear hr0 hc0
 have HR1:=aM hr1
 have HC1:=aM hc1
 clear hr1 hc1
 have HB:=aM (Below.refl w.heap.size w)
 have H:(if 0≤(wrap64 ((l0.length:Int)+(l1.length:Int))) then(if(wrap64 ((l0.length:Int)+(l1.length:Int)):Int).toNat≤70368744177664 then(nat_times.l0 k l1 (List.replicate (wrap64 ((l0.length:Int)+(l1.length:Int)):Int).toNat 0) l0 (l0.length:Int) 0) else(none)) else(none))=some r:=h
 clear h
 obtain⟨ji3,hji3⟩:∃j_:Int,(wrap64 ((l0.length:Int)+(l1.length:Int)))=j_:=⟨_,rfl⟩
 replace H:(if 0≤(ji3) then(if(ji3:Int).toNat≤70368744177664 then(nat_times.l0 k l1 (List.replicate (ji3:Int).toNat 0) l0 (l0.length:Int) 0) else(none)) else(none))=some r:=by first|(rw[hji3] at H;exact H)|(simp only[hji3] at H⊢;exact H)
 have hji3w:(IntKind.i64.wrap ((l0.length:Int)+(l1.length:Int)))=ji3:=(Zt _).trans hji3
 by_cases c4:0≤(ji3)
 ·rw [if_pos c4] at H
  have c4b0:=eq_true c4;have c4b1:=dT c4;clear c4
  by_cases c5:(ji3:Int).toNat≤70368744177664
  ·rw [if_pos c5] at H; have c5b0:=eq_true c5;have c5b1:=dT c5;clear c5;obtain⟨y222,hy222⟩:∃y_:List Int,y_=(List.replicate (ji3:Int).toNat 0):=⟨_,rfl⟩;replace H:(nat_times.l0 k l1 y222 l0 (l0.length:Int) 0)=some r:=by first|(rw[hy222];with_reducible exact H)|(have H2_:=(Option.bind_some _ _).symm.trans H;rw[hy222];with_reducible exact H2_)|(have H2_:=(Option.bind_some _ _).symm.trans H;with_reducible exact H2_)|with_reducible exact H|(rw[hy222];exact H)|exact H
   have Ny222:=aM hy222;clear hy222;have H':=aM H;clear H
   go_enter Try.func72,Try.ntmps72
   go_wp2_with (first|((with_reducible refine Zr (N:=17) rfl ?_);refine Kd.R_make (Kd.int .u32) _ 72 rfl (N:=17) rfl 53 _ _ rfl ji3 rfl rfl Try.underlying53 (.int .u32 0) 4 info72 rfl (by decide) (by omega) 0 (ok:=fun _=>True) (okp:=fun _=>True) rfl (fun _ hk=>hk) trivial (oD zz153) (Nat.le_trans (Nat.mul_le_mul_right _ (oD zz153:ji3.toNat≤70368744177664)) (by omega)) (Below.refl _ _) (Nat.le_refl _) ?_;intro v223 w6 ho7 hb hg_ hnew_;clear hg_ hnew_;(first|rw[←Ny222.out] at ho7|(simp only[Int.reduceToNat] at ho7;rw[←Ny222.out] at ho7));have HO224:=aM (Kd.R_lower (Kd.R_newM (M:=fun k_=>(w.heap.size≤k_)) ho7 (Zc zz128) (fun k_ h_=>h_)) (Zc zz128));replace HB:=aM (Ze zz128 hb);clear hb ho7))
   go_loopg [20] k (fun kq v20 w'=>∃(x5_1:List Int) (x20_1:Int),v20= .int .i64 x20_1∧Aside0 (nat_times.l0 kq l1 x5_1 l0 (l0.length:Int) x20_1=some r)∧Aside0 (kq≤k)∧Aside0 (Kd.R (Kd.int .u32) 72 w' w.heap.size (fun k_=>(w.heap.size≤k_)) v223 x5_1)∧Aside0 (Below w.heap.size w w'))
   case atStart=>exact⟨(y222),(0),zz154,H',⟨Nat.le_refl _⟩,⟨(by(with_reducible repeat(first|apply Kd.R_alloc|apply Kd.R_drewN|apply Kd.R_drew));exact Kd.R_mono HO224.out (fun _ hk=>hk.1))⟩,⟨zz128⟩⟩
   case round =>
    clear H';(try clear c1);(try clear p2);(try clear c4);(try clear c4b0);(try clear c4b1);(try clear c5);(try clear c5b0);(try clear c5b1);(try clear p6);(try clear c7);obtain⟨x5_1,x20_1,rfl,HA,HK1,HO_5,HB⟩:=hrel
    cases gk with
    |zero=>exact absurd HA.out (by simp[nat_times.l0])
    | succ k1=>
     have H:=HA.out;clear HA;simp only[nat_times.l0] at H
     by_cases c8:x20_1<(l0.length:Int)
     ·rw [if_pos c8] at H;have c8b0:=dT c8;clear c8
      by_cases c9:0≤x20_1
      ·rw [if_pos c9] at H;have c9b0:=dT c9;clear c9
       by_cases c10:x20_1<(l0.length:Int)
       ·rw [if_pos c10] at H;have c10b0:=dT c10;clear c10;have H':=aM H;clear H;have p228:0≤(x20_1:Int):=oD zz153;have q228:x20_1<(l0.length:Int):=oD zz153;obtain⟨ad228,e228,hx228_0⟩:=Kd.at_int HR0.out x20_1 p228 q228
        cases e228;replace hx228_0:=(HB.out.cell (wB w _ hx228_0)).trans hx228_0;replace p228:=eq_true p228;replace q228:=eq_true q228;go_wp2
        go_loopg [8,27] k1 (fun kq v8 v27 w'=>∃(x5_2:List Int) (x8_2:Int) (x27_2:Int),v8= .int .u64 x8_2∧v27= .int .i64 x27_2∧Aside0 (nat_times.l1 kq l1 x5_2 x20_1 (rd l0 x20_1) x8_2 l0 (l0.length:Int) x20_1 l1 (l1.length:Int) x27_2=some r)∧Aside0 (kq≤k1)∧Aside0 (Kd.R (Kd.int .u32) 72 w' w.heap.size (fun k_=>(w.heap.size≤k_)) v223 x5_2)∧Aside0 (Below w.heap.size w w'))
        case atStart=>exact⟨(x5_1),(0),(0),zz154,zz154,H',⟨Nat.le_refl _⟩,⟨(zR HO_5)⟩,⟨zz128⟩⟩
        case round =>
         clear H';(try clear c1);(try clear p2);(try clear q2);(try clear hx2);(try clear c4);(try clear c4b0);(try clear c4b1);(try clear c5);(try clear c5b0);(try clear c5b1);(try clear p6);(try clear c7);(try clear c8);(try clear c8b0);(try clear c9);(try clear c9b0);(try clear c10);(try clear c10b0);(try clear hx228_0);(try clear p2);(try clear p228);(try clear p6);(try clear q228);obtain⟨x5_2,x8_2,x27_2,rfl,rfl,HA,HK2,HO_5,HB⟩:=hrel
         cases gk with
         |zero=>exact absurd HA.out (by simp[nat_times.l1])
         | succ k2=>
          have H:=HA.out;clear HA;simp only[nat_times.l1] at H
          by_cases c11:x27_2<(l1.length:Int)
          ·rw [if_pos c11] at H;have c11b0:=dT c11;clear c11
           by_cases c12:0≤x27_2
           ·rw [if_pos c12] at H;have c12b0:=dT c12;clear c12
            by_cases c13:x27_2<(l1.length:Int)
            ·rw [if_pos c13] at H;have c13b0:=dT c13;clear c13;obtain⟨ji14,hji14⟩:∃j_:Int,(wrap64 (x20_1+x27_2))=j_:=⟨_,rfl⟩;replace H:(if 0≤(ji14) then(if(ji14)<(x5_2.length:Int) then(nat_times.l1 k2 l1 (x5_2.set ((ji14):Int).toNat ((IntKind.u64.wrap ((IntKind.u64.wrap ((IntKind.u64.wrap ((IntKind.u64.wrap ((rd l0 x20_1)))*(IntKind.u64.wrap (rd l1 x27_2))))+(IntKind.u64.wrap (rd x5_2 (ji14)))))+x8_2))%4294967296)) x20_1 (rd l0 x20_1) ((IntKind.u64.wrap ((IntKind.u64.wrap ((IntKind.u64.wrap ((IntKind.u64.wrap ((rd l0 x20_1)))*(IntKind.u64.wrap (rd l1 x27_2))))+(IntKind.u64.wrap (rd x5_2 (ji14)))))+x8_2))/4294967296) l0 (l0.length:Int) x20_1 l1 (l1.length:Int) (wrap64 (x27_2+1))) else(none)) else(none))=some r:=by first|(rw[hji14] at H;exact H)|(simp only[hji14] at H⊢;exact H)
             have hji14w:(IntKind.i64.wrap (x20_1+x27_2))=ji14:=(Zt _).trans hji14
             by_cases c15:0≤(ji14)
             ·rw [if_pos c15] at H;have c15b0:=dT c15;clear c15
              by_cases c16:(ji14)<(x5_2.length:Int)
              ·rw[if_pos c16] at H;have c16b0:=dT c16;clear c16;obtain⟨y231,hy231⟩:∃y_:List Int,y_=(x5_2.set ((ji14):Int).toNat ((IntKind.u64.wrap ((IntKind.u64.wrap ((IntKind.u64.wrap ((IntKind.u64.wrap ((rd l0 x20_1)))*(IntKind.u64.wrap (rd l1 x27_2))))+(IntKind.u64.wrap (rd x5_2 (ji14)))))+x8_2))%4294967296)):=⟨_,rfl⟩;replace H:(nat_times.l1 k2 l1 y231 x20_1 (rd l0 x20_1) ((IntKind.u64.wrap ((IntKind.u64.wrap ((IntKind.u64.wrap ((IntKind.u64.wrap ((rd l0 x20_1)))*(IntKind.u64.wrap (rd l1 x27_2))))+(IntKind.u64.wrap (rd x5_2 (ji14)))))+x8_2))/4294967296) l0 (l0.length:Int) x20_1 l1 (l1.length:Int) (wrap64 (x27_2+1)))=some r:=by first|(rw[hy231];with_reducible exact H)|(have H2_:=(Option.bind_some _ _).symm.trans H;rw[hy231];with_reducible exact H2_)|(have H2_:=(Option.bind_some _ _).symm.trans H;with_reducible exact H2_)|with_reducible exact H|(rw[hy231];exact H)|exact H
               have Ny231:=aM hy231;clear hy231;have H':=aM H;clear H;have p229:0≤(x27_2:Int):=oD zz153;have q229:x27_2<(l1.length:Int):=oD zz153;obtain⟨ad229,e229,hx229_0⟩:=Kd.at_int HR1.out x27_2 p229 q229
               cases e229;replace hx229_0:=(HB.out.cell (wB w _ hx229_0)).trans hx229_0;replace p229:=eq_true p229;replace q229:=eq_true q229;obtain⟨Ao18,co18,eo18⟩:=Kd.R_slice HO_5.out;subst eo18;have p230:0≤((ji14):Int):=oD zz153;have q230:(ji14)<(x5_2.length:Int):=oD zz153;obtain⟨ad230,e230,hx230_0⟩:=Kd.at_int (Kd.R_reads' HO_5.out).2.2 (ji14) p230 q230
               cases e230;replace p230:=eq_true p230;replace q230:=eq_true q230;have p17:0≤((ji14):Int):=oD zz153;have q17:((ji14):Int)<((x5_2.length:Int):Int):=oD zz153;obtain⟨go17,co17,eo17,gb17,gl17,cl17,HG17⟩:=Kd.R_form HO_5.out (by omega)
               (first|cases eo17|(injection eo17 with ea_ en_ ec_;(first|subst ea_|(injection ea_ with ea_;subst ea_));subst ec_;clear en_))
               have GB17:=aM gb17;have GG17:=aM HG17;clear gb17 gl17 HG17
               (first|simp only[Z3] at hx230_0|skip)
               obtain⟨hx17_0,hf17_0⟩:=Kd.R_celln 0 HO_5.out ((ji14):Int) p17 q17;replace p17:=eq_true p17;replace q17:=eq_true q17;have HP19:=Kd.R_putg HO_5.out ((ji14):Int) ((IntKind.u64.wrap ((IntKind.u64.wrap ((IntKind.u64.wrap ((IntKind.u64.wrap ((rd l0 x20_1)))*(IntKind.u64.wrap (rd l1 x27_2))))+(IntKind.u64.wrap (rd x5_2 (ji14)))))+x8_2))%4294967296)
               go_wp2_with (first|((with_reducible refine ZU (t:=72) (p:=53) rfl ?_);refine ZO (t:=72) (p:=53) (v:= ?vo_w20) (w1:=(wr.setCell ⟨go17,((ji14):Int).toNat,none⟩ (.int .u32 ((IntKind.u64.wrap ((IntKind.u64.wrap ((IntKind.u64.wrap ((IntKind.u64.wrap ((rd l0 x20_1)))*(IntKind.u64.wrap (rd l1 x27_2))))+(IntKind.u64.wrap (rd x5_2 (ji14)))))+x8_2))%4294967296)))) ?hg ?ho ?hn ?hr ?_;(case ho=>rfl);(case hg=>rfl);(case hn=>rfl);(case hr=>first|(go_simp;done)|(go_simp;rfl));intro w20 hw;have hg:wr.grownBy w20 (some go17):=(by rw[hw];exact HP19.2);have hp_:Kd.R (Kd.int .u32) 72 w20 w.heap.size (fun k_=>(w.heap.size≤k_)) (.slice (some ⟨go17,0,none⟩) x5_2.length co18) y231:=(by rw[hw,Ny231.out];exact HP19.1);clear HP19;replace HO_5:=aM (hp_);replace HB:=aM ((by rw[hw];exact Zk (HB.out) GB17.out:Below w.heap.size w w20));clear hg hw hp_))
               go_roundg k2
               case measure=>have:=HK1.out;have:=HK2.out;omega
               case rel=>exact⟨(y231),((IntKind.u64.wrap ((IntKind.u64.wrap ((IntKind.u64.wrap ((IntKind.u64.wrap ((rd l0 x20_1)))*(IntKind.u64.wrap (rd l1 x27_2))))+(IntKind.u64.wrap (rd x5_2 (ji14)))))+x8_2))/4294967296),(wrap64 (x27_2+1)),(by first|rfl|(simp;done)|(simp only[←hji14]<;>(first|rfl|simp))|(simp[*];done)),zz154,H',⟨zz155⟩,⟨(zR HO_5)⟩,⟨zz128⟩⟩
              rw[if_neg c16] at H
              exact absurd H (by simp)
             rw[if_neg c15] at H
             exact absurd H (by simp)
            rw[if_neg c13] at H
            exact absurd H (by simp)
           rw[if_neg c12] at H
           exact absurd H (by simp)
          rw[if_neg c11] at H;have c11b0:=dF c11;clear c11;obtain⟨ji21,hji21⟩:∃j_:Int,(wrap64 (x20_1+(l1.length:Int)))=j_:=⟨_,rfl⟩;replace H:(if 0≤(ji21) then(if(ji21)<(x5_2.length:Int) then(nat_times.l0 k2 l1 (x5_2.set ((ji21):Int).toNat ((x8_2)%4294967296)) l0 (l0.length:Int) (wrap64 (x20_1+1))) else(none)) else(none))=some r:=by first|(rw[hji21] at H;exact H)|(simp only[hji21] at H⊢;exact H)
          have hji21w:(IntKind.i64.wrap (x20_1+(l1.length:Int)))=ji21:=(Zt _).trans hji21
          by_cases c22:0≤(ji21)
          ·rw [if_pos c22] at H;have c22b0:=dT c22;clear c22
           by_cases c23:(ji21)<(x5_2.length:Int)
           ·rw[if_pos c23] at H;have c23b0:=dT c23;clear c23;obtain⟨y232,hy232⟩:∃y_:List Int,y_=(x5_2.set ((ji21):Int).toNat ((x8_2)%4294967296)):=⟨_,rfl⟩;replace H:(nat_times.l0 k2 l1 y232 l0 (l0.length:Int) (wrap64 (x20_1+1)))=some r:=by first|(rw[hy232];with_reducible exact H)|(have H2_:=(Option.bind_some _ _).symm.trans H;rw[hy232];with_reducible exact H2_)|(have H2_:=(Option.bind_some _ _).symm.trans H;with_reducible exact H2_)|with_reducible exact H|(rw[hy232];exact H)|exact H
            have Ny232:=aM hy232;clear hy232;have H':=aM H;clear H;have p24:0≤((ji21):Int):=oD zz153;have q24:((ji21):Int)<((x5_2.length:Int):Int):=oD zz153;obtain⟨go24,co24,eo24,gb24,gl24,cl24,HG24⟩:=Kd.R_form HO_5.out (by omega)
            (first|cases eo24|(injection eo24 with ea_ en_ ec_;(first|subst ea_|(injection ea_ with ea_;subst ea_));subst ec_;clear en_))
            have GB24:=aM gb24;have GG24:=aM HG24;clear gb24 gl24 HG24;obtain⟨hx24_0,hf24_0⟩:=Kd.R_celln 0 HO_5.out ((ji21):Int) p24 q24;replace p24:=eq_true p24;replace q24:=eq_true q24;have HP25:=Kd.R_putg HO_5.out ((ji21):Int) ((x8_2)%4294967296)
            go_wp2_with (first|((with_reducible refine ZU (t:=72) (p:=64) rfl ?_);refine ZO (t:=72) (p:=64) (v:= ?vo_w26) (w1:=(wr.setCell ⟨go24,((ji21):Int).toNat,none⟩ (.int .u32 ((x8_2)%4294967296)))) ?hg ?ho ?hn ?hr ?_;(case ho=>rfl);(case hg=>rfl);(case hn=>rfl);(case hr=>first|(go_simp;done)|(go_simp;rfl));intro w26 hw;have hg:wr.grownBy w26 (some go24):=(by rw[hw];exact HP25.2);have hp_:Kd.R (Kd.int .u32) 72 w26 w.heap.size (fun k_=>(w.heap.size≤k_)) (.slice (some ⟨go24,0,none⟩) x5_2.length co24) y232:=(by rw[hw,Ny232.out];exact HP25.1);clear HP25;replace HO_5:=aM (hp_);replace HB:=aM ((by rw[hw];exact Zk (HB.out) GB24.out:Below w.heap.size w w26));clear hg hw hp_))
            go_roundg k2
            case measure=>have:=HK1.out;have:=HK2.out;omega
            case rel=>exact⟨(y232),(wrap64 (x20_1+1)),zz154,H',⟨zz155⟩,⟨(zR HO_5)⟩,⟨zz128⟩⟩
           rw[if_neg c23] at H
           exact absurd H (by simp)
          rw[if_neg c22] at H
          exact absurd H (by simp)
       rw[if_neg c10] at H
       exact absurd H (by simp)
      rw[if_neg c9] at H
      exact absurd H (by simp)
     rw[if_neg c8] at H;have c8b0:=dF c8;clear c8;replace H:=oB H;obtain⟨t225,A270,H⟩:=H;replace H:(some t225)=some r:=H;have A27:=aM A270;clear A270;obtain rfl:=oI H;obtain⟨Ao28,co28,eo28⟩:=Kd.R_slice HO_5.out;subst eo28
     go_wp2_with (first|((with_reducible refine Zq (f:=73) rfl ?_);refine ZB (some 67) rfl rfl Try.func73 (by kernel_rfl) rfl #[.slice Ao28 x5_1.length co28] rfl zz127 ?_;(with_reducible refine(nat_short.calls (fun k_=>some k_=(.slice Ao28 x5_1.length co28:Value).ownBlock) _ _ x5_1 t225 _ ?side1 A27.out).mono ?_);(case side1=>exact Kd.R_V (Kd.R_tight rfl (HO_5.out)));rintro e w29 ⟨v226,rfl,ho0,hb⟩;refine⟨_,rfl,?_⟩;have HO227:=aM (Kd.V_lower (Kd.V_mono (ok':=fun k_=>(w.heap.size≤k_)) ho0 (fun k_ hk_=>Or.elim hk_ (fun hs_=>((HO_5.out).1 k_ hs_.symm)) (fun hn_=>(Nat.le_trans (Zc zz128) hn_)))) (Zc zz128));replace HO_5:=aM (Kd.R_below (zR HO_5) hb);replace HB:=aM (Ze zz128 hb);(try clear hb);(try clear hb2);(try clear hk);(try clear hi);(try clear ho0)))
     go_ret
     exact⟨_,by first|rfl|(simp[Zj,Zi]<;>rfl)|(simp only[←hji3];first|rfl|(simp[Zj,Zi]<;>rfl))|(simp[*,Zj,Zi]<;>rfl),by(with_reducible repeat(first|apply Kd.V_alloc|apply Kd.V_drewN|apply Kd.V_drew));exact HO227.out,by repeat(first|(with_reducible first|exact HB.out|apply Zn|apply Zf|apply Zh)|exact HB.out)⟩
  rw[if_neg c5] at H
  exact absurd H (by simp)
 rw[if_neg c4] at H
 exact absurd H (by simp)
end
section
theorem shortL_length (l:List Int):(Z4 l).length≤l.length:=by
 have:=List.IsSuffix.length_le (List.dropWhile_suffix (fun x:Int=>x==0) (l:=l.reverse))
 simpa[Z4] using this
def nat_Trim.f (l0:List Int):Option (List Int):=if l0.length≤1000000000 then some (Z4 l0) else none
theorem nat_Trim.calls (A0:Option Addr) (c0:Nat) (l0:List Int) (r:List Int) (w:World) (hr0:Kd.C (Kd.int .u32) w A0 l0.length l0) (hc0:l0.length≤c0) (h:nat_Trim.f l0=some r):
    Calls Try.prog 74 #[.slice A0 l0.length c0] w fun e w'=>∃v0_:Value,e= .returned (v0_)∧Kd.R (Kd.int .u32) 72 w' w.heap.size (fun _=>True) v0_ r∧Below w.heap.size w w':=by
 have HR0:=aM hr0
 have HC0:=aM hc0
 have hq:l0.length≤1000000000∧Z4 l0=r:=by
  unfold nat_Trim.f at h
  split at h
  ·exact⟨by assumption,oI h⟩
  ·cases h
 have HQ:=aM hq
 clear hr0 hc0 hq h
 go_enter Try.func74,Try.ntmps74
 go_wp2_with (first
  |(go_at_call 73;(with_reducible refine(nat_short.calls (fun k_=>k_<w.heap.size) _ _ l0 (Z4 l0) _ ?s1 rfl).mono ?_);(case s1=>exact Kd.V_mk HC0.out (Kd.C_F (Kd.heap_int .u32) HR0.out));rintro e w1 ⟨v1,rfl,ho1,hb1⟩;obtain⟨A1,c1,rfl⟩:=Kd.V_slice ho1;have HV:=aM ho1;have HB1:=aM hb1;clear ho1 hb1)
  |((with_reducible refine ZT (b:= .append) (xs:= #[.const (.slice none 0 0),.tmp 4]) rfl ?_);at_builtin;refine Kd.R_append_rows (Kd.int .u32) (w0:=w) w.heap.size rfl (.const (.slice none 0 0)) (.tmp 4) 53 72 (.int .u32 0) 4 rfl Try.underlying53 info72 rfl (by decide) (by omega) (.slice none 0 0) [] (Z4 l0) _ _ _ (fun _=>True) (fun _=>False) rfl rfl ?aO ?aR (fun _ _ h=>h) (fun _ h=>h.elim) ?aF ?aB ?aS ?aL ?_;(case aR=>exact(Kd.V_reads' HV.out).2.2);(case aB=>exact HB1.out);(case aF=>exact(fun _ _=>trivial));(case aO=>exact Kd.R_nil _ _ _ _ _);(case aS=>exact HB1.out.size);(case aL=>have:=HQ.out.1;have:=shortL_length l0;simp only[List.length_nil];omega);intro v2 w2 ho2 hb2 hg2 hat2;have HO2:=aM ho2;have HB2:=aM hb2;clear ho2 hb2 hg2 hat2))
 go_ret
 have ho2:=HO2.out
 rw[List.nil_append,HQ.out.2] at ho2
 exact⟨_,rfl,ho2,HB2.out⟩
end
section
attribute [local go_sem] ZG ZE ZL ZK ZA Zz ZF ZD
def nat_Mul.l0:Nat→List Int→List (List Int)→Int→Int→Option (List Int)
 |0,_,_,_,_=>none
 |k+1,x3,x7,x8,x9=>if x9<x8 then(if 0≤x9 then(if x9<(x7.length:Int) then((nat_short.f (rd_L8 x7 x9)).bind fun t237=>((nat_times.f k x3 t237).bind fun t240=>(nat_Mul.l0 k t240 x7 x8 (wrap64 (x9+1))))) else(none)) else(none)) else((nat_Trim.f x3).bind fun t243=>(some t243))
def nat_Mul.f (k:Nat) (l0:List (List Int)):Option (List Int):=nat_Mul.l0 k (([1]:List Int)) l0 (l0.length:Int) 0
theorem nat_Mul.calls (k:Nat) (A0:Option Addr) (c0:Nat) (l0:List (List Int)) (r:List Int) (w:World) (hr0:Kd.C (Kd.slice 72 (Kd.int .u32)) w A0 l0.length l0) (hc0:l0.length≤c0) (h:nat_Mul.f k l0=some r):
    Calls Try.prog 47 #[.slice A0 l0.length c0] w fun e w'=>∃v0_:Value,e= .returned (v0_)∧Kd.R (Kd.int .u32) 72 w' w.heap.size (fun _=>True) v0_ r∧Below w.heap.size w w':=by
 have HR0:=aM hr0
 have HC0:=aM hc0
 clear hr0 hc0
 have HB:=aM (Below.refl w.heap.size w)
 have H:(nat_Mul.l0 k (([1]:List Int)) l0 (l0.length:Int) 0)=some r:=h
 clear h
 obtain⟨y233,hy233⟩:∃y_:List Int,y_=(([1]:List Int)):=⟨_,rfl⟩
 replace H:(nat_Mul.l0 k y233 l0 (l0.length:Int) 0)=some r:=by first|(rw[hy233];with_reducible exact H)|(have H2_:=(Option.bind_some _ _).symm.trans H;rw[hy233];with_reducible exact H2_)|(have H2_:=(Option.bind_some _ _).symm.trans H;with_reducible exact H2_)|with_reducible exact H|(rw[hy233];exact H)|exact H
 have Ny233:=aM hy233
 clear hy233
 have H':=aM H
 clear H
 go_enter Try.func47,Try.ntmps47
 go_wp2_with (first|((with_reducible refine Zr (N:=6) rfl ?_);refine Kd.R_lit (Kd.int .u32) _ 72 ?hg (N:=6) ?hd (xs:=([1]:List Int)) (inner:= [.int .u32 1]) (ok:=fun _=>True) (okp:=fun _=>True) ?hr ?hp (fun _ hk=>hk) trivial (Below.refl _ _) (Nat.le_refl _) (by simp) ?_;(case hd=>rfl);(case hg=>rfl);(case hr=>first|(go_simp;done)|(go_simp;rfl));(case hp=>exact(Reps.one (show Kd.M (Kd.int .u32) _ _ _ 1 [.int .u32 1] from rfl) (Reps.none _ _)));intro v234 w2 ho3 hb hg_ hnew_;clear hg_ hnew_;(first|rw[←Ny233.out] at ho3|(simp only[Int.reduceToNat] at ho3;rw[←Ny233.out] at ho3));have HO235:=aM (Kd.R_lower ho3 (Zc zz128));replace HB:=aM (Ze zz128 hb);clear hb ho3))
 go_loopg [3,9] k (fun kq v3 v9 w'=>∃(x3_1:List Int) (x9_1:Int),v9= .int .i64 x9_1∧Aside0 (nat_Mul.l0 kq x3_1 l0 (l0.length:Int) x9_1=some r)∧Aside0 (kq≤k)∧Aside0 (Kd.V (Kd.int .u32) 72 w' w.heap.size (fun _=>True) v3 x3_1)∧Aside0 (Below w.heap.size w w'))
 case atStart=>exact⟨(y233),(0),zz154,H',⟨Nat.le_refl _⟩,⟨Kd.R_V (zR HO235)⟩,⟨zz128⟩⟩
 case round =>
  clear H';(try clear p2);obtain⟨x3_1,x9_1,rfl,HA,HK1,HO_3,HB⟩:=hrel
  cases gk with
  |zero=>exact absurd HA.out (by simp[nat_Mul.l0])
  | succ k1=>
   have H:=HA.out;clear HA;simp only[nat_Mul.l0] at H
   by_cases c4:x9_1<(l0.length:Int)
   ·rw [if_pos c4] at H;have c4b0:=dT c4;clear c4
    by_cases c5:0≤x9_1
    ·rw [if_pos c5] at H;have c5b0:=dT c5;clear c5
     by_cases c6:x9_1<(l0.length:Int)
     ·rw[if_pos c6] at H;have c6b0:=dT c6;clear c6;replace H:=oB H;obtain⟨t237,A70,H⟩:=H;replace H:((nat_times.f k1 x3_1 t237).bind fun t240=>(nat_Mul.l0 k1 t240 l0 (l0.length:Int) (wrap64 (x9_1+1))))=some r:=H;have A7:=aM A70;clear A70;replace H:=oB H;obtain⟨t240,A80,H⟩:=H;replace H:(nat_Mul.l0 k1 t240 l0 (l0.length:Int) (wrap64 (x9_1+1)))=some r:=H;have A8:=aM A80;clear A80;have H':=aM H;clear H;have p236:0≤(x9_1:Int):=oD zz153;have q236:x9_1<(l0.length:Int):=oD zz153;obtain⟨ad236,A236_0,c236_0,e236,hx236_0,hl236_0,hi236_0⟩:=at_L8 HR0.out x9_1 p236 q236
      cases e236;replace hx236_0:=(HB.out.cell (wB w _ hx236_0)).trans hx236_0;have HR236_0:=aM hi236_0;have HC236_0:=aM hl236_0;clear hi236_0 hl236_0;replace p236:=eq_true p236;replace q236:=eq_true q236
      go_wp2_with (first|((with_reducible refine Zq (f:=73) rfl ?_);refine ZB (some 15) rfl rfl Try.func73 (by kernel_rfl) rfl #[.slice A236_0 (rd_L8 l0 x9_1).length c236_0] rfl zz127 ?_;(with_reducible refine(nat_short.calls (fun k_=>k_<w.heap.size) _ _ (rd_L8 l0 x9_1) t237 _ ?side1 A7.out).mono ?_);(case side1=>exact Kd.V_mk HC236_0.out (Kd.F_below (Kd.C_F (Kd.heap_int .u32) HR236_0.out) zz128));rintro e w9 ⟨v238,rfl,ho0,hb⟩;refine⟨_,rfl,?_⟩;replace HO_3:=aM (Kd.V_below (zV HO_3) hb);have HO239:=aM (Kd.V_lower (Kd.V_mono (ok':=fun k_=>True) ho0 (fun k_ hk_=>trivial)) (Zc zz128));replace HB:=aM (Ze zz128 hb);(try clear hb);(try clear hb2);(try clear hk);(try clear hi);(try clear ho0);obtain⟨Ao10,co10,eo10⟩:=Kd.V_slice HO_3.out;subst eo10;obtain⟨Ao11,co11,eo11⟩:=Kd.V_slice HO239.out;subst eo11)|((with_reducible refine Zq (f:=72) rfl ?_);refine ZB (some 16) rfl rfl Try.func72 (by kernel_rfl) rfl #[.slice Ao10 x3_1.length co10,.slice Ao11 t237.length co11] rfl zz127 ?_;(with_reducible refine(nat_times.calls k1 _ _ x3_1 _ _ t237 t240 _ ?side1 ?side2 ?side3 ?side4 A8.out).mono ?_);(case side1=>exact zC ((Kd.V_reads' HO_3.out).2.2));(case side2=>exact(Kd.V_reads' HO_3.out).2.1);(case side3=>exact zC ((Kd.V_reads' HO239.out).2.2));(case side4=>exact(Kd.V_reads' HO239.out).2.1);rintro e w12 ⟨v241,rfl,ho0,hb⟩;refine⟨_,rfl,?_⟩;replace HO_3:=aM (Kd.V_below (zV HO_3) hb);replace HO239:=aM (Kd.V_below (zV HO239) hb);have HO242:=aM (Kd.V_lower (Kd.V_mono (ok':=fun k_=>True) ho0 (fun k_ hk_=>trivial)) (Zc zz128));replace HB:=aM (Ze zz128 hb);(try clear hb);(try clear hb2);(try clear hk);(try clear hi);(try clear ho0)))
      go_roundg k1
      case measure=>have:=HK1.out;omega
      case rel=>exact⟨(t240),(wrap64 (x9_1+1)),zz154,H',⟨zz163⟩,⟨(zV HO242)⟩,⟨zz128⟩⟩
     rw[if_neg c6] at H
     exact absurd H (by simp)
    rw[if_neg c5] at H
    exact absurd H (by simp)
   rw[if_neg c4] at H;have c4b0:=dF c4;clear c4;replace H:=oB H;obtain⟨t243,A130,H⟩:=H;replace H:(some t243)=some r:=H;have A13:=aM A130;clear A130;obtain rfl:=oI H;obtain⟨Ao14,co14,eo14⟩:=Kd.V_slice HO_3.out;subst eo14
   go_wp2_with (first|((with_reducible refine Zq (f:=74) rfl ?_);refine ZB (some 19) rfl rfl Try.func74 (by kernel_rfl) rfl #[.slice Ao14 x3_1.length co14] rfl zz127 ?_;(with_reducible refine(nat_Trim.calls _ _ x3_1 t243 _ ?side1 ?side2 A13.out).mono ?_);(case side1=>exact zC ((Kd.V_reads' HO_3.out).2.2));(case side2=>exact(Kd.V_reads' HO_3.out).2.1);rintro e w15 ⟨v244,rfl,ho0,hb⟩;refine⟨_,rfl,?_⟩;replace HO_3:=aM (Kd.V_elder' (zV HO_3) (Kd.R_base ho0) hb);have HO245:=aM (Kd.R_lower ho0 (Zc zz128));replace HB:=aM (Ze zz128 hb);(try clear hb);(try clear hb2);(try clear hk);(try clear hi);(try clear ho0)))
   go_ret
   exact⟨_,by first|rfl|(simp[Zj,Zi]<;>rfl)|(simp[*,Zj,Zi]<;>rfl),by(with_reducible repeat(first|apply Kd.R_alloc|apply Kd.R_drewN|apply Kd.R_drew));exact HO245.out,by repeat(first|(with_reducible first|exact HB.out|apply Zn|apply Zf|apply Zh)|exact HB.out)⟩
def nat_Of.f (a0:Int):Option (List Int):=(nat_Trim.f (([(a0)%4294967296,(a0/4294967296)%4294967296]:List Int))).bind fun t249=>(some t249)
theorem nat_Of.calls (a0:Int) (r:List Int) (w:World) (h:nat_Of.f a0=some r):
    Calls Try.prog 48 #[.int .u64 a0] w fun e w'=>∃v0_:Value,e= .returned (v0_)∧Kd.R (Kd.int .u32) 72 w' w.heap.size (fun _=>True) v0_ r∧Below w.heap.size w w':=by
 have HB:=aM (Below.refl w.heap.size w)
 have H:((nat_Trim.f (([(a0)%4294967296,(a0/4294967296)%4294967296]:List Int))).bind fun t249=>(some t249))=some r:=h
 clear h
 obtain⟨y246,hy246⟩:∃y_:List Int,y_=(([(a0)%4294967296,(a0/4294967296)%4294967296]:List Int)):=⟨_,rfl⟩
 replace H:((nat_Trim.f y246).bind fun t249=>(some t249))=some r:=by first|(rw[hy246];with_reducible exact H)|(have H2_:=(Option.bind_some _ _).symm.trans H;rw[hy246];with_reducible exact H2_)|(have H2_:=(Option.bind_some _ _).symm.trans H;with_reducible exact H2_)|with_reducible exact H|(rw[hy246];exact H)|exact H
 have Ny246:=aM hy246
 clear hy246
 replace H:=oB H
 obtain⟨t249,A20,H⟩:=H
 replace H:(some t249)=some r:=H
 have A2:=aM A20
 clear A20
 obtain rfl:=oI H
 go_enter Try.func48,Try.ntmps48
 go_wp2_with (first|((with_reducible refine Zr (N:=8) rfl ?_);refine Kd.R_lit (Kd.int .u32) _ 72 ?hg (N:=8) ?hd (xs:=([(a0)%4294967296,(a0/4294967296)%4294967296]:List Int)) (inner:= [.int .u32 ((a0)%4294967296),.int .u32 ((a0/4294967296)%4294967296)]) (ok:=fun _=>True) (okp:=fun _=>True) ?hr ?hp (fun _ hk=>hk) trivial (Below.refl _ _) (Nat.le_refl _) (by simp) ?_;(case hd=>rfl);(case hg=>rfl);(case hr=>first|(go_simp;done)|(go_simp;rfl));(case hp=>exact(Reps.one (show Kd.M (Kd.int .u32) _ _ _ ((a0)%4294967296) [.int .u32 ((a0)%4294967296)] from rfl) (Reps.one (show Kd.M (Kd.int .u32) _ _ _ ((a0/4294967296)%4294967296) [.int .u32 ((a0/4294967296)%4294967296)] from rfl) (Reps.none _ _))));intro v247 w3 ho4 hb hg_ hnew_;clear hg_ hnew_;(first|rw[←Ny246.out] at ho4|(simp only[Int.reduceToNat] at ho4;rw[←Ny246.out] at ho4));have HO248:=aM (Kd.R_lower ho4 (Zc zz128));replace HB:=aM (Ze zz128 hb);clear hb ho4;obtain⟨Ao5,co5,eo5⟩:=Kd.R_slice HO248.out;subst eo5)|((with_reducible refine Zq (f:=74) rfl ?_);refine ZB (some 9) rfl rfl Try.func74 (by kernel_rfl) rfl #[.slice Ao5 y246.length co5] rfl zz127 ?_;(with_reducible refine(nat_Trim.calls _ _ y246 t249 _ ?side1 ?side2 A2.out).mono ?_);(case side1=>exact zC ((Kd.R_reads' HO248.out).2.2));(case side2=>exact(Kd.R_reads' HO248.out).2.1);rintro e w6 ⟨v250,rfl,ho0,hb⟩;refine⟨_,rfl,?_⟩;have HO251:=aM (Kd.R_lower (Kd.R_new' ho0 (Kd.R_lt (zR HO248))) (Zc zz128));replace HO248:=aM (Kd.R_elder' (zR HO248) (Kd.R_base ho0) hb);replace HB:=aM (Ze zz128 hb);(try clear hb);(try clear hb2);(try clear hk);(try clear hi);(try clear ho0)))
 go_ret
 exact⟨_,by first|rfl|(simp[Zj,Zi]<;>rfl)|(simp[*,Zj,Zi]<;>rfl),by(with_reducible repeat(first|apply Kd.R_alloc|apply Kd.R_drewN|apply Kd.R_drew));exact Kd.R_mono HO251.out (fun _ hk=>trivial),by repeat(first|(with_reducible first|exact HB.out|apply Zn|apply Zf|apply Zh)|exact HB.out)⟩
end
end Go.Proofs.Ytjjlhbgpdncpcaa.P