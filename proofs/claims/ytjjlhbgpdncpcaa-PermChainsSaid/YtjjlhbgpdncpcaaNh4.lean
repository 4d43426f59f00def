/- What the claim's theorem is built on, part 4: words, walks of the code, and what they tell. -/
import Derived.Shelf.Sort.Plain
import Derived.Sort.OwnSortedInts
import Derived.Shelf.Small.Bits
import Derived.Test.YtjjlhbgpdncpcaaNh1
import Derived.Test.YtjjlhbgpdncpcaaNh2
import Derived.Test.YtjjlhbgpdncpcaaNh3
namespace Go.Proofs.Ytjjlhbgpdncpcaa.P
open Go.RowKit Go.Proofs.YtjjlhbgpdncpcaaW.PrintWords Go.Proofs.YtjjlhbgpdncpcaaW.PrintLast Go.Proofs.YtjjlhbgpdncpcaaW.PrintMore
set_option linter.unusedVariables false
set_option linter.unusedSimpArgs false
set_option maxHeartbeats 8000000
set_option maxRecDepth 100000
section
attribute [local go_sem] ZE ZC ZJ ZI ZA Zz ZD ZB
def r30_CheckChain.j0:Nat→Bool→Int→List (S74)→Option (Int)
 |0,_,_,_=>none
 |k+1,x12,x574000,x574001=>if x12=true then(some 4) else((r30_Gens.f k x574000 x574001).bind fun t574=>((r30_Build.f k x574000 t574).bind fun bt577=>(if bt577.2.2=0 then((r30_Same.f k x574000 x574001 bt577.1 bt577.2.1).bind fun t583=>(if t583=true then(some 0) else(some 5))) else(some 5))))
def r30_CheckChain.f (k:Nat) (a0_0:Int) (l0_1:List (S74)):Option (Int):=if a0_0<1 then(r30_CheckChain.j0 k true a0_0 l0_1) else(r30_CheckChain.j0 k (decide (a0_0>64)) a0_0 l0_1)
def r30_CheckChain.T3:Bool×List (List Nat×List Nat):=(true,[([],[]),([0],[0]),([],[]),([2],[2]),([1,3,3],[1,3]),([4],[4]),([5],[5]),([5],[5]),([],[]),([8,6,4,0,1,2,3,4,5,6,8],[6,8]),([7,9,0,1,2,3,4,5,6,7,8,9],[7])])
def r30_CheckChain.B3:List Nat:= [0,1,0,4,15,31,63,63,0,383,1023]
theorem r30_CheckChain.tab3:rtab .any (opsOf Try.f34 3)=r30_CheckChain.T3:=by kernel_rfl
theorem r30_CheckChain.bits3:waitsOk r30_CheckChain.T3.2 r30_CheckChain.B3=true:=by kernel_rfl
theorem r30_CheckChain.calls (k:Nat) (a0_0:Int) (A0_1:Option Addr) (c0_1:Nat) (l0_1:List (S74)) (r:Int) (w:World) (hr0_1:Kd.C k74 w A0_1 l0_1.length l0_1) (hc0_1:l0_1.length≤c0_1) (h:r30_CheckChain.f k a0_0 l0_1=some r):
    Calls Try.prog 34 #[.agg #[.int .i64 a0_0,.slice A0_1 l0_1.length c0_1]] w fun e w'=>e= .returned (.int .i64 r)∧Below w.heap.size w w':=by
 have hu46:=Try.underlying46
 have HR0_1:=aM hr0_1
 have HC0_1:=aM hc0_1
 clear hr0_1 hc0_1
 have HB:=aM (Below.refl w.heap.size w)
 have H:(if a0_0<1 then(r30_CheckChain.j0 k true a0_0 l0_1) else(r30_CheckChain.j0 k (decide (a0_0>64)) a0_0 l0_1))=some r:=h
 clear h
 have HC2:=aM H
 clear H
 go_enter Try.func34,Try.ntmps34
 go_upto_region 1 with(first|((with_reducible refine Zr (N:=1) rfl ?_);refine Zy ?hg (N:=1) ?hd (cs:= #[.int .i64 a0_0,.slice A0_1 l0_1.length c0_1]) (t:=46) ?hr ?_;(case hd=>rfl);(case hg=>rfl);(case hr=>first|(go_simp;done)|(go_simp;rfl));intro gb573 hg w3 hbox hb;have BK573:=aM (hbox);have GW573:=aM ((by rw[hg];exact(Zc zz126):w.heap.size≤gb573));have GE573:=aM ((by rw[hg];exact(Zc zz126):w.heap.size≤gb573));replace HB:=aM (Ze zz126 hb);clear hb hbox hg))
 (try simp only[Act.put,sA,sB,sC])
 go_cut [12] (fun v12 wc=>∃(kq:Nat) (x12_1:Bool),v12= .bool x12_1∧Aside0 (r30_CheckChain.j0 kq x12_1 a0_0 l0_1=some r)∧Aside0 (kq≤k)∧Aside0 (wc.heap[gb573]? =some (.cells #[.int .i64 a0_0,(.slice A0_1 l0_1.length c0_1)] 46 (0,0)))∧Aside0 (Below w.heap.size w wc))
 case first=>
  have H:=HC2.out;clear HC2
  by_cases c4:a0_0<1
  ·rw[if_pos c4] at H;have c4b0:=dT c4;clear c4
   (first|rw[c4b0]|(simp only[Zt,Zu];rw[c4b0])|skip)
   have H':=aM H;clear H;have hcz5_0:w3.cell? ⟨gb573,0,none⟩=some (.int .i64 a0_0):=(Zb BK573.out 0).trans rfl;have hcz5_1:w3.cell? ⟨gb573,1,none⟩=some (.slice A0_1 l0_1.length c0_1):=(Zb BK573.out 1).trans rfl;have hfz5_0:=Za BK573.out 0;have hfz5_1:=Za BK573.out 1;go_wp2;go_meet
   case rel=>exact⟨_,(true),zz152,H',⟨zz154⟩,⟨(zB BK573)⟩,⟨zz101⟩⟩
  rw[if_neg c4] at H;have c4b0:=dF c4;clear c4
  (first|rw[c4b0]|(simp only[Zt,Zu];rw[c4b0])|skip)
  have H':=aM H;clear H;have hcz6_0:w3.cell? ⟨gb573,0,none⟩=some (.int .i64 a0_0):=(Zb BK573.out 0).trans rfl;have hcz6_1:w3.cell? ⟨gb573,1,none⟩=some (.slice A0_1 l0_1.length c0_1):=(Zb BK573.out 1).trans rfl;have hfz6_0:=Za BK573.out 0;have hfz6_1:=Za BK573.out 1;go_wp2;go_meet
  case rel=>exact⟨_,(decide (a0_0>64)),zz152,H',⟨zz154⟩,⟨(zB BK573)⟩,⟨zz101⟩⟩
 case rest=>
  clear HC2;(try clear p2);(try clear c3);(try clear c4);(try clear c4b0);(try clear hcz5_0);(try clear hcz5_1);(try clear hcz6_0);(try clear hcz6_1);(try clear hfz5_0);(try clear hfz5_1);(try clear hfz6_0);(try clear hfz6_1);obtain⟨kq,x12_1,rfl,HA,HJ1,BK573,HB⟩:=hcut
  cases kq with
  |zero=>exact absurd HA.out (by simp[r30_CheckChain.j0])
  | succ kj1 =>
   have H:=HA.out;clear HA;simp only[r30_CheckChain.j0] at H
   by_cases c7:x12_1=true
   ·subst c7;have H1:(some 4)=some r:=by rw[if_pos rfl] at H;exact H
    clear H;have H:=H1;clear H1;obtain rfl:=oI H;go_wp2;go_ret
    exact⟨by first|rfl|(simp[Zj,Zi]<;>rfl)|(simp[*,Zj,Zi]<;>rfl),by repeat(first|(with_reducible first|exact HB.out|apply Zn|apply Zf|apply Zh|refine Zk ?_ GE573.out)|exact HB.out)⟩
   replace c7:=Bool.eq_false_iff.mpr c7;subst c7;have H1:((r30_Gens.f kj1 a0_0 l0_1).bind fun t574=>((r30_Build.f kj1 a0_0 t574).bind fun bt577=>(if bt577.2.2=0 then((r30_Same.f kj1 a0_0 l0_1 bt577.1 bt577.2.1).bind fun t583=>(if t583=true then(some 0) else(some 5))) else(some 5))))=some r:=by rw[if_neg (show¬(false=true) by decide)] at H;exact H
   clear H;have H:=H1;clear H1;replace H:=oB H;obtain⟨t574,A80,H⟩:=H;replace H:((r30_Build.f kj1 a0_0 t574).bind fun bt577=>(if bt577.2.2=0 then((r30_Same.f kj1 a0_0 l0_1 bt577.1 bt577.2.1).bind fun t583=>(if t583=true then(some 0) else(some 5))) else(some 5)))=some r:=H;have A8:=aM A80;clear A80;replace H:=oB H;obtain⟨⟨t577,t578,t581⟩,A90,H⟩:=H;replace H:(if t581=0 then((r30_Same.f kj1 a0_0 l0_1 t577 t578).bind fun t583=>(if t583=true then(some 0) else(some 5))) else(some 5))=some r:=H;have A9:=aM A90;clear A90
   by_cases c10:t581=0
   ·rw [if_pos c10] at H;have c10b0:=beq_iff_eq.mpr c10;have c10b1:=bne_eq_false_iff_eq.mpr c10;clear c10;replace H:=oB H;obtain⟨t583,A110,H⟩:=H;replace H:(if t583=true then(some 0) else(some 5))=some r:=H;have A11:=aM A110;clear A110
    by_cases c12:t583=true
    ·subst c12;have H1:(some 0)=some r:=by rw[if_pos rfl] at H;exact H
     clear H;have H:=H1;clear H1;obtain rfl:=oI H
     try go_wp2
     have n0_:=aM (Zo BK573.out);have n1_:=aM (Zh HB.out);clear BK573;clear HB;have BK573:=n0_;have HB:=n1_;clear n0_ n1_
     refine start_ (n:=11) (S:=fun w'=>w'.cell? ⟨gb573,0,none⟩=some (.int .i64 a0_0)∧w'.cell? ⟨gb573,1,none⟩=some (.slice A0_1 l0_1.length c0_1)) (ds:= []) #[false,false,false,false,false,false,false,false,false,false,false] (by kernel_rfl) rfl rfl ⟨(Zb BK573.out 0).trans rfl,(Zb BK573.out 1).trans rfl⟩ (fun hHeld=> ?_);refine Z5 r30_CheckChain.tab3 r30_CheckChain.bits3 (fun HT_ HW_=> ?_);generalize wc.drew=w13 at BK573 HB hHeld⊢
     refine ZF (i:=0) (N:=some 14) (v:= ?_) (a':= ?_) #[true,false,false,false,false,false,false,false,false,false,false] rfl rfl (Zx HT_.out (by kernel_rfl)) (fun _ _ _ h=>h) (Or.inl ⟨by rfl,?_⟩) ?_ ?_;rotate_left
     ·intro w';go_simp;with_reducible rfl
     rotate_left
     ·simp only[Act.put,sA,sB,sC,Zt,Zu];rfl
     refine take_ (i:=1) (N:=some 15) (v:= ?_) (a':= ?_) #[true,true,false,false,false,false,false,false,false,false,false] rfl rfl (ZV HT_.out HW_.out (by kernel_rfl)) (fun _ _ _ h=>h) (Or.inl ⟨by rfl,?_⟩) hHeld ?_ ?_;rotate_left
     ·rintro w' ⟨s0,s1⟩;go_simp;with_reducible rfl
     rotate_left
     ·simp only[Act.put,sA,sB,sC,Zt,Zu];rfl
     refine take_ (i:=2) (N:=some 16) (v:= ?_) (a':= ?_) #[true,true,true,false,false,false,false,false,false,false,false] rfl rfl (ZV HT_.out HW_.out (by kernel_rfl)) (fun _ _ _ h=>h) (Or.inl ⟨by rfl,?_⟩) hHeld ?_ ?_;rotate_left
     ·rintro w' ⟨s0,s1⟩;go_simp;with_reducible rfl
     rotate_left
     ·simp only[Act.put,sA,sB,sC,Zt,Zu];rfl
     refine join_ (σ:=Value×Value×Nat) 2 #[true,true,true,true,true,true,true,true,true,false,false] (fun s_=> [(17,s_.1),(18,.tuple #[.agg #[.int .i64 t577,s_.2.1],.int .i64 t581]),(3,.pointer (some ⟨s_.2.2,0,none⟩)),(13,.tuple #[.agg #[.int .i64 t577,s_.2.1],.int .i64 t581]),(19,.agg #[.int .i64 t577,s_.2.1]),(20,.int .i64 t581)]) (fun s_ w'=>(w'.cell? ⟨gb573,0,none⟩=some (.int .i64 a0_0)∧w'.cell? ⟨gb573,1,none⟩=some (.slice A0_1 l0_1.length c0_1))∧(Kd.N (Kd.slice 3 (Kd.int .i64)) 22 w' w.heap.size (fun k_=>some k_≠(s_.2.1:Value).ownBlock∧k_≠gb573∧k_≠s_.2.2) s_.1 t574)∧(Kd.N k74 74 w' w.heap.size (fun k_=>some k_≠(s_.1:Value).ownBlock∧k_≠gb573∧k_≠s_.2.2) s_.2.1 t578)∧(w'.heap[gb573]? =some (.cells #[.int .i64 a0_0,.slice A0_1 l0_1.length c0_1] 46 (0,0)))∧(w'.heap[s_.2.2]? =some (.cells #[.int .i64 0,.slice none 0 0] 46 (0,0)))∧(w.heap.size≤s_.2.2)∧(w.heap.size≤s_.2.2)∧(gb573≠s_.2.2)∧(s_.2.2≠gb573)∧(Below w.heap.size w w')) ?_ ?_;rotate_left
     ·intro hCont
      refine two_ (i:=3) (j:=8) (Ni:=some 17) (Nj:=some 3) #[true,true,true,true,false,false,false,false,false,false,false] #[true,true,true,false,false,false,false,false,true,false,false] rfl rfl rfl rfl (two_of HT_.out (by kernel_rfl)) (by decide) (by decide) (fun K hK=> ?_) (fun K hK=> ?_)
      ·skip
       refine Ye Try.func45 (by kernel_rfl) rfl #[.agg #[.int .i64 a0_0,.slice A0_1 l0_1.length c0_1]] (by rfl) rfl rfl zz125 ?_;with_reducible refine(r30_Gens.calls kj1 a0_0 (fun k_=>k_<w.heap.size) _ _ l0_1 t574 _ ?side1 A8.out).mono ?_
       (case side1=>exact Kd.V_mk HC0_1.out (Kd.F_below (Kd.C_F k74_heap HR0_1.out) zz101))
       rintro e w14 ⟨v575,rfl,ho0,hb⟩
       refine⟨_,rfl,?_⟩;have n0_:=aM (Kd.N_lower (Kd.N_mono (ok':=fun k_=>k_≠gb573) ho0 (fun k_ hk_=>Or.elim hk_ (fun hs_=>fun e_=>Nat.not_le.2 hs_ zz160) (fun hn_=>(Kd.freshB (g:=gb573) (o:= .cells #[.int .i64 a0_0,.slice A0_1 l0_1.length c0_1] 46 (0,0)) (zB BK573) k_ hn_)))) (Zc zz101));have n1_:=aM (Zg (g:=gb573) (o:= .cells #[.int .i64 a0_0,.slice A0_1 l0_1.length c0_1] 46 (0,0)) (zB BK573) hb);have n2_:=aM (Ze zz101 hb);clear BK573;clear HB;have HO576:=n0_;have BK573:=n1_;have HB:=n2_;clear n0_ n1_ n2_;(try clear hb);(try clear hb2);(try clear hk);(try clear hi);(try clear ho0);obtain⟨Ao15,co15,eo15⟩:=Kd.N_slice HO576.out
       (first|subst eo15|(injection eo15 with f1_ f2_ f3_;have f4_:=f1_.symm;have f5_:=f3_.symm;clear f1_ f2_ f3_;subst f4_;subst f5_))
       refine hK.out _ _ ⟨(Zb BK573.out 0).trans rfl,(Zb BK573.out 1).trans rfl⟩ (fun hHeld=> ?_);clear hK K
       refine ZT (a':= ?_) ?_ ?_;rotate_left
       ·show Act.put _ (some 17) _=_
        simp only[Act.put,sA,sB,sC,Zt,Zu];rfl
       refine two_ (i:=4) (j:=8) (Ni:=some 18) (Nj:=some 3) #[true,true,true,true,true,false,false,false,false,false,false] #[true,true,true,true,false,false,false,false,true,false,false] rfl rfl rfl rfl (two_of HT_.out (by kernel_rfl)) (by decide) (by decide) (fun K hK=> ?_) (fun K hK=> ?_)
       ·skip
        refine Ye Try.func31 (by kernel_rfl) rfl #[.int .i64 a0_0,.slice Ao15 t574.length co15] (by rfl) rfl rfl zz125 ?_;with_reducible refine(r30_Build.calls kj1 a0_0 _ _ t574 t577 t578 t581 _ ?side1 ?side2 A9.out).mono ?_
        (case side1=>exact zC ((Kd.N_reads' HO576.out).2.2))
        (case side2=>exact(Kd.N_reads' HO576.out).2.1)
        rintro e w16 ⟨v579,rfl,ho0,hb⟩
        refine⟨_,rfl,?_⟩;have n0_:=aM (Kd.N_elder' (zN HO576) (Kd.N_base ho0) hb);have n1_:=aM (Kd.N_lower (Kd.N_mono (ok':=fun k_=>some k_≠(.slice Ao15 t574.length co15:Value).ownBlock∧k_≠gb573) ho0 (fun k_ hk_=>⟨(Kd.fresh' (Kd.N_lt (zN HO576)) k_ hk_),(Kd.freshB (g:=gb573) (o:= .cells #[.int .i64 a0_0,.slice A0_1 l0_1.length c0_1] 46 (0,0)) (zB BK573) k_ hk_)⟩)) (Zc zz101));have n2_:=aM (Zg (g:=gb573) (o:= .cells #[.int .i64 a0_0,.slice A0_1 l0_1.length c0_1] 46 (0,0)) (zB BK573) hb);have n3_:=aM (Ze zz101 hb);clear HO576;clear BK573;clear HB;have HO576:=n0_;have HO580:=n1_;have BK573:=n2_;have HB:=n3_;clear n0_ n1_ n2_ n3_;(try clear hb);(try clear hb2);(try clear hk);(try clear hi);(try clear ho0)
        refine hK.out _ _ ⟨(Zb BK573.out 0).trans rfl,(Zb BK573.out 1).trans rfl⟩ (fun hHeld=> ?_);clear hK K
        refine ZT (a':= ?_) ?_ ?_;rotate_left
        ·show Act.put _ (some 18) _=_
         simp only[Act.put,sA,sB,sC,Zt,Zu];rfl
        refine ZF (i:=5) (N:=some 13) (v:= ?_) (a':= ?_) #[true,true,true,true,true,true,false,false,false,false,false] rfl rfl (Zx HT_.out (by kernel_rfl)) (fun _ _ _ h=>h) (Or.inl ⟨by rfl,?_⟩) ?_ ?_;rotate_left
        ·intro w';go_simp;with_reducible rfl
        rotate_left
        ·simp only[Act.put,sA,sB,sC,Zt,Zu];rfl
        refine ZF (i:=6) (N:=some 19) (v:= ?_) (a':= ?_) #[true,true,true,true,true,true,true,false,false,false,false] rfl rfl (Zx HT_.out (by kernel_rfl)) (fun _ _ _ h=>h) (Or.inl ⟨by rfl,?_⟩) ?_ ?_;rotate_left
        ·intro w';go_simp;with_reducible rfl
        rotate_left
        ·simp only[Act.put,sA,sB,sC,Zt,Zu];rfl
        refine ZF (i:=7) (N:=some 20) (v:= ?_) (a':= ?_) #[true,true,true,true,true,true,true,true,false,false,false] rfl rfl (Zx HT_.out (by kernel_rfl)) (fun _ _ _ h=>h) (Or.inl ⟨by rfl,?_⟩) ?_ ?_;rotate_left
        ·intro w';go_simp;with_reducible rfl
        rotate_left
        ·simp only[Act.put,sA,sB,sC,Zt,Zu];rfl
        refine one_ (i:=8) (N:=some 3) #[true,true,true,true,true,true,true,true,true,false,false] rfl rfl (Z0 HT_.out (by kernel_rfl)) (by decide) (fun K hK=> ?_)
        refine Z6 ?hg (N:=3) ?hd (cs:= #[.int .i64 0,.slice none 0 0]) (t:=46) ?hr ?_;(case hd=>rfl);(case hg=>rfl);(case hr=>first|(go_simp;done)|(go_simp;rfl));intro gb582 hg w17 hbox hb;have n0_:=aM (Kd.N_below (Kd.N_elderB (zN HO576) gb582 (Nat.le_of_eq hg.symm)) hb);have n1_:=aM (Kd.N_below (Kd.N_elderB (zN HO580) gb582 (Nat.le_of_eq hg.symm)) hb);have n2_:=aM (Zg (g:=gb573) (o:= .cells #[.int .i64 a0_0,.slice A0_1 l0_1.length c0_1] 46 (0,0)) (zB BK573) hb);have n3_:=aM (Ze zz101 hb);have n4_:=aM (hbox);have n5_:=aM ((by rw[hg];exact(Zc zz101):w.heap.size≤gb582));have n6_:=aM ((by rw[hg];exact(Zc zz101):w.heap.size≤gb582));have n7_:=aM ((by rw[hg];exact Nat.ne_of_lt (Zw (g:=gb573) (o:= .cells #[.int .i64 a0_0,.slice A0_1 l0_1.length c0_1] 46 (0,0)) (zB BK573)):gb573≠gb582));have n8_:=aM ((by rw[hg];exact Nat.ne_of_gt (Zw (g:=gb573) (o:= .cells #[.int .i64 a0_0,.slice A0_1 l0_1.length c0_1] 46 (0,0)) (zB BK573)):gb582≠gb573));clear HO576;clear HO580;clear BK573;clear HB;have HO576:=n0_;have HO580:=n1_;have BK573:=n2_;have HB:=n3_;have BK582:=n4_;have GW582:=n5_;have GE582:=n6_;have NB573_582:=n7_;have NB582_573:=n8_;clear n0_ n1_ n2_ n3_ n4_ n5_ n6_ n7_ n8_;clear hb hbox hg
        refine hK.out _ _ ⟨(Zb BK573.out 0).trans rfl,(Zb BK573.out 1).trans rfl⟩ (fun hHeld=> ?_);clear hK K
        refine ZT (a':= ?_) ?_ ?_;rotate_left
        ·show Act.put _ (some 3) _=_
         simp only[Act.put,sA,sB,sC,Zt,Zu];rfl
        exact ZT zz136 (hCont (.slice Ao15 t574.length co15,v579,gb582) _ ⟨hHeld,zz110,zz111,(zB BK573),(zB BK582),GW582.out,GE582.out,NB573_582.out,NB582_573.out,zz79⟩)
       ·skip
        refine Z6 ?hg (N:=3) ?hd (cs:= #[.int .i64 0,.slice none 0 0]) (t:=46) ?hr ?_;(case hd=>rfl);(case hg=>rfl);(case hr=>first|(go_simp;done)|(go_simp;rfl));intro gb582 hg w15 hbox hb;have n0_:=aM (Kd.N_below (Kd.N_elderB (zN HO576) gb582 (Nat.le_of_eq hg.symm)) hb);have n1_:=aM (Zg (g:=gb573) (o:= .cells #[.int .i64 a0_0,.slice A0_1 l0_1.length c0_1] 46 (0,0)) (zB BK573) hb);have n2_:=aM (Ze zz101 hb);have n3_:=aM (hbox);have n4_:=aM ((by rw[hg];exact(Zc zz101):w.heap.size≤gb582));have n5_:=aM ((by rw[hg];exact(Zc zz101):w.heap.size≤gb582));have n6_:=aM ((by rw[hg];exact Nat.ne_of_lt (Zw (g:=gb573) (o:= .cells #[.int .i64 a0_0,.slice A0_1 l0_1.length c0_1] 46 (0,0)) (zB BK573)):gb573≠gb582));have n7_:=aM ((by rw[hg];exact Nat.ne_of_gt (Zw (g:=gb573) (o:= .cells #[.int .i64 a0_0,.slice A0_1 l0_1.length c0_1] 46 (0,0)) (zB BK573)):gb582≠gb573));clear HO576;clear BK573;clear HB;have HO576:=n0_;have BK573:=n1_;have HB:=n2_;have BK582:=n3_;have GW582:=n4_;have GE582:=n5_;have NB573_582:=n6_;have NB582_573:=n7_;clear n0_ n1_ n2_ n3_ n4_ n5_ n6_ n7_;clear hb hbox hg;obtain⟨Ao16,co16,eo16⟩:=Kd.N_slice HO576.out
        (first|subst eo16|(injection eo16 with f1_ f2_ f3_;have f4_:=f1_.symm;have f5_:=f3_.symm;clear f1_ f2_ f3_;subst f4_;subst f5_))
        refine hK.out _ _ ⟨(Zb BK573.out 0).trans rfl,(Zb BK573.out 1).trans rfl⟩ (fun hHeld=> ?_);clear hK K
        refine ZT (a':= ?_) ?_ ?_;rotate_left
        ·show Act.put _ (some 3) _=_
         simp only[Act.put,sA,sB,sC,Zt,Zu];rfl
        refine one_ (i:=4) (N:=some 18) #[true,true,true,true,true,false,false,false,true,false,false] rfl rfl (Z0 HT_.out (by kernel_rfl)) (by decide) (fun K hK=> ?_)
        refine Ye Try.func31 (by kernel_rfl) rfl #[.int .i64 a0_0,.slice Ao16 t574.length co16] (by rfl) rfl rfl zz125 ?_;with_reducible refine(r30_Build.calls kj1 a0_0 _ _ t574 t577 t578 t581 _ ?side1 ?side2 A9.out).mono ?_
        (case side1=>exact zC ((Kd.N_reads' HO576.out).2.2))
        (case side2=>exact(Kd.N_reads' HO576.out).2.1)
        rintro e w17 ⟨v579,rfl,ho0,hb⟩
        refine⟨_,rfl,?_⟩;have n0_:=aM (Kd.N_elder' (zN HO576) (Kd.N_base ho0) hb);have n1_:=aM (Kd.N_lower (Kd.N_mono (ok':=fun k_=>some k_≠(.slice Ao16 t574.length co16:Value).ownBlock∧k_≠gb573∧k_≠gb582) ho0 (fun k_ hk_=>⟨(Kd.fresh' (Kd.N_lt (zN HO576)) k_ hk_),(Kd.freshB (g:=gb573) (o:= .cells #[.int .i64 a0_0,.slice A0_1 l0_1.length c0_1] 46 (0,0)) (zB BK573) k_ hk_),(Kd.freshB (g:=gb582) (o:= .cells #[.int .i64 0,.slice none 0 0] 46 (0,0)) (zB BK582) k_ hk_)⟩)) (Zc zz79));have n2_:=aM (Zg (g:=gb573) (o:= .cells #[.int .i64 a0_0,.slice A0_1 l0_1.length c0_1] 46 (0,0)) (zB BK573) hb);have n3_:=aM (Zg (g:=gb582) (o:= .cells #[.int .i64 0,.slice none 0 0] 46 (0,0)) (zB BK582) hb);have n4_:=aM (Ze zz79 hb);clear HO576;clear BK573;clear BK582;clear HB;have HO576:=n0_;have HO580:=n1_;have BK573:=n2_;have BK582:=n3_;have HB:=n4_;clear n0_ n1_ n2_ n3_ n4_;(try clear hb);(try clear hb2);(try clear hk);(try clear hi);(try clear ho0)
        refine hK.out _ _ ⟨(Zb BK573.out 0).trans rfl,(Zb BK573.out 1).trans rfl⟩ (fun hHeld=> ?_);clear hK K
        refine ZT (a':= ?_) ?_ ?_;rotate_left
        ·show Act.put _ (some 18) _=_
         simp only[Act.put,sA,sB,sC,Zt,Zu];rfl
        refine ZF (i:=5) (N:=some 13) (v:= ?_) (a':= ?_) #[true,true,true,true,true,true,false,false,true,false,false] rfl rfl (Zx HT_.out (by kernel_rfl)) (fun _ _ _ h=>h) (Or.inl ⟨by rfl,?_⟩) ?_ ?_;rotate_left
        ·intro w';go_simp;with_reducible rfl
        rotate_left
        ·simp only[Act.put,sA,sB,sC,Zt,Zu];rfl
        refine ZF (i:=6) (N:=some 19) (v:= ?_) (a':= ?_) #[true,true,true,true,true,true,true,false,true,false,false] rfl rfl (Zx HT_.out (by kernel_rfl)) (fun _ _ _ h=>h) (Or.inl ⟨by rfl,?_⟩) ?_ ?_;rotate_left
        ·intro w';go_simp;with_reducible rfl
        rotate_left
        ·simp only[Act.put,sA,sB,sC,Zt,Zu];rfl
        refine ZF (i:=7) (N:=some 20) (v:= ?_) (a':= ?_) #[true,true,true,true,true,true,true,true,true,false,false] rfl rfl (Zx HT_.out (by kernel_rfl)) (fun _ _ _ h=>h) (Or.inl ⟨by rfl,?_⟩) ?_ ?_;rotate_left
        ·intro w';go_simp;with_reducible rfl
        rotate_left
        ·simp only[Act.put,sA,sB,sC,Zt,Zu];rfl
        exact ZT zz136 (hCont (.slice Ao16 t574.length co16,v579,gb582) _ ⟨hHeld,zz112,(zN HO580),(zB BK573),(zB BK582),GW582.out,GE582.out,NB573_582.out,NB582_573.out,zz79⟩)
      ·skip
       refine Z6 ?hg (N:=3) ?hd (cs:= #[.int .i64 0,.slice none 0 0]) (t:=46) ?hr ?_;(case hd=>rfl);(case hg=>rfl);(case hr=>first|(go_simp;done)|(go_simp;rfl));intro gb582 hg w14 hbox hb;have n0_:=aM (Zg (g:=gb573) (o:= .cells #[.int .i64 a0_0,.slice A0_1 l0_1.length c0_1] 46 (0,0)) (zB BK573) hb);have n1_:=aM (Ze zz101 hb);have n2_:=aM (hbox);have n3_:=aM ((by rw[hg];exact(Zc zz101):w.heap.size≤gb582));have n4_:=aM ((by rw[hg];exact(Zc zz101):w.heap.size≤gb582));have n5_:=aM ((by rw[hg];exact Nat.ne_of_lt (Zw (g:=gb573) (o:= .cells #[.int .i64 a0_0,.slice A0_1 l0_1.length c0_1] 46 (0,0)) (zB BK573)):gb573≠gb582));have n6_:=aM ((by rw[hg];exact Nat.ne_of_gt (Zw (g:=gb573) (o:= .cells #[.int .i64 a0_0,.slice A0_1 l0_1.length c0_1] 46 (0,0)) (zB BK573)):gb582≠gb573));clear BK573;clear HB;have BK573:=n0_;have HB:=n1_;have BK582:=n2_;have GW582:=n3_;have GE582:=n4_;have NB573_582:=n5_;have NB582_573:=n6_;clear n0_ n1_ n2_ n3_ n4_ n5_ n6_;clear hb hbox hg
       refine hK.out _ _ ⟨(Zb BK573.out 0).trans rfl,(Zb BK573.out 1).trans rfl⟩ (fun hHeld=> ?_);clear hK K
       refine ZT (a':= ?_) ?_ ?_;rotate_left
       ·show Act.put _ (some 3) _=_
        simp only[Act.put,sA,sB,sC,Zt,Zu];rfl
       refine one_ (i:=3) (N:=some 17) #[true,true,true,true,false,false,false,false,true,false,false] rfl rfl (Z0 HT_.out (by kernel_rfl)) (by decide) (fun K hK=> ?_)
       refine Ye Try.func45 (by kernel_rfl) rfl #[.agg #[.int .i64 a0_0,.slice A0_1 l0_1.length c0_1]] (by rfl) rfl rfl zz125 ?_;with_reducible refine(r30_Gens.calls kj1 a0_0 (fun k_=>k_<w.heap.size) _ _ l0_1 t574 _ ?side1 A8.out).mono ?_
       (case side1=>exact Kd.V_mk HC0_1.out (Kd.F_below (Kd.C_F k74_heap HR0_1.out) zz79))
       rintro e w15 ⟨v575,rfl,ho0,hb⟩
       refine⟨_,rfl,?_⟩;have n0_:=aM (Kd.N_lower (Kd.N_mono (ok':=fun k_=>k_≠gb573∧k_≠gb582) ho0 (fun k_ hk_=>⟨Or.elim hk_ (fun hs_=>fun e_=>Nat.not_le.2 hs_ zz160) (fun hn_=>(Kd.freshB (g:=gb573) (o:= .cells #[.int .i64 a0_0,.slice A0_1 l0_1.length c0_1] 46 (0,0)) (zB BK573) k_ hn_)),Or.elim hk_ (fun hs_=>fun e_=>Nat.not_le.2 hs_ (by rw[e_];exact GW582.out)) (fun hn_=>(Kd.freshB (g:=gb582) (o:= .cells #[.int .i64 0,.slice none 0 0] 46 (0,0)) (zB BK582) k_ hn_))⟩)) (Zc zz79));have n1_:=aM (Zg (g:=gb573) (o:= .cells #[.int .i64 a0_0,.slice A0_1 l0_1.length c0_1] 46 (0,0)) (zB BK573) hb);have n2_:=aM (Zg (g:=gb582) (o:= .cells #[.int .i64 0,.slice none 0 0] 46 (0,0)) (zB BK582) hb);have n3_:=aM (Ze zz79 hb);clear BK573;clear BK582;clear HB;have HO576:=n0_;have BK573:=n1_;have BK582:=n2_;have HB:=n3_;clear n0_ n1_ n2_ n3_;(try clear hb);(try clear hb2);(try clear hk);(try clear hi);(try clear ho0);obtain⟨Ao16,co16,eo16⟩:=Kd.N_slice HO576.out
       (first|subst eo16|(injection eo16 with f1_ f2_ f3_;have f4_:=f1_.symm;have f5_:=f3_.symm;clear f1_ f2_ f3_;subst f4_;subst f5_))
       refine hK.out _ _ ⟨(Zb BK573.out 0).trans rfl,(Zb BK573.out 1).trans rfl⟩ (fun hHeld=> ?_);clear hK K
       refine ZT (a':= ?_) ?_ ?_;rotate_left
       ·show Act.put _ (some 17) _=_
        simp only[Act.put,sA,sB,sC,Zt,Zu];rfl
       refine one_ (i:=4) (N:=some 18) #[true,true,true,true,true,false,false,false,true,false,false] rfl rfl (Z0 HT_.out (by kernel_rfl)) (by decide) (fun K hK=> ?_)
       refine Ye Try.func31 (by kernel_rfl) rfl #[.int .i64 a0_0,.slice Ao16 t574.length co16] (by rfl) rfl rfl zz125 ?_;with_reducible refine(r30_Build.calls kj1 a0_0 _ _ t574 t577 t578 t581 _ ?side1 ?side2 A9.out).mono ?_
       (case side1=>exact zC ((Kd.N_reads' HO576.out).2.2))
       (case side2=>exact(Kd.N_reads' HO576.out).2.1)
       rintro e w17 ⟨v579,rfl,ho0,hb⟩
       refine⟨_,rfl,?_⟩;have n0_:=aM (Kd.N_elder' (zN HO576) (Kd.N_base ho0) hb);have n1_:=aM (Kd.N_lower (Kd.N_mono (ok':=fun k_=>some k_≠(.slice Ao16 t574.length co16:Value).ownBlock∧k_≠gb573∧k_≠gb582) ho0 (fun k_ hk_=>⟨(Kd.fresh' (Kd.N_lt (zN HO576)) k_ hk_),(Kd.freshB (g:=gb573) (o:= .cells #[.int .i64 a0_0,.slice A0_1 l0_1.length c0_1] 46 (0,0)) (zB BK573) k_ hk_),(Kd.freshB (g:=gb582) (o:= .cells #[.int .i64 0,.slice none 0 0] 46 (0,0)) (zB BK582) k_ hk_)⟩)) (Zc zz79));have n2_:=aM (Zg (g:=gb573) (o:= .cells #[.int .i64 a0_0,.slice A0_1 l0_1.length c0_1] 46 (0,0)) (zB BK573) hb);have n3_:=aM (Zg (g:=gb582) (o:= .cells #[.int .i64 0,.slice none 0 0] 46 (0,0)) (zB BK582) hb);have n4_:=aM (Ze zz79 hb);clear HO576;clear BK573;clear BK582;clear HB;have HO576:=n0_;have HO580:=n1_;have BK573:=n2_;have BK582:=n3_;have HB:=n4_;clear n0_ n1_ n2_ n3_ n4_;(try clear hb);(try clear hb2);(try clear hk);(try clear hi);(try clear ho0)
       refine hK.out _ _ ⟨(Zb BK573.out 0).trans rfl,(Zb BK573.out 1).trans rfl⟩ (fun hHeld=> ?_);clear hK K
       refine ZT (a':= ?_) ?_ ?_;rotate_left
       ·show Act.put _ (some 18) _=_
        simp only[Act.put,sA,sB,sC,Zt,Zu];rfl
       refine ZF (i:=5) (N:=some 13) (v:= ?_) (a':= ?_) #[true,true,true,true,true,true,false,false,true,false,false] rfl rfl (Zx HT_.out (by kernel_rfl)) (fun _ _ _ h=>h) (Or.inl ⟨by rfl,?_⟩) ?_ ?_;rotate_left
       ·intro w';go_simp;with_reducible rfl
       rotate_left
       ·simp only[Act.put,sA,sB,sC,Zt,Zu];rfl
       refine ZF (i:=6) (N:=some 19) (v:= ?_) (a':= ?_) #[true,true,true,true,true,true,true,false,true,false,false] rfl rfl (Zx HT_.out (by kernel_rfl)) (fun _ _ _ h=>h) (Or.inl ⟨by rfl,?_⟩) ?_ ?_;rotate_left
       ·intro w';go_simp;with_reducible rfl
       rotate_left
       ·simp only[Act.put,sA,sB,sC,Zt,Zu];rfl
       refine ZF (i:=7) (N:=some 20) (v:= ?_) (a':= ?_) #[true,true,true,true,true,true,true,true,true,false,false] rfl rfl (Zx HT_.out (by kernel_rfl)) (fun _ _ _ h=>h) (Or.inl ⟨by rfl,?_⟩) ?_ ?_;rotate_left
       ·intro w';go_simp;with_reducible rfl
       rotate_left
       ·simp only[Act.put,sA,sB,sC,Zt,Zu];rfl
       exact ZT zz136 (hCont (.slice Ao16 t574.length co16,v579,gb582) _ ⟨hHeld,zz112,(zN HO580),(zB BK573),(zB BK582),GW582.out,GE582.out,NB573_582.out,NB582_573.out,zz79⟩)
     rintro ⟨v575,v579,gb582⟩ w18 ⟨hS_,h0_,h1_,h2_,h3_,h4_,h5_,h6_,h7_,h8_⟩;have n0_:Aside0 (Kd.N (Kd.slice 3 (Kd.int .i64)) 22 w18 w.heap.size (fun k_=>some k_≠(v579:Value).ownBlock∧k_≠gb573∧k_≠gb582) v575 t574):=⟨h0_⟩;have n1_:Aside0 (Kd.N k74 74 w18 w.heap.size (fun k_=>some k_≠(v575:Value).ownBlock∧k_≠gb573∧k_≠gb582) v579 t578):=⟨h1_⟩;have n2_:Aside0 (w18.heap[gb573]? =some (.cells #[.int .i64 a0_0,.slice A0_1 l0_1.length c0_1] 46 (0,0))):=⟨h2_⟩;have n3_:Aside0 (w18.heap[gb582]? =some (.cells #[.int .i64 0,.slice none 0 0] 46 (0,0))):=⟨h3_⟩;have n4_:Aside0 (w.heap.size≤gb582):=⟨h4_⟩;have n5_:Aside0 (w.heap.size≤gb582):=⟨h5_⟩;have n6_:Aside0 (gb573≠gb582):=⟨h6_⟩;have n7_:Aside0 (gb582≠gb573):=⟨h7_⟩;have n8_:Aside0 (Below w.heap.size w w18):=⟨h8_⟩;clear BK573;clear HB;clear h0_ h1_ h2_ h3_ h4_ h5_ h6_ h7_ h8_;have HO576:=n0_;have HO580:=n1_;have BK573:=n2_;have BK582:=n3_;have GW582:=n4_;have GE582:=n5_;have NB573_582:=n6_;have NB582_573:=n7_;have HB:=n8_;clear n0_ n1_ n2_ n3_ n4_ n5_ n6_ n7_ n8_;have hHeld:w18.cell? ⟨gb573,0,none⟩=some (.int .i64 a0_0)∧w18.cell? ⟨gb573,1,none⟩=some (.slice A0_1 l0_1.length c0_1):=hS_;obtain⟨Ao20,co20,eo20⟩:=Kd.N_slice HO580.out
     (first|subst eo20|(injection eo20 with f1_ f2_ f3_;have f4_:=f1_.symm;have f5_:=f3_.symm;clear f1_ f2_ f3_;subst f4_;subst f5_))
     refine ZT (a':= ?_) ?_ ?_;rotate_left
     ·simp only[putAll,Act.put,sA,sB,sC];rfl
     refine one_ (i:=9) (N:=none) #[true,true,true,true,true,true,true,true,true,true,false] rfl rfl (Z0 HT_.out (by kernel_rfl)) (by decide) (fun K hK=> ?_);have hs19:w18.cell? ⟨gb582,0,none⟩=some (.int .i64 0):=(Zb BK582.out 0).trans rfl;have hfs19:=Za BK582.out 0;have hns19_0:=NB573_582.out;have hms19_0:=NB582_573.out;have hs21:w18.cell? ⟨gb582,1,none⟩=some (.slice none 0 0):=(Zb BK582.out 1).trans rfl;have hfs21:=Za BK582.out 1;have hns21_0:=NB573_582.out;have hms21_0:=NB582_573.out
     refine skip_ (w1:= ?_) (by rfl) rfl ?_ ?_;rotate_left
     ·go_simp;rfl
     refine hK.out _ _ ⟨((cell_far (p:=⟨gb582,_,none⟩) NB573_582.out _).trans (((cell_far (p:=⟨gb582,_,none⟩) NB573_582.out _).trans (hHeld.1)))),((cell_far (p:=⟨gb582,_,none⟩) NB573_582.out _).trans (((cell_far (p:=⟨gb582,_,none⟩) NB573_582.out _).trans (hHeld.2))))⟩ (fun hHeld=> ?_);clear hK K
     refine ZF (i:=10) (N:=some 4) (v:= ?_) (a':= ?_) #[true,true,true,true,true,true,true,true,true,true,true] rfl rfl (Zx HT_.out (by kernel_rfl)) (fun _ _ _ h=>h) (Or.inl ⟨by rfl,?_⟩) ?_ ?_;rotate_left
     ·intro w';go_simp;with_reducible rfl
     rotate_left
     ·simp only[Act.put,sA,sB,sC,Zt,Zu];rfl
     refine done_ (done_of HT_.out (by kernel_rfl)) ?_;have hnb22:=NB573_582.out;have hnc22:=NB582_573.out;have hcz23_0:w18.cell? ⟨gb573,0,none⟩=some (.int .i64 a0_0):=(Zb BK573.out 0).trans rfl;have hcz23_1:w18.cell? ⟨gb573,1,none⟩=some (.slice A0_1 l0_1.length c0_1):=(Zb BK573.out 1).trans rfl;have hfz23_0:=Za BK573.out 0;have hfz23_1:=Za BK573.out 1;have hcz24_0:w18.cell? ⟨gb582,0,none⟩=some (.int .i64 0):=(Zb BK582.out 0).trans rfl;have hcz24_1:w18.cell? ⟨gb582,1,none⟩=some (.slice none 0 0):=(Zb BK582.out 1).trans rfl;have hfz24_0:=Za BK582.out 0;have hfz24_1:=Za BK582.out 1
     try go_wp2_with (first|(go_at_call 32;(with_reducible refine(r30_Same.calls kj1 a0_0 _ _ l0_1 t577 _ _ t578 true _ ?side1 ?side2 ?side3 ?side4 A11.out).mono ?_);(case side1=>exact Kd.C_below HR0_1.out zz79);(case side2=>exact HC0_1.out);(case side3=>refine(Kd.N_reads' (e:=74) (base:=w.heap.size) (ok:=fun k_=>(some k_≠(v575:Value).ownBlock∧(k_≠gb573∧k_≠gb582))) (n:=t578.length) (c:=co20) ?_).2.2;exact zz57);(case side4=>exact(Kd.N_reads' HO580.out).2.1);rintro e w25 ⟨rfl,hb⟩;replace HO576:=aM (Kd.N_below (by(with_reducible repeat(first|apply Kd.N_alloc|apply Kd.N_drewN|apply Kd.N_drew));exact(Kd.N_mono (Kd.N_far (p:=⟨gb582,1,none⟩) (Kd.N_far (p:=⟨gb582,0,none⟩) (Kd.N_mono HO576.out (fun k_ hk=>(⟨hk,hk.2.2⟩:_∧k_≠gb582))) (fun _ hk=>hk.2) (.int .i64 t577)) (fun _ hk=>hk.2) (.slice Ao20 t578.length co20)) (fun _ h_=>h_.1))) hb);replace HO580:=aM (Kd.N_below zz57 hb);replace BK573:=aM (Zg (g:=gb573) (o:= .cells #[.int .i64 a0_0,.slice A0_1 l0_1.length c0_1] 46 (0,0)) zz56 hb);replace BK582:=aM (Zg (g:=gb582) (o:= .cells #[.int .i64 t577,.slice Ao20 t578.length co20] 46 (0,0)) zz54 hb);replace HB:=aM (Ze zz79 hb);(try clear hb);(try clear hb2);(try clear hk);(try clear hi)))
     go_ret
     exact⟨by first|rfl|(simp[Zj,Zi]<;>rfl)|(simp[*,Zj,Zi]<;>rfl),by repeat(first|(with_reducible first|exact HB.out|apply Zn|apply Zf|apply Zh|refine Zk ?_ GE573.out|refine Zk ?_ GE582.out)|exact HB.out)⟩
    replace c12:=Bool.eq_false_iff.mpr c12;subst c12;have H1:(some 5)=some r:=by rw[if_neg (show¬(false=true) by decide)] at H;exact H
    clear H;have H:=H1;clear H1;obtain rfl:=oI H
    try go_wp2
    have n0_:=aM (Zo BK573.out);have n1_:=aM (Zh HB.out);clear BK573;clear HB;have BK573:=n0_;have HB:=n1_;clear n0_ n1_
    refine start_ (n:=11) (S:=fun w'=>w'.cell? ⟨gb573,0,none⟩=some (.int .i64 a0_0)∧w'.cell? ⟨gb573,1,none⟩=some (.slice A0_1 l0_1.length c0_1)) (ds:= []) #[false,false,false,false,false,false,false,false,false,false,false] (by kernel_rfl) rfl rfl ⟨(Zb BK573.out 0).trans rfl,(Zb BK573.out 1).trans rfl⟩ (fun hHeld=> ?_);refine Z5 r30_CheckChain.tab3 r30_CheckChain.bits3 (fun HT_ HW_=> ?_);generalize wc.drew=w26 at BK573 HB hHeld⊢
    refine ZF (i:=0) (N:=some 14) (v:= ?_) (a':= ?_) #[true,false,false,false,false,false,false,false,false,false,false] rfl rfl (Zx HT_.out (by kernel_rfl)) (fun _ _ _ h=>h) (Or.inl ⟨by rfl,?_⟩) ?_ ?_;rotate_left
    ·intro w';go_simp;with_reducible rfl
    rotate_left
    ·simp only[Act.put,sA,sB,sC,Zt,Zu];rfl
    refine take_ (i:=1) (N:=some 15) (v:= ?_) (a':= ?_) #[true,true,false,false,false,false,false,false,false,false,false] rfl rfl (ZV HT_.out HW_.out (by kernel_rfl)) (fun _ _ _ h=>h) (Or.inl ⟨by rfl,?_⟩) hHeld ?_ ?_;rotate_left
    ·rintro w' ⟨s0,s1⟩;go_simp;with_reducible rfl
    rotate_left
    ·simp only[Act.put,sA,sB,sC,Zt,Zu];rfl
    refine take_ (i:=2) (N:=some 16) (v:= ?_) (a':= ?_) #[true,true,true,false,false,false,false,false,false,false,false] rfl rfl (ZV HT_.out HW_.out (by kernel_rfl)) (fun _ _ _ h=>h) (Or.inl ⟨by rfl,?_⟩) hHeld ?_ ?_;rotate_left
    ·rintro w' ⟨s0,s1⟩;go_simp;with_reducible rfl
    rotate_left
    ·simp only[Act.put,sA,sB,sC,Zt,Zu];rfl
    refine join_ (σ:=Value×Value×Nat) 2 #[true,true,true,true,true,true,true,true,true,false,false] (fun s_=> [(17,s_.1),(18,.tuple #[.agg #[.int .i64 t577,s_.2.1],.int .i64 t581]),(3,.pointer (some ⟨s_.2.2,0,none⟩)),(13,.tuple #[.agg #[.int .i64 t577,s_.2.1],.int .i64 t581]),(19,.agg #[.int .i64 t577,s_.2.1]),(20,.int .i64 t581)]) (fun s_ w'=>(w'.cell? ⟨gb573,0,none⟩=some (.int .i64 a0_0)∧w'.cell? ⟨gb573,1,none⟩=some (.slice A0_1 l0_1.length c0_1))∧(Kd.N (Kd.slice 3 (Kd.int .i64)) 22 w' w.heap.size (fun k_=>some k_≠(s_.2.1:Value).ownBlock∧k_≠gb573∧k_≠s_.2.2) s_.1 t574)∧(Kd.N k74 74 w' w.heap.size (fun k_=>some k_≠(s_.1:Value).ownBlock∧k_≠gb573∧k_≠s_.2.2) s_.2.1 t578)∧(w'.heap[gb573]? =some (.cells #[.int .i64 a0_0,.slice A0_1 l0_1.length c0_1] 46 (0,0)))∧(w'.heap[s_.2.2]? =some (.cells #[.int .i64 0,.slice none 0 0] 46 (0,0)))∧(w.heap.size≤s_.2.2)∧(w.heap.size≤s_.2.2)∧(gb573≠s_.2.2)∧(s_.2.2≠gb573)∧(Below w.heap.size w w')) ?_ ?_;rotate_left
    ·intro hCont
     refine two_ (i:=3) (j:=8) (Ni:=some 17) (Nj:=some 3) #[true,true,true,true,false,false,false,false,false,false,false] #[true,true,true,false,false,false,false,false,true,false,false] rfl rfl rfl rfl (two_of HT_.out (by kernel_rfl)) (by decide) (by decide) (fun K hK=> ?_) (fun K hK=> ?_)
     ·skip
      refine Ye Try.func45 (by kernel_rfl) rfl #[.agg #[.int .i64 a0_0,.slice A0_1 l0_1.length c0_1]] (by rfl) rfl rfl zz125 ?_;with_reducible refine(r30_Gens.calls kj1 a0_0 (fun k_=>k_<w.heap.size) _ _ l0_1 t574 _ ?side1 A8.out).mono ?_
      (case side1=>exact Kd.V_mk HC0_1.out (Kd.F_below (Kd.C_F k74_heap HR0_1.out) zz101))
      rintro e w27 ⟨v575,rfl,ho0,hb⟩
      refine⟨_,rfl,?_⟩;have n0_:=aM (Kd.N_lower (Kd.N_mono (ok':=fun k_=>k_≠gb573) ho0 (fun k_ hk_=>Or.elim hk_ (fun hs_=>fun e_=>Nat.not_le.2 hs_ zz160) (fun hn_=>(Kd.freshB (g:=gb573) (o:= .cells #[.int .i64 a0_0,.slice A0_1 l0_1.length c0_1] 46 (0,0)) (zB BK573) k_ hn_)))) (Zc zz101));have n1_:=aM (Zg (g:=gb573) (o:= .cells #[.int .i64 a0_0,.slice A0_1 l0_1.length c0_1] 46 (0,0)) (zB BK573) hb);have n2_:=aM (Ze zz101 hb);clear BK573;clear HB;have HO576:=n0_;have BK573:=n1_;have HB:=n2_;clear n0_ n1_ n2_;(try clear hb);(try clear hb2);(try clear hk);(try clear hi);(try clear ho0);obtain⟨Ao28,co28,eo28⟩:=Kd.N_slice HO576.out
      (first|subst eo28|(injection eo28 with f1_ f2_ f3_;have f4_:=f1_.symm;have f5_:=f3_.symm;clear f1_ f2_ f3_;subst f4_;subst f5_))
      refine hK.out _ _ ⟨(Zb BK573.out 0).trans rfl,(Zb BK573.out 1).trans rfl⟩ (fun hHeld=> ?_);clear hK K
      refine ZT (a':= ?_) ?_ ?_;rotate_left
      ·show Act.put _ (some 17) _=_
       simp only[Act.put,sA,sB,sC,Zt,Zu];rfl
      refine two_ (i:=4) (j:=8) (Ni:=some 18) (Nj:=some 3) #[true,true,true,true,true,false,false,false,false,false,false] #[true,true,true,true,false,false,false,false,true,false,false] rfl rfl rfl rfl (two_of HT_.out (by kernel_rfl)) (by decide) (by decide) (fun K hK=> ?_) (fun K hK=> ?_)
      ·skip
       refine Ye Try.func31 (by kernel_rfl) rfl #[.int .i64 a0_0,.slice Ao28 t574.length co28] (by rfl) rfl rfl zz125 ?_;with_reducible refine(r30_Build.calls kj1 a0_0 _ _ t574 t577 t578 t581 _ ?side1 ?side2 A9.out).mono ?_
       (case side1=>exact zC ((Kd.N_reads' HO576.out).2.2))
       (case side2=>exact(Kd.N_reads' HO576.out).2.1)
       rintro e w29 ⟨v579,rfl,ho0,hb⟩
       refine⟨_,rfl,?_⟩;have n0_:=aM (Kd.N_elder' (zN HO576) (Kd.N_base ho0) hb);have n1_:=aM (Kd.N_lower (Kd.N_mono (ok':=fun k_=>some k_≠(.slice Ao28 t574.length co28:Value).ownBlock∧k_≠gb573) ho0 (fun k_ hk_=>⟨(Kd.fresh' (Kd.N_lt (zN HO576)) k_ hk_),(Kd.freshB (g:=gb573) (o:= .cells #[.int .i64 a0_0,.slice A0_1 l0_1.length c0_1] 46 (0,0)) (zB BK573) k_ hk_)⟩)) (Zc zz101));have n2_:=aM (Zg (g:=gb573) (o:= .cells #[.int .i64 a0_0,.slice A0_1 l0_1.length c0_1] 46 (0,0)) (zB BK573) hb);have n3_:=aM (Ze zz101 hb);clear HO576;clear BK573;clear HB;have HO576:=n0_;have HO580:=n1_;have BK573:=n2_;have HB:=n3_;clear n0_ n1_ n2_ n3_;(try clear hb);(try clear hb2);(try clear hk);(try clear hi);(try clear ho0)
       refine hK.out _ _ ⟨(Zb BK573.out 0).trans rfl,(Zb BK573.out 1).trans rfl⟩ (fun hHeld=> ?_);clear hK K
       refine ZT (a':= ?_) ?_ ?_;rotate_left
       ·show Act.put _ (some 18) _=_
        simp only[Act.put,sA,sB,sC,Zt,Zu];rfl
       refine ZF (i:=5) (N:=some 13) (v:= ?_) (a':= ?_) #[true,true,true,true,true,true,false,false,false,false,false] rfl rfl (Zx HT_.out (by kernel_rfl)) (fun _ _ _ h=>h) (Or.inl ⟨by rfl,?_⟩) ?_ ?_;rotate_left
       ·intro w';go_simp;with_reducible rfl
       rotate_left
       ·simp only[Act.put,sA,sB,sC,Zt,Zu];rfl
       refine ZF (i:=6) (N:=some 19) (v:= ?_) (a':= ?_) #[true,true,true,true,true,true,true,false,false,false,false] rfl rfl (Zx HT_.out (by kernel_rfl)) (fun _ _ _ h=>h) (Or.inl ⟨by rfl,?_⟩) ?_ ?_;rotate_left
       ·intro w';go_simp;with_reducible rfl
       rotate_left
       ·simp only[Act.put,sA,sB,sC,Zt,Zu];rfl
       refine ZF (i:=7) (N:=some 20) (v:= ?_) (a':= ?_) #[true,true,true,true,true,true,true,true,false,false,false] rfl rfl (Zx HT_.out (by kernel_rfl)) (fun _ _ _ h=>h) (Or.inl ⟨by rfl,?_⟩) ?_ ?_;rotate_left
       ·intro w';go_simp;with_reducible rfl
       rotate_left
       ·simp only[Act.put,sA,sB,sC,Zt,Zu];rfl
       refine one_ (i:=8) (N:=some 3) #[true,true,true,true,true,true,true,true,true,false,false] rfl rfl (Z0 HT_.out (by kernel_rfl)) (by decide) (fun K hK=> ?_)
       refine Z6 ?hg (N:=3) ?hd (cs:= #[.int .i64 0,.slice none 0 0]) (t:=46) ?hr ?_;(case hd=>rfl);(case hg=>rfl);(case hr=>first|(go_simp;done)|(go_simp;rfl));intro gb582 hg w30 hbox hb;have n0_:=aM (Kd.N_below (Kd.N_elderB (zN HO576) gb582 (Nat.le_of_eq hg.symm)) hb);have n1_:=aM (Kd.N_below (Kd.N_elderB (zN HO580) gb582 (Nat.le_of_eq hg.symm)) hb);have n2_:=aM (Zg (g:=gb573) (o:= .cells #[.int .i64 a0_0,.slice A0_1 l0_1.length c0_1] 46 (0,0)) (zB BK573) hb);have n3_:=aM (Ze zz101 hb);have n4_:=aM (hbox);have n5_:=aM ((by rw[hg];exact(Zc zz101):w.heap.size≤gb582));have n6_:=aM ((by rw[hg];exact(Zc zz101):w.heap.size≤gb582));have n7_:=aM ((by rw[hg];exact Nat.ne_of_lt (Zw (g:=gb573) (o:= .cells #[.int .i64 a0_0,.slice A0_1 l0_1.length c0_1] 46 (0,0)) (zB BK573)):gb573≠gb582));have n8_:=aM ((by rw[hg];exact Nat.ne_of_gt (Zw (g:=gb573) (o:= .cells #[.int .i64 a0_0,.slice A0_1 l0_1.length c0_1] 46 (0,0)) (zB BK573)):gb582≠gb573));clear HO576;clear HO580;clear BK573;clear HB;have HO576:=n0_;have HO580:=n1_;have BK573:=n2_;have HB:=n3_;have BK582:=n4_;have GW582:=n5_;have GE582:=n6_;have NB573_582:=n7_;have NB582_573:=n8_;clear n0_ n1_ n2_ n3_ n4_ n5_ n6_ n7_ n8_;clear hb hbox hg
       refine hK.out _ _ ⟨(Zb BK573.out 0).trans rfl,(Zb BK573.out 1).trans rfl⟩ (fun hHeld=> ?_);clear hK K
       refine ZT (a':= ?_) ?_ ?_;rotate_left
       ·show Act.put _ (some 3) _=_
        simp only[Act.put,sA,sB,sC,Zt,Zu];rfl
       exact ZT zz136 (hCont (.slice Ao28 t574.length co28,v579,gb582) _ ⟨hHeld,zz110,zz111,(zB BK573),(zB BK582),GW582.out,GE582.out,NB573_582.out,NB582_573.out,zz79⟩)
      ·skip
       refine Z6 ?hg (N:=3) ?hd (cs:= #[.int .i64 0,.slice none 0 0]) (t:=46) ?hr ?_;(case hd=>rfl);(case hg=>rfl);(case hr=>first|(go_simp;done)|(go_simp;rfl));intro gb582 hg w28 hbox hb;have n0_:=aM (Kd.N_below (Kd.N_elderB (zN HO576) gb582 (Nat.le_of_eq hg.symm)) hb);have n1_:=aM (Zg (g:=gb573) (o:= .cells #[.int .i64 a0_0,.slice A0_1 l0_1.length c0_1] 46 (0,0)) (zB BK573) hb);have n2_:=aM (Ze zz101 hb);have n3_:=aM (hbox);have n4_:=aM ((by rw[hg];exact(Zc zz101):w.heap.size≤gb582));have n5_:=aM ((by rw[hg];exact(Zc zz101):w.heap.size≤gb582));have n6_:=aM ((by rw[hg];exact Nat.ne_of_lt (Zw (g:=gb573) (o:= .cells #[.int .i64 a0_0,.slice A0_1 l0_1.length c0_1] 46 (0,0)) (zB BK573)):gb573≠gb582));have n7_:=aM ((by rw[hg];exact Nat.ne_of_gt (Zw (g:=gb573) (o:= .cells #[.int .i64 a0_0,.slice A0_1 l0_1.length c0_1] 46 (0,0)) (zB BK573)):gb582≠gb573));clear HO576;clear BK573;clear HB;have HO576:=n0_;have BK573:=n1_;have HB:=n2_;have BK582:=n3_;have GW582:=n4_;have GE582:=n5_;have NB573_582:=n6_;have NB582_573:=n7_;clear n0_ n1_ n2_ n3_ n4_ n5_ n6_ n7_;clear hb hbox hg;obtain⟨Ao29,co29,eo29⟩:=Kd.N_slice HO576.out
       (first|subst eo29|(injection eo29 with f1_ f2_ f3_;have f4_:=f1_.symm;have f5_:=f3_.symm;clear f1_ f2_ f3_;subst f4_;subst f5_))
       refine hK.out _ _ ⟨(Zb BK573.out 0).trans rfl,(Zb BK573.out 1).trans rfl⟩ (fun hHeld=> ?_);clear hK K
       refine ZT (a':= ?_) ?_ ?_;rotate_left
       ·show Act.put _ (some 3) _=_
        simp only[Act.put,sA,sB,sC,Zt,Zu];rfl
       refine one_ (i:=4) (N:=some 18) #[true,true,true,true,true,false,false,false,true,false,false] rfl rfl (Z0 HT_.out (by kernel_rfl)) (by decide) (fun K hK=> ?_)
       refine Ye Try.func31 (by kernel_rfl) rfl #[.int .i64 a0_0,.slice Ao29 t574.length co29] (by rfl) rfl rfl zz125 ?_;with_reducible refine(r30_Build.calls kj1 a0_0 _ _ t574 t577 t578 t581 _ ?side1 ?side2 A9.out).mono ?_
       (case side1=>exact zC ((Kd.N_reads' HO576.out).2.2))
       (case side2=>exact(Kd.N_reads' HO576.out).2.1)
       rintro e w30 ⟨v579,rfl,ho0,hb⟩
       refine⟨_,rfl,?_⟩;have n0_:=aM (Kd.N_elder' (zN HO576) (Kd.N_base ho0) hb);have n1_:=aM (Kd.N_lower (Kd.N_mono (ok':=fun k_=>some k_≠(.slice Ao29 t574.length co29:Value).ownBlock∧k_≠gb573∧k_≠gb582) ho0 (fun k_ hk_=>⟨(Kd.fresh' (Kd.N_lt (zN HO576)) k_ hk_),(Kd.freshB (g:=gb573) (o:= .cells #[.int .i64 a0_0,.slice A0_1 l0_1.length c0_1] 46 (0,0)) (zB BK573) k_ hk_),(Kd.freshB (g:=gb582) (o:= .cells #[.int .i64 0,.slice none 0 0] 46 (0,0)) (zB BK582) k_ hk_)⟩)) (Zc zz79));have n2_:=aM (Zg (g:=gb573) (o:= .cells #[.int .i64 a0_0,.slice A0_1 l0_1.length c0_1] 46 (0,0)) (zB BK573) hb);have n3_:=aM (Zg (g:=gb582) (o:= .cells #[.int .i64 0,.slice none 0 0] 46 (0,0)) (zB BK582) hb);have n4_:=aM (Ze zz79 hb);clear HO576;clear BK573;clear BK582;clear HB;have HO576:=n0_;have HO580:=n1_;have BK573:=n2_;have BK582:=n3_;have HB:=n4_;clear n0_ n1_ n2_ n3_ n4_;(try clear hb);(try clear hb2);(try clear hk);(try clear hi);(try clear ho0)
       refine hK.out _ _ ⟨(Zb BK573.out 0).trans rfl,(Zb BK573.out 1).trans rfl⟩ (fun hHeld=> ?_);clear hK K
       refine ZT (a':= ?_) ?_ ?_;rotate_left
       ·show Act.put _ (some 18) _=_
        simp only[Act.put,sA,sB,sC,Zt,Zu];rfl
       refine ZF (i:=5) (N:=some 13) (v:= ?_) (a':= ?_) #[true,true,true,true,true,true,false,false,true,false,false] rfl rfl (Zx HT_.out (by kernel_rfl)) (fun _ _ _ h=>h) (Or.inl ⟨by rfl,?_⟩) ?_ ?_;rotate_left
       ·intro w';go_simp;with_reducible rfl
       rotate_left
       ·simp only[Act.put,sA,sB,sC,Zt,Zu];rfl
       refine ZF (i:=6) (N:=some 19) (v:= ?_) (a':= ?_) #[true,true,true,true,true,true,true,false,true,false,false] rfl rfl (Zx HT_.out (by kernel_rfl)) (fun _ _ _ h=>h) (Or.inl ⟨by rfl,?_⟩) ?_ ?_;rotate_left
       ·intro w';go_simp;with_reducible rfl
       rotate_left
       ·simp only[Act.put,sA,sB,sC,Zt,Zu];rfl
       refine ZF (i:=7) (N:=some 20) (v:= ?_) (a':= ?_) #[true,true,true,true,true,true,true,true,true,false,false] rfl rfl (Zx HT_.out (by kernel_rfl)) (fun _ _ _ h=>h) (Or.inl ⟨by rfl,?_⟩) ?_ ?_;rotate_left
       ·intro w';go_simp;with_reducible rfl
       rotate_left
       ·simp only[Act.put,sA,sB,sC,Zt,Zu];rfl
       exact ZT zz136 (hCont (.slice Ao29 t574.length co29,v579,gb582) _ ⟨hHeld,zz112,(zN HO580),(zB BK573),(zB BK582),GW582.out,GE582.out,NB573_582.out,NB582_573.out,zz79⟩)
     ·skip
      refine Z6 ?hg (N:=3) ?hd (cs:= #[.int .i64 0,.slice none 0 0]) (t:=46) ?hr ?_;(case hd=>rfl);(case hg=>rfl);(case hr=>first|(go_simp;done)|(go_simp;rfl));intro gb582 hg w27 hbox hb;have n0_:=aM (Zg (g:=gb573) (o:= .cells #[.int .i64 a0_0,.slice A0_1 l0_1.length c0_1] 46 (0,0)) (zB BK573) hb);have n1_:=aM (Ze zz101 hb);have n2_:=aM (hbox);have n3_:=aM ((by rw[hg];exact(Zc zz101):w.heap.size≤gb582));have n4_:=aM ((by rw[hg];exact(Zc zz101):w.heap.size≤gb582));have n5_:=aM ((by rw[hg];exact Nat.ne_of_lt (Zw (g:=gb573) (o:= .cells #[.int .i64 a0_0,.slice A0_1 l0_1.length c0_1] 46 (0,0)) (zB BK573)):gb573≠gb582));have n6_:=aM ((by rw[hg];exact Nat.ne_of_gt (Zw (g:=gb573) (o:= .cells #[.int .i64 a0_0,.slice A0_1 l0_1.length c0_1] 46 (0,0)) (zB BK573)):gb582≠gb573));clear BK573;clear HB;have BK573:=n0_;have HB:=n1_;have BK582:=n2_;have GW582:=n3_;have GE582:=n4_;have NB573_582:=n5_;have NB582_573:=n6_;clear n0_ n1_ n2_ n3_ n4_ n5_ n6_;clear hb hbox hg
      refine hK.out _ _ ⟨(Zb BK573.out 0).trans rfl,(Zb BK573.out 1).trans rfl⟩ (fun hHeld=> ?_);clear hK K
      refine ZT (a':= ?_) ?_ ?_;rotate_left
      ·show Act.put _ (some 3) _=_
       simp only[Act.put,sA,sB,sC,Zt,Zu];rfl
      refine one_ (i:=3) (N:=some 17) #[true,true,true,true,false,false,false,false,true,false,false] rfl rfl (Z0 HT_.out (by kernel_rfl)) (by decide) (fun K hK=> ?_)
      refine Ye Try.func45 (by kernel_rfl) rfl #[.agg #[.int .i64 a0_0,.slice A0_1 l0_1.length c0_1]] (by rfl) rfl rfl zz125 ?_;with_reducible refine(r30_Gens.calls kj1 a0_0 (fun k_=>k_<w.heap.size) _ _ l0_1 t574 _ ?side1 A8.out).mono ?_
      (case side1=>exact Kd.V_mk HC0_1.out (Kd.F_below (Kd.C_F k74_heap HR0_1.out) zz79))
      rintro e w28 ⟨v575,rfl,ho0,hb⟩
      refine⟨_,rfl,?_⟩;have n0_:=aM (Kd.N_lower (Kd.N_mono (ok':=fun k_=>k_≠gb573∧k_≠gb582) ho0 (fun k_ hk_=>⟨Or.elim hk_ (fun hs_=>fun e_=>Nat.not_le.2 hs_ zz160) (fun hn_=>(Kd.freshB (g:=gb573) (o:= .cells #[.int .i64 a0_0,.slice A0_1 l0_1.length c0_1] 46 (0,0)) (zB BK573) k_ hn_)),Or.elim hk_ (fun hs_=>fun e_=>Nat.not_le.2 hs_ (by rw[e_];exact GW582.out)) (fun hn_=>(Kd.freshB (g:=gb582) (o:= .cells #[.int .i64 0,.slice none 0 0] 46 (0,0)) (zB BK582) k_ hn_))⟩)) (Zc zz79));have n1_:=aM (Zg (g:=gb573) (o:= .cells #[.int .i64 a0_0,.slice A0_1 l0_1.length c0_1] 46 (0,0)) (zB BK573) hb);have n2_:=aM (Zg (g:=gb582) (o:= .cells #[.int .i64 0,.slice none 0 0] 46 (0,0)) (zB BK582) hb);have n3_:=aM (Ze zz79 hb);clear BK573;clear BK582;clear HB;have HO576:=n0_;have BK573:=n1_;have BK582:=n2_;have HB:=n3_;clear n0_ n1_ n2_ n3_;(try clear hb);(try clear hb2);(try clear hk);(try clear hi);(try clear ho0);obtain⟨Ao29,co29,eo29⟩:=Kd.N_slice HO576.out
      (first|subst eo29|(injection eo29 with f1_ f2_ f3_;have f4_:=f1_.symm;have f5_:=f3_.symm;clear f1_ f2_ f3_;subst f4_;subst f5_))
      refine hK.out _ _ ⟨(Zb BK573.out 0).trans rfl,(Zb BK573.out 1).trans rfl⟩ (fun hHeld=> ?_);clear hK K
      refine ZT (a':= ?_) ?_ ?_;rotate_left
      ·show Act.put _ (some 17) _=_
       simp only[Act.put,sA,sB,sC,Zt,Zu];rfl
      refine one_ (i:=4) (N:=some 18) #[true,true,true,true,true,false,false,false,true,false,false] rfl rfl (Z0 HT_.out (by kernel_rfl)) (by decide) (fun K hK=> ?_)
      refine Ye Try.func31 (by kernel_rfl) rfl #[.int .i64 a0_0,.slice Ao29 t574.length co29] (by rfl) rfl rfl zz125 ?_;with_reducible refine(r30_Build.calls kj1 a0_0 _ _ t574 t577 t578 t581 _ ?side1 ?side2 A9.out).mono ?_
      (case side1=>exact zC ((Kd.N_reads' HO576.out).2.2))
      (case side2=>exact(Kd.N_reads' HO576.out).2.1)
      rintro e w30 ⟨v579,rfl,ho0,hb⟩
      refine⟨_,rfl,?_⟩;have n0_:=aM (Kd.N_elder' (zN HO576) (Kd.N_base ho0) hb);have n1_:=aM (Kd.N_lower (Kd.N_mono (ok':=fun k_=>some k_≠(.slice Ao29 t574.length co29:Value).ownBlock∧k_≠gb573∧k_≠gb582) ho0 (fun k_ hk_=>⟨(Kd.fresh' (Kd.N_lt (zN HO576)) k_ hk_),(Kd.freshB (g:=gb573) (o:= .cells #[.int .i64 a0_0,.slice A0_1 l0_1.length c0_1] 46 (0,0)) (zB BK573) k_ hk_),(Kd.freshB (g:=gb582) (o:= .cells #[.int .i64 0,.slice none 0 0] 46 (0,0)) (zB BK582) k_ hk_)⟩)) (Zc zz79));have n2_:=aM (Zg (g:=gb573) (o:= .cells #[.int .i64 a0_0,.slice A0_1 l0_1.length c0_1] 46 (0,0)) (zB BK573) hb);have n3_:=aM (Zg (g:=gb582) (o:= .cells #[.int .i64 0,.slice none 0 0] 46 (0,0)) (zB BK582) hb);have n4_:=aM (Ze zz79 hb);clear HO576;clear BK573;clear BK582;clear HB;have HO576:=n0_;have HO580:=n1_;have BK573:=n2_;have BK582:=n3_;have HB:=n4_;clear n0_ n1_ n2_ n3_ n4_;(try clear hb);(try clear hb2);(try clear hk);(try clear hi);(try clear ho0)
      refine hK.out _ _ ⟨(Zb BK573.out 0).trans rfl,(Zb BK573.out 1).trans rfl⟩ (fun hHeld=> ?_);clear hK K
      refine ZT (a':= ?_) ?_ ?_;rotate_left
      ·show Act.put _ (some 18) _=_
       simp only[Act.put,sA,sB,sC,Zt,Zu];rfl
      refine ZF (i:=5) (N:=some 13) (v:= ?_) (a':= ?_) #[true,true,true,true,true,true,false,false,true,false,false] rfl rfl (Zx HT_.out (by kernel_rfl)) (fun _ _ _ h=>h) (Or.inl ⟨by rfl,?_⟩) ?_ ?_;rotate_left
      ·intro w';go_simp;with_reducible rfl
      rotate_left
      ·simp only[Act.put,sA,sB,sC,Zt,Zu];rfl
      refine ZF (i:=6) (N:=some 19) (v:= ?_) (a':= ?_) #[true,true,true,true,true,true,true,false,true,false,false] rfl rfl (Zx HT_.out (by kernel_rfl)) (fun _ _ _ h=>h) (Or.inl ⟨by rfl,?_⟩) ?_ ?_;rotate_left
      ·intro w';go_simp;with_reducible rfl
      rotate_left
      ·simp only[Act.put,sA,sB,sC,Zt,Zu];rfl
      refine ZF (i:=7) (N:=some 20) (v:= ?_) (a':= ?_) #[true,true,true,true,true,true,true,true,true,false,false] rfl rfl (Zx HT_.out (by kernel_rfl)) (fun _ _ _ h=>h) (Or.inl ⟨by rfl,?_⟩) ?_ ?_;rotate_left
      ·intro w';go_simp;with_reducible rfl
      rotate_left
      ·simp only[Act.put,sA,sB,sC,Zt,Zu];rfl
      exact ZT zz136 (hCont (.slice Ao29 t574.length co29,v579,gb582) _ ⟨hHeld,zz112,(zN HO580),(zB BK573),(zB BK582),GW582.out,GE582.out,NB573_582.out,NB582_573.out,zz79⟩)
    rintro ⟨v575,v579,gb582⟩ w31 ⟨hS_,h0_,h1_,h2_,h3_,h4_,h5_,h6_,h7_,h8_⟩;have n0_:Aside0 (Kd.N (Kd.slice 3 (Kd.int .i64)) 22 w31 w.heap.size (fun k_=>some k_≠(v579:Value).ownBlock∧k_≠gb573∧k_≠gb582) v575 t574):=⟨h0_⟩;have n1_:Aside0 (Kd.N k74 74 w31 w.heap.size (fun k_=>some k_≠(v575:Value).ownBlock∧k_≠gb573∧k_≠gb582) v579 t578):=⟨h1_⟩;have n2_:Aside0 (w31.heap[gb573]? =some (.cells #[.int .i64 a0_0,.slice A0_1 l0_1.length c0_1] 46 (0,0))):=⟨h2_⟩;have n3_:Aside0 (w31.heap[gb582]? =some (.cells #[.int .i64 0,.slice none 0 0] 46 (0,0))):=⟨h3_⟩;have n4_:Aside0 (w.heap.size≤gb582):=⟨h4_⟩;have n5_:Aside0 (w.heap.size≤gb582):=⟨h5_⟩;have n6_:Aside0 (gb573≠gb582):=⟨h6_⟩;have n7_:Aside0 (gb582≠gb573):=⟨h7_⟩;have n8_:Aside0 (Below w.heap.size w w31):=⟨h8_⟩;clear BK573;clear HB;clear h0_ h1_ h2_ h3_ h4_ h5_ h6_ h7_ h8_;have HO576:=n0_;have HO580:=n1_;have BK573:=n2_;have BK582:=n3_;have GW582:=n4_;have GE582:=n5_;have NB573_582:=n6_;have NB582_573:=n7_;have HB:=n8_;clear n0_ n1_ n2_ n3_ n4_ n5_ n6_ n7_ n8_;have hHeld:w31.cell? ⟨gb573,0,none⟩=some (.int .i64 a0_0)∧w31.cell? ⟨gb573,1,none⟩=some (.slice A0_1 l0_1.length c0_1):=hS_;obtain⟨Ao33,co33,eo33⟩:=Kd.N_slice HO580.out
    (first|subst eo33|(injection eo33 with f1_ f2_ f3_;have f4_:=f1_.symm;have f5_:=f3_.symm;clear f1_ f2_ f3_;subst f4_;subst f5_))
    refine ZT (a':= ?_) ?_ ?_;rotate_left
    ·simp only[putAll,Act.put,sA,sB,sC];rfl
    refine one_ (i:=9) (N:=none) #[true,true,true,true,true,true,true,true,true,true,false] rfl rfl (Z0 HT_.out (by kernel_rfl)) (by decide) (fun K hK=> ?_);have hs32:w31.cell? ⟨gb582,0,none⟩=some (.int .i64 0):=(Zb BK582.out 0).trans rfl;have hfs32:=Za BK582.out 0;have hns32_0:=NB573_582.out;have hms32_0:=NB582_573.out;have hs34:w31.cell? ⟨gb582,1,none⟩=some (.slice none 0 0):=(Zb BK582.out 1).trans rfl;have hfs34:=Za BK582.out 1;have hns34_0:=NB573_582.out;have hms34_0:=NB582_573.out
    refine skip_ (w1:= ?_) (by rfl) rfl ?_ ?_;rotate_left
    ·go_simp;rfl
    refine hK.out _ _ ⟨((cell_far (p:=⟨gb582,_,none⟩) NB573_582.out _).trans (((cell_far (p:=⟨gb582,_,none⟩) NB573_582.out _).trans (hHeld.1)))),((cell_far (p:=⟨gb582,_,none⟩) NB573_582.out _).trans (((cell_far (p:=⟨gb582,_,none⟩) NB573_582.out _).trans (hHeld.2))))⟩ (fun hHeld=> ?_);clear hK K
    refine ZF (i:=10) (N:=some 4) (v:= ?_) (a':= ?_) #[true,true,true,true,true,true,true,true,true,true,true] rfl rfl (Zx HT_.out (by kernel_rfl)) (fun _ _ _ h=>h) (Or.inl ⟨by rfl,?_⟩) ?_ ?_;rotate_left
    ·intro w';go_simp;with_reducible rfl
    rotate_left
    ·simp only[Act.put,sA,sB,sC,Zt,Zu];rfl
    refine done_ (done_of HT_.out (by kernel_rfl)) ?_;have hnb35:=NB573_582.out;have hnc35:=NB582_573.out;have hcz36_0:w31.cell? ⟨gb573,0,none⟩=some (.int .i64 a0_0):=(Zb BK573.out 0).trans rfl;have hcz36_1:w31.cell? ⟨gb573,1,none⟩=some (.slice A0_1 l0_1.length c0_1):=(Zb BK573.out 1).trans rfl;have hfz36_0:=Za BK573.out 0;have hfz36_1:=Za BK573.out 1;have hcz37_0:w31.cell? ⟨gb582,0,none⟩=some (.int .i64 0):=(Zb BK582.out 0).trans rfl;have hcz37_1:w31.cell? ⟨gb582,1,none⟩=some (.slice none 0 0):=(Zb BK582.out 1).trans rfl;have hfz37_0:=Za BK582.out 0;have hfz37_1:=Za BK582.out 1
    try go_wp2_with (first|(go_at_call 32;(with_reducible refine(r30_Same.calls kj1 a0_0 _ _ l0_1 t577 _ _ t578 false _ ?side1 ?side2 ?side3 ?side4 A11.out).mono ?_);(case side1=>exact Kd.C_below HR0_1.out zz79);(case side2=>exact HC0_1.out);(case side3=>refine(Kd.N_reads' (e:=74) (base:=w.heap.size) (ok:=fun k_=>(some k_≠(v575:Value).ownBlock∧(k_≠gb573∧k_≠gb582))) (n:=t578.length) (c:=co33) ?_).2.2;exact zz58);(case side4=>exact(Kd.N_reads' HO580.out).2.1);rintro e w38 ⟨rfl,hb⟩;replace HO576:=aM (Kd.N_below (by(with_reducible repeat(first|apply Kd.N_alloc|apply Kd.N_drewN|apply Kd.N_drew));exact(Kd.N_mono (Kd.N_far (p:=⟨gb582,1,none⟩) (Kd.N_far (p:=⟨gb582,0,none⟩) (Kd.N_mono HO576.out (fun k_ hk=>(⟨hk,hk.2.2⟩:_∧k_≠gb582))) (fun _ hk=>hk.2) (.int .i64 t577)) (fun _ hk=>hk.2) (.slice Ao33 t578.length co33)) (fun _ h_=>h_.1))) hb);replace HO580:=aM (Kd.N_below zz58 hb);replace BK573:=aM (Zg (g:=gb573) (o:= .cells #[.int .i64 a0_0,.slice A0_1 l0_1.length c0_1] 46 (0,0)) zz56 hb);replace BK582:=aM (Zg (g:=gb582) (o:= .cells #[.int .i64 t577,.slice Ao33 t578.length co33] 46 (0,0)) zz54 hb);replace HB:=aM (Ze zz79 hb);(try clear hb);(try clear hb2);(try clear hk);(try clear hi)))
    go_ret
    exact⟨by first|rfl|(simp[Zj,Zi]<;>rfl)|(simp[*,Zj,Zi]<;>rfl),by repeat(first|(with_reducible first|exact HB.out|apply Zn|apply Zf|apply Zh|refine Zk ?_ GE573.out|refine Zk ?_ GE582.out)|exact HB.out)⟩
   rw[if_neg c10] at H;have c10b0:=beq_eq_false_iff_ne.mpr c10;have c10b1:=bne_iff_ne.mpr c10;obtain rfl:=oI H
   try go_wp2
   have n0_:=aM (Zo BK573.out);have n1_:=aM (Zh HB.out);clear BK573;clear HB;have BK573:=n0_;have HB:=n1_;clear n0_ n1_
   refine start_ (n:=11) (S:=fun w'=>w'.cell? ⟨gb573,0,none⟩=some (.int .i64 a0_0)∧w'.cell? ⟨gb573,1,none⟩=some (.slice A0_1 l0_1.length c0_1)) (ds:= []) #[false,false,false,false,false,false,false,false,false,false,false] (by kernel_rfl) rfl rfl ⟨(Zb BK573.out 0).trans rfl,(Zb BK573.out 1).trans rfl⟩ (fun hHeld=> ?_);refine Z5 r30_CheckChain.tab3 r30_CheckChain.bits3 (fun HT_ HW_=> ?_);generalize wc.drew=w39 at BK573 HB hHeld⊢
   refine ZF (i:=0) (N:=some 14) (v:= ?_) (a':= ?_) #[true,false,false,false,false,false,false,false,false,false,false] rfl rfl (Zx HT_.out (by kernel_rfl)) (fun _ _ _ h=>h) (Or.inl ⟨by rfl,?_⟩) ?_ ?_;rotate_left
   ·intro w';go_simp;with_reducible rfl
   rotate_left
   ·simp only[Act.put,sA,sB,sC,Zt,Zu];rfl
   refine take_ (i:=1) (N:=some 15) (v:= ?_) (a':= ?_) #[true,true,false,false,false,false,false,false,false,false,false] rfl rfl (ZV HT_.out HW_.out (by kernel_rfl)) (fun _ _ _ h=>h) (Or.inl ⟨by rfl,?_⟩) hHeld ?_ ?_;rotate_left
   ·rintro w' ⟨s0,s1⟩;go_simp;with_reducible rfl
   rotate_left
   ·simp only[Act.put,sA,sB,sC,Zt,Zu];rfl
   refine take_ (i:=2) (N:=some 16) (v:= ?_) (a':= ?_) #[true,true,true,false,false,false,false,false,false,false,false] rfl rfl (ZV HT_.out HW_.out (by kernel_rfl)) (fun _ _ _ h=>h) (Or.inl ⟨by rfl,?_⟩) hHeld ?_ ?_;rotate_left
   ·rintro w' ⟨s0,s1⟩;go_simp;with_reducible rfl
   rotate_left
   ·simp only[Act.put,sA,sB,sC,Zt,Zu];rfl
   refine join_ (σ:=Value×Value×Nat) 2 #[true,true,true,true,true,true,true,true,true,false,false] (fun s_=> [(17,s_.1),(18,.tuple #[.agg #[.int .i64 t577,s_.2.1],.int .i64 t581]),(3,.pointer (some ⟨s_.2.2,0,none⟩)),(13,.tuple #[.agg #[.int .i64 t577,s_.2.1],.int .i64 t581]),(19,.agg #[.int .i64 t577,s_.2.1]),(20,.int .i64 t581)]) (fun s_ w'=>(w'.cell? ⟨gb573,0,none⟩=some (.int .i64 a0_0)∧w'.cell? ⟨gb573,1,none⟩=some (.slice A0_1 l0_1.length c0_1))∧(Kd.N (Kd.slice 3 (Kd.int .i64)) 22 w' w.heap.size (fun k_=>some k_≠(s_.2.1:Value).ownBlock∧k_≠gb573∧k_≠s_.2.2) s_.1 t574)∧(Kd.N k74 74 w' w.heap.size (fun k_=>some k_≠(s_.1:Value).ownBlock∧k_≠gb573∧k_≠s_.2.2) s_.2.1 t578)∧(w'.heap[gb573]? =some (.cells #[.int .i64 a0_0,.slice A0_1 l0_1.length c0_1] 46 (0,0)))∧(w'.heap[s_.2.2]? =some (.cells #[.int .i64 0,.slice none 0 0] 46 (0,0)))∧(w.heap.size≤s_.2.2)∧(w.heap.size≤s_.2.2)∧(gb573≠s_.2.2)∧(s_.2.2≠gb573)∧(Below w.heap.size w w')) ?_ ?_;rotate_left
   ·intro hCont
    refine two_ (i:=3) (j:=8) (Ni:=some 17) (Nj:=some 3) #[true,true,true,true,false,false,false,false,false,false,false] #[true,true,true,false,false,false,false,false,true,false,false] rfl rfl rfl rfl (two_of HT_.out (by kernel_rfl)) (by decide) (by decide) (fun K hK=> ?_) (fun K hK=> ?_)
    ·skip
     refine Ye Try.func45 (by kernel_rfl) rfl #[.agg #[.int .i64 a0_0,.slice A0_1 l0_1.length c0_1]] (by rfl) rfl rfl zz125 ?_;with_reducible refine(r30_Gens.calls kj1 a0_0 (fun k_=>k_<w.heap.size) _ _ l0_1 t574 _ ?side1 A8.out).mono ?_
     (case side1=>exact Kd.V_mk HC0_1.out (Kd.F_below (Kd.C_F k74_heap HR0_1.out) zz101))
     rintro e w40 ⟨v575,rfl,ho0,hb⟩
     refine⟨_,rfl,?_⟩;have n0_:=aM (Kd.N_lower (Kd.N_mono (ok':=fun k_=>k_≠gb573) ho0 (fun k_ hk_=>Or.elim hk_ (fun hs_=>fun e_=>Nat.not_le.2 hs_ zz160) (fun hn_=>(Kd.freshB (g:=gb573) (o:= .cells #[.int .i64 a0_0,.slice A0_1 l0_1.length c0_1] 46 (0,0)) (zB BK573) k_ hn_)))) (Zc zz101));have n1_:=aM (Zg (g:=gb573) (o:= .cells #[.int .i64 a0_0,.slice A0_1 l0_1.length c0_1] 46 (0,0)) (zB BK573) hb);have n2_:=aM (Ze zz101 hb);clear BK573;clear HB;have HO576:=n0_;have BK573:=n1_;have HB:=n2_;clear n0_ n1_ n2_;(try clear hb);(try clear hb2);(try clear hk);(try clear hi);(try clear ho0);obtain⟨Ao41,co41,eo41⟩:=Kd.N_slice HO576.out
     (first|subst eo41|(injection eo41 with f1_ f2_ f3_;have f4_:=f1_.symm;have f5_:=f3_.symm;clear f1_ f2_ f3_;subst f4_;subst f5_))
     refine hK.out _ _ ⟨(Zb BK573.out 0).trans rfl,(Zb BK573.out 1).trans rfl⟩ (fun hHeld=> ?_);clear hK K
     refine ZT (a':= ?_) ?_ ?_;rotate_left
     ·show Act.put _ (some 17) _=_
      simp only[Act.put,sA,sB,sC,Zt,Zu];rfl
     refine two_ (i:=4) (j:=8) (Ni:=some 18) (Nj:=some 3) #[true,true,true,true,true,false,false,false,false,false,false] #[true,true,true,true,false,false,false,false,true,false,false] rfl rfl rfl rfl (two_of HT_.out (by kernel_rfl)) (by decide) (by decide) (fun K hK=> ?_) (fun K hK=> ?_)
     ·skip
      refine Ye Try.func31 (by kernel_rfl) rfl #[.int .i64 a0_0,.slice Ao41 t574.length co41] (by rfl) rfl rfl zz125 ?_;with_reducible refine(r30_Build.calls kj1 a0_0 _ _ t574 t577 t578 t581 _ ?side1 ?side2 A9.out).mono ?_
      (case side1=>exact zC ((Kd.N_reads' HO576.out).2.2))
      (case side2=>exact(Kd.N_reads' HO576.out).2.1)
      rintro e w42 ⟨v579,rfl,ho0,hb⟩
      refine⟨_,rfl,?_⟩;have n0_:=aM (Kd.N_elder' (zN HO576) (Kd.N_base ho0) hb);have n1_:=aM (Kd.N_lower (Kd.N_mono (ok':=fun k_=>some k_≠(.slice Ao41 t574.length co41:Value).ownBlock∧k_≠gb573) ho0 (fun k_ hk_=>⟨(Kd.fresh' (Kd.N_lt (zN HO576)) k_ hk_),(Kd.freshB (g:=gb573) (o:= .cells #[.int .i64 a0_0,.slice A0_1 l0_1.length c0_1] 46 (0,0)) (zB BK573) k_ hk_)⟩)) (Zc zz101));have n2_:=aM (Zg (g:=gb573) (o:= .cells #[.int .i64 a0_0,.slice A0_1 l0_1.length c0_1] 46 (0,0)) (zB BK573) hb);have n3_:=aM (Ze zz101 hb);clear HO576;clear BK573;clear HB;have HO576:=n0_;have HO580:=n1_;have BK573:=n2_;have HB:=n3_;clear n0_ n1_ n2_ n3_;(try clear hb);(try clear hb2);(try clear hk);(try clear hi);(try clear ho0)
      refine hK.out _ _ ⟨(Zb BK573.out 0).trans rfl,(Zb BK573.out 1).trans rfl⟩ (fun hHeld=> ?_);clear hK K
      refine ZT (a':= ?_) ?_ ?_;rotate_left
      ·show Act.put _ (some 18) _=_
       simp only[Act.put,sA,sB,sC,Zt,Zu];rfl
      refine ZF (i:=5) (N:=some 13) (v:= ?_) (a':= ?_) #[true,true,true,true,true,true,false,false,false,false,false] rfl rfl (Zx HT_.out (by kernel_rfl)) (fun _ _ _ h=>h) (Or.inl ⟨by rfl,?_⟩) ?_ ?_;rotate_left
      ·intro w';go_simp;with_reducible rfl
      rotate_left
      ·simp only[Act.put,sA,sB,sC,Zt,Zu];rfl
      refine ZF (i:=6) (N:=some 19) (v:= ?_) (a':= ?_) #[true,true,true,true,true,true,true,false,false,false,false] rfl rfl (Zx HT_.out (by kernel_rfl)) (fun _ _ _ h=>h) (Or.inl ⟨by rfl,?_⟩) ?_ ?_;rotate_left
      ·intro w';go_simp;with_reducible rfl
      rotate_left
      ·simp only[Act.put,sA,sB,sC,Zt,Zu];rfl
      refine ZF (i:=7) (N:=some 20) (v:= ?_) (a':= ?_) #[true,true,true,true,true,true,true,true,false,false,false] rfl rfl (Zx HT_.out (by kernel_rfl)) (fun _ _ _ h=>h) (Or.inl ⟨by rfl,?_⟩) ?_ ?_;rotate_left
      ·intro w';go_simp;with_reducible rfl
      rotate_left
      ·simp only[Act.put,sA,sB,sC,Zt,Zu];rfl
      refine one_ (i:=8) (N:=some 3) #[true,true,true,true,true,true,true,true,true,false,false] rfl rfl (Z0 HT_.out (by kernel_rfl)) (by decide) (fun K hK=> ?_)
      refine Z6 ?hg (N:=3) ?hd (cs:= #[.int .i64 0,.slice none 0 0]) (t:=46) ?hr ?_;(case hd=>rfl);(case hg=>rfl);(case hr=>first|(go_simp;done)|(go_simp;rfl));intro gb582 hg w43 hbox hb;have n0_:=aM (Kd.N_below (Kd.N_elderB (zN HO576) gb582 (Nat.le_of_eq hg.symm)) hb);have n1_:=aM (Kd.N_below (Kd.N_elderB (zN HO580) gb582 (Nat.le_of_eq hg.symm)) hb);have n2_:=aM (Zg (g:=gb573) (o:= .cells #[.int .i64 a0_0,.slice A0_1 l0_1.length c0_1] 46 (0,0)) (zB BK573) hb);have n3_:=aM (Ze zz101 hb);have n4_:=aM (hbox);have n5_:=aM ((by rw[hg];exact(Zc zz101):w.heap.size≤gb582));have n6_:=aM ((by rw[hg];exact(Zc zz101):w.heap.size≤gb582));have n7_:=aM ((by rw[hg];exact Nat.ne_of_lt (Zw (g:=gb573) (o:= .cells #[.int .i64 a0_0,.slice A0_1 l0_1.length c0_1] 46 (0,0)) (zB BK573)):gb573≠gb582));have n8_:=aM ((by rw[hg];exact Nat.ne_of_gt (Zw (g:=gb573) (o:= .cells #[.int .i64 a0_0,.slice A0_1 l0_1.length c0_1] 46 (0,0)) (zB BK573)):gb582≠gb573));clear HO576;clear HO580;clear BK573;clear HB;have HO576:=n0_;have HO580:=n1_;have BK573:=n2_;have HB:=n3_;have BK582:=n4_;have GW582:=n5_;have GE582:=n6_;have NB573_582:=n7_;have NB582_573:=n8_;clear n0_ n1_ n2_ n3_ n4_ n5_ n6_ n7_ n8_;clear hb hbox hg
      refine hK.out _ _ ⟨(Zb BK573.out 0).trans rfl,(Zb BK573.out 1).trans rfl⟩ (fun hHeld=> ?_);clear hK K
      refine ZT (a':= ?_) ?_ ?_;rotate_left
      ·show Act.put _ (some 3) _=_
       simp only[Act.put,sA,sB,sC,Zt,Zu];rfl
      exact ZT zz136 (hCont (.slice Ao41 t574.length co41,v579,gb582) _ ⟨hHeld,zz110,zz111,(zB BK573),(zB BK582),GW582.out,GE582.out,NB573_582.out,NB582_573.out,zz79⟩)
     ·skip
      refine Z6 ?hg (N:=3) ?hd (cs:= #[.int .i64 0,.slice none 0 0]) (t:=46) ?hr ?_;(case hd=>rfl);(case hg=>rfl);(case hr=>first|(go_simp;done)|(go_simp;rfl));intro gb582 hg w41 hbox hb;have n0_:=aM (Kd.N_below (Kd.N_elderB (zN HO576) gb582 (Nat.le_of_eq hg.symm)) hb);have n1_:=aM (Zg (g:=gb573) (o:= .cells #[.int .i64 a0_0,.slice A0_1 l0_1.length c0_1] 46 (0,0)) (zB BK573) hb);have n2_:=aM (Ze zz101 hb);have n3_:=aM (hbox);have n4_:=aM ((by rw[hg];exact(Zc zz101):w.heap.size≤gb582));have n5_:=aM ((by rw[hg];exact(Zc zz101):w.heap.size≤gb582));have n6_:=aM ((by rw[hg];exact Nat.ne_of_lt (Zw (g:=gb573) (o:= .cells #[.int .i64 a0_0,.slice A0_1 l0_1.length c0_1] 46 (0,0)) (zB BK573)):gb573≠gb582));have n7_:=aM ((by rw[hg];exact Nat.ne_of_gt (Zw (g:=gb573) (o:= .cells #[.int .i64 a0_0,.slice A0_1 l0_1.length c0_1] 46 (0,0)) (zB BK573)):gb582≠gb573));clear HO576;clear BK573;clear HB;have HO576:=n0_;have BK573:=n1_;have HB:=n2_;have BK582:=n3_;have GW582:=n4_;have GE582:=n5_;have NB573_582:=n6_;have NB582_573:=n7_;clear n0_ n1_ n2_ n3_ n4_ n5_ n6_ n7_;clear hb hbox hg;obtain⟨Ao42,co42,eo42⟩:=Kd.N_slice HO576.out
      (first|subst eo42|(injection eo42 with f1_ f2_ f3_;have f4_:=f1_.symm;have f5_:=f3_.symm;clear f1_ f2_ f3_;subst f4_;subst f5_))
      refine hK.out _ _ ⟨(Zb BK573.out 0).trans rfl,(Zb BK573.out 1).trans rfl⟩ (fun hHeld=> ?_);clear hK K
      refine ZT (a':= ?_) ?_ ?_;rotate_left
      ·show Act.put _ (some 3) _=_
       simp only[Act.put,sA,sB,sC,Zt,Zu];rfl
      refine one_ (i:=4) (N:=some 18) #[true,true,true,true,true,false,false,false,true,false,false] rfl rfl (Z0 HT_.out (by kernel_rfl)) (by decide) (fun K hK=> ?_)
      refine Ye Try.func31 (by kernel_rfl) rfl #[.int .i64 a0_0,.slice Ao42 t574.length co42] (by rfl) rfl rfl zz125 ?_;with_reducible refine(r30_Build.calls kj1 a0_0 _ _ t574 t577 t578 t581 _ ?side1 ?side2 A9.out).mono ?_
      (case side1=>exact zC ((Kd.N_reads' HO576.out).2.2))
      (case side2=>exact(Kd.N_reads' HO576.out).2.1)
      rintro e w43 ⟨v579,rfl,ho0,hb⟩
      refine⟨_,rfl,?_⟩;have n0_:=aM (Kd.N_elder' (zN HO576) (Kd.N_base ho0) hb);have n1_:=aM (Kd.N_lower (Kd.N_mono (ok':=fun k_=>some k_≠(.slice Ao42 t574.length co42:Value).ownBlock∧k_≠gb573∧k_≠gb582) ho0 (fun k_ hk_=>⟨(Kd.fresh' (Kd.N_lt (zN HO576)) k_ hk_),(Kd.freshB (g:=gb573) (o:= .cells #[.int .i64 a0_0,.slice A0_1 l0_1.length c0_1] 46 (0,0)) (zB BK573) k_ hk_),(Kd.freshB (g:=gb582) (o:= .cells #[.int .i64 0,.slice none 0 0] 46 (0,0)) (zB BK582) k_ hk_)⟩)) (Zc zz79));have n2_:=aM (Zg (g:=gb573) (o:= .cells #[.int .i64 a0_0,.slice A0_1 l0_1.length c0_1] 46 (0,0)) (zB BK573) hb);have n3_:=aM (Zg (g:=gb582) (o:= .cells #[.int .i64 0,.slice none 0 0] 46 (0,0)) (zB BK582) hb);have n4_:=aM (Ze zz79 hb);clear HO576;clear BK573;clear BK582;clear HB;have HO576:=n0_;have HO580:=n1_;have BK573:=n2_;have BK582:=n3_;have HB:=n4_;clear n0_ n1_ n2_ n3_ n4_;(try clear hb);(try clear hb2);(try clear hk);(try clear hi);(try clear ho0)
      refine hK.out _ _ ⟨(Zb BK573.out 0).trans rfl,(Zb BK573.out 1).trans rfl⟩ (fun hHeld=> ?_);clear hK K
      refine ZT (a':= ?_) ?_ ?_;rotate_left
      ·show Act.put _ (some 18) _=_
       simp only[Act.put,sA,sB,sC,Zt,Zu];rfl
      refine ZF (i:=5) (N:=some 13) (v:= ?_) (a':= ?_) #[true,true,true,true,true,true,false,false,true,false,false] rfl rfl (Zx HT_.out (by kernel_rfl)) (fun _ _ _ h=>h) (Or.inl ⟨by rfl,?_⟩) ?_ ?_;rotate_left
      ·intro w';go_simp;with_reducible rfl
      rotate_left
      ·simp only[Act.put,sA,sB,sC,Zt,Zu];rfl
      refine ZF (i:=6) (N:=some 19) (v:= ?_) (a':= ?_) #[true,true,true,true,true,true,true,false,true,false,false] rfl rfl (Zx HT_.out (by kernel_rfl)) (fun _ _ _ h=>h) (Or.inl ⟨by rfl,?_⟩) ?_ ?_;rotate_left
      ·intro w';go_simp;with_reducible rfl
      rotate_left
      ·simp only[Act.put,sA,sB,sC,Zt,Zu];rfl
      refine ZF (i:=7) (N:=some 20) (v:= ?_) (a':= ?_) #[true,true,true,true,true,true,true,true,true,false,false] rfl rfl (Zx HT_.out (by kernel_rfl)) (fun _ _ _ h=>h) (Or.inl ⟨by rfl,?_⟩) ?_ ?_;rotate_left
      ·intro w';go_simp;with_reducible rfl
      rotate_left
      ·simp only[Act.put,sA,sB,sC,Zt,Zu];rfl
      exact ZT zz136 (hCont (.slice Ao42 t574.length co42,v579,gb582) _ ⟨hHeld,zz112,(zN HO580),(zB BK573),(zB BK582),GW582.out,GE582.out,NB573_582.out,NB582_573.out,zz79⟩)
    ·skip
     refine Z6 ?hg (N:=3) ?hd (cs:= #[.int .i64 0,.slice none 0 0]) (t:=46) ?hr ?_;(case hd=>rfl);(case hg=>rfl);(case hr=>first|(go_simp;done)|(go_simp;rfl));intro gb582 hg w40 hbox hb;have n0_:=aM (Zg (g:=gb573) (o:= .cells #[.int .i64 a0_0,.slice A0_1 l0_1.length c0_1] 46 (0,0)) (zB BK573) hb);have n1_:=aM (Ze zz101 hb);have n2_:=aM (hbox);have n3_:=aM ((by rw[hg];exact(Zc zz101):w.heap.size≤gb582));have n4_:=aM ((by rw[hg];exact(Zc zz101):w.heap.size≤gb582));have n5_:=aM ((by rw[hg];exact Nat.ne_of_lt (Zw (g:=gb573) (o:= .cells #[.int .i64 a0_0,.slice A0_1 l0_1.length c0_1] 46 (0,0)) (zB BK573)):gb573≠gb582));have n6_:=aM ((by rw[hg];exact Nat.ne_of_gt (Zw (g:=gb573) (o:= .cells #[.int .i64 a0_0,.slice A0_1 l0_1.length c0_1] 46 (0,0)) (zB BK573)):gb582≠gb573));clear BK573;clear HB;have BK573:=n0_;have HB:=n1_;have BK582:=n2_;have GW582:=n3_;have GE582:=n4_;have NB573_582:=n5_;have NB582_573:=n6_;clear n0_ n1_ n2_ n3_ n4_ n5_ n6_;clear hb hbox hg
     refine hK.out _ _ ⟨(Zb BK573.out 0).trans rfl,(Zb BK573.out 1).trans rfl⟩ (fun hHeld=> ?_);clear hK K
     refine ZT (a':= ?_) ?_ ?_;rotate_left
     ·show Act.put _ (some 3) _=_
      simp only[Act.put,sA,sB,sC,Zt,Zu];rfl
     refine one_ (i:=3) (N:=some 17) #[true,true,true,true,false,false,false,false,true,false,false] rfl rfl (Z0 HT_.out (by kernel_rfl)) (by decide) (fun K hK=> ?_)
     refine Ye Try.func45 (by kernel_rfl) rfl #[.agg #[.int .i64 a0_0,.slice A0_1 l0_1.length c0_1]] (by rfl) rfl rfl zz125 ?_;with_reducible refine(r30_Gens.calls kj1 a0_0 (fun k_=>k_<w.heap.size) _ _ l0_1 t574 _ ?side1 A8.out).mono ?_
     (case side1=>exact Kd.V_mk HC0_1.out (Kd.F_below (Kd.C_F k74_heap HR0_1.out) zz79))
     rintro e w41 ⟨v575,rfl,ho0,hb⟩
     refine⟨_,rfl,?_⟩;have n0_:=aM (Kd.N_lower (Kd.N_mono (ok':=fun k_=>k_≠gb573∧k_≠gb582) ho0 (fun k_ hk_=>⟨Or.elim hk_ (fun hs_=>fun e_=>Nat.not_le.2 hs_ zz160) (fun hn_=>(Kd.freshB (g:=gb573) (o:= .cells #[.int .i64 a0_0,.slice A0_1 l0_1.length c0_1] 46 (0,0)) (zB BK573) k_ hn_)),Or.elim hk_ (fun hs_=>fun e_=>Nat.not_le.2 hs_ (by rw[e_];exact GW582.out)) (fun hn_=>(Kd.freshB (g:=gb582) (o:= .cells #[.int .i64 0,.slice none 0 0] 46 (0,0)) (zB BK582) k_ hn_))⟩)) (Zc zz79));have n1_:=aM (Zg (g:=gb573) (o:= .cells #[.int .i64 a0_0,.slice A0_1 l0_1.length c0_1] 46 (0,0)) (zB BK573) hb);have n2_:=aM (Zg (g:=gb582) (o:= .cells #[.int .i64 0,.slice none 0 0] 46 (0,0)) (zB BK582) hb);have n3_:=aM (Ze zz79 hb);clear BK573;clear BK582;clear HB;have HO576:=n0_;have BK573:=n1_;have BK582:=n2_;have HB:=n3_;clear n0_ n1_ n2_ n3_;(try clear hb);(try clear hb2);(try clear hk);(try clear hi);(try clear ho0);obtain⟨Ao42,co42,eo42⟩:=Kd.N_slice HO576.out
     (first|subst eo42|(injection eo42 with f1_ f2_ f3_;have f4_:=f1_.symm;have f5_:=f3_.symm;clear f1_ f2_ f3_;subst f4_;subst f5_))
     refine hK.out _ _ ⟨(Zb BK573.out 0).trans rfl,(Zb BK573.out 1).trans rfl⟩ (fun hHeld=> ?_);clear hK K
     refine ZT (a':= ?_) ?_ ?_;rotate_left
     ·show Act.put _ (some 17) _=_
      simp only[Act.put,sA,sB,sC,Zt,Zu];rfl
     refine one_ (i:=4) (N:=some 18) #[true,true,true,true,true,false,false,false,true,false,false] rfl rfl (Z0 HT_.out (by kernel_rfl)) (by decide) (fun K hK=> ?_)
     refine Ye Try.func31 (by kernel_rfl) rfl #[.int .i64 a0_0,.slice Ao42 t574.length co42] (by rfl) rfl rfl zz125 ?_;with_reducible refine(r30_Build.calls kj1 a0_0 _ _ t574 t577 t578 t581 _ ?side1 ?side2 A9.out).mono ?_
     (case side1=>exact zC ((Kd.N_reads' HO576.out).2.2))
     (case side2=>exact(Kd.N_reads' HO576.out).2.1)
     rintro e w43 ⟨v579,rfl,ho0,hb⟩
     refine⟨_,rfl,?_⟩;have n0_:=aM (Kd.N_elder' (zN HO576) (Kd.N_base ho0) hb);have n1_:=aM (Kd.N_lower (Kd.N_mono (ok':=fun k_=>some k_≠(.slice Ao42 t574.length co42:Value).ownBlock∧k_≠gb573∧k_≠gb582) ho0 (fun k_ hk_=>⟨(Kd.fresh' (Kd.N_lt (zN HO576)) k_ hk_),(Kd.freshB (g:=gb573) (o:= .cells #[.int .i64 a0_0,.slice A0_1 l0_1.length c0_1] 46 (0,0)) (zB BK573) k_ hk_),(Kd.freshB (g:=gb582) (o:= .cells #[.int .i64 0,.slice none 0 0] 46 (0,0)) (zB BK582) k_ hk_)⟩)) (Zc zz79));have n2_:=aM (Zg (g:=gb573) (o:= .cells #[.int .i64 a0_0,.slice A0_1 l0_1.length c0_1] 46 (0,0)) (zB BK573) hb);have n3_:=aM (Zg (g:=gb582) (o:= .cells #[.int .i64 0,.slice none 0 0] 46 (0,0)) (zB BK582) hb);have n4_:=aM (Ze zz79 hb);clear HO576;clear BK573;clear BK582;clear HB;have HO576:=n0_;have HO580:=n1_;have BK573:=n2_;have BK582:=n3_;have HB:=n4_;clear n0_ n1_ n2_ n3_ n4_;(try clear hb);(try clear hb2);(try clear hk);(try clear hi);(try clear ho0)
     refine hK.out _ _ ⟨(Zb BK573.out 0).trans rfl,(Zb BK573.out 1).trans rfl⟩ (fun hHeld=> ?_);clear hK K
     refine ZT (a':= ?_) ?_ ?_;rotate_left
     ·show Act.put _ (some 18) _=_
      simp only[Act.put,sA,sB,sC,Zt,Zu];rfl
     refine ZF (i:=5) (N:=some 13) (v:= ?_) (a':= ?_) #[true,true,true,true,true,true,false,false,true,false,false] rfl rfl (Zx HT_.out (by kernel_rfl)) (fun _ _ _ h=>h) (Or.inl ⟨by rfl,?_⟩) ?_ ?_;rotate_left
     ·intro w';go_simp;with_reducible rfl
     rotate_left
     ·simp only[Act.put,sA,sB,sC,Zt,Zu];rfl
     refine ZF (i:=6) (N:=some 19) (v:= ?_) (a':= ?_) #[true,true,true,true,true,true,true,false,true,false,false] rfl rfl (Zx HT_.out (by kernel_rfl)) (fun _ _ _ h=>h) (Or.inl ⟨by rfl,?_⟩) ?_ ?_;rotate_left
     ·intro w';go_simp;with_reducible rfl
     rotate_left
     ·simp only[Act.put,sA,sB,sC,Zt,Zu];rfl
     refine ZF (i:=7) (N:=some 20) (v:= ?_) (a':= ?_) #[true,true,true,true,true,true,true,true,true,false,false] rfl rfl (Zx HT_.out (by kernel_rfl)) (fun _ _ _ h=>h) (Or.inl ⟨by rfl,?_⟩) ?_ ?_;rotate_left
     ·intro w';go_simp;with_reducible rfl
     rotate_left
     ·simp only[Act.put,sA,sB,sC,Zt,Zu];rfl
     exact ZT zz136 (hCont (.slice Ao42 t574.length co42,v579,gb582) _ ⟨hHeld,zz112,(zN HO580),(zB BK573),(zB BK582),GW582.out,GE582.out,NB573_582.out,NB582_573.out,zz79⟩)
   rintro ⟨v575,v579,gb582⟩ w44 ⟨hS_,h0_,h1_,h2_,h3_,h4_,h5_,h6_,h7_,h8_⟩;have n0_:Aside0 (Kd.N (Kd.slice 3 (Kd.int .i64)) 22 w44 w.heap.size (fun k_=>some k_≠(v579:Value).ownBlock∧k_≠gb573∧k_≠gb582) v575 t574):=⟨h0_⟩;have n1_:Aside0 (Kd.N k74 74 w44 w.heap.size (fun k_=>some k_≠(v575:Value).ownBlock∧k_≠gb573∧k_≠gb582) v579 t578):=⟨h1_⟩;have n2_:Aside0 (w44.heap[gb573]? =some (.cells #[.int .i64 a0_0,.slice A0_1 l0_1.length c0_1] 46 (0,0))):=⟨h2_⟩;have n3_:Aside0 (w44.heap[gb582]? =some (.cells #[.int .i64 0,.slice none 0 0] 46 (0,0))):=⟨h3_⟩;have n4_:Aside0 (w.heap.size≤gb582):=⟨h4_⟩;have n5_:Aside0 (w.heap.size≤gb582):=⟨h5_⟩;have n6_:Aside0 (gb573≠gb582):=⟨h6_⟩;have n7_:Aside0 (gb582≠gb573):=⟨h7_⟩;have n8_:Aside0 (Below w.heap.size w w44):=⟨h8_⟩;clear BK573;clear HB;clear h0_ h1_ h2_ h3_ h4_ h5_ h6_ h7_ h8_;have HO576:=n0_;have HO580:=n1_;have BK573:=n2_;have BK582:=n3_;have GW582:=n4_;have GE582:=n5_;have NB573_582:=n6_;have NB582_573:=n7_;have HB:=n8_;clear n0_ n1_ n2_ n3_ n4_ n5_ n6_ n7_ n8_;have hHeld:w44.cell? ⟨gb573,0,none⟩=some (.int .i64 a0_0)∧w44.cell? ⟨gb573,1,none⟩=some (.slice A0_1 l0_1.length c0_1):=hS_;obtain⟨Ao46,co46,eo46⟩:=Kd.N_slice HO580.out
   (first|subst eo46|(injection eo46 with f1_ f2_ f3_;have f4_:=f1_.symm;have f5_:=f3_.symm;clear f1_ f2_ f3_;subst f4_;subst f5_))
   refine ZT (a':= ?_) ?_ ?_;rotate_left
   ·simp only[putAll,Act.put,sA,sB,sC];rfl
   refine one_ (i:=9) (N:=none) #[true,true,true,true,true,true,true,true,true,true,false] rfl rfl (Z0 HT_.out (by kernel_rfl)) (by decide) (fun K hK=> ?_);have hs45:w44.cell? ⟨gb582,0,none⟩=some (.int .i64 0):=(Zb BK582.out 0).trans rfl;have hfs45:=Za BK582.out 0;have hns45_0:=NB573_582.out;have hms45_0:=NB582_573.out;have hs47:w44.cell? ⟨gb582,1,none⟩=some (.slice none 0 0):=(Zb BK582.out 1).trans rfl;have hfs47:=Za BK582.out 1;have hns47_0:=NB573_582.out;have hms47_0:=NB582_573.out
   refine skip_ (w1:= ?_) (by rfl) rfl ?_ ?_;rotate_left
   ·go_simp;rfl
   refine hK.out _ _ ⟨((cell_far (p:=⟨gb582,_,none⟩) NB573_582.out _).trans (((cell_far (p:=⟨gb582,_,none⟩) NB573_582.out _).trans (hHeld.1)))),((cell_far (p:=⟨gb582,_,none⟩) NB573_582.out _).trans (((cell_far (p:=⟨gb582,_,none⟩) NB573_582.out _).trans (hHeld.2))))⟩ (fun hHeld=> ?_);clear hK K
   refine ZF (i:=10) (N:=some 4) (v:= ?_) (a':= ?_) #[true,true,true,true,true,true,true,true,true,true,true] rfl rfl (Zx HT_.out (by kernel_rfl)) (fun _ _ _ h=>h) (Or.inl ⟨by rfl,?_⟩) ?_ ?_;rotate_left
   ·intro w';go_simp;with_reducible rfl
   rotate_left
   ·simp only[Act.put,sA,sB,sC,Zt,Zu];rfl
   refine done_ (done_of HT_.out (by kernel_rfl)) ?_
   try go_wp2
   go_ret
   exact⟨by first|rfl|(simp[Zj,Zi]<;>rfl)|(simp[*,Zj,Zi]<;>rfl),by repeat(first|(with_reducible first|exact HB.out|apply Zn|apply Zf|apply Zh|refine Zk ?_ GE573.out|refine Zk ?_ GE582.out)|exact HB.out)⟩
def r01_Same.l0:Nat→List Int→List Int→Int→Option (Bool)
 |0,_,_,_=>none
 |k+1,x0,x1,x5=>if x5<(x0.length:Int) then(if 0≤x5 then(if x5<(x1.length:Int) then(if(rd x0 x5)=(rd x1 x5) then(r01_Same.l0 k x0 x1 (wrap64 (x5+1))) else(some false)) else(none)) else(none)) else(some true)
def r01_Same.f (k:Nat) (l0:List Int) (l1:List Int):Option (Bool):=if(l0.length:Int)=(l1.length:Int) then(r01_Same.l0 k l0 l1 0) else(some false)
theorem r01_Same.calls (k:Nat) (A0:Option Addr) (c0:Nat) (l0:List Int) (A1:Option Addr) (c1:Nat) (l1:List Int) (r:Bool) (w:World) (hr0:Kd.C (Kd.int .u32) w A0 l0.length l0) (hc0:l0.length≤c0) (hr1:Kd.C (Kd.int .u32) w A1 l1.length l1) (hc1:l1.length≤c1) (h:r01_Same.f k l0 l1=some r):
    Calls Try.prog 37 #[.slice A0 l0.length c0,.slice A1 l1.length c1] w fun e w'=>e= .returned (.bool r)∧Drawn0 w w':=by
 have HR0:=aM hr0
 have HC0:=aM hc0
 clear hr0 hc0
 have HR1:=aM hr1
 have HC1:=aM hc1
 clear hr1 hc1
 have H:(if(l0.length:Int)=(l1.length:Int) then(r01_Same.l0 k l0 l1 0) else(some false))=some r:=h
 clear h
 by_cases c3:(l0.length:Int)=(l1.length:Int)
 ·rw [if_pos c3] at H
  have c3b0:=beq_iff_eq.mpr c3;have c3b1:=bne_eq_false_iff_eq.mpr c3;have c3b2:(l0.length==l1.length)=true:=by first|simpa using c3|(simp at c3⊢;omega)
  clear c3;have H':=aM H;clear H
  go_enter Try.func37,Try.ntmps37
  go_wp2
  repeat(go_quiet (fail);try go_wp2)
  go_loopg [5] k (fun kq v5 w'=>∃(x5_1:Int),v5= .int .i64 x5_1∧Aside0 (r01_Same.l0 kq l0 l1 x5_1=some r)∧Aside0 (kq≤k)∧Drawn0 w w')
  case atStart=>exact⟨(0),zz152,H',⟨Nat.le_refl _⟩,by repeat(first|exact Drawn0.refl _|apply Drawn0.step)⟩
  case round =>
   clear H';(try clear c1);(try clear p2);(try clear c3);(try clear c3b0);(try clear c3b1);(try clear c3b2);obtain⟨x5_1,rfl,HA,HK1,⟨m1,rfl⟩⟩:=hrel
   cases gk with
   |zero=>exact absurd HA.out (by simp[r01_Same.l0])
   | succ k1=>
    have H:=HA.out;clear HA;simp only[r01_Same.l0] at H
    by_cases c4:x5_1<(l0.length:Int)
    ·rw [if_pos c4] at H;have c4b0:=dT c4;clear c4
     by_cases c5:0≤x5_1
     ·rw [if_pos c5] at H;have c5b0:=dT c5;clear c5
      by_cases c6:x5_1<(l1.length:Int)
      ·rw [if_pos c6] at H;have c6b0:=dT c6;clear c6
       by_cases c7:(rd l0 x5_1)=(rd l1 x5_1)
       ·rw[if_pos c7] at H;have c7b0:=beq_iff_eq.mpr c7;have c7b1:=bne_eq_false_iff_eq.mpr c7;clear c7;have H':=aM H;clear H;have p584:0≤(x5_1:Int):=oD zz151;have q584:x5_1<(l0.length:Int):=oD zz151;obtain⟨ad584,e584,hx584_0⟩:=Kd.at_int HR0.out x5_1 p584 q584
        cases e584;replace p584:=eq_true p584;replace q584:=eq_true q584;have p585:0≤(x5_1:Int):=oD zz151;have q585:x5_1<(l1.length:Int):=oD zz151;obtain⟨ad585,e585,hx585_0⟩:=Kd.at_int HR1.out x5_1 p585 q585
        cases e585;replace p585:=eq_true p585;replace q585:=eq_true q585;go_wp2
        repeat(go_quiet (fail);try go_wp2)
        go_roundg k1
        case measure=>have:=HK1.out;omega
        case rel=>exact⟨(wrap64 (x5_1+1)),zz152,H',⟨zz161⟩,by repeat(first|exact Drawn0.refl _|apply Drawn0.step)⟩
       rw[if_neg c7] at H;have c7b0:=beq_eq_false_iff_ne.mpr c7;have c7b1:=bne_iff_ne.mpr c7;obtain rfl:=oI H;have p584:0≤(x5_1:Int):=oD zz151;have q584:x5_1<(l0.length:Int):=oD zz151;obtain⟨ad584,e584,hx584_0⟩:=Kd.at_int HR0.out x5_1 p584 q584
       cases e584;replace p584:=eq_true p584;replace q584:=eq_true q584;have p585:0≤(x5_1:Int):=oD zz151;have q585:x5_1<(l1.length:Int):=oD zz151;obtain⟨ad585,e585,hx585_0⟩:=Kd.at_int HR1.out x5_1 p585 q585
       cases e585;replace p585:=eq_true p585;replace q585:=eq_true q585;go_wp2
       repeat(go_quiet (fail);try go_wp2)
       go_ret
       exact⟨by first|rfl|(simp;done)|(simp[*];done),by repeat(first|exact Drawn0.refl _|apply Drawn0.step)⟩
      rw[if_neg c6] at H
      exact absurd H (by simp)
     rw[if_neg c5] at H
     exact absurd H (by simp)
    rw[if_neg c4] at H;have c4b0:=dF c4;clear c4;obtain rfl:=oI H;go_wp2
    repeat(go_quiet (fail);try go_wp2)
    go_ret
    exact⟨by first|rfl|(simp;done)|(simp[*];done),by repeat(first|exact Drawn0.refl _|apply Drawn0.step)⟩
 rw[if_neg c3] at H
 have c3b0:=beq_eq_false_iff_ne.mpr c3
 have c3b1:=bne_iff_ne.mpr c3
 have c3b2:(l0.length==l1.length)=false:=by first|simpa using c3|(simp at c3⊢;omega)
 obtain rfl:=oI H
 go_enter Try.func37,Try.ntmps37
 go_wp2
 repeat(go_quiet (fail);try go_wp2)
 go_ret
 exact⟨by first|rfl|(simp;done)|(simp[*];done),by repeat(first|exact Drawn0.refl _|apply Drawn0.step)⟩
end
section
def r01_Trim.f (l0:List Int):Option (List Int):=if l0.length≤1000000000 then some (ZW l0) else none
theorem r01_Trim.calls (A0:Option Addr) (c0:Nat) (l0:List Int) (r:List Int) (w:World) (hr0:Kd.C (Kd.int .u32) w A0 l0.length l0) (hc0:l0.length≤c0) (h:r01_Trim.f l0=some r):
    Calls Try.prog 90 #[.slice A0 l0.length c0] w fun e w'=>∃v0_:Value,e= .returned (v0_)∧Kd.R (Kd.int .u32) 72 w' w.heap.size (fun _=>True) v0_ r∧Below w.heap.size w w':=by
 have hC:=hr0
 have hc:=hc0
 have hq:l0.length≤1000000000∧ZW l0=r:=by
  unfold r01_Trim.f at h
  split at h
  ·exact⟨by assumption,oI h⟩
  ·cases h
 have HM:=aM hq.1
 have hlen:l0.length≤9223372036854775807:=by have:=hC.2.1;omega
 have HR0:=aM hC
 have HC0:=aM hc
 have HB:=aM (Below.refl w.heap.size w)
 have HQ:Aside0 (ZW (l0.take l0.length)=r):=⟨by rw[List.take_length];exact hq.2⟩
 have HN:=aM hlen
 clear h hr0 hc0 hc hC hlen hq
 go_enter Try.func90,Try.ntmps90
 go_wp2
 go_loopg [3] (l0.length+1) (fun kq v3 w'=>∃x3:Int,v3= .int .i64 x3∧Aside0 (0≤x3∧x3.toNat<kq∧x3≤l0.length)∧Aside0 (ZW (l0.take x3.toNat)=r)∧Aside0 (Below w.heap.size w w'))
 case atStart=>exact⟨(l0.length:Int),rfl,⟨by omega⟩,by simpa using HQ,HB⟩
 case round =>
  clear HQ;obtain⟨x3,rfl,HK1,HQ,HB⟩:=hrel
  cases gk with
  |zero=>exact absurd HK1.out.2.1 (by omega)
  | succ k1=>
   have hs:∀W:World,(Instr.slice 53 (.slice A0 l0.length c0) none (some (.int .i64 x3)) none).run Try.prog W= .ok (.slice A0 x3.toNat c0) W:=by
    have h0:=(print_take_of (P:=Try.prog) (Value.int .u32) 0 53 72 .i64 Try.underlying53 (info_parts info72).choose_spec.1 (info_parts info72).choose_spec.2.2.1 A0 c0 l0 x3 zz161 zz161 HC0.out).1;rw[show(l0.take x3.toNat).length=x3.toNat from by rw[List.length_take];have:=HK1.out;omega] at h0
    exact h0
   have HRX:Aside0 (Kd.C (Kd.int .u32) w A0 x3.toNat (l0.take x3.toNat)):=by
    refine⟨?_⟩;have h0:=Kd.C_take HR0.out (m:=x3.toNat) zz161;rw[show(l0.take x3.toNat).length=x3.toNat from by rw[List.length_take];have:=HK1.out;omega] at h0
    exact h0
   by_cases c2:x3>0
   ·have c2b0:decide (0<x3)=true:=dT c2;obtain⟨ji3,hji3⟩:∃j_:Int,(wrap64 (x3-1))=j_:=⟨_,rfl⟩;have hji3w:(IntKind.i64.wrap (x3-1))=ji3:=(Zt _).trans hji3
    have hj:ji3=x3-1:=by
     rw[←hji3];have:=HN.out;have:=HK1.out;unfold wrap64;omega
    have p0:(0:Int)≤ji3:=by omega
    have q0:ji3<(l0.length:Int):=by have:=HK1.out;omega
    obtain⟨ad,e1,hx⟩:=Kd.at_int HR0.out ji3 p0 q0
    cases e1;replace hx:=(HB.out.cell (wB w _ hx)).trans hx;have HJ:=aM hj;replace p0:=eq_true p0;replace q0:=eq_true q0;clear hj c2
    by_cases c6:rd l0 ji3=0
    ·have c6b0:(rd l0 ji3==0)=true:=beq_iff_eq.mpr c6;have HZ:=aM c6;clear c6;go_wp2
     go_roundg k1
     case measure=>have:=HK1.out;omega
     case rel=> 
      have p0':(0:Int)≤ji3:=of_eq_true p0;have hjn:x3.toNat=ji3.toNat+1:=by have:=HJ.out;omega
      refine⟨ji3,zz145,⟨by have:=HK1.out;have:=HJ.out;omega⟩,⟨?_⟩,⟨by first|exact HB.out|exact Zf HB.out _⟩⟩;rw[←HQ.out,hjn]
      exact(shortL_take0 l0 zz161 zz148).symm
    have c6b0:(rd l0 ji3==0)=false:=beq_eq_false_iff_ne.mpr c6;have hjn:x3.toNat=ji3.toNat+1:=by have:=HJ.out;have:=of_eq_true p0;omega
    have HE:Aside0 (ZW (l0.take x3.toNat)=l0.take x3.toNat):=⟨by rw[hjn];exact shortL_take l0 (by have:=HK1.out;have:=HJ.out;have:=of_eq_true p0;omega) zz144⟩;clear c6 hjn
    go_wp2_with (first
        |((with_reducible refine Zr (N:=18) rfl ?_);refine Kd.R_lit (Kd.int .u32) _ 72 ?hg (N:=18) ?hd (xs:=([]:List Int)) (inner:= []) (ok:=fun _=>True) (okp:=fun _=>True) ?hr ?hp (fun _ hk=>hk) trivial (Below.refl _ _) (Nat.le_refl _) (by simp) ?_;(case hd=>rfl);(case hg=>rfl);(case hr=>first|(go_simp;done)|(go_simp;rfl));(case hp=>exact(Reps.none _ _));intro v1 w1 ho1 hb1 hg_ hnew_;clear hg_ hnew_;have HO1:=aM ho1;have HB1:=aM hb1;clear ho1 hb1)
        |((with_reducible refine ZO (b:= .append) (xs:= #[.tmp 18,.tmp 21]) rfl ?_);at_builtin;refine Kd.R_append_rows (Kd.int .u32) (w0:=w) w.heap.size rfl (.tmp 18) (.tmp 21) 53 72 (.int .u32 0) 4 rfl Try.underlying53 info72 rfl (by decide) (by omega) v1 [] (l0.take x3.toNat) _ _ _ (fun _=>True) (fun _=>False) rfl rfl ?aO ?aR (fun _ _ h=>h) (fun _ h=>h.elim) ?aF ?aB ?aS ?aL ?_;(case aR=>exact Kd.C_below HRX.out (Ze HB.out HB1.out));(case aB=>exact Ze HB.out HB1.out);(case aF=>exact(fun _ _=>trivial));(case aO=>exact(Kd.R_lower HO1.out HB.out.size));(case aS=>exact(Ze HB.out HB1.out).size);(case aL=>have:=HM.out;have:=HK1.out;simp only[List.length_nil];omega);intro v2 w2 ho2 hb2 hg2 hat2;have HO2:=aM ho2;have HB2:=aM hb2;clear ho2 hb2 hg2 hat2))
    go_ret;have ho2:=HO2.out;rw[List.nil_append,←HE.out,HQ.out] at ho2
    exact⟨_,rfl,ho2,HB2.out⟩
   have c2b0:decide (0<x3)=false:=dF c2;have HE:Aside0 (ZW (l0.take x3.toNat)=l0.take x3.toNat):=⟨by rw[show x3.toNat=0 from by omega];simp[ZW]⟩;clear c2
   go_wp2_with (first
       |((with_reducible refine Zr (N:=18) rfl ?_);refine Kd.R_lit (Kd.int .u32) _ 72 ?hg (N:=18) ?hd (xs:=([]:List Int)) (inner:= []) (ok:=fun _=>True) (okp:=fun _=>True) ?hr ?hp (fun _ hk=>hk) trivial (Below.refl _ _) (Nat.le_refl _) (by simp) ?_;(case hd=>rfl);(case hg=>rfl);(case hr=>first|(go_simp;done)|(go_simp;rfl));(case hp=>exact(Reps.none _ _));intro v1 w1 ho1 hb1 hg_ hnew_;clear hg_ hnew_;have HO1:=aM ho1;have HB1:=aM hb1;clear ho1 hb1)
       |((with_reducible refine ZO (b:= .append) (xs:= #[.tmp 18,.tmp 21]) rfl ?_);at_builtin;refine Kd.R_append_rows (Kd.int .u32) (w0:=w) w.heap.size rfl (.tmp 18) (.tmp 21) 53 72 (.int .u32 0) 4 rfl Try.underlying53 info72 rfl (by decide) (by omega) v1 [] (l0.take x3.toNat) _ _ _ (fun _=>True) (fun _=>False) rfl rfl ?aO ?aR (fun _ _ h=>h) (fun _ h=>h.elim) ?aF ?aB ?aS ?aL ?_;(case aR=>exact Kd.C_below HRX.out (Ze HB.out HB1.out));(case aB=>exact Ze HB.out HB1.out);(case aF=>exact(fun _ _=>trivial));(case aO=>exact(Kd.R_lower HO1.out HB.out.size));(case aS=>exact(Ze HB.out HB1.out).size);(case aL=>have:=HM.out;have:=HK1.out;simp only[List.length_nil];omega);intro v2 w2 ho2 hb2 hg2 hat2;have HO2:=aM ho2;have HB2:=aM hb2;clear ho2 hb2 hg2 hat2))
   go_ret;have ho2:=HO2.out;rw[List.nil_append,←HE.out,HQ.out] at ho2
   exact⟨_,rfl,ho2,HB2.out⟩
end
section
attribute [local go_sem] ZE ZC ZJ ZI ZA Zz ZD ZB
def r01_Of.f (a0:Int):Option (List Int):=(r01_Trim.f (([(Int.tmod a0 4294967296)%4294967296,(IntKind.u64.wrap (Int.tdiv a0 4294967296))%4294967296]:List Int))).bind fun t589=>(some t589)
theorem r01_Of.calls (a0:Int) (r:List Int) (w:World) (h:r01_Of.f a0=some r):
    Calls Try.prog 67 #[.int .u64 a0] w fun e w'=>∃v0_:Value,e= .returned (v0_)∧Kd.R (Kd.int .u32) 72 w' w.heap.size (fun _=>True) v0_ r∧Below w.heap.size w w':=by
 have HB:=aM (Below.refl w.heap.size w)
 have H:((r01_Trim.f (([(Int.tmod a0 4294967296)%4294967296,(IntKind.u64.wrap (Int.tdiv a0 4294967296))%4294967296]:List Int))).bind fun t589=>(some t589))=some r:=h
 clear h
 obtain⟨y586,hy586⟩:∃y_:List Int,y_=(([(Int.tmod a0 4294967296)%4294967296,(IntKind.u64.wrap (Int.tdiv a0 4294967296))%4294967296]:List Int)):=⟨_,rfl⟩
 replace H:((r01_Trim.f y586).bind fun t589=>(some t589))=some r:=by first|(rw[hy586];with_reducible exact H)|(have H2_:=(Option.bind_some _ _).symm.trans H;rw[hy586];with_reducible exact H2_)|(have H2_:=(Option.bind_some _ _).symm.trans H;with_reducible exact H2_)|with_reducible exact H|(rw[hy586];exact H)|exact H
 have Ny586:=aM hy586
 clear hy586
 replace H:=oB H
 obtain⟨t589,A20,H⟩:=H
 replace H:(some t589)=some r:=H
 have A2:=aM A20
 clear A20
 obtain rfl:=oI H
 go_enter Try.func67,Try.ntmps67
 go_wp2_with (first|((with_reducible refine Zr (N:=9) rfl ?_);refine Kd.R_lit (Kd.int .u32) _ 72 ?hg (N:=9) ?hd (xs:=([(Int.tmod a0 4294967296)%4294967296,(IntKind.u64.wrap (Int.tdiv a0 4294967296))%4294967296]:List Int)) (inner:= [.int .u32 ((Int.tmod a0 4294967296)%4294967296),.int .u32 ((IntKind.u64.wrap (Int.tdiv a0 4294967296))%4294967296)]) (ok:=fun _=>True) (okp:=fun _=>True) ?hr ?hp (fun _ hk=>hk) trivial (Below.refl _ _) (Nat.le_refl _) (by simp) ?_;(case hd=>rfl);(case hg=>rfl);(case hr=>first|(go_simp;done)|(go_simp;rfl));(case hp=>exact(Reps.one (show Kd.M (Kd.int .u32) _ _ _ ((Int.tmod a0 4294967296)%4294967296) [.int .u32 ((Int.tmod a0 4294967296)%4294967296)] from rfl) (Reps.one (show Kd.M (Kd.int .u32) _ _ _ ((IntKind.u64.wrap (Int.tdiv a0 4294967296))%4294967296) [.int .u32 ((IntKind.u64.wrap (Int.tdiv a0 4294967296))%4294967296)] from rfl) (Reps.none _ _))));intro v587 w3 ho4 hb hg_ hnew_;clear hg_ hnew_;(first|rw[←Ny586.out] at ho4|(simp only[Int.reduceToNat] at ho4;rw[←Ny586.out] at ho4));have HO588:=aM (Kd.R_lower ho4 (Zc zz126));replace HB:=aM (Ze zz126 hb);clear hb ho4;obtain⟨Ao5,co5,eo5⟩:=Kd.R_slice HO588.out;subst eo5)|((with_reducible refine Zq (f:=90) rfl ?_);refine ZG (some 10) rfl rfl Try.func90 (by kernel_rfl) rfl #[.slice Ao5 y586.length co5] rfl zz125 ?_;(with_reducible refine(r01_Trim.calls _ _ y586 t589 _ ?side1 ?side2 A2.out).mono ?_);(case side1=>exact zC ((Kd.R_reads' HO588.out).2.2));(case side2=>exact(Kd.R_reads' HO588.out).2.1);rintro e w6 ⟨v590,rfl,ho0,hb⟩;refine⟨_,rfl,?_⟩;have HO591:=aM (Kd.R_lower (Kd.R_new' ho0 (Kd.R_lt (zR HO588))) (Zc zz126));replace HO588:=aM (Kd.R_elder' (zR HO588) (Kd.R_base ho0) hb);replace HB:=aM (Ze zz126 hb);(try clear hb);(try clear hb2);(try clear hk);(try clear hi);(try clear ho0)))
 go_ret
 exact⟨_,by first|rfl|(simp[Zj,Zi]<;>rfl)|(simp[*,Zj,Zi]<;>rfl),by(with_reducible repeat(first|apply Kd.R_alloc|apply Kd.R_drewN|apply Kd.R_drew));exact Kd.R_mono HO591.out (fun _ hk=>trivial),by repeat(first|(with_reducible first|exact HB.out|apply Zn|apply Zf|apply Zh)|exact HB.out)⟩
mutual
def r01_Mul.l0:Nat→List Int→List Int→List Int→Int→Option (List Int)
 |0,_,_,_,_=>none
 |k+1,x0,x1,x5,x6=>if x6<(x0.length:Int) then(r01_Mul.l1 k x0 x1 x5 x6 0 0) else((r01_Trim.f x5).bind fun t595=>(some t595))
def r01_Mul.l1:Nat→List Int→List Int→List Int→Int→Int→Int→Option (List Int)
 |0,_,_,_,_,_,_=>none
 |k+1,x0,x1,x5,x6,x7,x8=>if x8<(x1.length:Int) then(if 0≤x6 then(if x6<(x0.length:Int) then(if 0≤x8 then(if 0≤(wrap64 (x6+x8)) then(if(wrap64 (x6+x8))<(x5.length:Int) then(r01_Mul.l1 k x0 x1 (x5.set ((wrap64 (x6+x8)):Int).toNat ((Int.tmod (IntKind.u64.wrap ((IntKind.u64.wrap ((IntKind.u64.wrap ((IntKind.u64.wrap (rd x0 x6))*(IntKind.u64.wrap (rd x1 x8))))+(IntKind.u64.wrap (rd x5 (wrap64 (x6+x8))))))+x7)) 4294967296)%4294967296)) x6 (IntKind.u64.wrap (Int.tdiv (IntKind.u64.wrap ((IntKind.u64.wrap ((IntKind.u64.wrap ((IntKind.u64.wrap (rd x0 x6))*(IntKind.u64.wrap (rd x1 x8))))+(IntKind.u64.wrap (rd x5 (wrap64 (x6+x8))))))+x7)) 4294967296)) (wrap64 (x8+1))) else(none)) else(none)) else(none)) else(none)) else(none)) else(if 0≤(wrap64 (x6+(x1.length:Int))) then(if(wrap64 (x6+(x1.length:Int)))<(x5.length:Int) then(r01_Mul.l0 k x0 x1 (x5.set ((wrap64 (x6+(x1.length:Int))):Int).toNat ((x7)%4294967296)) (wrap64 (x6+1))) else(none)) else(none))
end
def r01_Mul.f (k:Nat) (l0:List Int) (l1:List Int):Option (List Int):=if 0≤(wrap64 ((l0.length:Int)+(l1.length:Int))) then(if(wrap64 ((l0.length:Int)+(l1.length:Int)):Int).toNat≤70368744177664 then(r01_Mul.l0 k l0 l1 (List.replicate (wrap64 ((l0.length:Int)+(l1.length:Int)):Int).toNat 0) 0) else(none)) else(none)
theorem r01_Mul.calls (k : Nat) (A0:Option Addr) (c0:Nat) (l0:List Int) (A1:Option Addr) (c1:Nat) (l1:List Int) (r:List Int) (w:World) (hr0:Kd.C (Kd.int .u32) w A0 l0.length l0) (hc0:l0.length≤c0) (hr1:Kd.C (Kd.int .u32) w A1 l1.length l1) (hc1:l1.length≤c1) (h:r01_Mul.f k l0 l1=some r):
    Calls Try.prog 68 #[.slice A0 l0.length c0,.slice A1 l1.length c1] w fun e w'=>∃v0_:Value,e= .returned (v0_)∧Kd.R (Kd.int .u32) 72 w' w.heap.size (fun _=>True) v0_ r∧Below w.heap.size w w':=by
 have HR0:=aM hr0
 have HC0:=aM hc0
 clear hr0 hc0
 have HR1:=aM hr1
 have HC1:=aM hc1
 clear hr1 hc1
 have HB:=aM (Below.refl w.heap.size w)
 have H:(if 0≤(wrap64 ((l0.length:Int)+(l1.length:Int))) then(if(wrap64 ((l0.length:Int)+(l1.length:Int)):Int).toNat≤70368744177664 then(r01_Mul.l0 k l0 l1 (List.replicate (wrap64 ((l0.length:Int)+(l1.length:Int)):Int).toNat 0) 0) else(none)) else(none))=some r:=h
 clear h
 obtain⟨ji3,hji3⟩:∃j_:Int,(wrap64 ((l0.length:Int)+(l1.length:Int)))=j_:=⟨_,rfl⟩
 replace H:(if 0≤(ji3) then(if(ji3:Int).toNat≤70368744177664 then(r01_Mul.l0 k l0 l1 (List.replicate (ji3:Int).toNat 0) 0) else(none)) else(none))=some r:=by first|(rw[hji3] at H;exact H)|(simp only[hji3] at H⊢;exact H)
 have hji3w:(IntKind.i64.wrap ((l0.length:Int)+(l1.length:Int)))=ji3:=(Zt _).trans hji3
 by_cases c4:0≤(ji3)
 ·rw [if_pos c4] at H
  have c4b0:=eq_true c4;have c4b1:=dT c4;clear c4
  by_cases c5:(ji3:Int).toNat≤70368744177664
  ·rw [if_pos c5] at H; have c5b0:=eq_true c5;have c5b1:=dT c5;clear c5;obtain⟨y592,hy592⟩:∃y_:List Int,y_=(List.replicate (ji3:Int).toNat 0):=⟨_,rfl⟩;replace H:(r01_Mul.l0 k l0 l1 y592 0)=some r:=by first|(rw[hy592];with_reducible exact H)|(have H2_:=(Option.bind_some _ _).symm.trans H;rw[hy592];with_reducible exact H2_)|(have H2_:=(Option.bind_some _ _).symm.trans H;with_reducible exact H2_)|with_reducible exact H|(rw[hy592];exact H)|exact H
   have Ny592:=aM hy592;clear hy592;have H':=aM H;clear H
   go_enter Try.func68,Try.ntmps68
   go_wp2_with (first|((with_reducible refine Zr (N:=15) rfl ?_);refine Kd.R_make (Kd.int .u32) _ 72 rfl (N:=15) rfl 53 _ _ rfl ji3 rfl rfl Try.underlying53 (.int .u32 0) 4 info72 rfl (by decide) (by omega) 0 (ok:=fun _=>True) (okp:=fun _=>True) rfl (fun _ hk=>hk) trivial (oD zz151) (Nat.le_trans (Nat.mul_le_mul_right _ (oD zz151:ji3.toNat≤70368744177664)) (by omega)) (Below.refl _ _) (Nat.le_refl _) ?_;intro v593 w6 ho7 hb hg_ hnew_;clear hg_ hnew_;(first|rw[←Ny592.out] at ho7|(simp only[Int.reduceToNat] at ho7;rw[←Ny592.out] at ho7));have HO594:=aM (Kd.R_lower ho7 (Zc zz126));replace HB:=aM (Ze zz126 hb);clear hb ho7))
   repeat(go_quiet (first|((with_reducible refine Zr (N:=15) rfl ?_);refine Kd.R_make (Kd.int .u32) _ 72 rfl (N:=15) rfl 53 _ _ rfl ji3 rfl rfl Try.underlying53 (.int .u32 0) 4 info72 rfl (by decide) (by omega) 0 (ok:=fun _=>True) (okp:=fun _=>True) rfl (fun _ hk=>hk) trivial (oD zz151) (Nat.le_trans (Nat.mul_le_mul_right _ (oD zz151:ji3.toNat≤70368744177664)) (by omega)) (Below.refl _ _) (Nat.le_refl _) ?_;intro v593 w6 ho7 hb hg_ hnew_;clear hg_ hnew_;(first|rw[←Ny592.out] at ho7|(simp only[Int.reduceToNat] at ho7;rw[←Ny592.out] at ho7));have HO594:=aM (Kd.R_lower ho7 (Zc zz126));replace HB:=aM (Ze zz126 hb);clear hb ho7));try go_wp2_with (first|((with_reducible refine Zr (N:=15) rfl ?_);refine Kd.R_make (Kd.int .u32) _ 72 rfl (N:=15) rfl 53 _ _ rfl ji3 rfl rfl Try.underlying53 (.int .u32 0) 4 info72 rfl (by decide) (by omega) 0 (ok:=fun _=>True) (okp:=fun _=>True) rfl (fun _ hk=>hk) trivial (oD zz151) (Nat.le_trans (Nat.mul_le_mul_right _ (oD zz151:ji3.toNat≤70368744177664)) (by omega)) (Below.refl _ _) (Nat.le_refl _) ?_;intro v593 w6 ho7 hb hg_ hnew_;clear hg_ hnew_;(first|rw[←Ny592.out] at ho7|(simp only[Int.reduceToNat] at ho7;rw[←Ny592.out] at ho7));have HO594:=aM (Kd.R_lower ho7 (Zc zz126));replace HB:=aM (Ze zz126 hb);clear hb ho7)))
   go_loopg [6] k (fun kq v6 w'=>∃(x5_1:List Int) (x6_1:Int),v6= .int .i64 x6_1∧Aside0 (r01_Mul.l0 kq l0 l1 x5_1 x6_1=some r)∧Aside0 (kq≤k)∧Aside0 (Kd.R (Kd.int .u32) 72 w' w.heap.size (fun _=>True) v593 x5_1)∧Aside0 (Below w.heap.size w w'))
   case atStart=>exact⟨(y592),(0),zz152,H',⟨Nat.le_refl _⟩,⟨(zR HO594)⟩,⟨zz126⟩⟩
   case round =>
    clear H';(try clear c1);(try clear p2);(try clear c4);(try clear c4b0);(try clear c4b1);(try clear c5);(try clear c5b0);(try clear c5b1);(try clear c6);(try clear p6);obtain⟨x5_1,x6_1,rfl,HA,HK1,HO_5,HB⟩:=hrel
    cases gk with
    |zero=>exact absurd HA.out (by simp[r01_Mul.l0])
    | succ k1=>
     have H:=HA.out;clear HA;simp only[r01_Mul.l0] at H
     by_cases c8:x6_1<(l0.length:Int)
     ·rw [if_pos c8] at H;have c8b0:=dT c8;clear c8;have H':=aM H;clear H;go_wp2
      repeat(go_quiet (fail);try go_wp2)
      go_loopg [7,8] k1 (fun kq v7 v8 w'=>∃(x5_2:List Int) (x7_2:Int) (x8_2:Int),v7= .int .u64 x7_2∧v8= .int .i64 x8_2∧Aside0 (r01_Mul.l1 kq l0 l1 x5_2 x6_1 x7_2 x8_2=some r)∧Aside0 (kq≤k1)∧Aside0 (Kd.R (Kd.int .u32) 72 w' w.heap.size (fun _=>True) v593 x5_2)∧Aside0 (Below w.heap.size w w'))
      case atStart=>exact⟨(x5_1),(0),(0),zz152,zz152,H',⟨Nat.le_refl _⟩,⟨(zR HO_5)⟩,⟨zz126⟩⟩
      case round =>
       clear H';(try clear c1);(try clear p2);(try clear c4);(try clear c4b0);(try clear c4b1);(try clear c5);(try clear c5b0);(try clear c5b1);(try clear c6);(try clear p6);(try clear c8);(try clear c8b0);(try clear p2);(try clear p6);obtain⟨x5_2,x7_2,x8_2,rfl,rfl,HA,HK2,HO_5,HB⟩:=hrel
       cases gk with
       |zero=>exact absurd HA.out (by simp[r01_Mul.l1])
       | succ k2=>
        have H:=HA.out;clear HA;simp only[r01_Mul.l1] at H
        by_cases c9:x8_2<(l1.length:Int)
        ·rw [if_pos c9] at H;have c9b0:=dT c9;clear c9
         by_cases c10:0≤x6_1
         ·rw [if_pos c10] at H;have c10b0:=dT c10;clear c10
          by_cases c11:x6_1<(l0.length:Int)
          ·rw [if_pos c11] at H;have c11b0:=dT c11;clear c11
           by_cases c12:0≤x8_2
           ·rw [if_pos c12] at H;have c12b0:=dT c12;clear c12;obtain⟨ji13,hji13⟩:∃j_:Int,(wrap64 (x6_1+x8_2))=j_:=⟨_,rfl⟩;replace H:(if 0≤(ji13) then(if(ji13)<(x5_2.length:Int) then(r01_Mul.l1 k2 l0 l1 (x5_2.set ((ji13):Int).toNat ((Int.tmod (IntKind.u64.wrap ((IntKind.u64.wrap ((IntKind.u64.wrap ((IntKind.u64.wrap (rd l0 x6_1))*(IntKind.u64.wrap (rd l1 x8_2))))+(IntKind.u64.wrap (rd x5_2 (ji13)))))+x7_2)) 4294967296)%4294967296)) x6_1 (IntKind.u64.wrap (Int.tdiv (IntKind.u64.wrap ((IntKind.u64.wrap ((IntKind.u64.wrap ((IntKind.u64.wrap (rd l0 x6_1))*(IntKind.u64.wrap (rd l1 x8_2))))+(IntKind.u64.wrap (rd x5_2 (ji13)))))+x7_2)) 4294967296)) (wrap64 (x8_2+1))) else(none)) else(none))=some r:=by first|(rw[hji13] at H;exact H)|(simp only[hji13] at H⊢;exact H)
            have hji13w:(IntKind.i64.wrap (x6_1+x8_2))=ji13:=(Zt _).trans hji13
            by_cases c14:0≤(ji13)
            ·rw [if_pos c14] at H;have c14b0:=dT c14;clear c14
             by_cases c15:(ji13)<(x5_2.length:Int)
             ·rw[if_pos c15] at H;have c15b0:=dT c15;clear c15;obtain⟨y601,hy601⟩:∃y_:List Int,y_=(x5_2.set ((ji13):Int).toNat ((Int.tmod (IntKind.u64.wrap ((IntKind.u64.wrap ((IntKind.u64.wrap ((IntKind.u64.wrap (rd l0 x6_1))*(IntKind.u64.wrap (rd l1 x8_2))))+(IntKind.u64.wrap (rd x5_2 (ji13)))))+x7_2)) 4294967296)%4294967296)):=⟨_,rfl⟩;replace H:(r01_Mul.l1 k2 l0 l1 y601 x6_1 (IntKind.u64.wrap (Int.tdiv (IntKind.u64.wrap ((IntKind.u64.wrap ((IntKind.u64.wrap ((IntKind.u64.wrap (rd l0 x6_1))*(IntKind.u64.wrap (rd l1 x8_2))))+(IntKind.u64.wrap (rd x5_2 (ji13)))))+x7_2)) 4294967296)) (wrap64 (x8_2+1)))=some r:=by first|(rw[hy601];with_reducible exact H)|(have H2_:=(Option.bind_some _ _).symm.trans H;rw[hy601];with_reducible exact H2_)|(have H2_:=(Option.bind_some _ _).symm.trans H;with_reducible exact H2_)|with_reducible exact H|(rw[hy601];exact H)|exact H
              have Ny601:=aM hy601;clear hy601;have H':=aM H;clear H;have p598:0≤(x6_1:Int):=oD zz151;have q598:x6_1<(l0.length:Int):=oD zz151;obtain⟨ad598,e598,hx598_0⟩:=Kd.at_int HR0.out x6_1 p598 q598
              cases e598;replace hx598_0:=(HB.out.cell (wB w _ hx598_0)).trans hx598_0;replace p598:=eq_true p598;replace q598:=eq_true q598;have p599:0≤(x8_2:Int):=oD zz151;have q599:x8_2<(l1.length:Int):=oD zz151;obtain⟨ad599,e599,hx599_0⟩:=Kd.at_int HR1.out x8_2 p599 q599
              cases e599;replace hx599_0:=(HB.out.cell (wB w _ hx599_0)).trans hx599_0;replace p599:=eq_true p599;replace q599:=eq_true q599;obtain⟨Ao17,co17,eo17⟩:=Kd.R_slice HO_5.out;subst eo17;have p600:0≤((ji13):Int):=oD zz151;have q600:(ji13)<(x5_2.length:Int):=oD zz151;obtain⟨ad600,e600,hx600_0⟩:=Kd.at_int (Kd.R_reads' HO_5.out).2.2 (ji13) p600 q600
              cases e600;replace p600:=eq_true p600;replace q600:=eq_true q600;have p16:0≤((ji13):Int):=oD zz151;have q16:((ji13):Int)<((x5_2.length:Int):Int):=oD zz151;obtain⟨go16,co16,eo16,gb16,gl16,cl16,HG16⟩:=Kd.R_form HO_5.out (by omega)
              (first|cases eo16|(injection eo16 with ea_ en_ ec_;(first|subst ea_|(injection ea_ with ea_;subst ea_));subst ec_;clear en_))
              have GB16:=aM gb16;have GG16:=aM HG16;clear gb16 gl16 HG16
              (first|simp only[Z2] at hx600_0|skip)
              obtain⟨hx16_0,hf16_0⟩:=Kd.R_celln 0 HO_5.out ((ji13):Int) p16 q16;replace p16:=eq_true p16;replace q16:=eq_true q16;have HP18:=Kd.R_putg HO_5.out ((ji13):Int) ((Int.tmod (IntKind.u64.wrap ((IntKind.u64.wrap ((IntKind.u64.wrap ((IntKind.u64.wrap (rd l0 x6_1))*(IntKind.u64.wrap (rd l1 x8_2))))+(IntKind.u64.wrap (rd x5_2 (ji13)))))+x7_2)) 4294967296)%4294967296);clear HP18
              go_upto_region 10 with(fail)
              go_quiet (fail)
              generalize hq_:World.drewN wr _=wq;have n0_:=aM (Kd.R_at hq_ HO_5.out);have n1_:=aM (below_at hq_ HB.out);clear hq_ HO_5 HB;have HO_5:=n0_;have HB:=n1_;clear n0_ n1_;have HP18:=Kd.R_putg HO_5.out ((ji13):Int) ((Int.tmod (IntKind.u64.wrap ((IntKind.u64.wrap ((IntKind.u64.wrap ((IntKind.u64.wrap (rd l0 x6_1))*(IntKind.u64.wrap (rd l1 x8_2))))+(IntKind.u64.wrap (rd x5_2 (ji13)))))+x7_2)) 4294967296)%4294967296);obtain⟨hxq_,hfq_⟩:=Kd.R_celln 0 HO_5.out ((ji13):Int) (of_eq_true p16) (of_eq_true q16)
              go_wp2_with (first|((with_reducible refine ZP (t:=72) (p:=56) rfl ?_);refine ZM (t:=72) (p:=56) (v:= ?vo_w19) (w1:=(wq.setCell ⟨go16,((ji13):Int).toNat,none⟩ (.int .u32 ((Int.tmod (IntKind.u64.wrap ((IntKind.u64.wrap ((IntKind.u64.wrap ((IntKind.u64.wrap (rd l0 x6_1))*(IntKind.u64.wrap (rd l1 x8_2))))+(IntKind.u64.wrap (rd x5_2 (ji13)))))+x7_2)) 4294967296)%4294967296)))) ?hg ?ho ?hn ?hr ?_;(case ho=>rfl);(case hg=>rfl);(case hn=>rfl);(case hr=>first|(go_simp;done)|(go_simp;rfl));intro w19 hw;have hg:wq.grownBy w19 (some go16):=(by rw[hw];exact HP18.2);have hp_:Kd.R (Kd.int .u32) 72 w19 w.heap.size (fun _=>True) (.slice (some ⟨go16,0,none⟩) x5_2.length co17) y601:=(by rw[hw,Ny601.out];exact HP18.1);clear HP18;replace HO_5:=aM (hp_);replace HB:=aM ((by rw[hw];exact Zk (HB.out) GB16.out:Below w.heap.size w w19));clear hg hw hp_))
              go_roundg k2
              case measure=>have:=HK1.out;have:=HK2.out;omega
              case rel=>exact⟨(y601),(IntKind.u64.wrap (Int.tdiv (IntKind.u64.wrap ((IntKind.u64.wrap ((IntKind.u64.wrap ((IntKind.u64.wrap (rd l0 x6_1))*(IntKind.u64.wrap (rd l1 x8_2))))+(IntKind.u64.wrap (rd x5_2 (ji13)))))+x7_2)) 4294967296)),(wrap64 (x8_2+1)),(by first|rfl|(simp;done)|(simp only[←hji13]<;>(first|rfl|simp))|(simp[*];done)),zz152,H',⟨zz153⟩,⟨(zR HO_5)⟩,⟨zz126⟩⟩
             rw[if_neg c15] at H
             exact absurd H (by simp)
            rw[if_neg c14] at H
            exact absurd H (by simp)
           rw[if_neg c12] at H
           exact absurd H (by simp)
          rw[if_neg c11] at H
          exact absurd H (by simp)
         rw[if_neg c10] at H
         exact absurd H (by simp)
        rw[if_neg c9] at H;have c9b0:=dF c9;clear c9;obtain⟨ji20,hji20⟩:∃j_:Int,(wrap64 (x6_1+(l1.length:Int)))=j_:=⟨_,rfl⟩;replace H:(if 0≤(ji20) then(if(ji20)<(x5_2.length:Int) then(r01_Mul.l0 k2 l0 l1 (x5_2.set ((ji20):Int).toNat ((x7_2)%4294967296)) (wrap64 (x6_1+1))) else(none)) else(none))=some r:=by first|(rw[hji20] at H;exact H)|(simp only[hji20] at H⊢;exact H)
        have hji20w:(IntKind.i64.wrap (x6_1+(l1.length:Int)))=ji20:=(Zt _).trans hji20
        by_cases c21:0≤(ji20)
        ·rw [if_pos c21] at H;have c21b0:=dT c21;clear c21
         by_cases c22:(ji20)<(x5_2.length:Int)
         ·rw[if_pos c22] at H;have c22b0:=dT c22;clear c22;obtain⟨y602,hy602⟩:∃y_:List Int,y_=(x5_2.set ((ji20):Int).toNat ((x7_2)%4294967296)):=⟨_,rfl⟩;replace H:(r01_Mul.l0 k2 l0 l1 y602 (wrap64 (x6_1+1)))=some r:=by first|(rw[hy602];with_reducible exact H)|(have H2_:=(Option.bind_some _ _).symm.trans H;rw[hy602];with_reducible exact H2_)|(have H2_:=(Option.bind_some _ _).symm.trans H;with_reducible exact H2_)|with_reducible exact H|(rw[hy602];exact H)|exact H
          have Ny602:=aM hy602;clear hy602;have H':=aM H;clear H;have p23:0≤((ji20):Int):=oD zz151;have q23:((ji20):Int)<((x5_2.length:Int):Int):=oD zz151;obtain⟨go23,co23,eo23,gb23,gl23,cl23,HG23⟩:=Kd.R_form HO_5.out (by omega)
          (first|cases eo23|(injection eo23 with ea_ en_ ec_;(first|subst ea_|(injection ea_ with ea_;subst ea_));subst ec_;clear en_))
          have GB23:=aM gb23;have GG23:=aM HG23;clear gb23 gl23 HG23;obtain⟨hx23_0,hf23_0⟩:=Kd.R_celln 0 HO_5.out ((ji20):Int) p23 q23;replace p23:=eq_true p23;replace q23:=eq_true q23;have HP24:=Kd.R_putg HO_5.out ((ji20):Int) ((x7_2)%4294967296)
          go_wp2_with (first|((with_reducible refine ZP (t:=72) (p:=66) rfl ?_);(try(rw[Z8 wr];generalize hq_:World.drewN wr _=wr;have n0_:=aM (Kd.R_at hq_ HO_5.out);have n1_:=aM (below_at hq_ HB.out);clear hq_ HO_5 HB;have HO_5:=n0_;have HB:=n1_;clear n0_ n1_;(try(have HP24:=Kd.R_putg HO_5.out ((ji20):Int) ((x7_2)%4294967296)))));refine ZM (t:=72) (p:=66) (v:= ?vo_w25) (w1:=(wr.setCell ⟨go23,((ji20):Int).toNat,none⟩ (.int .u32 ((x7_2)%4294967296)))) ?hg ?ho ?hn ?hr ?_;(case ho=>rfl);(case hg=>rfl);(case hn=>rfl);(case hr=>first|(go_simp;done)|(go_simp;rfl));intro w25 hw;have hg:wr.grownBy w25 (some go23):=(by rw[hw];exact HP24.2);have hp_:Kd.R (Kd.int .u32) 72 w25 w.heap.size (fun _=>True) (.slice (some ⟨go23,0,none⟩) x5_2.length co23) y602:=(by rw[hw,Ny602.out];exact HP24.1);clear HP24;replace HO_5:=aM (hp_);replace HB:=aM ((by rw[hw];exact Zk (HB.out) GB23.out:Below w.heap.size w w25));clear hg hw hp_))
          repeat(go_quiet (first|((with_reducible refine ZP (t:=72) (p:=66) rfl ?_);(try(rw[Z8 wr];generalize hq_:World.drewN wr _=wr;have n0_:=aM (Kd.R_at hq_ HO_5.out);have n1_:=aM (below_at hq_ HB.out);clear hq_ HO_5 HB;have HO_5:=n0_;have HB:=n1_;clear n0_ n1_;(try(have HP24:=Kd.R_putg HO_5.out ((ji20):Int) ((x7_2)%4294967296)))));refine ZM (t:=72) (p:=66) (v:= ?vo_w25) (w1:=(wr.setCell ⟨go23,((ji20):Int).toNat,none⟩ (.int .u32 ((x7_2)%4294967296)))) ?hg ?ho ?hn ?hr ?_;(case ho=>rfl);(case hg=>rfl);(case hn=>rfl);(case hr=>first|(go_simp;done)|(go_simp;rfl));intro w25 hw;have hg:wr.grownBy w25 (some go23):=(by rw[hw];exact HP24.2);have hp_:Kd.R (Kd.int .u32) 72 w25 w.heap.size (fun _=>True) (.slice (some ⟨go23,0,none⟩) x5_2.length co23) y602:=(by rw[hw,Ny602.out];exact HP24.1);clear HP24;replace HO_5:=aM (hp_);replace HB:=aM ((by rw[hw];exact Zk (HB.out) GB23.out:Below w.heap.size w w25));clear hg hw hp_));try go_wp2_with (first|((with_reducible refine ZP (t:=72) (p:=66) rfl ?_);(try(rw[Z8 wr];generalize hq_:World.drewN wr _=wr;have n0_:=aM (Kd.R_at hq_ HO_5.out);have n1_:=aM (below_at hq_ HB.out);clear hq_ HO_5 HB;have HO_5:=n0_;have HB:=n1_;clear n0_ n1_;(try(have HP24:=Kd.R_putg HO_5.out ((ji20):Int) ((x7_2)%4294967296)))));refine ZM (t:=72) (p:=66) (v:= ?vo_w25) (w1:=(wr.setCell ⟨go23,((ji20):Int).toNat,none⟩ (.int .u32 ((x7_2)%4294967296)))) ?hg ?ho ?hn ?hr ?_;(case ho=>rfl);(case hg=>rfl);(case hn=>rfl);(case hr=>first|(go_simp;done)|(go_simp;rfl));intro w25 hw;have hg:wr.grownBy w25 (some go23):=(by rw[hw];exact HP24.2);have hp_:Kd.R (Kd.int .u32) 72 w25 w.heap.size (fun _=>True) (.slice (some ⟨go23,0,none⟩) x5_2.length co23) y602:=(by rw[hw,Ny602.out];exact HP24.1);clear HP24;replace HO_5:=aM (hp_);replace HB:=aM ((by rw[hw];exact Zk (HB.out) GB23.out:Below w.heap.size w w25));clear hg hw hp_)))
          go_roundg k2
          case measure=>have:=HK1.out;have:=HK2.out;omega
          case rel=>exact⟨(y602),(wrap64 (x6_1+1)),zz152,H',⟨zz153⟩,⟨(zR HO_5)⟩,⟨zz126⟩⟩
         rw[if_neg c22] at H
         exact absurd H (by simp)
        rw[if_neg c21] at H
        exact absurd H (by simp)
     rw[if_neg c8] at H;have c8b0:=dF c8;clear c8;replace H:=oB H;obtain⟨t595,A260,H⟩:=H;replace H:(some t595)=some r:=H;have A26:=aM A260;clear A260;obtain rfl:=oI H;obtain⟨Ao27,co27,eo27⟩:=Kd.R_slice HO_5.out;subst eo27
     go_wp2_with (first|(go_at_call 90;(with_reducible refine(r01_Trim.calls _ _ x5_1 t595 _ ?side1 ?side2 A26.out).mono ?_);(case side1=>exact zC ((Kd.R_reads' HO_5.out).2.2));(case side2=>exact(Kd.R_reads' HO_5.out).2.1);rintro e w28 ⟨v596,rfl,ho0,hb⟩;have HO597:=aM (Kd.R_lower (Kd.R_new' ho0 (Kd.R_lt (zR HO_5))) (Zc zz126));replace HO_5:=aM (Kd.R_elder' (zR HO_5) (Kd.R_base ho0) hb);replace HB:=aM (Ze zz126 hb);(try clear hb);(try clear hb2);(try clear hk);(try clear hi);(try clear ho0)))
     repeat(go_quiet (first|(go_at_call 90;(with_reducible refine(r01_Trim.calls _ _ x5_1 t595 _ ?side1 ?side2 A26.out).mono ?_);(case side1=>exact zC ((Kd.R_reads' HO_5.out).2.2));(case side2=>exact(Kd.R_reads' HO_5.out).2.1);rintro e w28 ⟨v596,rfl,ho0,hb⟩;have HO597:=aM (Kd.R_lower (Kd.R_new' ho0 (Kd.R_lt (zR HO_5))) (Zc zz126));replace HO_5:=aM (Kd.R_elder' (zR HO_5) (Kd.R_base ho0) hb);replace HB:=aM (Ze zz126 hb);(try clear hb);(try clear hb2);(try clear hk);(try clear hi);(try clear ho0)));try go_wp2_with (first|(go_at_call 90;(with_reducible refine(r01_Trim.calls _ _ x5_1 t595 _ ?side1 ?side2 A26.out).mono ?_);(case side1=>exact zC ((Kd.R_reads' HO_5.out).2.2));(case side2=>exact(Kd.R_reads' HO_5.out).2.1);rintro e w28 ⟨v596,rfl,ho0,hb⟩;have HO597:=aM (Kd.R_lower (Kd.R_new' ho0 (Kd.R_lt (zR HO_5))) (Zc zz126));replace HO_5:=aM (Kd.R_elder' (zR HO_5) (Kd.R_base ho0) hb);replace HB:=aM (Ze zz126 hb);(try clear hb);(try clear hb2);(try clear hk);(try clear hi);(try clear ho0))))
     go_ret
     exact⟨_,by first|rfl|(simp[Zj,Zi]<;>rfl)|(simp only[←hji3];first|rfl|(simp[Zj,Zi]<;>rfl))|(simp[*,Zj,Zi]<;>rfl),by(with_reducible repeat(first|apply Kd.R_alloc|apply Kd.R_drewN|apply Kd.R_drew));exact Kd.R_mono HO597.out (fun _ hk=>trivial),by repeat(first|(with_reducible first|exact HB.out|apply Zn|apply Zf|apply Zh)|exact HB.out)⟩
  rw[if_neg c5] at H
  exact absurd H (by simp)
 rw[if_neg c4] at H
 exact absurd H (by simp)
def r30_Size.l0:Nat→List Int→Int→Int→List (S74)→Option (List Int)
 |0,_,_,_,_=>none
 |k+1,x3,x4,x604000,x604001=>if x4<(x604001.length:Int) then(if 0≤x4 then((r01_Of.f (IntKind.u64.wrap ((((Zd x604001 x4).f1).length:Int)))).bind fun t608=>((r01_Mul.f k x3 t608).bind fun t611=>(r30_Size.l0 k t611 (wrap64 (x4+1)) x604000 x604001))) else(none)) else(some x3)
def r30_Size.f (k:Nat) (a0_0:Int) (l0_1:List (S74)):Option (List Int):=(r01_Of.f 1).bind fun t604=>(r30_Size.l0 k t604 0 a0_0 l0_1)
theorem r30_Size.calls (k:Nat) (a0_0:Int) (A0_1:Option Addr) (c0_1:Nat) (l0_1:List (S74)) (r:List Int) (w:World) (hr0_1:Kd.C k74 w A0_1 l0_1.length l0_1) (hc0_1:l0_1.length≤c0_1) (h:r30_Size.f k a0_0 l0_1=some r):
    Calls Try.prog 38 #[.agg #[.int .i64 a0_0,.slice A0_1 l0_1.length c0_1]] w fun e w'=>∃v0_:Value,e= .returned (v0_)∧Kd.R (Kd.int .u32) 72 w' w.heap.size (fun _=>True) v0_ r∧Below w.heap.size w w':=by
 have hu46:=Try.underlying46
 have HR0_1:=aM hr0_1
 have HC0_1:=aM hc0_1
 clear hr0_1 hc0_1
 have HB:=aM (Below.refl w.heap.size w)
 have H:((r01_Of.f 1).bind fun t604=>(r30_Size.l0 k t604 0 a0_0 l0_1))=some r:=h
 clear h
 replace H:=oB H
 obtain⟨t604,A20,H⟩:=H
 replace H:(r30_Size.l0 k t604 0 a0_0 l0_1)=some r:=H
 have A2:=aM A20
 clear A20
 have H':=aM H
 clear H
 go_enter Try.func38,Try.ntmps38
 go_wp2_with (first|((with_reducible refine Zr (N:=1) rfl ?_);refine Zy ?hg (N:=1) ?hd (cs:= #[.int .i64 a0_0,.slice A0_1 l0_1.length c0_1]) (t:=46) ?hr ?_;(case hd=>rfl);(case hg=>rfl);(case hr=>first|(go_simp;done)|(go_simp;rfl));intro gb603 hg w3 hbox hb;have BK603:=aM (hbox);have GW603:=aM ((by rw[hg];exact(Zc zz126):w.heap.size≤gb603));have GE603:=aM ((by rw[hg];exact(Zc zz126):w.heap.size≤gb603));replace HB:=aM (Ze zz126 hb);clear hb hbox hg)|((with_reducible refine Zq (f:=67) rfl ?_);refine ZG (some 5) rfl rfl Try.func67 (by kernel_rfl) rfl #[.int .u64 1] rfl zz125 ?_;(with_reducible refine(r01_Of.calls 1 t604 _ A2.out).mono ?_);rintro e w4 ⟨v605,rfl,ho0,hb⟩;refine⟨_,rfl,?_⟩;have HO606:=aM (Kd.R_lower ho0 (Zc zz102));replace BK603:=aM (Zg (g:=gb603) (o:= .cells #[.int .i64 a0_0,.slice A0_1 l0_1.length c0_1] 46 (0,0)) (zB BK603) hb);replace HB:=aM (Ze zz102 hb);(try clear hb);(try clear hb2);(try clear hk);(try clear hi);(try clear ho0)))
 go_loopg [3,4] k (fun kq v3 v4 w'=>∃(x3_1:List Int) (x4_1:Int),v4= .int .i64 x4_1∧Aside0 (r30_Size.l0 kq x3_1 x4_1 a0_0 l0_1=some r)∧Aside0 (kq≤k)∧Aside0 (Kd.R (Kd.int .u32) 72 w' w.heap.size (fun _=>True) v3 x3_1)∧Aside0 (w'.heap[gb603]? =some (.cells #[.int .i64 a0_0,(.slice A0_1 l0_1.length c0_1)] 46 (0,0)))∧Aside0 (Below w.heap.size w w'))
 case atStart=>exact⟨(t604),(0),zz152,H',⟨Nat.le_refl _⟩,⟨(zR HO606)⟩,⟨(zB BK603)⟩,⟨zz102⟩⟩
 case round=>
  clear H';(try clear p2);(try clear c3);obtain⟨x3_1,x4_1,rfl,HA,HK1,HO_3,BK603,HB⟩:=hrel
  cases gk with
  |zero=>exact absurd HA.out (by simp[r30_Size.l0])
  | succ k1=>
   have H:=HA.out;clear HA;simp only[r30_Size.l0] at H
   by_cases c5:x4_1<(l0_1.length:Int)
   ·rw [if_pos c5] at H;have c5b0:=dT c5;clear c5
    by_cases c6:0≤x4_1
    ·rw[if_pos c6] at H;have c6b0:=dT c6;clear c6;replace H:=oB H;obtain⟨t608,A70,H⟩:=H;replace H:((r01_Mul.f k1 x3_1 t608).bind fun t611=>(r30_Size.l0 k1 t611 (wrap64 (x4_1+1)) a0_0 l0_1))=some r:=H;have A7:=aM A70;clear A70;replace H:=oB H;obtain⟨t611,A80,H⟩:=H;replace H:(r30_Size.l0 k1 t611 (wrap64 (x4_1+1)) a0_0 l0_1)=some r:=H;have A8:=aM A80;clear A80;have H':=aM H;clear H;have hcz9_0:wr.cell? ⟨gb603,0,none⟩=some (.int .i64 a0_0):=(Zb BK603.out 0).trans rfl;have hcz9_1:wr.cell? ⟨gb603,1,none⟩=some (.slice A0_1 l0_1.length c0_1):=(Zb BK603.out 1).trans rfl;have hfz9_0:=Za BK603.out 0;have hfz9_1:=Za BK603.out 1;have p607:0≤(x4_1:Int):=oD zz151;have q607:x4_1<(l0_1.length:Int):=oD zz151;obtain⟨ad607,A607_1,c607_1,A607_2,c607_2,e607,hx607_0,hx607_1,hx607_2,hl607_1,hi607_1,hl607_2,hi607_2⟩:=Z1 HR0_1.out x4_1 p607 q607
     cases e607;replace hx607_0:=(HB.out.cell (wB w _ hx607_0)).trans hx607_0;replace hx607_1:=(HB.out.cell (wB w _ hx607_1)).trans hx607_1;replace hx607_2:=(HB.out.cell (wB w _ hx607_2)).trans hx607_2;have HR607_1:=aM hi607_1;have HC607_1:=aM hl607_1;clear hi607_1 hl607_1;have HR607_2:=aM hi607_2;have HC607_2:=aM hl607_2;clear hi607_2 hl607_2;replace p607:=eq_true p607;replace q607:=eq_true q607
     go_wp2_with (first|((with_reducible refine Zq (f:=67) rfl ?_);refine ZG (some 22) rfl rfl Try.func67 (by kernel_rfl) rfl #[.int .u64 (IntKind.u64.wrap ((((Zd l0_1 x4_1).f1).length:Int)))] rfl zz125 ?_;(with_reducible refine(r01_Of.calls (IntKind.u64.wrap ((((Zd l0_1 x4_1).f1).length:Int))) t608 _ A7.out).mono ?_);rintro e w10 ⟨v609,rfl,ho0,hb⟩;refine⟨_,rfl,?_⟩;have HO610:=aM (Kd.R_lower (Kd.R_new' ho0 (Kd.R_lt (zR HO_3))) (Zc zz102));replace HO_3:=aM (Kd.R_elder' (zR HO_3) (Kd.R_base ho0) hb);replace BK603:=aM (Zg (g:=gb603) (o:= .cells #[.int .i64 a0_0,.slice (some ad607) l0_1.length c0_1] 46 (0,0)) (zB BK603) hb);replace HB:=aM (Ze zz102 hb);(try clear hb);(try clear hb2);(try clear hk);(try clear hi);(try clear ho0);obtain⟨Ao11,co11,eo11⟩:=Kd.R_slice HO_3.out;subst eo11;obtain⟨Ao12,co12,eo12⟩:=Kd.R_slice HO610.out;subst eo12)|((with_reducible refine Zq (f:=68) rfl ?_);refine ZG (some 23) rfl rfl Try.func68 (by kernel_rfl) rfl #[.slice Ao11 x3_1.length co11,.slice Ao12 t608.length co12] rfl zz125 ?_;(with_reducible refine(r01_Mul.calls k1 _ _ x3_1 _ _ t608 t611 _ ?side1 ?side2 ?side3 ?side4 A8.out).mono ?_);(case side1=>exact zC ((Kd.R_reads' HO_3.out).2.2));(case side2=>exact(Kd.R_reads' HO_3.out).2.1);(case side3=>exact zC ((Kd.R_reads' HO610.out).2.2));(case side4=>exact(Kd.R_reads' HO610.out).2.1);rintro e w13 ⟨v612,rfl,ho0,hb⟩;refine⟨_,rfl,?_⟩;have HO613:=aM (Kd.R_lower (Kd.R_new' (Kd.R_new' ho0 (Kd.R_lt (zR HO_3))) (Kd.R_lt (zR HO610))) (Zc zz102));replace HO_3:=aM (Kd.R_elder' (zR HO_3) (Kd.R_base ho0) hb);replace HO610:=aM (Kd.R_elder' (zR HO610) (Kd.R_base ho0) hb);replace BK603:=aM (Zg (g:=gb603) (o:= .cells #[.int .i64 a0_0,.slice (some ad607) l0_1.length c0_1] 46 (0,0)) (zB BK603) hb);replace HB:=aM (Ze zz102 hb);(try clear hb);(try clear hb2);(try clear hk);(try clear hi);(try clear ho0)))
     go_roundg k1
     case measure=>have:=HK1.out;omega
     case rel=>exact⟨(t611),(wrap64 (x4_1+1)),zz152,H',⟨zz161⟩,⟨(by(with_reducible repeat(first|apply Kd.R_alloc|apply Kd.R_drewN|apply Kd.R_drew));exact Kd.R_mono HO613.out (fun _ hk=>trivial))⟩,⟨(zB BK603)⟩,⟨zz102⟩⟩
    rw[if_neg c6] at H
    exact absurd H (by simp)
   rw[if_neg c5] at H;have c5b0:=dF c5;clear c5;obtain rfl:=oI H;have hcz14_0:wr.cell? ⟨gb603,0,none⟩=some (.int .i64 a0_0):=(Zb BK603.out 0).trans rfl;have hcz14_1:wr.cell? ⟨gb603,1,none⟩=some (.slice A0_1 l0_1.length c0_1):=(Zb BK603.out 1).trans rfl;have hfz14_0:=Za BK603.out 0;have hfz14_1:=Za BK603.out 1;go_wp2;go_ret
   exact⟨_,by first|rfl|(simp[Zj,Zi]<;>rfl)|(simp[*,Zj,Zi]<;>rfl),by(with_reducible repeat(first|apply Kd.R_alloc|apply Kd.R_drewN|apply Kd.R_drew));exact HO_3.out,by repeat(first|(with_reducible first|exact HB.out|apply Zn|apply Zf|apply Zh|refine Zk ?_ GE603.out)|exact HB.out)⟩
mutual
def perm_Compose.l0:Nat→List (List Int)→List (List Int)→Int→Int→Option (List Int×Int)
 |0,_,_,_,_=>none
 |k+1,x0,x13,x14,x15=>if x15<x14 then(if 0≤x15 then(if x15<(x13.length:Int) then((perm_Check.f (Zp x13 x15)).bind fun t112=>(if t112=0 then(perm_Compose.l0 k x0 x13 x14 (wrap64 (x15+1))) else(some (([]:List Int),t112)))) else(none)) else(none)) else(if 0<(x0.length:Int) then((perm_identity.f k ((Zp x0 0).length:Int)).bind fun t114=>(perm_Compose.l1 k t114 x0 (x0.length:Int) 0)) else(none))
def perm_Compose.l1:Nat→List Int→List (List Int)→Int→Int→Option (List Int×Int)
 |0,_,_,_,_=>none
 |k+1,x7,x30,x31,x32=>if x32<x31 then(if 0≤x32 then(if x32<(x30.length:Int) then(if((Zp x30 x32).length:Int)=(x7.length:Int) then((perm_then.f k x7 (Zp x30 x32)).bind fun t118=>(perm_Compose.l1 k t118 x30 x31 (wrap64 (x32+1)))) else(some (([]:List Int),10))) else(none)) else(none)) else(some (x7,0))
end
def perm_Compose.f (k:Nat) (l0:List (List Int)):Option (List Int×Int):=if(l0.length:Int)=0 then(some (([]:List Int),11)) else(perm_Compose.l0 k l0 l0 (l0.length:Int) 0)
theorem perm_Compose.calls (k:Nat) (A0:Option Addr) (c0:Nat) (l0:List (List Int)) (r1:List Int) (r2:Int) (w:World) (hr0:Kd.C (Kd.slice 3 (Kd.int .i64)) w A0 l0.length l0) (hc0:l0.length≤c0) (h:perm_Compose.f k l0=some (r1,r2)):
    Calls Try.prog 13 #[.slice A0 l0.length c0] w fun e w'=>∃v0_:Value,e= .returned (.tuple #[v0_,.int .i64 r2])∧Kd.R (Kd.int .i64) 3 w' w.heap.size (fun _=>True) v0_ r1∧Below w.heap.size w w':=by
 have HR0:=aM hr0
 have HC0:=aM hc0
 clear hr0 hc0
 have HB:=aM (Below.refl w.heap.size w)
 have H:(if(l0.length:Int)=0 then(some (([]:List Int),11)) else(perm_Compose.l0 k l0 l0 (l0.length:Int) 0))=some (r1,r2):=h
 clear h
 by_cases c2:(l0.length:Int)=0
 ·rw[if_pos c2] at H
  have c2b0:=beq_iff_eq.mpr c2;have c2b1:=bne_eq_false_iff_eq.mpr c2;clear c2;simp only[Option.some.injEq,Prod.mk.injEq] at H;obtain⟨rfl,rfl⟩:=H
  go_enter Try.func13,Try.ntmps13
  go_wp2
  go_ret2
  exact⟨_,by first|rfl|(simp[Zj,Zi]<;>rfl)|(simp[*,Zj,Zi]<;>rfl),by first|exact Kd.R_nil _ _ _ _ _|exact Kd.N_nil _ _ _ _ _|exact Kd.V_nil _ _ _ _ _|exact Kd.Q_nil _ _ _ _ _|exact Kd.S_nil _ _ _ _ _,by repeat(first|(with_reducible first|exact HB.out|apply Zn|apply Zf|apply Zh)|exact HB.out)⟩
 rw[if_neg c2] at H
 have c2b0:=beq_eq_false_iff_ne.mpr c2
 have c2b1:=bne_iff_ne.mpr c2
 have c2b2:¬(l0= []):=fun h_=>c2 (by rw[h_];rfl)
 have H':=aM H
 clear H
 go_enter Try.func13,Try.ntmps13
 go_wp2
 go_loopg [15] k (fun kq v15 w'=>∃(x15_1:Int),v15= .int .i64 x15_1∧Aside0 (perm_Compose.l0 kq l0 l0 (l0.length:Int) x15_1=some (r1,r2))∧Aside0 (kq≤k)∧Aside0 (Below w.heap.size w w'))
 case atStart=>exact⟨(0),zz152,H',⟨Nat.le_refl _⟩,⟨zz126⟩⟩
 case round =>
  clear H';(try clear c1);(try clear c2);(try clear c2b0);(try clear c2b1);(try clear c2b2);(try clear p2);obtain⟨x15_1,rfl,HA,HK1,HB⟩:=hrel
  cases gk with
  |zero=>exact absurd HA.out (by simp[perm_Compose.l0])
  | succ k1=>
   have H:=HA.out;clear HA;simp only[perm_Compose.l0] at H
   by_cases c3:x15_1<(l0.length:Int)
   ·rw [if_pos c3] at H;have c3b0:=dT c3;clear c3
    by_cases c4:0≤x15_1
    ·rw [if_pos c4] at H;have c4b0:=dT c4;clear c4
     by_cases c5:x15_1<(l0.length:Int)
     ·rw [if_pos c5] at H;have c5b0:=dT c5;clear c5;replace H:=oB H;obtain⟨t112,A60,H⟩:=H;replace H:(if t112=0 then(perm_Compose.l0 k1 l0 l0 (l0.length:Int) (wrap64 (x15_1+1))) else(some (([]:List Int),t112)))=some (r1,r2):=H;have A6:=aM A60;clear A60
      by_cases c7:t112=0
      ·rw[if_pos c7] at H;have c7b0:=beq_iff_eq.mpr c7;have c7b1:=bne_eq_false_iff_eq.mpr c7;clear c7;have H':=aM H;clear H;have p111:0≤(x15_1:Int):=oD zz151;have q111:x15_1<(l0.length:Int):=oD zz151;obtain⟨ad111,A111_0,c111_0,e111,hx111_0,hl111_0,hi111_0⟩:=ZY HR0.out x15_1 p111 q111
       cases e111;replace hx111_0:=(HB.out.cell (wB w _ hx111_0)).trans hx111_0;have HR111_0:=aM hi111_0;have HC111_0:=aM hl111_0;clear hi111_0 hl111_0;replace p111:=eq_true p111;replace q111:=eq_true q111
       go_wp2_with (first|((with_reducible refine Zq (f:=16) rfl ?_);refine ZG (some 20) rfl rfl Try.func16 (by kernel_rfl) rfl #[.slice A111_0 (Zp l0 x15_1).length c111_0] rfl zz125 ?_;(with_reducible refine(perm_Check.calls _ _ (Zp l0 x15_1) t112 _ ?side1 ?side2 A6.out).mono ?_);(case side1=>exact zC (Kd.C_below HR111_0.out HB.out));(case side2=>exact HC111_0.out);rintro e w8 ⟨rfl,hb⟩;refine⟨_,rfl,?_⟩;replace HB:=aM (Ze zz126 hb);(try clear hb);(try clear hb2);(try clear hk);(try clear hi)))
       go_roundg k1
       case measure=>have:=HK1.out;omega
       case rel=>exact⟨(wrap64 (x15_1+1)),zz152,H',⟨zz161⟩,⟨zz126⟩⟩
      rw[if_neg c7] at H;have c7b0:=beq_eq_false_iff_ne.mpr c7;have c7b1:=bne_iff_ne.mpr c7;simp only[Option.some.injEq,Prod.mk.injEq] at H;obtain⟨rfl,rfl⟩:=H;have p111:0≤(x15_1:Int):=oD zz151;have q111:x15_1<(l0.length:Int):=oD zz151;obtain⟨ad111,A111_0,c111_0,e111,hx111_0,hl111_0,hi111_0⟩:=ZY HR0.out x15_1 p111 q111
      cases e111;replace hx111_0:=(HB.out.cell (wB w _ hx111_0)).trans hx111_0;have HR111_0:=aM hi111_0;have HC111_0:=aM hl111_0;clear hi111_0 hl111_0;replace p111:=eq_true p111;replace q111:=eq_true q111
      go_wp2_with (first|((with_reducible refine Zq (f:=16) rfl ?_);refine ZG (some 20) rfl rfl Try.func16 (by kernel_rfl) rfl #[.slice A111_0 (Zp l0 x15_1).length c111_0] rfl zz125 ?_;(with_reducible refine(perm_Check.calls _ _ (Zp l0 x15_1) t112 _ ?side1 ?side2 A6.out).mono ?_);(case side1=>exact zC (Kd.C_below HR111_0.out HB.out));(case side2=>exact HC111_0.out);rintro e w9 ⟨rfl,hb⟩;refine⟨_,rfl,?_⟩;replace HB:=aM (Ze zz126 hb);(try clear hb);(try clear hb2);(try clear hk);(try clear hi)))
      go_ret2
      exact⟨_,by first|rfl|(simp[Zj,Zi]<;>rfl)|(simp[*,Zj,Zi]<;>rfl),by first|exact Kd.R_nil _ _ _ _ _|exact Kd.N_nil _ _ _ _ _|exact Kd.V_nil _ _ _ _ _|exact Kd.Q_nil _ _ _ _ _|exact Kd.S_nil _ _ _ _ _,by repeat(first|(with_reducible first|exact HB.out|apply Zn|apply Zf|apply Zh)|exact HB.out)⟩
     rw[if_neg c5] at H
     exact absurd H (by simp)
    rw[if_neg c4] at H
    exact absurd H (by simp)
   rw[if_neg c3] at H;have c3b0:=dF c3;clear c3
   by_cases c10:0<(l0.length:Int)
   ·rw [if_pos c10] at H;have c10b0:=dT c10;have c10b1:decide (0<l0.length)=true:=dT (by omega);clear c10;replace H:=oB H;obtain⟨t114,A110,H⟩:=H;replace H:(perm_Compose.l1 k1 t114 l0 (l0.length:Int) 0)=some (r1,r2):=H;have A11:=aM A110;clear A110;have H':=aM H;clear H;have p113:0≤(0:Int):=(by omega);have q113:0<(l0.length:Int):=oD zz151;obtain⟨ad113,A113_0,c113_0,e113,hx113_0,hl113_0,hi113_0⟩:=ZY HR0.out 0 p113 q113
    cases e113;have qi113:(0<l0.length)=True:=eq_true (by omega)
    (try rw[show((0:Int)).toNat=0 from rfl] at hx113_0)
    (try rw[Addr.add_zero'] at hx113_0)
    replace hx113_0:=(HB.out.cell (wB w _ hx113_0)).trans hx113_0;have HR113_0:=aM hi113_0;have HC113_0:=aM hl113_0;clear hi113_0 hl113_0;replace p113:=eq_true p113;replace q113:=eq_true q113
    go_wp2_with (first|((with_reducible refine Zq (f:=49) rfl ?_);refine ZG (some 29) rfl rfl Try.func49 (by kernel_rfl) rfl #[.int .i64 ((Zp l0 0).length:Int)] rfl zz125 ?_;(with_reducible refine(perm_identity.calls k1 ((Zp l0 0).length:Int) t114 _ A11.out).mono ?_);rintro e w12 ⟨v115,rfl,ho0,hb⟩;refine⟨_,rfl,?_⟩;have HO116:=aM (Kd.R_lower ho0 (Zc zz126));replace HB:=aM (Ze zz126 hb);(try clear hb);(try clear hb2);(try clear hk);(try clear hi);(try clear ho0)))
    go_loopg [7,32] k1 (fun kq v7 v32 w'=>∃(x7_2:List Int) (x32_2:Int),v32= .int .i64 x32_2∧Aside0 (perm_Compose.l1 kq x7_2 l0 (l0.length:Int) x32_2=some (r1,r2))∧Aside0 (kq≤k1)∧Aside0 (Kd.R (Kd.int .i64) 3 w' w.heap.size (fun _=>True) v7 x7_2)∧Aside0 (Below w.heap.size w w'))
    case atStart=>exact⟨(t114),(0),zz152,H',⟨Nat.le_refl _⟩,⟨(zR HO116)⟩,⟨zz126⟩⟩
    case round =>
     clear H';(try clear c1);(try clear p1);(try clear q1);(try clear hx1);(try clear qi1);(try clear c2);(try clear c2b0);(try clear c2b1);(try clear c2b2);(try clear p2);(try clear c3);(try clear c3b0);(try clear c4);(try clear c4b0);(try clear c5);(try clear c5b0);(try clear p6);(try clear c7);(try clear c7b0);(try clear c7b1);(try clear c10);(try clear c10b0);(try clear c10b1);(try clear c11);(try clear p11);(try clear q11);(try clear hx11);(try clear qi11);(try clear hx111_0);(try clear hx113_0);(try clear p111);(try clear p113);(try clear p2);(try clear q111);(try clear q113);obtain⟨x7_2,x32_2,rfl,HA,HK2,HO_7,HB⟩:=hrel
     cases gk with
     |zero=>exact absurd HA.out (by simp[perm_Compose.l1])
     | succ k2=>
      have H:=HA.out;clear HA;simp only[perm_Compose.l1] at H
      by_cases c13:x32_2<(l0.length:Int)
      ·rw [if_pos c13] at H;have c13b0:=dT c13;clear c13
       by_cases c14:0≤x32_2
       ·rw [if_pos c14] at H;have c14b0:=dT c14;clear c14
        by_cases c15:x32_2<(l0.length:Int)
        ·rw [if_pos c15] at H;have c15b0:=dT c15;clear c15
         by_cases c16:((Zp l0 x32_2).length:Int)=(x7_2.length:Int)
         ·rw[if_pos c16] at H;have c16b0:=beq_iff_eq.mpr c16;have c16b1:=bne_eq_false_iff_eq.mpr c16;have c16b2:((Zp l0 x32_2).length==x7_2.length)=true:=by first|simpa using c16|(simp at c16⊢;omega)
          clear c16;replace H:=oB H;obtain⟨t118,A170,H⟩:=H;replace H:(perm_Compose.l1 k2 t118 l0 (l0.length:Int) (wrap64 (x32_2+1)))=some (r1,r2):=H;have A17:=aM A170;clear A170;have H':=aM H;clear H;have p117:0≤(x32_2:Int):=oD zz151;have q117:x32_2<(l0.length:Int):=oD zz151;obtain⟨ad117,A117_0,c117_0,e117,hx117_0,hl117_0,hi117_0⟩:=ZY HR0.out x32_2 p117 q117;obtain rfl:ad113=ad117:=(by injection e117);replace hx117_0:=(HB.out.cell (wB w _ hx117_0)).trans hx117_0;have HR117_0:=aM hi117_0;have HC117_0:=aM hl117_0;clear hi117_0 hl117_0;replace p117:=eq_true p117;replace q117:=eq_true q117;obtain⟨Ao18,co18,eo18⟩:=Kd.R_slice HO_7.out;subst eo18
          go_wp2_with (first|((with_reducible refine Zq (f:=50) rfl ?_);refine ZG (some 43) rfl rfl Try.func50 (by kernel_rfl) rfl #[.slice Ao18 x7_2.length co18,.slice A117_0 (Zp l0 x32_2).length c117_0] rfl zz125 ?_;(with_reducible refine(perm_then.calls k2 _ _ x7_2 _ _ (Zp l0 x32_2) t118 _ ?side1 ?side2 ?side3 ?side4 A17.out).mono ?_);(case side1=>exact zC ((Kd.R_reads' HO_7.out).2.2));(case side2=>exact(Kd.R_reads' HO_7.out).2.1);(case side3=>exact zC (Kd.C_below HR117_0.out HB.out));(case side4=>exact HC117_0.out);rintro e w19 ⟨v119,rfl,ho0,hb⟩;refine⟨_,rfl,?_⟩;have HO120:=aM (Kd.R_lower (Kd.R_new' ho0 (Kd.R_lt (zR HO_7))) (Zc zz126));replace HO_7:=aM (Kd.R_elder' (zR HO_7) (Kd.R_base ho0) hb);replace HB:=aM (Ze zz126 hb);(try clear hb);(try clear hb2);(try clear hk);(try clear hi);(try clear ho0)))
          go_roundg k2
          case measure=>have:=HK1.out;have:=HK2.out;omega
          case rel=>exact⟨(t118),(wrap64 (x32_2+1)),zz152,H',⟨zz153⟩,⟨(by(with_reducible repeat(first|apply Kd.R_alloc|apply Kd.R_drewN|apply Kd.R_drew));exact Kd.R_mono HO120.out (fun _ hk=>trivial))⟩,⟨zz126⟩⟩
         rw[if_neg c16] at H;have c16b0:=beq_eq_false_iff_ne.mpr c16;have c16b1:=bne_iff_ne.mpr c16;have c16b2:((Zp l0 x32_2).length==x7_2.length)=false:=by first|simpa using c16|(simp at c16⊢;omega)
         simp only[Option.some.injEq,Prod.mk.injEq] at H;obtain⟨rfl,rfl⟩:=H;have p117:0≤(x32_2:Int):=oD zz151;have q117:x32_2<(l0.length:Int):=oD zz151;obtain⟨ad117,A117_0,c117_0,e117,hx117_0,hl117_0,hi117_0⟩:=ZY HR0.out x32_2 p117 q117;obtain rfl:ad113=ad117:=(by injection e117);replace hx117_0:=(HB.out.cell (wB w _ hx117_0)).trans hx117_0;have HR117_0:=aM hi117_0;have HC117_0:=aM hl117_0;clear hi117_0 hl117_0;replace p117:=eq_true p117;replace q117:=eq_true q117;obtain⟨Ao20,co20,eo20⟩:=Kd.R_slice HO_7.out;subst eo20;go_wp2
         go_ret2
         exact⟨_,by first|rfl|(simp[Zj,Zi]<;>rfl)|(simp[*,Zj,Zi]<;>rfl),by first|exact Kd.R_nil _ _ _ _ _|exact Kd.N_nil _ _ _ _ _|exact Kd.V_nil _ _ _ _ _|exact Kd.Q_nil _ _ _ _ _|exact Kd.S_nil _ _ _ _ _,by repeat(first|(with_reducible first|exact HB.out|apply Zn|apply Zf|apply Zh)|exact HB.out)⟩
        rw[if_neg c15] at H
        exact absurd H (by simp)
       rw[if_neg c14] at H
       exact absurd H (by simp)
      rw[if_neg c13] at H;have c13b0:=dF c13;clear c13;simp only[Option.some.injEq,Prod.mk.injEq] at H;obtain⟨rfl,rfl⟩:=H;go_wp2
      go_ret2
      exact⟨_,by first|rfl|(simp[Zj,Zi]<;>rfl)|(simp[*,Zj,Zi]<;>rfl),by(with_reducible repeat(first|apply Kd.R_alloc|apply Kd.R_drewN|apply Kd.R_drew));exact HO_7.out,by repeat(first|(with_reducible first|exact HB.out|apply Zn|apply Zf|apply Zh)|exact HB.out)⟩
   rw[if_neg c10] at H
   exact absurd H (by simp)
def perm_Inverse.f (k:Nat) (l0:List Int):Option (List Int×Int):=(perm_Check.f l0).bind fun t128=>(if t128=0 then((perm_inverse.f k l0).bind fun t129=>(some (t129,0))) else(some (([]:List Int),t128)))
theorem perm_Inverse.calls (k:Nat) (A0:Option Addr) (c0:Nat) (l0:List Int) (r1:List Int) (r2:Int) (w:World) (hr0:Kd.C (Kd.int .i64) w A0 l0.length l0) (hc0:l0.length≤c0) (h:perm_Inverse.f k l0=some (r1,r2)):
    Calls Try.prog 18 #[.slice A0 l0.length c0] w fun e w'=>∃v0_:Value,e= .returned (.tuple #[v0_,.int .i64 r2])∧Kd.R (Kd.int .i64) 3 w' w.heap.size (fun _=>True) v0_ r1∧Below w.heap.size w w':=by
 have HR0:=aM hr0
 have HC0:=aM hc0
 clear hr0 hc0
 have HB:=aM (Below.refl w.heap.size w)
 have H:((perm_Check.f l0).bind fun t128=>(if t128=0 then((perm_inverse.f k l0).bind fun t129=>(some (t129,0))) else(some (([]:List Int),t128))))=some (r1,r2):=h
 clear h
 replace H:=oB H
 obtain⟨t128,A20,H⟩:=H
 replace H:(if t128=0 then((perm_inverse.f k l0).bind fun t129=>(some (t129,0))) else(some (([]:List Int),t128)))=some (r1,r2):=H
 have A2:=aM A20
 clear A20
 by_cases c3:t128=0
 ·rw[if_pos c3] at H
  have c3b0:=beq_iff_eq.mpr c3;have c3b1:=bne_eq_false_iff_eq.mpr c3;clear c3;replace H:=oB H;obtain⟨t129,A40,H⟩:=H;replace H:(some (t129,0))=some (r1,r2):=H;have A4:=aM A40;clear A40;simp only[Option.some.injEq,Prod.mk.injEq] at H;obtain⟨rfl,rfl⟩:=H
  go_enter Try.func18,Try.ntmps18
  go_wp2_with (first|((with_reducible refine Zq (f:=16) rfl ?_);refine ZG (some 6) rfl rfl Try.func16 (by kernel_rfl) rfl #[.slice A0 l0.length c0] rfl zz125 ?_;(with_reducible refine(perm_Check.calls _ _ l0 t128 _ ?side1 ?side2 A2.out).mono ?_);(case side1=>exact zC HR0.out);(case side2=>exact HC0.out);rintro e w5 ⟨rfl,hb⟩;refine⟨_,rfl,?_⟩;replace HB:=aM (Ze zz126 hb);(try clear hb);(try clear hb2);(try clear hk);(try clear hi))|((with_reducible refine Zq (f:=55) rfl ?_);refine ZG (some 11) rfl rfl Try.func55 (by kernel_rfl) rfl #[.slice A0 l0.length c0] rfl zz125 ?_;(with_reducible refine(perm_inverse.calls k _ _ l0 t129 _ ?side1 ?side2 A4.out).mono ?_);(case side1=>exact zC (Kd.C_below HR0.out HB.out));(case side2=>exact HC0.out);rintro e w6 ⟨v130,rfl,ho0,hb⟩;refine⟨_,rfl,?_⟩;have HO131:=aM (Kd.R_lower ho0 (Zc zz126));replace HB:=aM (Ze zz126 hb);(try clear hb);(try clear hb2);(try clear hk);(try clear hi);(try clear ho0)))
  go_ret2
  exact⟨_,by first|rfl|(simp[Zj,Zi]<;>rfl)|(simp[*,Zj,Zi]<;>rfl),by(with_reducible repeat(first|apply Kd.R_alloc|apply Kd.R_drewN|apply Kd.R_drew));exact HO131.out,by repeat(first|(with_reducible first|exact HB.out|apply Zn|apply Zf|apply Zh)|exact HB.out)⟩
 rw[if_neg c3] at H
 have c3b0:=beq_eq_false_iff_ne.mpr c3
 have c3b1:=bne_iff_ne.mpr c3
 simp only[Option.some.injEq,Prod.mk.injEq] at H
 obtain⟨rfl,rfl⟩:=H
 go_enter Try.func18,Try.ntmps18
 go_wp2_with (first|((with_reducible refine Zq (f:=16) rfl ?_);refine ZG (some 6) rfl rfl Try.func16 (by kernel_rfl) rfl #[.slice A0 l0.length c0] rfl zz125 ?_;(with_reducible refine(perm_Check.calls _ _ l0 t128 _ ?side1 ?side2 A2.out).mono ?_);(case side1=>exact zC HR0.out);(case side2=>exact HC0.out);rintro e w7 ⟨rfl,hb⟩;refine⟨_,rfl,?_⟩;replace HB:=aM (Ze zz126 hb);(try clear hb);(try clear hb2);(try clear hk);(try clear hi)))
 go_ret2
 exact⟨_,by first|rfl|(simp[Zj,Zi]<;>rfl)|(simp[*,Zj,Zi]<;>rfl),by first|exact Kd.R_nil _ _ _ _ _|exact Kd.N_nil _ _ _ _ _|exact Kd.V_nil _ _ _ _ _|exact Kd.Q_nil _ _ _ _ _|exact Kd.S_nil _ _ _ _ _,by repeat(first|(with_reducible first|exact HB.out|apply Zn|apply Zf|apply Zh)|exact HB.out)⟩
mutual
def perm_Cycles.l0:Nat→List Int→List (List Int)→List Bool→Int→Int→Option ((List (List Int))×Int)
 |0,_,_,_,_,_=>none
 |k+1,x0,x5,x6,x19,x20=>if x20<x19 then(perm_Cycles.l1 k x0 x5 x6 ([]:List Int) x20 x19 x20) else(some (x5,0))
def perm_Cycles.l1:Nat→List Int→List (List Int)→List Bool→List Int→Int→Int→Int→Option ((List (List Int))×Int)
 |0,_,_,_,_,_,_,_=>none
 |k+1,x0,x5,x6,x8,x9,x19,x20=>if 0≤x9 then(if x9<(x6.length:Int) then(if rdOf false x6 x9=true then(if(x8.length:Int)>1 then(if x5.length<5864062014805 then(perm_Cycles.l0 k x0 (x5++ [x8]) x6 x19 (wrap64 (x20+1))) else(none)) else(perm_Cycles.l0 k x0 x5 x6 x19 (wrap64 (x20+1)))) else(if x8.length<17592186044416 then(if x9<(x0.length:Int) then(perm_Cycles.l1 k x0 x5 (x6.set (x9:Int).toNat true) (x8++ [x9]) (rd x0 x9) x19 x20) else(none)) else(none))) else(none)) else(none)
end
def perm_Cycles.f (k:Nat) (l0:List Int):Option ((List (List Int))×Int):=(perm_Check.f l0).bind fun t132=>(if t132=0 then(if 0≤(l0.length:Int) then(if((l0.length:Int):Int).toNat≤281474976710656 then(perm_Cycles.l0 k l0 ([]:List (List Int)) (List.replicate ((l0.length:Int):Int).toNat false) (l0.length:Int) 0) else(none)) else(none)) else(some (([]:List (List Int)),t132)))
theorem perm_Cycles.calls (k :Nat) (A0:Option Addr) (c0:Nat) (l0:List Int) (r1:List (List Int)) (r2:Int) (w:World) (hr0:Kd.C (Kd.int .i64) w A0 l0.length l0) (hc0:l0.length≤c0) (h:perm_Cycles.f k l0=some (r1,r2)):
    Calls Try.prog 20 #[.slice A0 l0.length c0] w fun e w'=>∃v0_:Value,e= .returned (.tuple #[v0_,.int .i64 r2])∧Kd.S (Kd.slice 3 (Kd.int .i64)) 22 w' w.heap.size (fun _=>True) v0_ r1∧Below w.heap.size w w':=by
 have HR0:=aM hr0
 have HC0:=aM hc0
 clear hr0 hc0
 have HB:=aM (Below.refl w.heap.size w)
 have H:((perm_Check.f l0).bind fun t132=>(if t132=0 then(if 0≤(l0.length:Int) then(if((l0.length:Int):Int).toNat≤281474976710656 then(perm_Cycles.l0 k l0 ([]:List (List Int)) (List.replicate ((l0.length:Int):Int).toNat false) (l0.length:Int) 0) else(none)) else(none)) else(some (([]:List (List Int)),t132))))=some (r1,r2):=h
 clear h
 replace H:=oB H
 obtain⟨t132,A20,H⟩:=H
 replace H:(if t132=0 then(if 0≤(l0.length:Int) then(if((l0.length:Int):Int).toNat≤281474976710656 then(perm_Cycles.l0 k l0 ([]:List (List Int)) (List.replicate ((l0.length:Int):Int).toNat false) (l0.length:Int) 0) else(none)) else(none)) else(some (([]:List (List Int)),t132)))=some (r1,r2):=H
 have A2:=aM A20
 clear A20
 by_cases c3:t132=0
 ·rw [if_pos c3] at H
  have c3b0:=beq_iff_eq.mpr c3;have c3b1:=bne_eq_false_iff_eq.mpr c3;clear c3
  by_cases c4:0≤(l0.length:Int)
  ·rw [if_pos c4] at H; have c4b0:=eq_true c4;have c4b1:=dT c4;clear c4
   by_cases c5:((l0.length:Int):Int).toNat≤281474976710656
   ·rw [if_pos c5] at H; have c5b0:=eq_true c5;have c5b1:=dT c5;clear c5;obtain⟨y133,hy133⟩:∃y_:List Bool,y_=(List.replicate ((l0.length:Int):Int).toNat false):=⟨_,rfl⟩;replace H:(perm_Cycles.l0 k l0 ([]:List (List Int)) y133 (l0.length:Int) 0)=some (r1,r2):=by first|(rw[hy133];with_reducible exact H)|(have H2_:=(Option.bind_some _ _).symm.trans H;rw[hy133];with_reducible exact H2_)|(have H2_:=(Option.bind_some _ _).symm.trans H;with_reducible exact H2_)|with_reducible exact H|(rw[hy133];exact H)|exact H
    have Ny133:=aM hy133;clear hy133;have H':=aM H;clear H
    go_enter Try.func20,Try.ntmps20
    go_wp2_with (first|((with_reducible refine Zq (f:=16) rfl ?_);refine ZG (some 11) rfl rfl Try.func16 (by kernel_rfl) rfl #[.slice A0 l0.length c0] rfl zz125 ?_;(with_reducible refine(perm_Check.calls _ _ l0 t132 _ ?side1 ?side2 A2.out).mono ?_);(case side1=>exact zC HR0.out);(case side2=>exact HC0.out);rintro e w6 ⟨rfl,hb⟩;refine⟨_,rfl,?_⟩;replace HB:=aM (Ze zz126 hb);(try clear hb);(try clear hb2);(try clear hk);(try clear hi))|((with_reducible refine Zr (N:=17) rfl ?_);refine Kd.R_make Kd.bool _ 4 rfl (N:=17) rfl 83 _ _ rfl (l0.length:Int) rfl rfl Try.underlying83 (.bool false) 1 info4 rfl (by decide) (by omega) false (ok:=fun _=>True) (okp:=fun _=>True) rfl (fun _ hk=>hk) trivial (oD zz151) (Nat.le_trans (Nat.mul_le_mul_right _ (oD zz151:(l0.length:Int).toNat≤281474976710656)) (by omega)) (Below.refl _ _) (Nat.le_refl _) ?_;intro v134 w7 ho8 hb hg_ hnew_;clear hg_ hnew_;(first|rw[←Ny133.out] at ho8|(simp only[Int.reduceToNat] at ho8;rw[←Ny133.out] at ho8));have HO135:=aM (Kd.R_lower ho8 (Zc zz126));replace HB:=aM (Ze zz126 hb);clear hb ho8))
    go_loopg [5,20] k (fun kq v5 v20 w'=>∃(x5_1:List (List Int)) (x6_1:List Bool) (x20_1:Int),v20= .int .i64 x20_1∧Aside0 (perm_Cycles.l0 kq l0 x5_1 x6_1 (l0.length:Int) x20_1=some (r1,r2))∧Aside0 (kq≤k)∧Aside0 (Kd.S (Kd.slice 3 (Kd.int .i64)) 22 w' w.heap.size (fun _=>True) v5 x5_1)∧Aside0 (Kd.R Kd.bool 4 w' w.heap.size (fun _=>True) v134 x6_1)∧Aside0 (Below w.heap.size w w'))
    case atStart=>exact⟨(([]:List (List Int))),(y133),(0),zz152,H',⟨Nat.le_refl _⟩,⟨zz123⟩,⟨(zR HO135)⟩,⟨zz126⟩⟩
    case round =>
     clear H';(try clear c1);(try clear c2);(try clear p2);(try clear c3);(try clear c3b0);(try clear c3b1);(try clear c4);(try clear c4b0);(try clear c4b1);(try clear c5);(try clear c5b0);(try clear c5b1);obtain⟨x5_1,x6_1,x20_1,rfl,HA,HK1,HO_5,HO_6,HB⟩:=hrel
     cases gk with
     |zero=>exact absurd HA.out (by simp[perm_Cycles.l0])
     | succ k1=>
      have H:=HA.out;clear HA;simp only[perm_Cycles.l0] at H
      by_cases c9:x20_1<(l0.length:Int)
      ·rw [if_pos c9] at H;have c9b0:=dT c9;clear c9;have H':=aM H;clear H;go_wp2
       go_loopg [8,9] k1 (fun kq v8 v9 w'=>∃(x6_2:List Bool) (x8_2:List Int) (x9_2:Int),v9= .int .i64 x9_2∧Aside0 (perm_Cycles.l1 kq l0 x5_1 x6_2 x8_2 x9_2 (l0.length:Int) x20_1=some (r1,r2))∧Aside0 (kq≤k1)∧Aside0 (Kd.S (Kd.slice 3 (Kd.int .i64)) 22 w' w.heap.size (fun k_=>some k_≠(v8:Value).ownBlock) u5 x5_1)∧Aside0 (Kd.R Kd.bool 4 w' w.heap.size (fun _=>True) v134 x6_2)∧Aside0 (Kd.R (Kd.int .i64) 3 w' w.heap.size (fun _=>True) v8 x8_2)∧Aside0 (Below w.heap.size w w'))
       case atStart=>exact⟨(x6_1),(([]:List Int)),(x20_1),zz152,H',⟨Nat.le_refl _⟩,⟨(by(with_reducible repeat(first|apply Kd.S_alloc|apply Kd.S_drewN|apply Kd.S_drew));exact Kd.S_mono HO_5.out (fun _ hk=>zz162))⟩,⟨(zR HO_6)⟩,⟨zz124⟩,⟨zz126⟩⟩
       case round =>
        clear H';(try clear c1);(try clear c2);(try clear p2);(try clear c3);(try clear c3b0);(try clear c3b1);(try clear c4);(try clear c4b0);(try clear c4b1);(try clear c5);(try clear c5b0);(try clear c5b1);(try clear c9);(try clear c9b0);(try clear p2);obtain⟨x6_2,x8_2,x9_2,rfl,HA,HK2,HO_5,HO_6,HO_8,HB⟩:=hrel
        cases gk with
        |zero=>exact absurd HA.out (by simp[perm_Cycles.l1])
        | succ k2=>
         have H:=HA.out;clear HA;simp only[perm_Cycles.l1] at H
         by_cases c10:0≤x9_2
         ·rw [if_pos c10] at H;have c10b0:=dT c10;clear c10
          by_cases c11:x9_2<(x6_2.length:Int)
          ·rw [if_pos c11] at H;have c11b0:=dT c11;clear c11;obtain⟨bq12,hbq12⟩:∃b_:Bool,b_=(rdOf false x6_2 x9_2):=⟨_,rfl⟩;replace H:(if bq12=true then(if(x8_2.length:Int)>1 then(if x5_1.length<5864062014805 then(perm_Cycles.l0 k2 l0 (x5_1++ [x8_2]) x6_2 (l0.length:Int) (wrap64 (x20_1+1))) else(none)) else(perm_Cycles.l0 k2 l0 x5_1 x6_2 (l0.length:Int) (wrap64 (x20_1+1)))) else(if x8_2.length<17592186044416 then(if x9_2<(l0.length:Int) then(perm_Cycles.l1 k2 l0 x5_1 (x6_2.set (x9_2:Int).toNat true) (x8_2++ [x9_2]) (rd l0 x9_2) (l0.length:Int) x20_1) else(none)) else(none)))=some (r1,r2):=by rw[←hbq12] at H;exact H
           have Nbq12:=aM hbq12;clear hbq12
           by_cases c13:bq12=true
           ·subst c13;have H1:(if(x8_2.length:Int)>1 then(if x5_1.length<5864062014805 then(perm_Cycles.l0 k2 l0 (x5_1++ [x8_2]) x6_2 (l0.length:Int) (wrap64 (x20_1+1))) else(none)) else(perm_Cycles.l0 k2 l0 x5_1 x6_2 (l0.length:Int) (wrap64 (x20_1+1))))=some (r1,r2):=by rw[if_pos rfl] at H;exact H
            clear H;have H:=H1;clear H1
            by_cases c14:(x8_2.length:Int)>1
            ·rw [if_pos c14] at H;have c14b0:=dT c14;have c14b1:decide (1<x8_2.length)=true:=dT (by omega);clear c14
             by_cases c15:x5_1.length<5864062014805
             ·rw[if_pos c15] at H;have LMc15:=aM c15;clear c15;obtain⟨y137,hy137⟩:∃y_:List (List Int),y_=(x5_1++ [x8_2]):=⟨_,rfl⟩;replace H:(perm_Cycles.l0 k2 l0 y137 x6_2 (l0.length:Int) (wrap64 (x20_1+1)))=some (r1,r2):=by first|(rw[hy137];with_reducible exact H)|(have H2_:=(Option.bind_some _ _).symm.trans H;rw[hy137];with_reducible exact H2_)|(have H2_:=(Option.bind_some _ _).symm.trans H;with_reducible exact H2_)|with_reducible exact H|(rw[hy137];exact H)|exact H
              have Ny137:=aM hy137;clear hy137;have H':=aM H;clear H;obtain⟨Ao16,co16,eo16⟩:=Kd.R_slice HO_6.out;subst eo16;have p136:0≤(x9_2:Int):=oD zz151;have q136:x9_2<(x6_2.length:Int):=oD zz151;obtain⟨ad136,e136,hx136_0⟩:=Kd.at_bool (Kd.R_reads' HO_6.out).2.2 x9_2 p136 q136
              (try rw[←Nbq12.out] at hx136_0)
              cases e136;replace p136:=eq_true p136;replace q136:=eq_true q136;obtain⟨Ao17,co17,eo17⟩:=Kd.R_slice HO_8.out;subst eo17
              go_wp2_with (first|((with_reducible refine ZO (b:= .append) (xs:= #[.tmp 43,.tmp 45]) rfl ?_);at_builtin;refine Kd.S_append (Kd.slice 3 (Kd.int .i64)) (w0:=w) w.heap.size rfl (.tmp 43) (.tmp 45) 28 22 (.slice none 0 0) 24 rfl Try.underlying28 info22 rfl (by decide) (by omega) u5 x5_1 x8_2 [.slice Ao17 x8_2.length co17] (fun _=>True) (fun k_=>some k_=(.slice Ao17 x8_2.length co17:Value).ownBlock) rfl rfl ?aP (fun k_ hk_=>((Kd.R_mono (ok':=fun k_=>((fun _=>True)) k_∧some k_≠(u5:Value).ownBlock) (Kd.R_apart' (HO_8.out) (Kd.S_typed HO_5.out) (by decide)) (fun k_ hk=>⟨trivial,hk.2⟩))).1 k_ hk_.symm) ?aF ?aO ?aB ?aS ?aL ?_;(case aP=>exact Kd.M_row (Kd.R_mono (Kd.R_tight rfl (Kd.R_mono (ok':=fun k_=>((fun _=>True)) k_∧some k_≠(u5:Value).ownBlock) (Kd.R_apart' (HO_8.out) (Kd.S_typed HO_5.out) (by decide)) (fun k_ hk=>⟨trivial,hk.2⟩))) (fun _ h_=>h_)));(case aB=>exact zz126);(case aF=>exact(fun _ _=>trivial));(case aO=>exact(by(with_reducible repeat(first|apply Kd.S_alloc|apply Kd.S_drewN|apply Kd.S_drew));exact Kd.S_mono HO_5.out (fun k_ hk=>⟨trivial,fun e_=>hk e_⟩)));(case aS=>exact(Zc zz126));(case aL=>have:=LMc15.out;omega);intro v138 w18 ho hb hg hat;rw[←Ny137.out] at ho;replace HO_6:=aM (Kd.R_over' (zR HO_6) (Kd.S_typed (zS HO_5)) (by decide) hg);replace HB:=aM (hb);have HO139:=aM (ho);clear HO_5 HO_8;clear ho hb hg hat))
              go_roundg k2
              case measure=>have:=HK1.out;have:=HK2.out;omega
              case rel=>exact⟨(y137),(x6_2),(wrap64 (x20_1+1)),zz152,H',⟨zz153⟩,⟨(zS HO139)⟩,⟨(zR HO_6)⟩,⟨zz126⟩⟩
             rw[if_neg c15] at H
             exact absurd H (by simp)
            rw[if_neg c14] at H;have c14b0:=dF c14;have c14b1:decide (1<x8_2.length)=false:=dF (by omega);clear c14;have H':=aM H;clear H;obtain⟨Ao19,co19,eo19⟩:=Kd.R_slice HO_6.out;subst eo19;have p136:0≤(x9_2:Int):=oD zz151;have q136:x9_2<(x6_2.length:Int):=oD zz151;obtain⟨ad136,e136,hx136_0⟩:=Kd.at_bool (Kd.R_reads' HO_6.out).2.2 x9_2 p136 q136
            (try rw[←Nbq12.out] at hx136_0)
            cases e136;replace p136:=eq_true p136;replace q136:=eq_true q136;obtain⟨Ao20,co20,eo20⟩:=Kd.R_slice HO_8.out;subst eo20;go_wp2
            go_roundg k2
            case measure=>have:=HK1.out;have:=HK2.out;omega
            case rel=>exact⟨(x5_1),(x6_2),(wrap64 (x20_1+1)),zz152,H',⟨zz153⟩,⟨(by(with_reducible repeat(first|apply Kd.S_alloc|apply Kd.S_drewN|apply Kd.S_drew));exact Kd.S_mono HO_5.out (fun _ hk=>trivial))⟩,⟨(zR HO_6)⟩,⟨zz126⟩⟩
           replace c13:=Bool.eq_false_iff.mpr c13;subst c13;have H1:(if x8_2.length<17592186044416 then(if x9_2<(l0.length:Int) then(perm_Cycles.l1 k2 l0 x5_1 (x6_2.set (x9_2:Int).toNat true) (x8_2++ [x9_2]) (rd l0 x9_2) (l0.length:Int) x20_1) else(none)) else(none))=some (r1,r2):=by rw[if_neg (show¬(false=true) by decide)] at H;exact H
           clear H;have H:=H1;clear H1;obtain⟨y140,hy140⟩:∃y_:List Bool,y_=(x6_2.set (x9_2:Int).toNat true):=⟨_,rfl⟩;replace H:(if x8_2.length<17592186044416 then(if x9_2<(l0.length:Int) then(perm_Cycles.l1 k2 l0 x5_1 y140 (x8_2++ [x9_2]) (rd l0 x9_2) (l0.length:Int) x20_1) else(none)) else(none))=some (r1,r2):=by first|(rw[hy140];with_reducible exact H)|(have H2_:=(Option.bind_some _ _).symm.trans H;rw[hy140];with_reducible exact H2_)|(have H2_:=(Option.bind_some _ _).symm.trans H;with_reducible exact H2_)|with_reducible exact H|(rw[hy140];exact H)|exact H
           have Ny140:=aM hy140;clear hy140
           by_cases c22:x8_2.length<17592186044416
           ·rw [if_pos c22] at H;have LMc22:=aM c22;clear c22;obtain⟨y141,hy141⟩:∃y_:List Int,y_=(x8_2++ [x9_2]):=⟨_,rfl⟩;replace H:(if x9_2<(l0.length:Int) then(perm_Cycles.l1 k2 l0 x5_1 y140 y141 (rd l0 x9_2) (l0.length:Int) x20_1) else(none))=some (r1,r2):=by first|(rw[hy141];with_reducible exact H)|(have H2_:=(Option.bind_some _ _).symm.trans H;rw[hy141];with_reducible exact H2_)|(have H2_:=(Option.bind_some _ _).symm.trans H;with_reducible exact H2_)|with_reducible exact H|(rw[hy141];exact H)|exact H
            have Ny141:=aM hy141;clear hy141
            by_cases c23:x9_2<(l0.length:Int)
            ·rw[if_pos c23] at H;have c23b0:=dT c23;clear c23;have H':=aM H;clear H;obtain⟨Ao24,co24,eo24⟩:=Kd.R_slice HO_6.out;subst eo24;have p136:0≤(x9_2:Int):=oD zz151;have q136:x9_2<(x6_2.length:Int):=oD zz151;obtain⟨ad136,e136,hx136_0⟩:=Kd.at_bool (Kd.R_reads' HO_6.out).2.2 x9_2 p136 q136
             (try rw[←Nbq12.out] at hx136_0)
             cases e136;replace p136:=eq_true p136;replace q136:=eq_true q136;have p21:0≤(x9_2:Int):=oD zz151;have q21:(x9_2:Int)<((x6_2.length:Int):Int):=oD zz151;obtain⟨go21,co21,eo21,gb21,gl21,cl21,HG21⟩:=Kd.R_form HO_6.out (by omega)
             (first|cases eo21|(injection eo21 with ea_ en_ ec_;(first|subst ea_|(injection ea_ with ea_;subst ea_));subst ec_;clear en_))
             have GB21:=aM gb21;have GG21:=aM HG21;clear gb21 gl21 HG21
             (first|simp only[Z2] at hx136_0|skip)
             obtain⟨hx21_0,hf21_0⟩:=Kd.R_celln false HO_6.out (x9_2:Int) p21 q21;replace p21:=eq_true p21;replace q21:=eq_true q21;have HP25:=Kd.R_putg HO_6.out (x9_2:Int) true
             go_wp2_with (first|((with_reducible refine ZP (t:=4) (p:=35) rfl ?_);refine ZM (t:=4) (p:=35) (v:= ?vo_w26) (w1:=(wr.setCell ⟨go21,(x9_2:Int).toNat,none⟩ (.bool true))) ?hg ?ho ?hn ?hr ?_;(case ho=>rfl);(case hg=>rfl);(case hn=>rfl);(case hr=>first|(go_simp;done)|(go_simp;rfl));intro w26 hw;have hg:wr.grownBy w26 (some go21):=(by rw[hw];exact HP25.2);have hp_:Kd.R Kd.bool 4 w26 w.heap.size (fun _=>True) (.slice (some ⟨go21,0,none⟩) x6_2.length co24) y140:=(by rw[hw,Ny140.out];exact HP25.1);clear HP25;replace HO_5:=aM (Kd.S_over' (v:=(.slice (some ⟨go21,0,none⟩) x6_2.length co24)) (zS HO_5) (Kd.R_typed HO_6.out) (by decide) hg);replace HO_8:=aM (Kd.R_over' (v:=(.slice (some ⟨go21,0,none⟩) x6_2.length co24)) (zR HO_8) (Kd.R_typed HO_6.out) (by decide) hg);replace HO_6:=aM (hp_);replace HB:=aM ((by rw[hw];exact Zk (HB.out) GB21.out:Below w.heap.size w w26));clear hg hw hp_)|((with_reducible refine ZO (b:= .append) (xs:= #[.tmp 36,.tmp 38]) rfl ?_);at_builtin;refine Kd.R_append (Kd.int .i64) (w0:=w) w.heap.size rfl (.tmp 36) (.tmp 38) 22 3 (.int .i64 0) 8 rfl Try.underlying22 info3 rfl (by decide) (by omega) u8 x8_2 x9_2 [.int .i64 x9_2] (fun _=>True) (fun _=>False) rfl rfl ?aP (fun _ hk=>hk.elim) ?aF ?aO ?aB ?aS ?aL ?_;(case aP=>exact rfl);(case aB=>exact zz126);(case aF=>exact(fun _ _=>trivial));(case aO=>exact(zR HO_8));(case aS=>exact(Zc zz126));(case aL=>have:=LMc22.out;omega);intro v142 w27 ho hb hg hat;rw[←Ny141.out] at ho;replace HO_5:=aM (Kd.S_after (ok:=(fun _=>True)) (by(with_reducible repeat(first|apply Kd.S_alloc|apply Kd.S_drewN|apply Kd.S_drew));exact Kd.S_mono HO_5.out (fun _ hk=>⟨trivial,hk⟩)) hg hat);replace HO_6:=aM (Kd.R_over' (zR HO_6) (Kd.R_typed (zR HO_8)) (by decide) hg);replace HB:=aM (hb);have HO143:=aM (ho);clear HO_8;clear ho hb hg hat;have p144:0≤(x9_2:Int):=oD zz151;have q144:x9_2<(l0.length:Int):=oD zz151;obtain⟨ad144,e144,hx144_0⟩:=Kd.at_int HR0.out x9_2 p144 q144;cases e144;replace hx144_0:=(HB.out.cell (wB w _ hx144_0)).trans hx144_0;replace p144:=eq_true p144;replace q144:=eq_true q144))
             go_roundg k2
             case measure=>have:=HK1.out;have:=HK2.out;omega
             case rel=>exact⟨(y140),(y141),(rd l0 x9_2),zz152,H',⟨zz153⟩,⟨(by(with_reducible repeat(first|apply Kd.S_alloc|apply Kd.S_drewN|apply Kd.S_drew));exact Kd.S_mono HO_5.out (fun _ hk=>hk.2))⟩,⟨(zR HO_6)⟩,⟨(zR HO143)⟩,⟨zz126⟩⟩
            rw[if_neg c23] at H
            exact absurd H (by simp)
           rw[if_neg c22] at H
           exact absurd H (by simp)
          rw[if_neg c11] at H
          exact absurd H (by simp)
         rw[if_neg c10] at H
         exact absurd H (by simp)
      rw[if_neg c9] at H;have c9b0:=dF c9;clear c9;simp only[Option.some.injEq,Prod.mk.injEq] at H;obtain⟨rfl,rfl⟩:=H;go_wp2
      go_ret2
      exact⟨_,by first|rfl|(simp[Zj,Zi]<;>rfl)|(simp[*,Zj,Zi]<;>rfl),by(with_reducible repeat(first|apply Kd.S_alloc|apply Kd.S_drewN|apply Kd.S_drew));exact HO_5.out,by repeat(first|(with_reducible first|exact HB.out|apply Zn|apply Zf|apply Zh)|exact HB.out)⟩
   rw[if_neg c5] at H
   exact absurd H (by simp)
  rw[if_neg c4] at H
  exact absurd H (by simp)
 rw[if_neg c3] at H
 have c3b0:=beq_eq_false_iff_ne.mpr c3
 have c3b1:=bne_iff_ne.mpr c3
 simp only[Option.some.injEq,Prod.mk.injEq] at H
 obtain⟨rfl,rfl⟩:=H
 go_enter Try.func20,Try.ntmps20
 go_wp2_with (first|((with_reducible refine Zq (f:=16) rfl ?_);refine ZG (some 11) rfl rfl Try.func16 (by kernel_rfl) rfl #[.slice A0 l0.length c0] rfl zz125 ?_;(with_reducible refine(perm_Check.calls _ _ l0 t132 _ ?side1 ?side2 A2.out).mono ?_);(case side1=>exact zC HR0.out);(case side2=>exact HC0.out);rintro e w28 ⟨rfl,hb⟩;refine⟨_,rfl,?_⟩;replace HB:=aM (Ze zz126 hb);(try clear hb);(try clear hb2);(try clear hk);(try clear hi)))
 go_ret2
 exact⟨_,by first|rfl|(simp[Zj,Zi]<;>rfl)|(simp[*,Zj,Zi]<;>rfl),by first|exact Kd.S_nil _ _ _ _ _|exact Kd.N_nil _ _ _ _ _|exact Kd.V_nil _ _ _ _ _|exact Kd.Q_nil _ _ _ _ _|exact Kd.R_nil _ _ _ _ _,by repeat(first|(with_reducible first|exact HB.out|apply Zn|apply Zf|apply Zh)|exact HB.out)⟩
mutual
def perm_Order.l0:Nat→Int→List (List Int)→Int→Int→Option (Int×Int)
 |0,_,_,_,_=>none
 |k+1,x6,x19,x20,x21=>if x21<x20 then(if 0≤x21 then(if x21<(x19.length:Int) then(perm_Order.l1 k x6 (Zp x19 x21) x6 ((Zp x19 x21).length:Int) x19 x20 x21) else(none)) else(none)) else(some (x6,0))
def perm_Order.l1:Nat→Int→List Int→Int→Int→List (List Int)→Int→Int→Option (Int×Int)
 |0,_,_,_,_,_,_,_=>none
 |k+1,x6,x8,x9,x10,x19,x20,x21=>if x10>0 then(if x10=0 then(none) else(perm_Order.l1 k x6 x8 x10 (Int.tmod x9 x10) x19 x20 x21)) else(if x9=0 then(none) else(perm_Order.l0 k (wrap64 ((wrap64 (Int.tdiv x6 x9))*(x8.length:Int))) x19 x20 (wrap64 (x21+1))))
end
def perm_Order.f (k:Nat) (l0:List Int):Option (Int×Int):=(perm_Cycles.f k l0).bind fun bt145=>(if bt145.2=0 then(perm_Order.l0 k 1 bt145.1 (bt145.1.length:Int) 0) else(some (0,bt145.2)))
theorem perm_Order.calls (k:Nat) (A0:Option Addr) (c0:Nat) (l0:List Int) (r1:Int) (r2:Int) (w:World) (hr0:Kd.C (Kd.int .i64) w A0 l0.length l0) (hc0:l0.length≤c0) (h:perm_Order.f k l0=some (r1,r2)):
    Calls Try.prog 22 #[.slice A0 l0.length c0] w fun e w'=>e= .returned (.tuple #[.int .i64 r1,.int .i64 r2])∧Below w.heap.size w w':=by
 have HR0:=aM hr0
 have HC0:=aM hc0
 clear hr0 hc0
 have HB:=aM (Below.refl w.heap.size w)
 have H:((perm_Cycles.f k l0).bind fun bt145=>(if bt145.2=0 then(perm_Order.l0 k 1 bt145.1 (bt145.1.length:Int) 0) else(some (0,bt145.2))))=some (r1,r2):=h
 clear h
 replace H:=oB H
 obtain⟨⟨t145,t146⟩,A20,H⟩:=H
 replace H:(if t146=0 then(perm_Order.l0 k 1 t145 (t145.length:Int) 0) else(some (0,t146)))=some (r1,r2):=H
 have A2:=aM A20
 clear A20
 by_cases c3:t146=0
 ·rw [if_pos c3] at H
  have c3b0:=beq_iff_eq.mpr c3;have c3b1:=bne_eq_false_iff_eq.mpr c3;clear c3;have H':=aM H;clear H
  go_enter Try.func22,Try.ntmps22
  go_wp2_with (first|(go_at_call 20;(with_reducible refine(perm_Cycles.calls k _ _ l0 t145 t146 _ ?side1 ?side2 A2.out).mono ?_);(case side1=>exact zC HR0.out);(case side2=>exact HC0.out);rintro e w4 ⟨v147,rfl,ho0,hb⟩;have HO148:=aM (Kd.S_lower ho0 (Zc zz126));replace HB:=aM (Ze zz126 hb);(try clear hb);(try clear hb2);(try clear hk);(try clear hi);(try clear ho0);obtain⟨Ao5,co5,eo5⟩:=Kd.S_slice HO148.out;subst eo5))
  repeat(go_quiet (first|(go_at_call 20;(with_reducible refine(perm_Cycles.calls k _ _ l0 t145 t146 _ ?side1 ?side2 A2.out).mono ?_);(case side1=>exact zC HR0.out);(case side2=>exact HC0.out);rintro e w4 ⟨v147,rfl,ho0,hb⟩;have HO148:=aM (Kd.S_lower ho0 (Zc zz126));replace HB:=aM (Ze zz126 hb);(try clear hb);(try clear hb2);(try clear hk);(try clear hi);(try clear ho0);obtain⟨Ao5,co5,eo5⟩:=Kd.S_slice HO148.out;subst eo5));try go_wp2_with (first|(go_at_call 20;(with_reducible refine(perm_Cycles.calls k _ _ l0 t145 t146 _ ?side1 ?side2 A2.out).mono ?_);(case side1=>exact zC HR0.out);(case side2=>exact HC0.out);rintro e w4 ⟨v147,rfl,ho0,hb⟩;have HO148:=aM (Kd.S_lower ho0 (Zc zz126));replace HB:=aM (Ze zz126 hb);(try clear hb);(try clear hb2);(try clear hk);(try clear hi);(try clear ho0);obtain⟨Ao5,co5,eo5⟩:=Kd.S_slice HO148.out;subst eo5)))
  go_loopg [6,21] k (fun kq v6 v21 w'=>∃(x6_1:Int) (x21_1:Int),v6= .int .i64 x6_1∧v21= .int .i64 x21_1∧Aside0 (perm_Order.l0 kq x6_1 t145 (t145.length:Int) x21_1=some (r1,r2))∧Aside0 (kq≤k)∧Aside0 (Kd.S (Kd.slice 3 (Kd.int .i64)) 22 w' w.heap.size (fun _=>True) (.slice Ao5 t145.length co5) t145)∧Aside0 (Below w.heap.size w w'))
  case atStart=>exact⟨(1),(0),zz152,zz152,H',⟨Nat.le_refl _⟩,⟨(zS HO148)⟩,⟨zz126⟩⟩
  case round =>
   clear H';(try clear c2);(try clear p2);(try clear c3);(try clear c3b0);(try clear c3b1);obtain⟨x6_1,x21_1,rfl,rfl,HA,HK1,HO_19,HB⟩:=hrel
   cases gk with
   |zero=>exact absurd HA.out (by simp[perm_Order.l0])
   | succ k1=>
    have H:=HA.out;clear HA;simp only[perm_Order.l0] at H
    by_cases c6:x21_1<(t145.length:Int)
    ·rw [if_pos c6] at H;have c6b0:=dT c6;clear c6
     by_cases c7:0≤x21_1
     ·rw [if_pos c7] at H;have c7b0:=dT c7;clear c7
      by_cases c8:x21_1<(t145.length:Int)
      ·rw [if_pos c8] at H;have c8b0:=dT c8;clear c8;have H':=aM H;clear H;have p149:0≤(x21_1:Int):=oD zz151;have q149:x21_1<(t145.length:Int):=oD zz151;obtain⟨ad149,A149_0,c149_0,e149,hx149_0,hl149_0,hi149_0⟩:=ZY (Kd.S_reads' HO_19.out).2.2 x21_1 p149 q149
       cases e149;obtain⟨ce149,hce149,hMe149,hcc149⟩:=Kd.S_get HO_19.out [] x21_1 p149 (by first|exact q149|exact oD zz151|(have e_:=(Kd.S_reads' HO_19.out).1;omega));obtain⟨ve149_0,rfl,ge149_0⟩:=hMe149;have hv149_0:=hcc149 0 _ rfl;rw[Nat.add_zero,show((Kd.slice 3 (Kd.int .i64))).sz=1 from rfl,Nat.mul_one] at hv149_0;replace hv149_0:=oI (hv149_0.symm.trans hx149_0);rw[hv149_0] at ge149_0;have HL149_0:=aM (show Kd.R (Kd.int .i64) 3 _ _ _ _ (Zp t145 x21_1) from ge149_0);clear hv149_0 ge149_0;clear hcc149 hce149;have HR149_0:=aM hi149_0;have HC149_0:=aM hl149_0;clear hi149_0 hl149_0;replace p149:=eq_true p149;replace q149:=eq_true q149;go_wp2
       repeat(go_quiet (fail);try go_wp2)
       go_loopg [9,10] k1 (fun kq v9 v10 w'=>∃(x9_2:Int) (x10_2:Int),v9= .int .i64 x9_2∧v10= .int .i64 x10_2∧Aside0 (perm_Order.l1 kq x6_1 (Zp t145 x21_1) x9_2 x10_2 t145 (t145.length:Int) x21_1=some (r1,r2))∧Aside0 (kq≤k1)∧Aside0 (Kd.S (Kd.slice 3 (Kd.int .i64)) 22 w' w.heap.size (fun _=>True) (.slice (some ad149) t145.length co5) t145)∧Aside0 (Kd.C (Kd.int .i64) w' A149_0 (Zp t145 x21_1).length (Zp t145 x21_1))∧Aside0 (Below w.heap.size w w'))
       case atStart=>exact⟨(x6_1),(((Zp t145 x21_1).length:Int)),zz152,zz152,H',⟨Nat.le_refl _⟩,⟨(zS HO_19)⟩,⟨zz88⟩,⟨zz126⟩⟩
       case round=>
        clear H';(try clear c1);(try clear p1);(try clear q1);(try clear hx1);(try clear c2);(try clear p2);(try clear c3);(try clear c3b0);(try clear c3b1);(try clear c6);(try clear c6b0);(try clear c7);(try clear c7b0);(try clear c8);(try clear c8b0);(try clear hx149_0);(try clear p149);(try clear p2);(try clear q149);obtain⟨x9_2,x10_2,rfl,rfl,HA,HK2,HO_19,HR149_0,HB⟩:=hrel
        cases gk with
        |zero=>exact absurd HA.out (by simp[perm_Order.l1])
        | succ k2=>
         have H:=HA.out;clear HA;simp only[perm_Order.l1] at H
         by_cases c9:x10_2>0
         ·rw [if_pos c9] at H;have c9b0:=dT c9;clear c9
          by_cases c10:x10_2=0
          ·rw[if_pos c10] at H
           exact absurd H (by simp)
          rw[if_neg c10] at H;have c10b0:=beq_eq_false_iff_ne.mpr c10;have c10b1:=bne_iff_ne.mpr c10;have H':=aM H;clear H;go_wp2
          repeat(go_quiet (fail);try go_wp2)
          go_roundg k2
          case measure=>have:=HK1.out;have:=HK2.out;omega
          case rel=>exact⟨(x10_2),(Int.tmod x9_2 x10_2),zz152,zz152,H',⟨zz153⟩,⟨(zS HO_19)⟩,⟨zz88⟩,⟨zz126⟩⟩
         rw[if_neg c9] at H;have c9b0:=dF c9;clear c9
         by_cases c11:x9_2=0
         ·rw[if_pos c11] at H
          exact absurd H (by simp)
         rw[if_neg c11] at H;have c11b0:=beq_eq_false_iff_ne.mpr c11;have c11b1:=bne_iff_ne.mpr c11;have H':=aM H;clear H;go_wp2
         repeat(go_quiet (fail);try go_wp2)
         go_roundg k2
         case measure=>have:=HK1.out;have:=HK2.out;omega
         case rel=>exact⟨(wrap64 ((wrap64 (Int.tdiv x6_1 x9_2))*((Zp t145 x21_1).length:Int))),(wrap64 (x21_1+1)),zz152,zz152,H',⟨zz153⟩,⟨(zS HO_19)⟩,⟨zz126⟩⟩
      rw[if_neg c8] at H
      exact absurd H (by simp)
     rw[if_neg c7] at H
     exact absurd H (by simp)
    rw[if_neg c6] at H;have c6b0:=dF c6;clear c6;simp only[Option.some.injEq,Prod.mk.injEq] at H;obtain⟨rfl,rfl⟩:=H;go_wp2
    repeat(go_quiet (fail);try go_wp2)
    go_ret2
    exact⟨by first|rfl|(simp[Zj,Zi]<;>rfl)|(simp[*,Zj,Zi]<;>rfl),by repeat(first|(with_reducible first|exact HB.out|apply Zn|apply Zf|apply Zh)|exact HB.out)⟩
 rw[if_neg c3] at H
 have c3b0:=beq_eq_false_iff_ne.mpr c3
 have c3b1:=bne_iff_ne.mpr c3
 simp only[Option.some.injEq,Prod.mk.injEq] at H
 obtain⟨rfl,rfl⟩:=H
 go_enter Try.func22,Try.ntmps22
 go_wp2_with (first|(go_at_call 20;(with_reducible refine(perm_Cycles.calls k _ _ l0 t145 t146 _ ?side1 ?side2 A2.out).mono ?_);(case side1=>exact zC HR0.out);(case side2=>exact HC0.out);rintro e w12 ⟨v147,rfl,ho0,hb⟩;have HO148:=aM (Kd.S_lower ho0 (Zc zz126));replace HB:=aM (Ze zz126 hb);(try clear hb);(try clear hb2);(try clear hk);(try clear hi);(try clear ho0)))
 repeat(go_quiet (first|(go_at_call 20;(with_reducible refine(perm_Cycles.calls k _ _ l0 t145 t146 _ ?side1 ?side2 A2.out).mono ?_);(case side1=>exact zC HR0.out);(case side2=>exact HC0.out);rintro e w12 ⟨v147,rfl,ho0,hb⟩;have HO148:=aM (Kd.S_lower ho0 (Zc zz126));replace HB:=aM (Ze zz126 hb);(try clear hb);(try clear hb2);(try clear hk);(try clear hi);(try clear ho0)));try go_wp2_with (first|(go_at_call 20;(with_reducible refine(perm_Cycles.calls k _ _ l0 t145 t146 _ ?side1 ?side2 A2.out).mono ?_);(case side1=>exact zC HR0.out);(case side2=>exact HC0.out);rintro e w12 ⟨v147,rfl,ho0,hb⟩;have HO148:=aM (Kd.S_lower ho0 (Zc zz126));replace HB:=aM (Ze zz126 hb);(try clear hb);(try clear hb2);(try clear hk);(try clear hi);(try clear ho0))))
 go_ret2
 exact⟨by first|rfl|(simp[Zj,Zi]<;>rfl)|(simp[*,Zj,Zi]<;>rfl),by repeat(first|(with_reducible first|exact HB.out|apply Zn|apply Zf|apply Zh)|exact HB.out)⟩
end
section
def sortL (l:List Int):List Int:=l.mergeSort (fun a b=>decide (a≤b))
theorem sortL_perm (l:List Int):(sortL l).Perm l:=List.mergeSort_perm _ _
theorem sortL_sorted (l:List Int):(sortL l).Pairwise (· ≤·):=by
 have:=List.pairwise_mergeSort (le:=fun a b:Int=>decide (a≤b)) (by intro a b c;simp;omega) (by intro a b;simp;omega) l
 exact this.imp (by intro a b h;simpa using h)
theorem sortL_unique {l r:List Int} (hp:r.Perm l) (hs:r.Pairwise (· ≤·)):r=sortL l:=
 (hp.trans (sortL_perm l).symm).eq_of_pairwise (fun a b _ _ h1 h2=>by omega) hs (sortL_sorted l)
theorem sortL_eq_self {l:List Int} (hs:l.Pairwise (· ≤·)):sortL l=l:=(sortL_unique (List.Perm.refl l) hs).symm
def insOne (a:Int):List Int→List Int
 | []=> [a]
 |b::l=>if a≤b then a::b::l else b::insOne a l
def insL:List Int→List Int
 | []=> []
 |a::l=>insOne a (insL l)
theorem insOne_perm (a:Int):∀l,(insOne a l).Perm (a::l)
 | []=>List.Perm.refl _
 | b::l=>by
  unfold insOne
  split
  ·exact List.Perm.refl _
  ·exact((insOne_perm a l).cons b).trans (List.Perm.swap a b l)
theorem insOne_sorted (a:Int):∀ {l:List Int},l.Pairwise (· ≤·)→(insOne a l).Pairwise (· ≤·)
 | [],_=>by simp[insOne]
 | b ::l,h=>by
  have h':=List.pairwise_cons.1 h;unfold insOne
  split
  ·rename_i hab
   refine List.pairwise_cons.2 ⟨fun x hx=> ?_,h⟩
   rcases List.mem_cons.1 hx with rfl|hx
   ·exact hab
   ·have:=h'.1 x hx;omega
  ·refine List.pairwise_cons.2 ⟨fun x hx=> ?_,insOne_sorted a h'.2⟩
   rcases List.mem_cons.1 ((insOne_perm a l).mem_iff.1 hx) with rfl|hx
   ·omega
   ·exact h'.1 x hx
theorem insL_perm:∀l,(insL l).Perm l
 | []=>List.Perm.refl _
 |a::l=>(insOne_perm a _).trans ((insL_perm l).cons a)
theorem insL_sorted:∀l,(insL l).Pairwise (· ≤·)
 | []=>by simp[insL]
 |a::l=>insOne_sorted a (insL_sorted l)
theorem insL_eq (l:List Int):insL l=sortL l:=sortL_unique (insL_perm l) (insL_sorted l)
end
end Go.Proofs.Ytjjlhbgpdncpcaa.P
section
namespace Go.Proofs.Ytjjlhbgpdncpcaa.P
open Go.Shelf in
def sortRen:Ren where
 f:=fun|189=>58|125=>82|257=>81|128=>101|129=>102|294=>92|295=>93|296=>94|297=>95|298=>96|299=>97|216=>98|300=>99|301=>100|328=>103|329=>104|330=>105|331=>106|332=>107|215=>108|343=>109|n=>n
 t:=fun|28=>22|3=>3|46=>98|0=>0|51=>72|53=>77|4=>4|183=>117|182=>116|131=>122|5=>5|9=>9|218=>126|222=>130|228=>132|229=>133|n=>n
 g:=fun n=>n
theorem sortLays:Lays.n189 Try.prog sortRen where
 mixed:=by kernel_rfl
 f125:=Try.func82.trans (congrArg some (by kernel_rfl))
 f128:=Try.func101.trans (congrArg some (by kernel_rfl))
 f129:=Try.func102.trans (congrArg some (by kernel_rfl))
 f189:=Try.func58.trans (congrArg some (by kernel_rfl))
 f215:=Try.func108.trans (congrArg some (by kernel_rfl))
 f216:=Try.func98.trans (congrArg some (by kernel_rfl))
 f257:=Try.func81.trans (congrArg some (by kernel_rfl))
 f294:=Try.func92.trans (congrArg some (by kernel_rfl))
 f295:=Try.func93.trans (congrArg some (by kernel_rfl))
 f296:=Try.func94.trans (congrArg some (by kernel_rfl))
 f297:=Try.func95.trans (congrArg some (by kernel_rfl))
 f298:=Try.func96.trans (congrArg some (by kernel_rfl))
 f299:=Try.func97.trans (congrArg some (by kernel_rfl))
 f300:=Try.func99.trans (congrArg some (by kernel_rfl))
 f301:=Try.func100.trans (congrArg some (by kernel_rfl))
 f328:=Try.func103.trans (congrArg some (by kernel_rfl))
 f329:=Try.func104.trans (congrArg some (by kernel_rfl))
 f330:=Try.func105.trans (congrArg some (by kernel_rfl))
 f331:=Try.func106.trans (congrArg some (by kernel_rfl))
 f332:=Try.func107.trans (congrArg some (by kernel_rfl))
 f343:=Try.func109.trans (congrArg some (by kernel_rfl))
 t0:=Try.underlying0
 a0:=Try.isAgg0
 z0:=Try.sizeOf0
 v0:=Try.zeroValue0
 t3:=Try.underlying3
 a3:=Try.isAgg3
 z3:=Try.sizeOf3
 v3:=Try.zeroValue3
 t4:=Try.underlying4
 a4:=Try.isAgg4
 z4:=Try.sizeOf4
 v4:=Try.zeroValue4
 t5:=Try.underlying5
 a5:=Try.isAgg5
 z5:=Try.sizeOf5
 v5:=Try.zeroValue5
 t9:=Try.underlying9
 a9:=Try.isAgg9
 z9:=Try.sizeOf9
 v9:=Try.zeroValue9
 t28:=Try.underlying22
 a28:=Try.isAgg22
 z28:=Try.sizeOf22
 v28:=Try.zeroValue22
 t46:=Try.underlying98
 a46:=Try.isAgg98
 z46:=Try.sizeOf98
 v46:=Try.zeroValue98
 t51:=Try.underlying72
 a51:=Try.isAgg72
 z51:=Try.sizeOf72
 v51:=Try.zeroValue72
 t53:=Try.underlying77
 a53:=Try.isAgg77
 z53:=Try.sizeOf77
 v53:=Try.zeroValue77
 t131:=Try.underlying122
 a131:=Try.isAgg122
 z131:=Try.sizeOf122
 v131:=Try.zeroValue122
 t182:=Try.underlying116
 a182:=Try.isAgg116
 z182:=Try.sizeOf116
 v182:=Try.zeroValue116
 t183:=Try.underlying117
 a183:=Try.isAgg117
 z183:=Try.sizeOf117
 v183:=Try.zeroValue117
 t218:=Try.underlying126
 a218:=Try.isAgg126
 z218:=Try.sizeOf126
 v218:=Try.zeroValue126
 t222:=Try.underlying130
 a222:=Try.isAgg130
 z222:=Try.sizeOf130
 v222:=Try.zeroValue130
 t228:=Try.underlying132
 a228:=Try.isAgg132
 z228:=Try.sizeOf132
 v228:=Try.zeroValue132
 t229:=Try.underlying133
 a229:=Try.isAgg133
 z229:=Try.sizeOf133
 v229:=Try.zeroValue133
end Go.Proofs.Ytjjlhbgpdncpcaa.P
end
section
namespace Go.Proofs.Ytjjlhbgpdncpcaa.P
open Go.RowKit Go.Sort Go.Proofs.YtjjlhbgpdncpcaaW.PrintWords Go.Proofs.YtjjlhbgpdncpcaaW.PrintLast Go.Proofs.YtjjlhbgpdncpcaaW.PrintMore
set_option linter.unusedVariables false
set_option linter.unusedSimpArgs false
theorem sort_big (P0_:Nat→Prop) (u:Value) (l0:List Int) (w0 w:World) (hl:0<l0.length) (hsz:l0.length<4611686018427387904) (hB:Below w0.heap.size w0 w) (ho0:Kd.R (Kd.int .i64) 3 w w0.heap.size P0_ u l0):
    Calls Try.prog 58 #[u] w fun e w'=>e= .returned (.tuple #[])∧Kd.R (Kd.int .i64) 3 w' w0.heap.size (fun k_=>(P0_ k_∨w.heap.size≤k_)) u (sortL l0)∧Below w0.heap.size w0 w'∧Kept w w' (fun k_=>P0_ k_):=by
 have hP:=ho0.1
 have ho:=Kd.own_of_R ho0
 obtain⟨hlen,h0|⟨g,cap,cur,rfl,hbg,hheap,hn,hcap,hsz',htake⟩⟩:=ho
 ·omega
 have hH:=Go.holds_of_blockI hheap (ss:=l0) (by rw[Nat.mul_one] at htake;exact htake)
 have hlt:g<w.heap.size:=(Array.getElem?_eq_some_iff.1 hheap).1
 refine(Any.slices_Sort_int sortLays g 0 cap l0 w hH hlt hsz).mono ?_
 rintro e w' ⟨rfl,n,os,rfl⟩
 have hln:(sortL l0).length=l0.length:=(sortL_perm l0).length_eq
 have hown:=Go.ownsRow_sortedI (n:=n) (os:=os) (ts:=sortL l0) (ss:=l0) hln hbg hheap hn hcap hsz'
 have hg:=Go.grownBy_sortedI (w:=w) (g:=g) (n:=n) (os:=os) (sortL l0).toArray
 have hPg:P0_ g:=hP g rfl
 refine⟨rfl,Kd.R_of_own (by rw[hln];exact hown) (fun k hk=> .inl (hP k hk)),hB.grown hg hB.size (fun k hk=>by injection hk with hk;omega),⟨hg.size,fun i hi hs=>hg.block i hi (fun e_=>hs (by injection e_ with e_;rw[e_];exact hPg))⟩⟩
end Go.Proofs.Ytjjlhbgpdncpcaa.P
end
namespace Go.Proofs.Ytjjlhbgpdncpcaa.P
open Go.RowKit Go.Proofs.YtjjlhbgpdncpcaaW.PrintWords Go.Proofs.YtjjlhbgpdncpcaaW.PrintLast Go.Proofs.YtjjlhbgpdncpcaaW.PrintMore
set_option linter.unusedVariables false
set_option linter.unusedSimpArgs false
set_option maxHeartbeats 8000000
set_option maxRecDepth 100000
section
open Go.Shelf in
def lenRen:Ren where
 f:=fun|125=>82|128=>101|129=>102|n=>n
 t:=fun|46=>98|51=>72|53=>77|n=>n
 g:=fun n=>n
theorem lenLays:Lays.n125 Try.prog lenRen where
 mixed:=by kernel_rfl
 f125:=Try.func82.trans (congrArg some (by kernel_rfl))
 f128:=Try.func101.trans (congrArg some (by kernel_rfl))
 f129:=Try.func102.trans (congrArg some (by kernel_rfl))
 t3:=Try.underlying3
 a3:=Try.isAgg3
 z3:=Try.sizeOf3
 v3:=Try.zeroValue3
 t4:=Try.underlying4
 a4:=Try.isAgg4
 z4:=Try.sizeOf4
 v4:=Try.zeroValue4
 t5:=Try.underlying5
 a5:=Try.isAgg5
 z5:=Try.sizeOf5
 v5:=Try.zeroValue5
 t9:=Try.underlying9
 a9:=Try.isAgg9
 z9:=Try.sizeOf9
 v9:=Try.zeroValue9
 t46:=Try.underlying98
 a46:=Try.isAgg98
 z46:=Try.sizeOf98
 v46:=Try.zeroValue98
 t51:=Try.underlying72
 a51:=Try.isAgg72
 z51:=Try.sizeOf72
 v51:=Try.zeroValue72
 t53:=Try.underlying77
 a53:=Try.isAgg77
 z53:=Try.sizeOf77
 v53:=Try.zeroValue77
theorem bits_Len.calls (x:Int) (w:World) (h0:0≤x) (h1:x≤18446744073709551615):
    Calls Try.prog 82 #[.int .u64 x] w fun e w'=>e= .returned (.int .i64 (Lib.bitLen x.toNat))∧w'=w:=Any.bits_Len lenLays x w h0 h1
theorem ins0.calls (u:Value) (w:World):Calls Try.prog 92 #[u,.int .i64 0,.int .i64 0] w fun e w'=>e= .returned (.tuple #[])∧w'=w:=by
 go_enter Try.func92,Try.ntmps92
 go_wp2
 go_loopg [6] 1 (fun kq v6 w'=>v6= .int .i64 1∧w'=w)
 case atStart=>exact⟨rfl,rfl⟩
 case round=>
  obtain⟨rfl,rfl⟩:=hrel;go_wp2
  first|go_end0|((try simp only[Exit.inBlock,Exit.then]);refine bodyPost_ret (results_none rfl _ _ _) rfl ?_)
  exact⟨rfl,rfl⟩
theorem pdq0.calls (u:Value) (lim:Int) (w:World):Calls Try.prog 81 #[u,.int .i64 0,.int .i64 0,.int .i64 lim] w fun e w'=>e= .returned (.tuple #[])∧w'=w:=by
 go_enter Try.func81,Try.ntmps81
 go_wp2
 go_loopg [1,2,3,8,9] 1 (fun kq v1 v2 v3 v8 v9 w'=>v1= .int .i64 0∧v2= .int .i64 0∧v3= .int .i64 lim∧v8= .bool true∧v9= .bool true∧w'=w)
 case atStart=>exact⟨rfl,rfl,rfl,rfl,rfl,rfl⟩
 case round=>
  obtain⟨rfl,rfl,rfl,rfl,rfl,rfl⟩:=hrel
  go_wp2_with (first
   |(go_at_call 92;(with_reducible refine(ins0.calls u _).mono ?_);rintro e w1 ⟨rfl,rfl⟩))
  first|go_end0|((try simp only[Exit.inBlock,Exit.then]);refine bodyPost_ret (results_none rfl _ _ _) rfl ?_)
  exact⟨rfl,rfl⟩
def slSort.f (l0:List Int):Option (List Int):=if l0.length<4611686018427387904 then some (insL l0) else none
theorem slSort.calls (P0_:Nat→Prop) (u9000_:Value) (l0:List Int) (r:List Int) (w0 w:World) (hB:Below w0.heap.size w0 w) (ho0:Kd.R (Kd.int .i64) 3 w w0.heap.size P0_ u9000_ l0) (h:slSort.f l0=some r):
    Calls Try.prog 58 #[u9000_] w fun e w'=>e= .returned (.tuple #[])∧Kd.R (Kd.int .i64) 3 w' w0.heap.size (fun k_=>(P0_ k_∨w.heap.size≤k_)) u9000_ r∧Below w0.heap.size w0 w'∧Kept w w' (fun k_=>P0_ k_):=by
 have hq:l0.length<4611686018427387904∧sortL l0=r:=by
  unfold slSort.f at h;rw[insL_eq] at h
  split at h
  ·exact⟨by assumption,oI h⟩
  ·cases h
 obtain⟨hl',rfl⟩:=hq
 by_cases hz:0<l0.length
 ·exact sort_big P0_ u9000_ l0 w0 w hz hl' hB ho0
 have h0:l0= []:=by cases l0 with
  |nil=>rfl
  |cons a l=>simp at hz
 subst h0
 have hK:Kd.R (Kd.int .i64) 3 w w0.heap.size (fun k_=>(P0_ k_∨w.heap.size≤k_)) u9000_ (sortL []):=by
  rw[sortL_eq_self List.Pairwise.nil]
  exact Kd.R_mono ho0 (fun k hk=> .inl hk)
 have HK:=aM hK
 have HB:=aM hB
 obtain⟨A,c,rfl⟩:=Kd.R_slice ho0
 clear ho0 hB h hK hz hl'
 go_enter Try.func58,Try.ntmps58
 go_wp2_with (first
  |(go_at_call 82;(with_reducible refine(bits_Len.calls _ _ ?s1 ?s2).mono ?_);(case s1=>decide);(case s2=>decide);rintro e w1 ⟨rfl,rfl⟩)
  |(go_at_call 81;(with_reducible refine(pdq0.calls _ _ _).mono ?_);rintro e w1 ⟨rfl,rfl⟩))
 go_end0
 exact⟨rfl,HK.out,HB.out,Kept.refl _ _⟩
end
section
attribute [local go_sem] ZE ZC ZJ ZI ZA Zz ZD ZB
mutual
def perm_Orbits.l0:Nat→List (List Int)→List Bool→List (List Int)→Int→Int→Option ((List (List Int))×Int)
 |0,_,_,_,_,_=>none
 |k+1,x1,x7,x8,x23,x24=>if x24<x23 then(if 0≤x24 then(if x24<(x7.length:Int) then(if rdOf false x7 x24=true then(perm_Orbits.l0 k x1 x7 x8 x23 (wrap64 (x24+1))) else(perm_Orbits.l1 k x1 (x7.set (x24:Int).toNat true) x8 (([x24]:List Int)) 0 x23 x24)) else(none)) else(none)) else(some (x8,0))
def perm_Orbits.l1:Nat→List (List Int)→List Bool→List (List Int)→List Int→Int→Int→Int→Option ((List (List Int))×Int)
 |0,_,_,_,_,_,_,_=>none
 |k+1,x1,x7,x8,x10,x11,x23,x24=>if x11<(x10.length:Int) then(perm_Orbits.l2 k x1 x7 x8 x10 x11 x23 x24 x1 (x1.length:Int) 0) else((slSort.f x10).bind fun t172=>(if x8.length<5864062014805 then(perm_Orbits.l0 k x1 x7 (x8++ [t172]) x23 (wrap64 (x24+1))) else(none)))
def perm_Orbits.l2:Nat→List (List Int)→List Bool→List (List Int)→List Int→Int→Int→Int→List (List Int)→Int→Int→Option ((List (List Int))×Int)
 |0,_,_,_,_,_,_,_,_,_,_=>none
 |k+1,x1,x7,x8,x10,x11,x23,x24,x42,x43,x44=>if x44<x43 then(if 0≤x44 then(if x44<(x42.length:Int) then(if 0≤x11 then(if x11<(x10.length:Int) then(if 0≤(rd x10 x11) then(if(rd x10 x11)<((Zp x42 x44).length:Int) then(if 0≤(rd (Zp x42 x44) (rd x10 x11)) then(if(rd (Zp x42 x44) (rd x10 x11))<(x7.length:Int) then(if(rdOf false x7 (rd (Zp x42 x44) (rd x10 x11))=true) then(perm_Orbits.l2 k x1 x7 x8 x10 x11 x23 x24 x42 x43 (wrap64 (x44+1))) else(if x10.length<17592186044416 then(perm_Orbits.l2 k x1 (x7.set ((rd (Zp x42 x44) (rd x10 x11)):Int).toNat true) x8 (x10++ [rd (Zp x42 x44) (rd x10 x11)]) x11 x23 x24 x42 x43 (wrap64 (x44+1))) else(none))) else(none)) else(none)) else(none)) else(none)) else(none)) else(none)) else(none)) else(none)) else(perm_Orbits.l1 k x1 x7 x8 x10 (wrap64 (x11+1)) x23 x24)
end
def perm_Orbits.f (k:Nat) (a0:Int) (l1:List (List Int)):Option ((List (List Int))×Int):=(perm_generators.f a0 l1).bind fun t163=>(if t163=0 then(if 0≤a0 then(if(a0:Int).toNat≤281474976710656 then(perm_Orbits.l0 k l1 (List.replicate (a0:Int).toNat false) ([]:List (List Int)) a0 0) else(none)) else(none)) else(some (([]:List (List Int)),t163)))
theorem perm_Orbits.calls (k : Nat) (a0 : Int) (A1:Option Addr) (c1:Nat) (l1:List (List Int)) (r1:List (List Int)) (r2:Int) (w:World) (hr1:Kd.C (Kd.slice 3 (Kd.int .i64)) w A1 l1.length l1) (hc1:l1.length≤c1) (h:perm_Orbits.f k a0 l1=some (r1,r2)):
    Calls Try.prog 28 #[.int .i64 a0,.slice A1 l1.length c1] w fun e w'=>∃v0_:Value,e= .returned (.tuple #[v0_,.int .i64 r2])∧Kd.S (Kd.slice 3 (Kd.int .i64)) 22 w' w.heap.size (fun _=>True) v0_ r1∧Below w.heap.size w w':=by
 have HR1:=aM hr1
 have HC1:=aM hc1
 clear hr1 hc1
 have HB:=aM (Below.refl w.heap.size w)
 have H:((perm_generators.f a0 l1).bind fun t163=>(if t163=0 then(if 0≤a0 then(if(a0:Int).toNat≤281474976710656 then(perm_Orbits.l0 k l1 (List.replicate (a0:Int).toNat false) ([]:List (List Int)) a0 0) else(none)) else(none)) else(some (([]:List (List Int)),t163))))=some (r1,r2):=h
 clear h
 replace H:=oB H
 obtain⟨t163,A30,H⟩:=H
 replace H:(if t163=0 then(if 0≤a0 then(if(a0:Int).toNat≤281474976710656 then(perm_Orbits.l0 k l1 (List.replicate (a0:Int).toNat false) ([]:List (List Int)) a0 0) else(none)) else(none)) else(some (([]:List (List Int)),t163)))=some (r1,r2):=H
 have A3:=aM A30
 clear A30
 by_cases c4:t163=0
 ·rw [if_pos c4] at H
  have c4b0:=beq_iff_eq.mpr c4;have c4b1:=bne_eq_false_iff_eq.mpr c4;clear c4
  by_cases c5:0≤a0
  ·rw [if_pos c5] at H; have c5b0 := eq_true c5;have c5b1:=dT c5;clear c5
   by_cases c6:(a0:Int).toNat≤281474976710656
   ·rw [if_pos c6] at H; have c6b0 := eq_true c6;have c6b1:=dT c6;clear c6;obtain⟨y164,hy164⟩:∃y_:List Bool,y_=(List.replicate (a0:Int).toNat false):=⟨_,rfl⟩;replace H:(perm_Orbits.l0 k l1 y164 ([]:List (List Int)) a0 0)=some (r1,r2):=by first|(rw[hy164];with_reducible exact H)|(have H2_:=(Option.bind_some _ _).symm.trans H;rw[hy164];with_reducible exact H2_)|(have H2_:=(Option.bind_some _ _).symm.trans H;with_reducible exact H2_)|with_reducible exact H|(rw[hy164];exact H)|exact H
    have Ny164:=aM hy164;clear hy164;have H':=aM H;clear H
    go_enter Try.func28,Try.ntmps28
    go_wp2_with (first|((with_reducible refine Zq (f:=57) rfl ?_);refine ZG (some 17) rfl rfl Try.func57 (by kernel_rfl) rfl #[.int .i64 a0,.slice A1 l1.length c1] rfl zz125 ?_;(with_reducible refine(perm_generators.calls a0 _ _ l1 t163 _ ?side1 ?side2 A3.out).mono ?_);(case side1=>exact zC HR1.out);(case side2=>exact HC1.out);rintro e w7 ⟨rfl,hb⟩;refine⟨_,rfl,?_⟩;replace HB:=aM (Ze zz126 hb);(try clear hb);(try clear hb2);(try clear hk);(try clear hi))|((with_reducible refine Zr (N:=22) rfl ?_);refine Kd.R_make Kd.bool _ 4 rfl (N:=22) rfl 83 _ _ rfl a0 rfl rfl Try.underlying83 (.bool false) 1 info4 rfl (by decide) (by omega) false (ok:=fun _=>True) (okp:=fun _=>True) rfl (fun _ hk=>hk) trivial (oD zz151) (Nat.le_trans (Nat.mul_le_mul_right _ (oD zz151:a0.toNat≤281474976710656)) (by omega)) (Below.refl _ _) (Nat.le_refl _) ?_;intro v165 w8 ho9 hb hg_ hnew_;clear hg_ hnew_;(first|rw[←Ny164.out] at ho9|(simp only[Int.reduceToNat] at ho9;rw[←Ny164.out] at ho9));have HO166:=aM (Kd.R_lower ho9 (Zc zz126));replace HB:=aM (Ze zz126 hb);clear hb ho9))
    go_loopg [8,24] k (fun kq v8 v24 w'=>∃(x7_1:List Bool) (x8_1:List (List Int)) (x24_1:Int),v24= .int .i64 x24_1∧Aside0 (perm_Orbits.l0 kq l1 x7_1 x8_1 a0 x24_1=some (r1,r2))∧Aside0 (kq≤k)∧Aside0 (Kd.R Kd.bool 4 w' w.heap.size (fun _=>True) v165 x7_1)∧Aside0 (Kd.S (Kd.slice 3 (Kd.int .i64)) 22 w' w.heap.size (fun _=>True) v8 x8_1)∧Aside0 (Below w.heap.size w w'))
    case atStart=>exact⟨(y164),(([]:List (List Int))),(0),zz152,H',⟨Nat.le_refl _⟩,⟨(zR HO166)⟩,⟨zz123⟩,⟨zz126⟩⟩
    case round =>
     clear H';(try clear c1);(try clear c2);(try clear p2);(try clear c4);(try clear c4b0);(try clear c4b1);(try clear c5);(try clear c5b0);(try clear c5b1);(try clear c6);(try clear c6b0);(try clear c6b1);obtain⟨x7_1,x8_1,x24_1,rfl,HA,HK1,HO_7,HO_8,HB⟩:=hrel
     cases gk with
     |zero=>exact absurd HA.out (by simp[perm_Orbits.l0])
     | succ k1=>
      have H:=HA.out;clear HA;simp only[perm_Orbits.l0] at H
      by_cases c10:x24_1<a0
      ·rw [if_pos c10] at H; have c10b0 :=dT c10;clear c10
       by_cases c11:0≤x24_1
       ·rw [if_pos c11] at H; have c11b0 :=dT c11;clear c11
        by_cases c12:x24_1<(x7_1.length:Int)
        ·rw [if_pos c12] at H; have c12b0:=dT c12;clear c12;obtain⟨bq13,hbq13⟩:∃b_:Bool,b_=(rdOf false x7_1 x24_1):=⟨_,rfl⟩;replace H:(if bq13=true then(perm_Orbits.l0 k1 l1 x7_1 x8_1 a0 (wrap64 (x24_1+1))) else(perm_Orbits.l1 k1 l1 (x7_1.set (x24_1:Int).toNat true) x8_1 (([x24_1]:List Int)) 0 a0 x24_1))=some (r1,r2):=by rw[←hbq13] at H;exact H
         have Nbq13:=aM hbq13;clear hbq13
         by_cases c14:bq13=true
         ·subst c14;have H1:(perm_Orbits.l0 k1 l1 x7_1 x8_1 a0 (wrap64 (x24_1+1)))=some (r1,r2):=by rw[if_pos rfl] at H;exact H
          clear H;have H:=H1;clear H1;have H':=aM H;clear H;obtain⟨Ao15,co15,eo15⟩:=Kd.R_slice HO_7.out;subst eo15;have p167:0≤(x24_1:Int):=oD zz151;have q167:x24_1<(x7_1.length:Int):=oD zz151;obtain⟨ad167,e167,hx167_0⟩:=Kd.at_bool (Kd.R_reads' HO_7.out).2.2 x24_1 p167 q167
          (try rw[←Nbq13.out] at hx167_0)
          cases e167;replace p167:=eq_true p167;replace q167:=eq_true q167;go_wp2
          go_roundg k1
          case measure=>have:=HK1.out;omega
          case rel=>exact⟨(x7_1),(x8_1),(wrap64 (x24_1+1)),zz152,H',⟨zz161⟩,⟨(zR HO_7)⟩,⟨(zS HO_8)⟩,⟨zz126⟩⟩
         replace c14:=Bool.eq_false_iff.mpr c14;subst c14;have H1:(perm_Orbits.l1 k1 l1 (x7_1.set (x24_1:Int).toNat true) x8_1 (([x24_1]:List Int)) 0 a0 x24_1)=some (r1,r2):=by rw[if_neg (show¬(false=true) by decide)] at H;exact H
         clear H;have H:=H1;clear H1;obtain⟨y168,hy168⟩:∃y_:List Bool,y_=(x7_1.set (x24_1:Int).toNat true):=⟨_,rfl⟩;replace H:(perm_Orbits.l1 k1 l1 y168 x8_1 (([x24_1]:List Int)) 0 a0 x24_1)=some (r1,r2):=by first|(rw[hy168];with_reducible exact H)|(have H2_:=(Option.bind_some _ _).symm.trans H;rw[hy168];with_reducible exact H2_)|(have H2_:=(Option.bind_some _ _).symm.trans H;with_reducible exact H2_)|with_reducible exact H|(rw[hy168];exact H)|exact H
         have Ny168:=aM hy168;clear hy168;obtain⟨y169,hy169⟩:∃y_:List Int,y_=(([x24_1]:List Int)):=⟨_,rfl⟩;replace H:(perm_Orbits.l1 k1 l1 y168 x8_1 y169 0 a0 x24_1)=some (r1,r2):=by first|(rw[hy169];with_reducible exact H)|(have H2_:=(Option.bind_some _ _).symm.trans H;rw[hy169];with_reducible exact H2_)|(have H2_:=(Option.bind_some _ _).symm.trans H;with_reducible exact H2_)|with_reducible exact H|(rw[hy169];exact H)|exact H
         have Ny169:=aM hy169;clear hy169;have H':=aM H;clear H;obtain⟨Ao17,co17,eo17⟩:=Kd.R_slice HO_7.out;subst eo17;have p167:0≤(x24_1:Int):=oD zz151;have q167:x24_1<(x7_1.length:Int):=oD zz151;obtain⟨ad167,e167,hx167_0⟩:=Kd.at_bool (Kd.R_reads' HO_7.out).2.2 x24_1 p167 q167
         (try rw[←Nbq13.out] at hx167_0)
         cases e167;replace p167:=eq_true p167;replace q167:=eq_true q167;have p16:0≤(x24_1:Int):=oD zz151;have q16:(x24_1:Int)<((x7_1.length:Int):Int):=oD zz151;obtain⟨go16,co16,eo16,gb16,gl16,cl16,HG16⟩:=Kd.R_form HO_7.out (by omega)
         (first|cases eo16|(injection eo16 with ea_ en_ ec_;(first|subst ea_|(injection ea_ with ea_;subst ea_));subst ec_;clear en_))
         have GB16:=aM gb16;have GG16:=aM HG16;clear gb16 gl16 HG16
         (first|simp only[Z2] at hx167_0|skip)
         obtain⟨hx16_0,hf16_0⟩:=Kd.R_celln false HO_7.out (x24_1:Int) p16 q16;replace p16:=eq_true p16;replace q16:=eq_true q16;have HP18:=Kd.R_putg HO_7.out (x24_1:Int) true
         go_wp2_with (first|((with_reducible refine ZP (t:=4) (p:=33) rfl ?_);refine ZM (t:=4) (p:=33) (v:= ?vo_w19) (w1:=(wr.setCell ⟨go16,(x24_1:Int).toNat,none⟩ (.bool true))) ?hg ?ho ?hn ?hr ?_;(case ho=>rfl);(case hg=>rfl);(case hn=>rfl);(case hr=>first|(go_simp;done)|(go_simp;rfl));intro w19 hw;have hg:wr.grownBy w19 (some go16):=(by rw[hw];exact HP18.2);have hp_:Kd.R Kd.bool 4 w19 w.heap.size (fun _=>True) (.slice (some ⟨go16,0,none⟩) x7_1.length co17) y168:=(by rw[hw,Ny168.out];exact HP18.1);clear HP18;replace HO_8:=aM (Kd.S_over' (v:=(.slice (some ⟨go16,0,none⟩) x7_1.length co17)) (zS HO_8) (Kd.R_typed HO_7.out) (by decide) hg);replace HO_7:=aM (hp_);replace HB:=aM ((by rw[hw];exact Zk (HB.out) GB16.out:Below w.heap.size w w19));clear hg hw hp_)|((with_reducible refine Zr (N:=35) rfl ?_);refine Kd.R_lit (Kd.int .i64) _ 3 ?hg (N:=35) ?hd (xs:=([x24_1]:List Int)) (inner:= [.int .i64 x24_1]) (ok:=fun _=>True) (okp:=fun _=>True) ?hr ?hp (fun _ hk=>hk) trivial (Below.refl _ _) (Nat.le_refl _) (by simp) ?_;(case hd=>rfl);(case hg=>rfl);(case hr=>first|(go_simp;done)|(go_simp;rfl));(case hp=>exact(Reps.one (show Kd.M (Kd.int .i64) _ _ _ x24_1 [.int .i64 x24_1] from rfl) (Reps.none _ _)));intro v170 w20 ho21 hb hg_ hnew_;clear hg_ hnew_;(first|rw[←Ny169.out] at ho21|(simp only[Int.reduceToNat] at ho21;rw[←Ny169.out] at ho21));replace HO_7:=aM (Kd.R_below (zR HO_7) hb);replace HO_8:=aM (Kd.S_elder' (zS HO_8) (Kd.R_base ho21) hb);have HO171:=aM (Kd.R_lower ho21 (Zc zz126));replace HB:=aM (Ze zz126 hb);clear hb ho21))
         go_loopg [10,11] k1 (fun kq v10 v11 w'=>∃(x7_2:List Bool) (x10_2:List Int) (x11_2:Int),v11= .int .i64 x11_2∧Aside0 (perm_Orbits.l1 kq l1 x7_2 x8_1 x10_2 x11_2 a0 x24_1=some (r1,r2))∧Aside0 (kq≤k1)∧Aside0 (Kd.R Kd.bool 4 w' w.heap.size (fun _=>True) (.slice (some ⟨go16,0,none⟩) x7_1.length co17) x7_2)∧Aside0 (Kd.S (Kd.slice 3 (Kd.int .i64)) 22 w' w.heap.size (fun k_=>some k_≠(v10:Value).ownBlock) u8 x8_1)∧Aside0 (Kd.R (Kd.int .i64) 3 w' w.heap.size (fun _=>True) v10 x10_2)∧Aside0 (Below w.heap.size w w'))
         case atStart=>exact⟨(y168),(y169),(0),zz152,H',⟨Nat.le_refl _⟩,⟨(zR HO_7)⟩,⟨(by(with_reducible repeat(first|apply Kd.S_alloc|apply Kd.S_drewN|apply Kd.S_drew));exact Kd.S_mono HO_8.out (fun _ hk=>hk.2))⟩,⟨(zR HO171)⟩,⟨zz126⟩⟩
         case round =>
          clear H';(try clear c1);(try clear p1);(try clear q1);(try clear hx1);(try clear c2);(try clear p2);(try clear c4);(try clear c4b0);(try clear c4b1);(try clear c5);(try clear c5b0);(try clear c5b1);(try clear c6);(try clear c6b0);(try clear c6b1);(try clear p6);(try clear c10);(try clear c10b0);(try clear c11);(try clear c11b0);(try clear c12);(try clear c12b0);(try clear q13);(try clear c14);(try clear p16);(try clear q16);(try clear hx16);(try clear hf16);(try clear hx167_0);(try clear hx16_0);(try clear p16);(try clear p167);(try clear p2);(try clear q16);(try clear q167);obtain⟨x7_2,x10_2,x11_2,rfl,HA,HK2,HO_7,HO_8,HO_10,HB⟩:=hrel;have hl7_2:=(Kd.R_reads' HO_7.out).1;rw[hl7_2] at HO_7
          (try simp only[hl7_2])
          (try simp only[hl7_2] at HO_8)
          (try simp only[hl7_2] at HO_10)
          cases gk with
          |zero=>exact absurd HA.out (by simp[perm_Orbits.l1])
          | succ k2=>
           have H:=HA.out;clear HA;simp only[perm_Orbits.l1] at H
           by_cases c22:x11_2<(x10_2.length:Int)
           ·rw [if_pos c22] at H; have c22b0:=dT c22;clear c22;have H':=aM H;clear H;obtain⟨Ao23,co23,eo23⟩:=Kd.R_slice HO_10.out;subst eo23;go_wp2
            go_loopg [10,44] k2 (fun kq v10 v44 w'=>∃(x7_3:List Bool) (x10_3:List Int) (x44_3:Int),v44= .int .i64 x44_3∧Aside0 (perm_Orbits.l2 kq l1 x7_3 x8_1 x10_3 x11_2 a0 x24_1 l1 (l1.length:Int) x44_3=some (r1,r2))∧Aside0 (kq≤k2)∧Aside0 (Kd.R Kd.bool 4 w' w.heap.size (fun _=>True) (.slice (some ⟨go16,0,none⟩) x7_2.length co17) x7_3)∧Aside0 (Kd.S (Kd.slice 3 (Kd.int .i64)) 22 w' w.heap.size (fun k_=>some k_≠(v10:Value).ownBlock) u8 x8_1)∧Aside0 (Kd.R (Kd.int .i64) 3 w' w.heap.size (fun _=>True) v10 x10_3)∧Aside0 (Below w.heap.size w w'))
            case atStart=>exact⟨(x7_2),(x10_2),(0),zz152,H',⟨Nat.le_refl _⟩,⟨zz127⟩,⟨(by(try simp only[hl7_2]);(with_reducible repeat(first|apply Kd.S_alloc|apply Kd.S_drewN|apply Kd.S_drew));exact HO_8.out)⟩,⟨(by(try simp only[hl7_2]);(with_reducible repeat(first|apply Kd.R_alloc|apply Kd.R_drewN|apply Kd.R_drew));exact HO_10.out)⟩,⟨zz126⟩⟩
            case round =>
             clear H';(try clear c1);(try clear p1);(try clear q1);(try clear hx1);(try clear c2);(try clear p2);(try clear c4);(try clear c4b0);(try clear c4b1);(try clear c5);(try clear c5b0);(try clear c5b1);(try clear c6);(try clear c6b0);(try clear c6b1);(try clear p6);(try clear c10);(try clear c10b0);(try clear c11);(try clear c11b0);(try clear c12);(try clear c12b0);(try clear q13);(try clear c14);(try clear p16);(try clear q16);(try clear hx16);(try clear hf16);(try clear c22);(try clear c22b0);(try clear hx167_0);(try clear hx16_0);(try clear p1);(try clear p16);(try clear p167);(try clear p2);(try clear p6);(try clear q1);(try clear q13);(try clear q16);(try clear q167);obtain⟨x7_3,x10_3,x44_3,rfl,HA,HK3,HO_7,HO_8,HO_10,HB⟩:=hrel;have hl7_3:=(Kd.R_reads' HO_7.out).1;rw[hl7_3] at HO_7
             (try simp only[hl7_3])
             (try simp only[hl7_3] at HO_8)
             (try simp only[hl7_3] at HO_10)
             cases gk with
             |zero=>exact absurd HA.out (by simp[perm_Orbits.l2])
             | succ k3=>
              have H:=HA.out;clear HA;simp only[perm_Orbits.l2] at H
              by_cases c24:x44_3<(l1.length:Int)
              ·rw [if_pos c24] at H;have c24b0:=dT c24;clear c24
               by_cases c25:0≤x44_3
               ·rw [if_pos c25] at H;have c25b0:=dT c25;clear c25
                by_cases c26:x44_3<(l1.length:Int)
                ·rw [if_pos c26] at H;have c26b0:=dT c26;clear c26
                 by_cases c27:0≤x11_2
                 ·rw [if_pos c27] at H;have c27b0:=dT c27;clear c27
                  by_cases c28:x11_2<(x10_3.length:Int)
                  ·rw [if_pos c28] at H;have c28b0:=dT c28;clear c28
                   by_cases c29:0≤(rd x10_3 x11_2)
                   ·rw [if_pos c29] at H;have c29b0:=dT c29;clear c29
                    by_cases c30:(rd x10_3 x11_2)<((Zp l1 x44_3).length:Int)
                    ·rw [if_pos c30] at H;have c30b0:=dT c30;clear c30
                     by_cases c31:0≤(rd (Zp l1 x44_3) (rd x10_3 x11_2))
                     ·rw [if_pos c31] at H;have c31b0:=dT c31;clear c31
                      by_cases c32:(rd (Zp l1 x44_3) (rd x10_3 x11_2))<(x7_3.length:Int)
                      ·rw [if_pos c32] at H;have c32b0:=dT c32;clear c32;obtain⟨bq33,hbq33⟩:∃b_:Bool,b_=(rdOf false x7_3 (rd (Zp l1 x44_3) (rd x10_3 x11_2))):=⟨_,rfl⟩;replace H:(if(bq33=true) then(perm_Orbits.l2 k3 l1 x7_3 x8_1 x10_3 x11_2 a0 x24_1 l1 (l1.length:Int) (wrap64 (x44_3+1))) else(if x10_3.length<17592186044416 then(perm_Orbits.l2 k3 l1 (x7_3.set ((rd (Zp l1 x44_3) (rd x10_3 x11_2)):Int).toNat true) x8_1 (x10_3++ [rd (Zp l1 x44_3) (rd x10_3 x11_2)]) x11_2 a0 x24_1 l1 (l1.length:Int) (wrap64 (x44_3+1))) else(none)))=some (r1,r2):=by rw[←hbq33] at H;exact H
                       have Nbq33:=aM hbq33;clear hbq33
                       by_cases c34:(bq33=true)
                       ·subst c34;have H1:(perm_Orbits.l2 k3 l1 x7_3 x8_1 x10_3 x11_2 a0 x24_1 l1 (l1.length:Int) (wrap64 (x44_3+1)))=some (r1,r2):=by rw[if_pos rfl] at H;exact H
                        clear H;have H:=H1;clear H1;have H':=aM H;clear H;have p176:0≤(x44_3:Int):=oD zz151;have q176:x44_3<(l1.length:Int):=oD zz151;obtain⟨ad176,A176_0,c176_0,e176,hx176_0,hl176_0,hi176_0⟩:=ZY HR1.out x44_3 p176 q176
                        cases e176;replace hx176_0:=(HB.out.cell (wB w _ hx176_0)).trans hx176_0;have HR176_0:=aM hi176_0;have HC176_0:=aM hl176_0;clear hi176_0 hl176_0;replace p176:=eq_true p176;replace q176:=eq_true q176;obtain⟨Ao35,co35,eo35⟩:=Kd.R_slice HO_10.out;subst eo35;have p177:0≤(x11_2:Int):=oD zz151;have q177:x11_2<(x10_3.length:Int):=oD zz151;obtain⟨ad177,e177,hx177_0⟩:=Kd.at_int (Kd.R_reads' HO_10.out).2.2 x11_2 p177 q177
                        cases e177;replace p177:=eq_true p177;replace q177:=eq_true q177;have p178:0≤((rd x10_3 x11_2):Int):=oD zz151;have q178:(rd x10_3 x11_2)<((Zp l1 x44_3).length:Int):=oD zz151;obtain⟨ad178,e178,hx178_0⟩:=Kd.at_int HR176_0.out (rd x10_3 x11_2) p178 q178
                        cases e178;replace hx178_0:=(HB.out.cell (wB w _ hx178_0)).trans hx178_0;replace p178:=eq_true p178;replace q178:=eq_true q178;have p179:0≤((rd (Zp l1 x44_3) (rd x10_3 x11_2)):Int):=oD zz151;have q179:(rd (Zp l1 x44_3) (rd x10_3 x11_2))<(x7_3.length:Int):=oD zz151;obtain⟨ad179,e179,hx179_0⟩:=Kd.at_bool (Kd.R_reads' HO_7.out).2.2 (rd (Zp l1 x44_3) (rd x10_3 x11_2)) p179 q179
                        (try rw[←Nbq13.out] at hx179_0)
                        (try rw[←Nbq33.out] at hx179_0)
                        obtain rfl:(⟨go16,0,none⟩:Addr)=ad179:=(by injection e179)
                        (first|simp only[Z2] at hx179_0|simp only[add_at] at hx179_0|simp only[Addr.add,Nat.zero_add] at hx179_0|skip)
                        replace p179:=eq_true p179;replace q179:=eq_true q179;go_wp2
                        (try simp only[←hl7_3])
                        go_roundg k3
                        case measure=>have:=HK1.out;have:=HK2.out;have:=HK3.out;omega
                        case rel=>exact⟨(x7_3),(x10_3),(wrap64 (x44_3+1)),zz152,H',⟨zz150⟩,⟨zz113⟩,⟨zz114⟩,⟨zz108⟩,⟨zz126⟩⟩
                       replace c34:=Bool.eq_false_iff.mpr c34;subst c34;have H1:(if x10_3.length<17592186044416 then(perm_Orbits.l2 k3 l1 (x7_3.set ((rd (Zp l1 x44_3) (rd x10_3 x11_2)):Int).toNat true) x8_1 (x10_3++ [rd (Zp l1 x44_3) (rd x10_3 x11_2)]) x11_2 a0 x24_1 l1 (l1.length:Int) (wrap64 (x44_3+1))) else(none))=some (r1,r2):=by rw[if_neg (show¬(false=true) by decide)] at H;exact H
                       clear H;have H:=H1;clear H1;obtain⟨y180,hy180⟩:∃y_:List Bool,y_=(x7_3.set ((rd (Zp l1 x44_3) (rd x10_3 x11_2)):Int).toNat true):=⟨_,rfl⟩;replace H:(if x10_3.length<17592186044416 then(perm_Orbits.l2 k3 l1 y180 x8_1 (x10_3++ [rd (Zp l1 x44_3) (rd x10_3 x11_2)]) x11_2 a0 x24_1 l1 (l1.length:Int) (wrap64 (x44_3+1))) else(none))=some (r1,r2):=by first|(rw[hy180];with_reducible exact H)|(have H2_:=(Option.bind_some _ _).symm.trans H;rw[hy180];with_reducible exact H2_)|(have H2_:=(Option.bind_some _ _).symm.trans H;with_reducible exact H2_)|with_reducible exact H|(rw[hy180];exact H)|exact H
                       have Ny180:=aM hy180;clear hy180
                       by_cases c37:x10_3.length<17592186044416
                       ·rw[if_pos c37] at H;have LMc37:=aM c37;clear c37;obtain⟨y181,hy181⟩:∃y_:List Int,y_=(x10_3++ [rd (Zp l1 x44_3) (rd x10_3 x11_2)]):=⟨_,rfl⟩;replace H:(perm_Orbits.l2 k3 l1 y180 x8_1 y181 x11_2 a0 x24_1 l1 (l1.length:Int) (wrap64 (x44_3+1)))=some (r1,r2):=by first|(rw[hy181];with_reducible exact H)|(have H2_:=(Option.bind_some _ _).symm.trans H;rw[hy181];with_reducible exact H2_)|(have H2_:=(Option.bind_some _ _).symm.trans H;with_reducible exact H2_)|with_reducible exact H|(rw[hy181];exact H)|exact H
                        have Ny181:=aM hy181;clear hy181;have H':=aM H;clear H;have p176:0≤(x44_3:Int):=oD zz151;have q176:x44_3<(l1.length:Int):=oD zz151;obtain⟨ad176,A176_0,c176_0,e176,hx176_0,hl176_0,hi176_0⟩:=ZY HR1.out x44_3 p176 q176
                        cases e176;replace hx176_0:=(HB.out.cell (wB w _ hx176_0)).trans hx176_0;have HR176_0:=aM hi176_0;have HC176_0:=aM hl176_0;clear hi176_0 hl176_0;replace p176:=eq_true p176;replace q176:=eq_true q176;obtain⟨Ao38,co38,eo38⟩:=Kd.R_slice HO_10.out;subst eo38;have p177:0≤(x11_2:Int):=oD zz151;have q177:x11_2<(x10_3.length:Int):=oD zz151;obtain⟨ad177,e177,hx177_0⟩:=Kd.at_int (Kd.R_reads' HO_10.out).2.2 x11_2 p177 q177
                        cases e177;replace p177:=eq_true p177;replace q177:=eq_true q177;have p178:0≤((rd x10_3 x11_2):Int):=oD zz151;have q178:(rd x10_3 x11_2)<((Zp l1 x44_3).length:Int):=oD zz151;obtain⟨ad178,e178,hx178_0⟩:=Kd.at_int HR176_0.out (rd x10_3 x11_2) p178 q178
                        cases e178;replace hx178_0:=(HB.out.cell (wB w _ hx178_0)).trans hx178_0;replace p178:=eq_true p178;replace q178:=eq_true q178;have p179:0≤((rd (Zp l1 x44_3) (rd x10_3 x11_2)):Int):=oD zz151;have q179:(rd (Zp l1 x44_3) (rd x10_3 x11_2))<(x7_3.length:Int):=oD zz151;obtain⟨ad179,e179,hx179_0⟩:=Kd.at_bool (Kd.R_reads' HO_7.out).2.2 (rd (Zp l1 x44_3) (rd x10_3 x11_2)) p179 q179
                        (try rw[←Nbq13.out] at hx179_0)
                        (try rw[←Nbq33.out] at hx179_0)
                        obtain rfl:(⟨go16,0,none⟩:Addr)=ad179:=(by injection e179)
                        (first|simp only[Z2] at hx179_0|simp only[add_at] at hx179_0|simp only[Addr.add,Nat.zero_add] at hx179_0|skip)
                        replace p179:=eq_true p179;replace q179:=eq_true q179;have p36:0≤((rd (Zp l1 x44_3) (rd x10_3 x11_2)):Int):=oD zz151;have q36:((rd (Zp l1 x44_3) (rd x10_3 x11_2)):Int)<((x7_3.length:Int):Int):=oD zz151;obtain⟨hx36_0,hf36_0⟩:=Kd.R_celln false HO_7.out ((rd (Zp l1 x44_3) (rd x10_3 x11_2)):Int) p36 q36;replace p36:=eq_true p36;replace q36:=eq_true q36;have HP39:=Kd.R_putg HO_7.out ((rd (Zp l1 x44_3) (rd x10_3 x11_2)):Int) true
                        go_wp2_with (first|((with_reducible refine ZP (t:=4) (p:=62) rfl ?_);refine ZM (t:=4) (p:=62) (v:= ?vo_w40) (w1:=(wr.setCell ⟨go16,((rd (Zp l1 x44_3) (rd x10_3 x11_2)):Int).toNat,none⟩ (.bool true))) ?hg ?ho ?hn ?hr ?_;(case ho=>rfl);(case hg=>rfl);(case hn=>rfl);(case hr=>first|(go_simp;done)|(go_simp;rfl));intro w40 hw;have hg:wr.grownBy w40 (some go16):=(by rw[hw];exact HP39.2);have hp_:Kd.R Kd.bool 4 w40 w.heap.size (fun _=>True) (.slice (some ⟨go16,0,none⟩) x7_3.length co17) y180:=(by rw[hw,Ny180.out];exact HP39.1);clear HP39;replace HO_8:=aM (Kd.S_over' (v:=(.slice (some ⟨go16,0,none⟩) x7_3.length co17)) (zS HO_8) (Kd.R_typed HO_7.out) (by decide) hg);replace HO_10:=aM (Kd.R_over' (v:=(.slice (some ⟨go16,0,none⟩) x7_3.length co17)) (zR HO_10) (Kd.R_typed HO_7.out) (by decide) hg);replace HO_7:=aM (hp_);replace HB:=aM ((by rw[hw];exact Zk (HB.out) GB16.out:Below w.heap.size w w40));clear hg hw hp_)|((with_reducible refine ZO (b:= .append) (xs:= #[.tmp 63,.tmp 65]) rfl ?_);at_builtin;refine Kd.R_append (Kd.int .i64) (w0:=w) w.heap.size rfl (.tmp 63) (.tmp 65) 22 3 (.int .i64 0) 8 rfl Try.underlying22 info3 rfl (by decide) (by omega) (.slice (some ad177) x10_3.length co38) x10_3 (rd (Zp l1 x44_3) (rd x10_3 x11_2)) [.int .i64 (rd (Zp l1 x44_3) (rd x10_3 x11_2))] (fun _=>True) (fun _=>False) rfl rfl ?aP (fun _ hk=>hk.elim) ?aF ?aO ?aB ?aS ?aL ?_;(case aP=>exact rfl);(case aB=>exact zz126);(case aF=>exact(fun _ _=>trivial));(case aO=>exact(zR HO_10));(case aS=>exact(Zc zz126));(case aL=>have:=LMc37.out;omega);intro v182 w41 ho hb hg hat;rw[←Ny181.out] at ho;replace HO_7:=aM (Kd.R_over' (zR HO_7) (Kd.R_typed (zR HO_10)) (by decide) hg);replace HO_8:=aM (Kd.S_after (ok:=(fun _=>True)) (by(with_reducible repeat(first|apply Kd.S_alloc|apply Kd.S_drewN|apply Kd.S_drew));exact Kd.S_mono HO_8.out (fun _ hk=>⟨trivial,hk⟩)) hg hat);replace HB:=aM (hb);have HO183:=aM (ho);clear HO_10;clear ho hb hg hat))
                        (try simp only[←hl7_3])
                        go_roundg k3
                        case measure=>have:=HK1.out;have:=HK2.out;have:=HK3.out;omega
                        case rel=>exact⟨(y180),(y181),(wrap64 (x44_3+1)),zz152,H',⟨zz150⟩,⟨zz113⟩,⟨(by(try simp only[hl7_2]);(try simp only[hl7_3]);(with_reducible repeat(first|apply Kd.S_alloc|apply Kd.S_drewN|apply Kd.S_drew));exact Kd.S_mono HO_8.out (fun _ hk=>hk.2))⟩,⟨(by(try simp only[hl7_2]);(try simp only[hl7_3]);(with_reducible repeat(first|apply Kd.R_alloc|apply Kd.R_drewN|apply Kd.R_drew));exact HO183.out)⟩,⟨zz126⟩⟩
                       rw[if_neg c37] at H
                       exact absurd H (by simp)
                      rw[if_neg c32] at H
                      exact absurd H (by simp)
                     rw[if_neg c31] at H
                     exact absurd H (by simp)
                    rw[if_neg c30] at H
                    exact absurd H (by simp)
                   rw[if_neg c29] at H
                   exact absurd H (by simp)
                  rw[if_neg c28] at H
                  exact absurd H (by simp)
                 rw[if_neg c27] at H
                 exact absurd H (by simp)
                rw[if_neg c26] at H
                exact absurd H (by simp)
               rw[if_neg c25] at H
               exact absurd H (by simp)
              rw[if_neg c24] at H;have c24b0:=dF c24;clear c24;have H':=aM H;clear H;go_wp2
              (try simp only[←hl7_2,←hl7_3])
              go_roundg k3
              case measure=>have:=HK1.out;have:=HK2.out;have:=HK3.out;omega
              case rel=>exact⟨(x7_3),(x10_3),(wrap64 (x11_2+1)),zz152,H',⟨zz150⟩,⟨zz113⟩,⟨zz114⟩,⟨zz108⟩,⟨zz126⟩⟩
           rw[if_neg c22] at H;have c22b0:=dF c22;clear c22;replace H:=oB H;obtain⟨t172,A420,H⟩:=H;replace H:(if x8_1.length<5864062014805 then(perm_Orbits.l0 k2 l1 x7_2 (x8_1++ [t172]) a0 (wrap64 (x24_1+1))) else(none))=some (r1,r2):=H;have A42:=aM A420;clear A420
           by_cases c43:x8_1.length<5864062014805
           ·rw[if_pos c43] at H;have LMc43:=aM c43;clear c43;obtain⟨y173,hy173⟩:∃y_:List (List Int),y_=(x8_1++ [t172]):=⟨_,rfl⟩;replace H:(perm_Orbits.l0 k2 l1 x7_2 y173 a0 (wrap64 (x24_1+1)))=some (r1,r2):=by first|(rw[hy173];with_reducible exact H)|(have H2_:=(Option.bind_some _ _).symm.trans H;rw[hy173];with_reducible exact H2_)|(have H2_:=(Option.bind_some _ _).symm.trans H;with_reducible exact H2_)|with_reducible exact H|(rw[hy173];exact H)|exact H
            have Ny173:=aM hy173;clear hy173;have H':=aM H;clear H;obtain⟨Ao44,co44,eo44⟩:=Kd.R_slice HO_10.out;subst eo44
            go_wp2_with (first|((with_reducible refine Zq (f:=58) rfl ?_);refine ZG (some 69) rfl rfl Try.func58 (by kernel_rfl) rfl #[.slice Ao44 x10_2.length co44] rfl zz125 ?_;(with_reducible refine(slSort.calls (fun k_=>some k_=(.slice Ao44 x10_2.length co44:Value).ownBlock) (.slice Ao44 x10_2.length co44) x10_2 t172 w _ ?side1 ?side2 A42.out).mono ?_);(case side1=>repeat(first|(with_reducible first|exact HB.out|apply Zn|apply Zf|apply Zh)|exact HB.out));(case side2=>exact Kd.R_tight rfl HO_10.out);rintro e w45 ⟨rfl,hy0,hb,hkp⟩;refine⟨_,rfl,?_⟩;replace HO_7:=aM (Kd.R_mono (ok':=fun k_=>True) (Kd.R_keptB ((Kd.R_apart' HO_7.out (Kd.R_typed HO_10.out) (by decide))) hkp (fun k_ hk_ hs_=>(hk_.2) hs_)) (fun k_ hk_=>trivial));replace HO_8:=aM (Kd.S_mono (ok':=fun k_=>some k_≠(.slice Ao44 x10_2.length co44:Value).ownBlock) (Kd.S_keptB (HO_8.out) hkp (fun k_ hk_ hs_=>(hk_) hs_)) (fun k_ hk_=>hk_.1));replace HO_10:=aM (Kd.R_reok rfl hy0 (fun k_ e_=>HO_10.out.1 k_ e_));replace HB:=aM (hb);(try clear hb);(try clear hkp);(try clear hy0))|((with_reducible refine ZO (b:= .append) (xs:= #[.tmp 70,.tmp 72]) rfl ?_);at_builtin;refine Kd.S_append (Kd.slice 3 (Kd.int .i64)) (w0:=w) w.heap.size rfl (.tmp 70) (.tmp 72) 28 22 (.slice none 0 0) 24 rfl Try.underlying28 info22 rfl (by decide) (by omega) u8 x8_1 t172 [.slice Ao44 x10_2.length co44] (fun _=>True) (fun k_=>some k_=(.slice Ao44 x10_2.length co44:Value).ownBlock) rfl rfl ?aP (fun k_ hk_=>((Kd.R_mono (ok':=fun k_=>((fun _=>True)) k_∧some k_≠(u8:Value).ownBlock) (Kd.R_apart' (HO_10.out) (Kd.S_typed HO_8.out) (by decide)) (fun k_ hk=>⟨trivial,hk.2⟩))).1 k_ hk_.symm) ?aF ?aO ?aB ?aS ?aL ?_;(case aP=>exact Kd.M_row (Kd.R_mono (Kd.R_tight rfl (Kd.R_mono (ok':=fun k_=>((fun _=>True)) k_∧some k_≠(u8:Value).ownBlock) (Kd.R_apart' (HO_10.out) (Kd.S_typed HO_8.out) (by decide)) (fun k_ hk=>⟨trivial,hk.2⟩))) (fun _ h_=>h_)));(case aB=>exact zz126);(case aF=>exact(fun _ _=>trivial));(case aO=>exact(by(with_reducible repeat(first|apply Kd.S_alloc|apply Kd.S_drewN|apply Kd.S_drew));exact Kd.S_mono HO_8.out (fun k_ hk=>⟨trivial,fun e_=>hk e_⟩)));(case aS=>exact(Zc zz126));(case aL=>have:=LMc43.out;omega);intro v174 w46 ho hb hg hat;rw[←Ny173.out] at ho;replace HO_7:=aM (Kd.R_over' (zR HO_7) (Kd.S_typed (zS HO_8)) (by decide) hg);replace HB:=aM (hb);have HO175:=aM (ho);clear HO_8 HO_10;clear ho hb hg hat))
            (try simp only[←hl7_2])
            go_roundg k2
            case measure=>have:=HK1.out;have:=HK2.out;omega
            case rel=>exact⟨(x7_2),(y173),(wrap64 (x24_1+1)),zz152,H',⟨zz153⟩,⟨zz127⟩,⟨(by(try simp only[hl7_2]);(with_reducible repeat(first|apply Kd.S_alloc|apply Kd.S_drewN|apply Kd.S_drew));exact HO175.out)⟩,⟨zz126⟩⟩
           rw[if_neg c43] at H
           exact absurd H (by simp)
        rw[if_neg c12] at H
        exact absurd H (by simp)
       rw[if_neg c11] at H
       exact absurd H (by simp)
      rw[if_neg c10] at H;have c10b0:=dF c10;clear c10;simp only[Option.some.injEq,Prod.mk.injEq] at H;obtain⟨rfl,rfl⟩:=H;go_wp2
      go_ret2
      exact⟨_,by first|rfl|(simp[Zj,Zi]<;>rfl)|(simp[*,Zj,Zi]<;>rfl),by(with_reducible repeat(first|apply Kd.S_alloc|apply Kd.S_drewN|apply Kd.S_drew));exact HO_8.out,by repeat(first|(with_reducible first|exact HB.out|apply Zn|apply Zf|apply Zh)|exact HB.out)⟩
   rw[if_neg c6] at H
   exact absurd H (by simp)
  rw[if_neg c5] at H
  exact absurd H (by simp)
 rw[if_neg c4] at H
 have c4b0:=beq_eq_false_iff_ne.mpr c4
 have c4b1:=bne_iff_ne.mpr c4
 simp only[Option.some.injEq,Prod.mk.injEq] at H
 obtain⟨rfl,rfl⟩:=H
 go_enter Try.func28,Try.ntmps28
 go_wp2_with (first|((with_reducible refine Zq (f:=57) rfl ?_);refine ZG (some 17) rfl rfl Try.func57 (by kernel_rfl) rfl #[.int .i64 a0,.slice A1 l1.length c1] rfl zz125 ?_;(with_reducible refine(perm_generators.calls a0 _ _ l1 t163 _ ?side1 ?side2 A3.out).mono ?_);(case side1=>exact zC HR1.out);(case side2=>exact HC1.out);rintro e w47 ⟨rfl,hb⟩;refine⟨_,rfl,?_⟩;replace HB:=aM (Ze zz126 hb);(try clear hb);(try clear hb2);(try clear hk);(try clear hi)))
 go_ret2
 exact⟨_,by first|rfl|(simp[Zj,Zi]<;>rfl)|(simp[*,Zj,Zi]<;>rfl),by first|exact Kd.S_nil _ _ _ _ _|exact Kd.N_nil _ _ _ _ _|exact Kd.V_nil _ _ _ _ _|exact Kd.Q_nil _ _ _ _ _|exact Kd.R_nil _ _ _ _ _,by repeat(first|(with_reducible first|exact HB.out|apply Zn|apply Zf|apply Zh)|exact HB.out)⟩
def slIx.l0:Nat→List Int→Int→Int→Int→Option (Int)
 |0,_,_,_,_=>none
 |k+1,x0,x1,x7,x8=>if x8<x7 then(if 0≤x8 then(if x8<(x0.length:Int) then(if x1=(rd x0 x8) then(some x8) else(slIx.l0 k x0 x1 x7 (wrap64 (x8+1)))) else(none)) else(none)) else(some (-1))
def slIx.f (k:Nat) (l0:List Int) (a1:Int):Option (Int):=slIx.l0 k l0 a1 (l0.length:Int) 0
theorem slIx.calls (k:Nat) (A0:Option Addr) (c0:Nat) (l0:List Int) (a1:Int) (r:Int) (w:World) (hr0:Kd.C (Kd.int .i64) w A0 l0.length l0) (hc0:l0.length≤c0) (h:slIx.f k l0 a1=some r):
    Calls Try.prog 70 #[.slice A0 l0.length c0,.int .i64 a1] w fun e w'=>e= .returned (.int .i64 r)∧Drawn0 w w':=by
 have HR0:=aM hr0
 have HC0:=aM hc0
 clear hr0 hc0
 have H:(slIx.l0 k l0 a1 (l0.length:Int) 0)=some r:=h
 clear h
 have H':=aM H
 clear H
 go_enter Try.func70,Try.ntmps70
 go_wp2
 go_loopg [8] k (fun kq v8 w'=>∃(x8_1:Int),v8= .int .i64 x8_1∧Aside0 (slIx.l0 kq l0 a1 (l0.length:Int) x8_1=some r)∧Aside0 (kq≤k)∧Drawn0 w w')
 case atStart=>exact⟨(0),zz152,H',⟨Nat.le_refl _⟩,by repeat(first|exact Drawn0.refl _|apply Drawn0.step)⟩
 case round =>
  clear H';(try clear p2);obtain⟨x8_1,rfl,HA,HK1,⟨m1,rfl⟩⟩:=hrel
  cases gk with
  |zero=>exact absurd HA.out (by simp[slIx.l0])
  | succ k1=>
   have H:=HA.out;clear HA;simp only[slIx.l0] at H
   by_cases c3:x8_1<(l0.length:Int)
   ·rw [if_pos c3] at H;have c3b0:=dT c3;clear c3
    by_cases c4:0≤x8_1
    ·rw [if_pos c4] at H;have c4b0:=dT c4;clear c4
     by_cases c5:x8_1<(l0.length:Int)
     ·rw [if_pos c5] at H;have c5b0:=dT c5;clear c5
      by_cases c6:a1=(rd l0 x8_1)
      ·rw[if_pos c6] at H;have c6b0:=beq_iff_eq.mpr c6;have c6b1:=bne_eq_false_iff_eq.mpr c6;clear c6;obtain rfl:=oI H;have p268:0≤(x8_1:Int):=oD zz151;have q268:x8_1<(l0.length:Int):=oD zz151;obtain⟨ad268,e268,hx268_0⟩:=Kd.at_int HR0.out x8_1 p268 q268
       cases e268;replace p268:=eq_true p268;replace q268:=eq_true q268;go_wp2;go_ret
       exact⟨by first|rfl|(simp;done)|(simp[*];done),by repeat(first|exact Drawn0.refl _|apply Drawn0.step)⟩
      rw[if_neg c6] at H;have c6b0:=beq_eq_false_iff_ne.mpr c6;have c6b1:=bne_iff_ne.mpr c6;have H':=aM H;clear H;have p268:0≤(x8_1:Int):=oD zz151;have q268:x8_1<(l0.length:Int):=oD zz151;obtain⟨ad268,e268,hx268_0⟩:=Kd.at_int HR0.out x8_1 p268 q268
      cases e268;replace p268:=eq_true p268;replace q268:=eq_true q268;go_wp2
      go_roundg k1
      case measure=>have:=HK1.out;omega
      case rel=>exact⟨(wrap64 (x8_1+1)),zz152,H',⟨zz161⟩,by repeat(first|exact Drawn0.refl _|apply Drawn0.step)⟩
     rw[if_neg c5] at H
     exact absurd H (by simp)
    rw[if_neg c4] at H
    exact absurd H (by simp)
   rw[if_neg c3] at H;have c3b0:=dF c3;clear c3;obtain rfl:=oI H;go_wp2;go_ret
   exact⟨by first|rfl|(simp;done)|(simp[*];done),by repeat(first|exact Drawn0.refl _|apply Drawn0.step)⟩
end
section
def slCl.f (l0:List Int):Option (List Int):=if l0.length≤1000000000 then some l0 else none
theorem slCl.calls (A0:Option Addr) (c0:Nat) (l0:List Int) (r:List Int) (w:World) (hr0:Kd.C (Kd.int .i64) w A0 l0.length l0) (hc0:l0.length≤c0) (h:slCl.f l0=some r):
    Calls Try.prog 69 #[.slice A0 l0.length c0] w fun e w'=>∃v0_:Value,e= .returned (v0_)∧Kd.R (Kd.int .i64) 3 w' w.heap.size (fun _=>True) v0_ r∧Below w.heap.size w w':=by
 have HR0:=aM hr0
 have HB:=aM (Below.refl w.heap.size w)
 have hq:l0.length≤1000000000∧l0=r:=by
  unfold slCl.f at h
  split at h
  ·exact⟨by assumption,oI h⟩
  ·cases h
 obtain⟨hl,rfl⟩:=hq
 have HL:=aM hl
 have hn:A0=none→l0= []:=by
  intro h0
  rcases l0 with _|⟨x,l⟩
  ·rfl
  ·obtain⟨ad,he,_⟩:=hr0.2.2 (by simp);rw[h0] at he
   cases he
 have HN:=aM hn
 clear hl hr0 h hn hc0
 rcases A0 with _|ad
 ·have:=HN.out rfl
  subst this;have hq:=fun W=>run_eql_nil W none 0 c0
  clear HN
  go_enter Try.func69,Try.ntmps69
  go_wp2;go_ret
  exact⟨_,rfl,Kd.R_nil _ _ _ _ _,by first|exact HB.out|exact Zf HB.out _⟩
 ·have hq:=fun W=>run_eql_nil W (some ad) l0.length c0
  go_enter Try.func69,Try.ntmps69
  go_wp2_with (first
   |((with_reducible refine Zr (N:=5) rfl ?_);refine Kd.R_lit (Kd.int .i64) _ 3 ?hg (N:=5) ?hd (xs:=([]:List Int)) (inner:= []) (ok:=fun _=>True) (okp:=fun _=>True) ?hr ?hp (fun _ hk=>hk) trivial (Below.refl _ _) (Nat.le_refl _) (by simp) ?_;(case hd=>rfl);(case hg=>rfl);(case hr=>first|(go_simp;done)|(go_simp;rfl));(case hp=>exact(Reps.none _ _));intro v1 w1 ho1 hb1 hg_ hnew_;clear hg_ hnew_;have HO1:=aM ho1;have HB1:=aM hb1;clear ho1 hb1)
   |((with_reducible refine ZO (b:= .append) (xs:= #[.tmp 5,.tmp 6]) rfl ?_);at_builtin;refine Kd.R_append_rows (Kd.int .i64) (w0:=w) w.heap.size rfl (.tmp 5) (.tmp 6) 22 3 (.int .i64 0) 8 rfl Try.underlying22 info3 rfl (by decide) (by omega) v1 [] l0 _ _ _ (fun _=>True) (fun _=>False) rfl rfl ?aO ?aR (fun _ _ h=>h) (fun _ h=>h.elim) ?aF ?aB ?aS ?aL ?_;(case aR=>exact Kd.C_below HR0.out (HB1.out));(case aB=>exact HB1.out);(case aF=>exact(fun _ _=>trivial));(case aO=>exact HO1.out);(case aS=>exact HB1.out.size);(case aL=>have:=HL.out;simp only[List.length_nil];omega);intro v2 w2 ho2 hb2 hg2 hat2;have HO2:=aM ho2;have HB2:=aM hb2;clear ho2 hb2 hg2 hat2))
  go_ret;have ho2:=HO2.out;rw[List.nil_append] at ho2
  exact⟨_,rfl,ho2,HB2.out⟩
end
end Go.Proofs.Ytjjlhbgpdncpcaa.P