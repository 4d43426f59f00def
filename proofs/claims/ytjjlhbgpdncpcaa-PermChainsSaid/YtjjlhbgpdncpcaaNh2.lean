/- What the claim's theorem is built on, part 2: words, walks of the code, and what they tell. -/
import Derived.Test.YtjjlhbgpdncpcaaNh1
namespace Go.Proofs.Ytjjlhbgpdncpcaa.P
open Go.RowKit Go.Proofs.YtjjlhbgpdncpcaaW.PrintWords Go.Proofs.YtjjlhbgpdncpcaaW.PrintLast Go.Proofs.YtjjlhbgpdncpcaaW.PrintMore
set_option linter.unusedVariables false
set_option linter.unusedSimpArgs false
set_option maxHeartbeats 8000000
set_option maxRecDepth 100000
section
theorem dr_trans {w w' w'':World} (h:Drawn0 w w') (h2:Drawn0 w' w''):Drawn0 w w'':=by
 obtain⟨⟨n,rfl⟩⟩:=h2
 exact h.step n
theorem wrap64_to {n:Int} (h: -9223372036854775808≤n∧n≤9223372036854775807):wrap64 n=n:=by unfold wrap64;omega
theorem rd_is (l:List Int) (n:Nat):rd l (n:Int)=l.getD n 0:=by simp[rd]
theorem take_eq_succ {α:Type} (d:α) {x y:List α} {i:Nat} (hx:i<x.length) (hy:i<y.length):x.take (i+1)=y.take (i+1)↔x.take i=y.take i∧x.getD i d=y.getD i d:=by
 rw[List.take_succ_eq_append_getElem hx,List.take_succ_eq_append_getElem hy]
 have e1:x.getD i d=x[i]:=by simp[List.getD_eq_getElem?_getD,hx]
 have e2:y.getD i d=y[i]:=by simp[List.getD_eq_getElem?_getD,hy]
 rw[e1,e2]
 constructor
 ·intro h
  have:=List.append_inj h (by simp;omega)
  exact⟨this.1,by simpa using this.2⟩
 ·rintro ⟨h1,h2⟩
  rw[h1,h2]
theorem eq_loop (x y:List Int) (hxy:x.length=y.length) (hb:x.length≤9223372036854775807):∀(m i:Nat),m=x.length-i→i≤x.length→x.take i=y.take i→slEq.l0 (m+1) x y (x.length:Int) (i:Int)=some (decide (x=y))
 | 0,i,hm,hi,ht=>by
  rw[slEq.l0,if_neg (by omega)];have:x=y:=by rw[List.take_of_length_le (by omega),List.take_of_length_le (by omega)] at ht;exact ht
  rw[dT this]
 | m +1,i,hm,hi,ht=>by
  rw[slEq.l0,if_pos (by omega),if_pos (by omega),if_pos (by omega),if_pos (by omega),rd_is,rd_is,wrap64_to (by omega)]
  by_cases h:x.getD i 0=y.getD i 0
  ·rw[if_pos h]
   exact eq_loop x y hxy hb m (i+1) (by omega) (by omega) ((take_eq_succ 0 (by omega) (by omega)).2 ⟨ht,h⟩)
  ·rw[if_neg h,dF (fun e=>h (by rw[e]))]
theorem Equal_is (x y:List Int) (hb:x.length≤9223372036854775807):∃k,slEq.f k x y=some (decide (x=y)):=by
 refine⟨x.length+1,?_⟩
 unfold slEq.f
 by_cases h:(x.length:Int)=(y.length:Int)
 ·rw[if_pos h]
  exact eq_loop x y (by omega) hb x.length 0 (by omega) (by omega) (by simp)
 rw[if_neg h,dF (fun e=>h (by rw[e]))]
def slEqF.f (l0 l1:List (List Int)):Option Bool:=some (decide (l0=l1))
theorem slEqF.calls (A0:Option Addr) (c0:Nat) (l0:List (List Int)) (A1:Option Addr) (c1:Nat) (l1:List (List Int)) (r:Bool) (w:World) (hr0:Kd.C (Kd.slice 3 (Kd.int .i64)) w A0 l0.length l0) (hc0:l0.length≤c0) (hr1:Kd.C (Kd.slice 3 (Kd.int .i64)) w A1 l1.length l1) (hc1:l1.length≤c1) (h:slEqF.f l0 l1=some r):
    Calls Try.prog 66 #[.slice A0 l0.length c0,.slice A1 l1.length c1,.func (.func 65) #[] #[]] w fun e w'=>e= .returned (.bool r)∧Drawn0 w w':=by
 obtain rfl:=oI h
 have HR0:=aM hr0
 have HR1:=aM hr1
 clear hr0 hr1 hc0 hc1 h
 by_cases hl:(l0.length:Int)=(l1.length:Int)
 ·have hlb :((l0.length:Int) !=(l1.length:Int))=false:=bne_eq_false_iff_eq.mpr hl
  have hlc:((l0.length:Int)==(l1.length:Int))=true:=beq_iff_eq.mpr hl;have HL:=aM hl;clear hl
  go_enter Try.func66,Try.ntmps66
  go_wp2
  go_loopg [17] l0.length (fun kq v17 w'=>∃i:Int,v17= .int .i64 i∧Aside0 (0≤i)∧Aside0 (i.toNat+kq=l0.length)∧Aside0 (l0.take i.toNat=l1.take i.toNat)∧Aside0 (Drawn0 w w'))
  case atStart=>exact⟨0,rfl,⟨by omega⟩,⟨by simp⟩,⟨by simp⟩,⟨Drawn0.refl _⟩⟩
  case round=>
   obtain⟨i,rfl,HI0,HI1,HA,HD⟩:=hrel;have i0:=HI0.out
   by_cases d1:i<(l0.length:Int)
   ·have d1b:decide (i<(l0.length:Int))=true:=dT d1;have d2:i<(l1.length:Int):=by have:=HL.out;omega
    have q0:=eq_true i0;have q1:=eq_true d1;have q2:=eq_true d2;have hmax:l0.length≤9223372036854775807:=HR0.out.2.1;obtain⟨ad,A2,c2,ea,hx1,hl2,hC2⟩:=ZY HR0.out i i0 d1
    cases ea;replace hx1:=(HD.out.below.cell (wB w _ hx1)).trans hx1;obtain⟨ad3,A3,c3,ea3,hx3,hl3,hC3⟩:=ZY HR1.out i i0 d2
    cases ea3;replace hx3:=(HD.out.below.cell (wB w _ hx3)).trans hx3;obtain⟨k2,hk2⟩:=Equal_is (Zp l0 i) (Zp l1 i) hC2.2.1;have HK2:=aM hk2;have HC2:=aM (Kd.C_below hC2 HD.out.below);have HC3:=aM (Kd.C_below hC3 HD.out.below);have HL2:=aM hl2;have HL3:=aM hl3;have HDD:=aM d2;clear hk2 hC2 hC3 hl2 hl3 d2
    have HX:Aside0 (l0.take (i+1).toNat=l1.take (i+1).toNat↔l0.take i.toNat=l1.take i.toNat∧Zp l0 i=Zp l1 i):=⟨by
     rw[show(i+1).toNat=i.toNat+1 by omega]
     exact take_eq_succ [] (by omega) (by have:=HDD.out;omega)⟩
    by_cases hb:Zp l0 i=Zp l1 i
    ·have hbd:decide (Zp l0 i=Zp l1 i)=true:=dT hb;have HBo:=aM hb;have HBd:=aM hbd;clear hb hbd
     go_wp2_with (first
      |(go_at_call 65;(with_reducible refine(slEq.calls k2 A2 c2 (Zp l0 i) A3 c3 (Zp l1 i) _ _ HC2.out HL2.out HC3.out HL3.out HK2.out).mono ?_);rintro e w5 ⟨rfl,hd5⟩;rw[HBd.out];have HD5:=aM hd5;clear hd5))
     obtain⟨k1,rfl⟩:∃m,gk=m+1:=⟨gk-1,by have:=HI1.out;omega⟩
     go_roundg k1
     case measure=>omega
     case rel=>exact⟨i+1,rfl,⟨by have:=HI0.out;omega⟩,⟨by have:=HI1.out;have:=HI0.out;omega⟩,⟨HX.out.2 ⟨HA.out,HBo.out⟩⟩,⟨dr_trans HD.out HD5.out⟩⟩
    have hbd:decide (Zp l0 i=Zp l1 i)=false:=dF hb;have HBo:=aM hb;have HBd:=aM hbd;clear hb hbd
    go_wp2_with (first
     |(go_at_call 65;(with_reducible refine(slEq.calls k2 A2 c2 (Zp l0 i) A3 c3 (Zp l1 i) _ _ HC2.out HL2.out HC3.out HL3.out HK2.out).mono ?_);rintro e w5 ⟨rfl,hd5⟩;rw[HBd.out];have HD5:=aM hd5;clear hd5))
    go_ret
    refine⟨?_,dr_trans HD.out HD5.out⟩;rw[dF (fun e=>HBo.out (by rw[e]))];rfl
   have d1b:decide (i<(l0.length:Int))=false:=dF d1;have ha:=HA.out;rw[List.take_of_length_le (by omega),List.take_of_length_le (by have:=HL.out;omega)] at ha;have HA2:=aM ha;clear ha;go_wp2;go_ret
   exact⟨by rw[dT HA2.out];rfl,HD.out⟩
 have hlb:((l0.length:Int) !=(l1.length:Int))=true:=bne_iff_ne.mpr hl
 have hlc:((l0.length:Int)==(l1.length:Int))=false:=beq_eq_false_iff_ne.mpr hl
 have HN:=aM (show l0≠l1 from fun e=>hl (by rw[e]))
 clear hl
 go_enter Try.func66,Try.ntmps66
 go_wp2
 go_ret
 exact⟨by rw[dF HN.out];rfl,Drawn0.refl _⟩
end
section
attribute [local go_sem] ZE ZC ZJ ZI ZA Zz ZD ZB
mutual
def perm_CheckChain.l0:Nat→List (List Int)→List (S74)→Int→Int→Int→List (S74)→Option (Int)
 |0,_,_,_,_,_,_=>none
 |k+1,x4,x25,x26,x27,x223000,x223001=>if x27<x26 then(if 0≤x27 then(if x27<(x25.length:Int) then(if(((Zd x25 x27).f1).length:Int)>x223000 then(some 5) else(if(((Zd x25 x27).f2).length:Int)=(((Zd x25 x27).f1).length:Int) then(if x4.length+((Zd x25 x27).f2).length<5864062014805 then(perm_CheckChain.l0 k (x4++((Zd x25 x27).f2)) x25 x26 (wrap64 (x27+1)) x223000 x223001) else(none)) else(some 5))) else(none)) else(none)) else((perm_Build.f k x223000 x4).bind fun bt229=>(if bt229.2.2=0 then(perm_CheckChain.j1 k ((bt229.2.1.length:Int) !=(x223001.length:Int)) x223000 x223001 bt229.1 bt229.2.1) else(perm_CheckChain.j1 k true x223000 x223001 bt229.1 bt229.2.1)))
def perm_CheckChain.j1:Nat→Bool→Int→List (S74)→Int→List (S74)→Option (Int)
 |0,_,_,_,_,_=>none
 |k+1,x68,x223000,x223001,x235000,x235001=>if x68=true then(some 5) else(perm_CheckChain.l1 k x223001 (x223001.length:Int) 0 x235000 x235001)
def perm_CheckChain.l1:Nat→List (S74)→Int→Int→Int→List (S74)→Option (Int)
 |0,_,_,_,_,_=>none
 |k+1,x70,x71,x72,x235000,x235001=>if x72<x71 then(if 0≤x72 then(if x72<(x70.length:Int) then(if x72<(x235001.length:Int) then(if((Zd x70 x72).f0)=((Zd x235001 x72).f0) then((slEq.f k ((Zd x70 x72).f1) ((Zd x235001 x72).f1)).bind fun t239=>(if t239=true then((slEqF.f ((Zd x70 x72).f2) ((Zd x235001 x72).f2)).bind fun t240=>(if t240=true then(perm_CheckChain.l1 k x70 x71 (wrap64 (x72+1)) x235000 x235001) else(some 5))) else(some 5))) else(some 5)) else(none)) else(none)) else(none)) else(some 0)
end
def perm_CheckChain.f (k:Nat) (a0_0:Int) (l0_1:List (S74)):Option (Int):=(perm_degree.f a0_0).bind fun t223=>(if t223=0 then(if(l0_1.length:Int)>a0_0 then(some 5) else(perm_CheckChain.l0 k ([]:List (List Int)) l0_1 (l0_1.length:Int) 0 a0_0 l0_1)) else(some t223))
theorem perm_CheckChain.callsV (k:Nat) (a0_0:Int) (P0_1_:Nat→Prop) (A0_1:Option Addr) (c0_1:Nat) (l0_1:List (S74)) (r:Int) (w:World) (hs0_1:Kd.V k74 74 w w.heap.size (fun k_=>P0_1_ k_) (.slice A0_1 l0_1.length c0_1) l0_1) (h:perm_CheckChain.f k a0_0 l0_1=some r):
    Calls Try.prog 36 #[.agg #[.int .i64 a0_0,.slice A0_1 l0_1.length c0_1]] w fun e w'=>e= .returned (.int .i64 r)∧Below w.heap.size w w':=by
 have hu46:=Try.underlying46
 have hu74:=Try.underlying74
 have HO0_1:=aM (show Kd.V k74 74 w w.heap.size (fun k_=>(P0_1_ k_∨w.heap.size≤k_)) (.slice A0_1 l0_1.length c0_1) l0_1 from Kd.V_mono hs0_1 (fun k_ hk=> .inl hk))
 have HB:=aM (Below.refl w.heap.size w)
 have H:((perm_degree.f a0_0).bind fun t223=>(if t223=0 then(if(l0_1.length:Int)>a0_0 then(some 5) else(perm_CheckChain.l0 k ([]:List (List Int)) l0_1 (l0_1.length:Int) 0 a0_0 l0_1)) else(some t223)))=some r:=h
 clear h
 replace H:=oB H
 obtain⟨t223,A20,H⟩:=H
 replace H:(if t223=0 then(if(l0_1.length:Int)>a0_0 then(some 5) else(perm_CheckChain.l0 k ([]:List (List Int)) l0_1 (l0_1.length:Int) 0 a0_0 l0_1)) else(some t223))=some r:=H
 have A2:=aM A20
 clear A20
 by_cases c3:t223=0
 ·rw [if_pos c3] at H
  have c3b0:=beq_iff_eq.mpr c3;have c3b1:=bne_eq_false_iff_eq.mpr c3;clear c3
  by_cases c4:(l0_1.length:Int)>a0_0
  ·rw[if_pos c4] at H;have c4b0:=dT c4;clear c4;obtain rfl:=oI H
   go_enter Try.func36,Try.ntmps36
   go_wp2_with (first|((with_reducible refine Zr (N:=1) rfl ?_);(try(refine Zv (by rfl) ?_;dsimp only));refine Zy ?hg (N:=1) ?hd (cs:= #[.int .i64 a0_0,.slice A0_1 l0_1.length c0_1]) (t:=46) ?hr ?_;(case hd=>rfl);(case hg=>rfl);(case hr=>first|(go_simp;done)|(go_simp;rfl));intro gb222 hg w5 hbox hb;replace HO0_1:=aM (Kd.V_below (Kd.V_elderB (zV HO0_1) gb222 (Nat.le_of_eq hg.symm)) hb);have BK222:=aM (hbox);have GW222:=aM ((by rw[hg];exact(Zc zz126):w.heap.size≤gb222));have GE222:=aM ((by rw[hg];exact(Zc zz126):w.heap.size≤gb222));replace HB:=aM (Ze zz126 hb);clear hb hbox hg;have hcz6_0:w5.cell? ⟨gb222,0,none⟩=some (.int .i64 a0_0):=(Zb BK222.out 0).trans rfl;have hcz6_1:w5.cell? ⟨gb222,1,none⟩=some (.slice A0_1 l0_1.length c0_1):=(Zb BK222.out 1).trans rfl;have hfz6_0:=Za BK222.out 0;have hfz6_1:=Za BK222.out 1)|((with_reducible refine Zq (f:=52) rfl ?_);refine ZG (some 14) rfl rfl Try.func52 (by kernel_rfl) rfl #[.int .i64 a0_0] rfl zz125 ?_;(with_reducible refine(perm_degree.calls a0_0 t223 _ A2.out).mono ?_);rintro e w' ⟨rfl,⟨nd,rfl⟩⟩;refine⟨_,rfl,?_⟩))
   go_ret
   exact⟨by first|rfl|(simp[Zj,Zi]<;>rfl)|(simp[*,Zj,Zi]<;>rfl),by repeat(first|(with_reducible first|exact HB.out|apply Zn|apply Zf|apply Zh|refine Zk ?_ GE222.out)|exact HB.out)⟩
  rw[if_neg c4] at H;have c4b0:=dF c4;clear c4;have H':=aM H;clear H
  go_enter Try.func36,Try.ntmps36
  go_wp2_with (first|((with_reducible refine Zr (N:=1) rfl ?_);(try(refine Zv (by rfl) ?_;dsimp only));refine Zy ?hg (N:=1) ?hd (cs:= #[.int .i64 a0_0,.slice A0_1 l0_1.length c0_1]) (t:=46) ?hr ?_;(case hd=>rfl);(case hg=>rfl);(case hr=>first|(go_simp;done)|(go_simp;rfl));intro gb222 hg w7 hbox hb;replace HO0_1:=aM (Kd.V_below (Kd.V_elderB (zV HO0_1) gb222 (Nat.le_of_eq hg.symm)) hb);have BK222:=aM (hbox);have GW222:=aM ((by rw[hg];exact(Zc zz126):w.heap.size≤gb222));have GE222:=aM ((by rw[hg];exact(Zc zz126):w.heap.size≤gb222));replace HB:=aM (Ze zz126 hb);clear hb hbox hg;have hcz8_0:w7.cell? ⟨gb222,0,none⟩=some (.int .i64 a0_0):=(Zb BK222.out 0).trans rfl;have hcz8_1:w7.cell? ⟨gb222,1,none⟩=some (.slice A0_1 l0_1.length c0_1):=(Zb BK222.out 1).trans rfl;have hfz8_0:=Za BK222.out 0;have hfz8_1:=Za BK222.out 1)|((with_reducible refine Zq (f:=52) rfl ?_);refine ZG (some 14) rfl rfl Try.func52 (by kernel_rfl) rfl #[.int .i64 a0_0] rfl zz125 ?_;(with_reducible refine(perm_degree.calls a0_0 t223 _ A2.out).mono ?_);rintro e w' ⟨rfl,⟨nd,rfl⟩⟩;refine⟨_,rfl,?_⟩))
  go_loopg [4,27] k (fun kq v4 v27 w'=>∃(x4_1:List (List Int)) (x27_1:Int),v27= .int .i64 x27_1∧Aside0 (perm_CheckChain.l0 kq x4_1 l0_1 (l0_1.length:Int) x27_1 a0_0 l0_1=some r)∧Aside0 (kq≤k)∧Aside0 (Kd.N (Kd.slice 3 (Kd.int .i64)) 22 w' w.heap.size (fun k_=>(P0_1_ k_∨w.heap.size≤k_)∧k_≠gb222) v4 x4_1)∧Aside0 (Kd.V k74 74 w' w.heap.size (fun k_=>(P0_1_ k_∨w.heap.size≤k_)∧some k_≠(v4:Value).ownBlock∧k_≠gb222) (.slice A0_1 l0_1.length c0_1) l0_1)∧Aside0 (Kd.V k74 74 w' w.heap.size (fun k_=>(P0_1_ k_∨w.heap.size≤k_)∧some k_≠(v4:Value).ownBlock∧k_≠gb222) (.slice A0_1 l0_1.length c0_1) l0_1)∧Aside0 (w'.heap[gb222]? =some (.cells #[.int .i64 a0_0,(.slice A0_1 l0_1.length c0_1)] 46 (0,0)))∧Aside0 (Below w.heap.size w w'))
  case atStart=>exact⟨(([]:List (List Int))),(0),zz152,H',⟨Nat.le_refl _⟩,⟨zz123⟩,⟨zz91⟩,⟨zz91⟩,⟨(zB BK222)⟩,⟨zz93⟩⟩
  case round =>
   clear H';(try clear p2);(try clear c3);(try clear c3b0);(try clear c3b1);(try clear c4);(try clear c4b0);(try clear c5);(try clear hcz6_0);(try clear hcz6_1);(try clear hcz8_0);(try clear hcz8_1);(try clear hfz6_0);(try clear hfz6_1);(try clear hfz8_0);(try clear hfz8_1);obtain⟨x4_1,x27_1,rfl,HA,HK1,HO_4,HO_25,HO_223001,BK222,HB⟩:=hrel
   cases gk with
   |zero=>exact absurd HA.out (by simp[perm_CheckChain.l0])
   | succ k1=>
    have H:=HA.out;clear HA;simp only[perm_CheckChain.l0] at H
    by_cases c9:x27_1<(l0_1.length:Int)
    ·rw [if_pos c9] at H;have c9b0:=dT c9;clear c9
     by_cases c10:0≤x27_1
     ·rw [if_pos c10] at H;have c10b0:=dT c10;clear c10
      by_cases c11:x27_1<(l0_1.length:Int)
      ·rw [if_pos c11] at H;have c11b0:=dT c11;clear c11
       by_cases c12:(((Zd l0_1 x27_1).f1).length:Int)>a0_0
       ·rw[if_pos c12] at H;have c12b0:=dT c12;clear c12;obtain rfl:=oI H;have p224:0≤(x27_1:Int):=oD zz151;have q224:x27_1<(l0_1.length:Int):=oD zz151;obtain⟨ad224,A224_1,c224_1,A224_2,c224_2,e224,hx224_0,hx224_1,hx224_2,hl224_1,hi224_1,hl224_2,hi224_2⟩:=Z1 (Kd.V_reads' HO_25.out).2.2 x27_1 p224 q224
        cases e224;obtain⟨ce224,hce224,hMe224,hcc224⟩:=Kd.V_get HO_25.out z74 x27_1 p224 zz116;obtain⟨ua224_1,uc224_1,ua224_2,uc224_2,rfl,ul224_1,ge224_1,ul224_2,ge224_2⟩:=Z3 hMe224;have hv224_1:=hcc224 1 _ rfl;rw[ZN _ _ 1 (by omega)] at hv224_1;replace hv224_1:=oI (hv224_1.symm.trans hx224_1);injection hv224_1 with hva_ hvn_ hvc_
        rw[hva_] at ge224_1;rw[hvc_] at ul224_1;have HL224_1:=aM (show Kd.V (Kd.int .i64) 3 _ w.heap.size _ _ ((Zd l0_1 x27_1).f1) from Kd.V_mk ul224_1 ge224_1);clear hva_ hvn_ hvc_ ge224_1 ul224_1;have hv224_2:=hcc224 2 _ rfl;rw[ZN _ _ 2 (by omega)] at hv224_2;replace hv224_2:=oI (hv224_2.symm.trans hx224_2);injection hv224_2 with hva_ hvn_ hvc_
        rw[hva_] at ge224_2;rw[hvc_] at ul224_2;have HL224_2:=aM (show Kd.V (Kd.slice 3 (Kd.int .i64)) 22 _ w.heap.size _ _ ((Zd l0_1 x27_1).f2) from Kd.V_mk ul224_2 ge224_2);clear hva_ hvn_ hvc_ ge224_2 ul224_2;clear hcc224 hce224;have HR224_1:=aM hi224_1;have HC224_1:=aM hl224_1;clear hi224_1 hl224_1;have HR224_2:=aM hi224_2;have HC224_2:=aM hl224_2;clear hi224_2 hl224_2;replace p224:=eq_true p224;replace q224:=eq_true q224
        go_wp2_with (first|((with_reducible refine Zr (N:=6) rfl ?_);(try(refine Zv (by rfl) ?_;dsimp only));refine Zy ?hg (N:=6) ?hd (cs:= #[.int .i64 0,.slice none 0 0,.slice none 0 0]) (t:=74) ?hr ?_;(case hd=>rfl);(case hg=>rfl);(case hr=>first|(go_simp;done)|(go_simp;rfl));intro gb225 hg w13 hbox hb;replace HO_4:=aM (Kd.N_below (Kd.N_elderB (zN HO_4) gb225 (Nat.le_of_eq hg.symm)) hb);replace HO_25:=aM (Kd.V_below (Kd.V_elderB (zV HO_25) gb225 (Nat.le_of_eq hg.symm)) hb);replace HO_223001:=aM (Kd.V_below (Kd.V_elderB (zV HO_223001) gb225 (Nat.le_of_eq hg.symm)) hb);replace HR224_1:=aM (Kd.C_below zz63 hb);replace HL224_1:=aM (Kd.V_below (Kd.V_elderB (zV HL224_1) gb225 (Nat.le_of_eq hg.symm)) hb);replace HR224_2:=aM (Kd.C_below zz64 hb);replace HL224_2:=aM (Kd.V_below (Kd.V_elderB (zV HL224_2) gb225 (Nat.le_of_eq hg.symm)) hb);have BK225:=aM (hbox);have GW225:=aM ((by rw[hg];exact(Zc zz93):w.heap.size≤gb225));have GE225:=aM ((by rw[hg];exact(Zc zz93):w.heap.size≤gb225));replace HB:=aM (Ze zz93 hb);have NB222_225:=aM ((by rw[hg];exact Nat.ne_of_lt (Zw (g:=gb222) (o:= .cells #[.int .i64 a0_0,.slice (some ad224) l0_1.length c0_1] 46 (0,0)) (zB BK222)):gb222≠gb225));have NB225_222:=aM ((by rw[hg];exact Nat.ne_of_gt (Zw (g:=gb222) (o:= .cells #[.int .i64 a0_0,.slice (some ad224) l0_1.length c0_1] 46 (0,0)) (zB BK222)):gb225≠gb222));replace BK222:=aM (Zg (g:=gb222) (o:= .cells #[.int .i64 a0_0,.slice (some ad224) l0_1.length c0_1] 46 (0,0)) (zB BK222) hb);clear hb hbox hg;have hnb14:=NB225_222.out;have hnc14:=NB222_225.out;have hcz15_0:w13.cell? ⟨gb225,0,none⟩=some (.int .i64 0):=(Zb BK225.out 0).trans rfl;have hcz15_1:w13.cell? ⟨gb225,1,none⟩=some (.slice none 0 0):=(Zb BK225.out 1).trans rfl;have hcz15_2:w13.cell? ⟨gb225,2,none⟩=some (.slice none 0 0):=(Zb BK225.out 2).trans rfl;have hfz15_0:=Za BK225.out 0;have hfz15_1:=Za BK225.out 1;have hfz15_2:=Za BK225.out 2;have hcz16_0:w13.cell? ⟨gb222,0,none⟩=some (.int .i64 a0_0):=(Zb BK222.out 0).trans rfl;have hcz16_1:w13.cell? ⟨gb222,1,none⟩=some (.slice (some ad224) l0_1.length c0_1):=(Zb BK222.out 1).trans rfl;have hfz16_0:=Za BK222.out 0;have hfz16_1:=Za BK222.out 1))
        go_ret
        exact⟨by first|rfl|(simp[Zj,Zi]<;>rfl)|(simp[*,Zj,Zi]<;>rfl),by repeat(first|(with_reducible first|exact HB.out|apply Zn|apply Zf|apply Zh|refine Zk ?_ GE222.out|refine Zk ?_ GE225.out)|exact HB.out)⟩
       rw[if_neg c12] at H;have c12b0:=dF c12;clear c12
       by_cases c17:(((Zd l0_1 x27_1).f2).length:Int)=(((Zd l0_1 x27_1).f1).length:Int)
       ·rw [if_pos c17] at H;have c17b0:=beq_iff_eq.mpr c17;have c17b1:=bne_eq_false_iff_eq.mpr c17;have c17b2:(((Zd l0_1 x27_1).f2).length==((Zd l0_1 x27_1).f1).length)=true:=by first|simpa using c17|(simp at c17⊢;omega)
        clear c17
        by_cases c18:x4_1.length+((Zd l0_1 x27_1).f2).length<5864062014805
        ·rw[if_pos c18] at H;have LMc18:=aM c18;clear c18;obtain⟨y226,hy226⟩:∃y_:List (List Int),y_=(x4_1++((Zd l0_1 x27_1).f2)):=⟨_,rfl⟩;replace H:(perm_CheckChain.l0 k1 y226 l0_1 (l0_1.length:Int) (wrap64 (x27_1+1)) a0_0 l0_1)=some r:=by first|(rw[hy226];with_reducible exact H)|(have H2_:=(Option.bind_some _ _).symm.trans H;rw[hy226];with_reducible exact H2_)|(have H2_:=(Option.bind_some _ _).symm.trans H;with_reducible exact H2_)|with_reducible exact H|(rw[hy226];exact H)|exact H
         have Ny226:=aM hy226;clear hy226;have H':=aM H;clear H;have p224:0≤(x27_1:Int):=oD zz151;have q224:x27_1<(l0_1.length:Int):=oD zz151;obtain⟨ad224,A224_1,c224_1,A224_2,c224_2,e224,hx224_0,hx224_1,hx224_2,hl224_1,hi224_1,hl224_2,hi224_2⟩:=Z1 (Kd.V_reads' HO_25.out).2.2 x27_1 p224 q224
         cases e224;obtain⟨ce224,hce224,hMe224,hcc224⟩:=Kd.V_get HO_25.out z74 x27_1 p224 zz116;obtain⟨ua224_1,uc224_1,ua224_2,uc224_2,rfl,ul224_1,ge224_1,ul224_2,ge224_2⟩:=Z3 hMe224;have hv224_1:=hcc224 1 _ rfl;rw[ZN _ _ 1 (by omega)] at hv224_1;replace hv224_1:=oI (hv224_1.symm.trans hx224_1);injection hv224_1 with hva_ hvn_ hvc_
         rw[hva_] at ge224_1;rw[hvc_] at ul224_1;have HL224_1:=aM (show Kd.V (Kd.int .i64) 3 _ w.heap.size _ _ ((Zd l0_1 x27_1).f1) from Kd.V_mk ul224_1 ge224_1);clear hva_ hvn_ hvc_ ge224_1 ul224_1;have hv224_2:=hcc224 2 _ rfl;rw[ZN _ _ 2 (by omega)] at hv224_2;replace hv224_2:=oI (hv224_2.symm.trans hx224_2);injection hv224_2 with hva_ hvn_ hvc_
         rw[hva_] at ge224_2;rw[hvc_] at ul224_2;have HL224_2:=aM (show Kd.V (Kd.slice 3 (Kd.int .i64)) 22 _ w.heap.size _ _ ((Zd l0_1 x27_1).f2) from Kd.V_mk ul224_2 ge224_2);clear hva_ hvn_ hvc_ ge224_2 ul224_2;clear hcc224 hce224;have HR224_1:=aM hi224_1;have HC224_1:=aM hl224_1;clear hi224_1 hl224_1;have HR224_2:=aM hi224_2;have HC224_2:=aM hl224_2;clear hi224_2 hl224_2;replace p224:=eq_true p224;replace q224:=eq_true q224
         go_wp2_with (first|((with_reducible refine Zr (N:=6) rfl ?_);(try(refine Zv (by rfl) ?_;dsimp only));refine Zy ?hg (N:=6) ?hd (cs:= #[.int .i64 0,.slice none 0 0,.slice none 0 0]) (t:=74) ?hr ?_;(case hd=>rfl);(case hg=>rfl);(case hr=>first|(go_simp;done)|(go_simp;rfl));intro gb225 hg w19 hbox hb;replace HO_4:=aM (Kd.N_below (Kd.N_elderB (zN HO_4) gb225 (Nat.le_of_eq hg.symm)) hb);replace HO_25:=aM (Kd.V_below (Kd.V_elderB (zV HO_25) gb225 (Nat.le_of_eq hg.symm)) hb);replace HO_223001:=aM (Kd.V_below (Kd.V_elderB (zV HO_223001) gb225 (Nat.le_of_eq hg.symm)) hb);replace HR224_1:=aM (Kd.C_below zz63 hb);replace HL224_1:=aM (Kd.V_below (Kd.V_elderB (zV HL224_1) gb225 (Nat.le_of_eq hg.symm)) hb);replace HR224_2:=aM (Kd.C_below zz64 hb);replace HL224_2:=aM (Kd.V_below (Kd.V_elderB (zV HL224_2) gb225 (Nat.le_of_eq hg.symm)) hb);have BK225:=aM (hbox);have GW225:=aM ((by rw[hg];exact(Zc zz93):w.heap.size≤gb225));have GE225:=aM ((by rw[hg];exact(Zc zz93):w.heap.size≤gb225));replace HB:=aM (Ze zz93 hb);have NB222_225:=aM ((by rw[hg];exact Nat.ne_of_lt (Zw (g:=gb222) (o:= .cells #[.int .i64 a0_0,.slice (some ad224) l0_1.length c0_1] 46 (0,0)) (zB BK222)):gb222≠gb225));have NB225_222:=aM ((by rw[hg];exact Nat.ne_of_gt (Zw (g:=gb222) (o:= .cells #[.int .i64 a0_0,.slice (some ad224) l0_1.length c0_1] 46 (0,0)) (zB BK222)):gb225≠gb222));replace BK222:=aM (Zg (g:=gb222) (o:= .cells #[.int .i64 a0_0,.slice (some ad224) l0_1.length c0_1] 46 (0,0)) (zB BK222) hb);clear hb hbox hg;have hnb20:=NB225_222.out;have hnc20:=NB222_225.out;have hcz21_0:w19.cell? ⟨gb225,0,none⟩=some (.int .i64 0):=(Zb BK225.out 0).trans rfl;have hcz21_1:w19.cell? ⟨gb225,1,none⟩=some (.slice none 0 0):=(Zb BK225.out 1).trans rfl;have hcz21_2:w19.cell? ⟨gb225,2,none⟩=some (.slice none 0 0):=(Zb BK225.out 2).trans rfl;have hfz21_0:=Za BK225.out 0;have hfz21_1:=Za BK225.out 1;have hfz21_2:=Za BK225.out 2;have hcz22_0:w19.cell? ⟨gb222,0,none⟩=some (.int .i64 a0_0):=(Zb BK222.out 0).trans rfl;have hcz22_1:w19.cell? ⟨gb222,1,none⟩=some (.slice (some ad224) l0_1.length c0_1):=(Zb BK222.out 1).trans rfl;have hfz22_0:=Za BK222.out 0;have hfz22_1:=Za BK222.out 1)|((with_reducible refine ZO (b:= .append) (xs:= #[.tmp 46,.tmp 48]) rfl ?_);(try(refine Zv (by rfl) ?_;dsimp only));at_builtin;refine Kd.N_append_rows (Kd.slice 3 (Kd.int .i64)) (w0:=w) w.heap.size rfl (.tmp 46) (.tmp 48) 28 22 (.slice none 0 0) 24 rfl Try.underlying28 info22 rfl (by decide) (by omega) u4 x4_1 ((Zd l0_1 x27_1).f2) _ _ _ (fun k_=>(P0_1_ k_∨w.heap.size≤k_)∧k_≠gb222∧k_≠gb225) (fun k_=>((fun k_=>(P0_1_ k_∨w.heap.size≤k_)∧k_≠gb222∧k_≠gb225)) k_∧some k_≠(u4:Value).ownBlock) rfl rfl ?aO ?aR (fun _ hk=>hk) ?aF ?aB ?aS ?aL ?_;(case aR=>exact(by skip;exact Kd.V_F (Kd.V_mono (ok':=(fun k_=>((fun k_=>(P0_1_ k_∨w.heap.size≤k_)∧k_≠gb222∧k_≠gb225)) k_∧some k_≠(u4:Value).ownBlock)) ((Kd.V_far (p:=⟨gb225,2,none⟩) (Kd.V_far (p:=⟨gb225,1,none⟩) (Kd.V_far (p:=⟨gb225,0,none⟩) (Kd.V_mono HL224_2.out (fun k_ hk=>(⟨hk,hk.2⟩:_∧k_≠gb225))) (fun _ hk=>hk.2) (.int .i64 ((Zd l0_1 x27_1).f0))) (fun _ hk=>hk.2) (.slice A224_1 ((Zd l0_1 x27_1).f1).length c224_1)) (fun _ hk=>hk.2) (.slice A224_2 ((Zd l0_1 x27_1).f2).length c224_2))) (fun k_ hk=>⟨⟨hk.1.1.1,⟨hk.1.1.2.2,hk.1.2⟩⟩,hk.1.1.2.1⟩))));(case aB=>exact zz74);(case aF=>exact(fun k_ hk=>⟨(.inr (Nat.le_trans (Zc zz74) hk)),Kd.freshB (g:=gb222) (o:= .cells #[.int .i64 a0_0,.slice (some ad224) l0_1.length c0_1] 46 (0,0)) zz40 k_ hk,Kd.freshB (g:=gb225) (o:= .cells #[.int .i64 ((Zd l0_1 x27_1).f0),.slice A224_1 ((Zd l0_1 x27_1).f1).length c224_1,.slice A224_2 ((Zd l0_1 x27_1).f2).length c224_2] 74 (0,0)) zz6 k_ hk⟩));(case aO=>exact(by(with_reducible repeat(first|apply Kd.N_alloc|apply Kd.N_drewN|apply Kd.N_drew));exact Kd.N_mono (Kd.N_far (p:=⟨gb225,2,none⟩) (Kd.N_far (p:=⟨gb225,1,none⟩) (Kd.N_far (p:=⟨gb225,0,none⟩) (Kd.N_mono HO_4.out (fun k_ hk=>(⟨hk,hk.2⟩:_∧k_≠gb225))) (fun _ hk=>hk.2) (.int .i64 ((Zd l0_1 x27_1).f0))) (fun _ hk=>hk.2) (.slice A224_1 ((Zd l0_1 x27_1).f1).length c224_1)) (fun _ hk=>hk.2) (.slice A224_2 ((Zd l0_1 x27_1).f2).length c224_2)) (fun _ hk=>⟨hk.1.1.1,⟨hk.1.1.2,hk.1.2⟩⟩)));(case aS=>exact(Zc zz74));(case aL=>have:=LMc18.out;omega);intro v227 w23 ho hb hg hat;rw[←Ny226.out] at ho;replace HO_25:=aM (Kd.V_afterv (ok:=(fun k_=>(P0_1_ k_∨w.heap.size≤k_)∧k_≠gb222∧k_≠gb225)) (by(with_reducible repeat(first|apply Kd.V_alloc|apply Kd.V_drewN|apply Kd.V_drew));exact Kd.V_mono (Kd.V_far (p:=⟨gb225,2,none⟩) (Kd.V_far (p:=⟨gb225,1,none⟩) (Kd.V_far (p:=⟨gb225,0,none⟩) (Kd.V_mono HO_25.out (fun k_ hk=>(⟨hk,hk.2⟩:_∧k_≠gb225))) (fun _ hk=>hk.2) (.int .i64 ((Zd l0_1 x27_1).f0))) (fun _ hk=>hk.2) (.slice A224_1 ((Zd l0_1 x27_1).f1).length c224_1)) (fun _ hk=>hk.2) (.slice A224_2 ((Zd l0_1 x27_1).f2).length c224_2)) (fun _ hk=>⟨⟨hk.1.1.1,⟨hk.1.1.2.2,hk.1.2⟩⟩,hk.1.1.2.1⟩)) hg hat);replace HO_223001:=aM (Kd.V_afterv (ok:=(fun k_=>(P0_1_ k_∨w.heap.size≤k_)∧k_≠gb222∧k_≠gb225)) (by(with_reducible repeat(first|apply Kd.V_alloc|apply Kd.V_drewN|apply Kd.V_drew));exact Kd.V_mono (Kd.V_far (p:=⟨gb225,2,none⟩) (Kd.V_far (p:=⟨gb225,1,none⟩) (Kd.V_far (p:=⟨gb225,0,none⟩) (Kd.V_mono HO_223001.out (fun k_ hk=>(⟨hk,hk.2⟩:_∧k_≠gb225))) (fun _ hk=>hk.2) (.int .i64 ((Zd l0_1 x27_1).f0))) (fun _ hk=>hk.2) (.slice A224_1 ((Zd l0_1 x27_1).f1).length c224_1)) (fun _ hk=>hk.2) (.slice A224_2 ((Zd l0_1 x27_1).f2).length c224_2)) (fun _ hk=>⟨⟨hk.1.1.1,⟨hk.1.1.2.2,hk.1.2⟩⟩,hk.1.1.2.1⟩)) hg hat);replace BK222:=aM (Z4 (g:=gb222) (o:= .cells #[.int .i64 a0_0,.slice (some ad224) l0_1.length c0_1] 46 (0,0)) zz40 hg (Kd.N_ne HO_4.out BK222.out (by decide)));replace HL224_1:=aM (Kd.V_afterv (ok:=(fun k_=>(P0_1_ k_∨w.heap.size≤k_)∧k_≠gb222∧k_≠gb225)) (by(with_reducible repeat(first|apply Kd.V_alloc|apply Kd.V_drewN|apply Kd.V_drew));exact Kd.V_mono (Kd.V_far (p:=⟨gb225,2,none⟩) (Kd.V_far (p:=⟨gb225,1,none⟩) (Kd.V_far (p:=⟨gb225,0,none⟩) (Kd.V_mono HL224_1.out (fun k_ hk=>(⟨hk,hk.2⟩:_∧k_≠gb225))) (fun _ hk=>hk.2) (.int .i64 ((Zd l0_1 x27_1).f0))) (fun _ hk=>hk.2) (.slice A224_1 ((Zd l0_1 x27_1).f1).length c224_1)) (fun _ hk=>hk.2) (.slice A224_2 ((Zd l0_1 x27_1).f2).length c224_2)) (fun _ hk=>⟨⟨hk.1.1.1,⟨hk.1.1.2.2,hk.1.2⟩⟩,hk.1.1.2.1⟩)) hg hat);replace HL224_2:=aM (Kd.V_afterv (ok:=(fun k_=>(P0_1_ k_∨w.heap.size≤k_)∧k_≠gb222∧k_≠gb225)) (by(with_reducible repeat(first|apply Kd.V_alloc|apply Kd.V_drewN|apply Kd.V_drew));exact Kd.V_mono (Kd.V_far (p:=⟨gb225,2,none⟩) (Kd.V_far (p:=⟨gb225,1,none⟩) (Kd.V_far (p:=⟨gb225,0,none⟩) (Kd.V_mono HL224_2.out (fun k_ hk=>(⟨hk,hk.2⟩:_∧k_≠gb225))) (fun _ hk=>hk.2) (.int .i64 ((Zd l0_1 x27_1).f0))) (fun _ hk=>hk.2) (.slice A224_1 ((Zd l0_1 x27_1).f1).length c224_1)) (fun _ hk=>hk.2) (.slice A224_2 ((Zd l0_1 x27_1).f2).length c224_2)) (fun _ hk=>⟨⟨hk.1.1.1,⟨hk.1.1.2.2,hk.1.2⟩⟩,hk.1.1.2.1⟩)) hg hat);replace BK225:=aM (Z4 (g:=gb225) (o:= .cells #[.int .i64 ((Zd l0_1 x27_1).f0),.slice A224_1 ((Zd l0_1 x27_1).f1).length c224_1,.slice A224_2 ((Zd l0_1 x27_1).f2).length c224_2] 74 (0,0)) zz6 hg (Kd.N_ne HO_4.out BK225.out (by decide)));replace HB:=aM (hb);have HO228:=aM (ho);clear HO_4;clear ho hb hg hat))
         go_roundg k1
         case measure=>have:=HK1.out;omega
         case rel=>exact⟨(y226),(wrap64 (x27_1+1)),zz152,H',⟨zz161⟩,⟨(by(with_reducible repeat(first|apply Kd.N_alloc|apply Kd.N_drewN|apply Kd.N_drew));exact Kd.N_mono HO228.out (fun _ hk=>⟨hk.1,hk.2.1⟩))⟩,⟨(by(with_reducible repeat(first|apply Kd.V_alloc|apply Kd.V_drewN|apply Kd.V_drew));exact Kd.V_mono HO_25.out (fun _ hk=>⟨hk.1.1,⟨hk.2,hk.1.2.1⟩⟩))⟩,⟨(by(with_reducible repeat(first|apply Kd.V_alloc|apply Kd.V_drewN|apply Kd.V_drew));exact Kd.V_mono HO_223001.out (fun _ hk=>⟨hk.1.1,⟨hk.2,hk.1.2.1⟩⟩))⟩,⟨(zB BK222)⟩,⟨zz74⟩⟩
        rw[if_neg c18] at H
        exact absurd H (by simp)
       rw[if_neg c17] at H;have c17b0:=beq_eq_false_iff_ne.mpr c17;have c17b1:=bne_iff_ne.mpr c17;have c17b2:(((Zd l0_1 x27_1).f2).length==((Zd l0_1 x27_1).f1).length)=false:=by first|simpa using c17|(simp at c17⊢;omega)
       obtain rfl:=oI H;have p224:0≤(x27_1:Int):=oD zz151;have q224:x27_1<(l0_1.length:Int):=oD zz151;obtain⟨ad224,A224_1,c224_1,A224_2,c224_2,e224,hx224_0,hx224_1,hx224_2,hl224_1,hi224_1,hl224_2,hi224_2⟩:=Z1 (Kd.V_reads' HO_25.out).2.2 x27_1 p224 q224
       cases e224;obtain⟨ce224,hce224,hMe224,hcc224⟩:=Kd.V_get HO_25.out z74 x27_1 p224 zz116;obtain⟨ua224_1,uc224_1,ua224_2,uc224_2,rfl,ul224_1,ge224_1,ul224_2,ge224_2⟩:=Z3 hMe224;have hv224_1:=hcc224 1 _ rfl;rw[ZN _ _ 1 (by omega)] at hv224_1;replace hv224_1:=oI (hv224_1.symm.trans hx224_1);injection hv224_1 with hva_ hvn_ hvc_
       rw[hva_] at ge224_1;rw[hvc_] at ul224_1;have HL224_1:=aM (show Kd.V (Kd.int .i64) 3 _ w.heap.size _ _ ((Zd l0_1 x27_1).f1) from Kd.V_mk ul224_1 ge224_1);clear hva_ hvn_ hvc_ ge224_1 ul224_1;have hv224_2:=hcc224 2 _ rfl;rw[ZN _ _ 2 (by omega)] at hv224_2;replace hv224_2:=oI (hv224_2.symm.trans hx224_2);injection hv224_2 with hva_ hvn_ hvc_
       rw[hva_] at ge224_2;rw[hvc_] at ul224_2;have HL224_2:=aM (show Kd.V (Kd.slice 3 (Kd.int .i64)) 22 _ w.heap.size _ _ ((Zd l0_1 x27_1).f2) from Kd.V_mk ul224_2 ge224_2);clear hva_ hvn_ hvc_ ge224_2 ul224_2;clear hcc224 hce224;have HR224_1:=aM hi224_1;have HC224_1:=aM hl224_1;clear hi224_1 hl224_1;have HR224_2:=aM hi224_2;have HC224_2:=aM hl224_2;clear hi224_2 hl224_2;replace p224:=eq_true p224;replace q224:=eq_true q224
       go_wp2_with (first|((with_reducible refine Zr (N:=6) rfl ?_);(try(refine Zv (by rfl) ?_;dsimp only));refine Zy ?hg (N:=6) ?hd (cs:= #[.int .i64 0,.slice none 0 0,.slice none 0 0]) (t:=74) ?hr ?_;(case hd=>rfl);(case hg=>rfl);(case hr=>first|(go_simp;done)|(go_simp;rfl));intro gb225 hg w24 hbox hb;replace HO_4:=aM (Kd.N_below (Kd.N_elderB (zN HO_4) gb225 (Nat.le_of_eq hg.symm)) hb);replace HO_25:=aM (Kd.V_below (Kd.V_elderB (zV HO_25) gb225 (Nat.le_of_eq hg.symm)) hb);replace HO_223001:=aM (Kd.V_below (Kd.V_elderB (zV HO_223001) gb225 (Nat.le_of_eq hg.symm)) hb);replace HR224_1:=aM (Kd.C_below zz63 hb);replace HL224_1:=aM (Kd.V_below (Kd.V_elderB (zV HL224_1) gb225 (Nat.le_of_eq hg.symm)) hb);replace HR224_2:=aM (Kd.C_below zz64 hb);replace HL224_2:=aM (Kd.V_below (Kd.V_elderB (zV HL224_2) gb225 (Nat.le_of_eq hg.symm)) hb);have BK225:=aM (hbox);have GW225:=aM ((by rw[hg];exact(Zc zz93):w.heap.size≤gb225));have GE225:=aM ((by rw[hg];exact(Zc zz93):w.heap.size≤gb225));replace HB:=aM (Ze zz93 hb);have NB222_225:=aM ((by rw[hg];exact Nat.ne_of_lt (Zw (g:=gb222) (o:= .cells #[.int .i64 a0_0,.slice (some ad224) l0_1.length c0_1] 46 (0,0)) (zB BK222)):gb222≠gb225));have NB225_222:=aM ((by rw[hg];exact Nat.ne_of_gt (Zw (g:=gb222) (o:= .cells #[.int .i64 a0_0,.slice (some ad224) l0_1.length c0_1] 46 (0,0)) (zB BK222)):gb225≠gb222));replace BK222:=aM (Zg (g:=gb222) (o:= .cells #[.int .i64 a0_0,.slice (some ad224) l0_1.length c0_1] 46 (0,0)) (zB BK222) hb);clear hb hbox hg;have hnb25:=NB225_222.out;have hnc25:=NB222_225.out;have hcz26_0:w24.cell? ⟨gb225,0,none⟩=some (.int .i64 0):=(Zb BK225.out 0).trans rfl;have hcz26_1:w24.cell? ⟨gb225,1,none⟩=some (.slice none 0 0):=(Zb BK225.out 1).trans rfl;have hcz26_2:w24.cell? ⟨gb225,2,none⟩=some (.slice none 0 0):=(Zb BK225.out 2).trans rfl;have hfz26_0:=Za BK225.out 0;have hfz26_1:=Za BK225.out 1;have hfz26_2:=Za BK225.out 2;have hcz27_0:w24.cell? ⟨gb222,0,none⟩=some (.int .i64 a0_0):=(Zb BK222.out 0).trans rfl;have hcz27_1:w24.cell? ⟨gb222,1,none⟩=some (.slice (some ad224) l0_1.length c0_1):=(Zb BK222.out 1).trans rfl;have hfz27_0:=Za BK222.out 0;have hfz27_1:=Za BK222.out 1))
       go_ret
       exact⟨by first|rfl|(simp[Zj,Zi]<;>rfl)|(simp[*,Zj,Zi]<;>rfl),by repeat(first|(with_reducible first|exact HB.out|apply Zn|apply Zf|apply Zh|refine Zk ?_ GE222.out|refine Zk ?_ GE225.out)|exact HB.out)⟩
      rw[if_neg c11] at H
      exact absurd H (by simp)
     rw[if_neg c10] at H
     exact absurd H (by simp)
    rw[if_neg c9] at H;have c9b0:=dF c9;clear c9;replace H:=oB H;obtain⟨⟨t229,t230,t233⟩,A280,H⟩:=H;replace H:(if t233=0 then(perm_CheckChain.j1 k1 ((t230.length:Int) !=(l0_1.length:Int)) a0_0 l0_1 t229 t230) else(perm_CheckChain.j1 k1 true a0_0 l0_1 t229 t230))=some r:=H;have A28:=aM A280;clear A280;have HC29:=aM H;clear H;have hcz30_0:wr.cell? ⟨gb222,0,none⟩=some (.int .i64 a0_0):=(Zb BK222.out 0).trans rfl;have hcz30_1:wr.cell? ⟨gb222,1,none⟩=some (.slice A0_1 l0_1.length c0_1):=(Zb BK222.out 1).trans rfl;have hfz30_0:=Za BK222.out 0;have hfz30_1:=Za BK222.out 1;obtain⟨Ao31,co31,eo31⟩:=Kd.N_slice HO_4.out;subst eo31
    go_upto_region 15 with(first|((with_reducible refine Zq (f:=30) rfl ?_);refine ZG (some 55) rfl rfl Try.func30 (by kernel_rfl) rfl #[.int .i64 a0_0,.slice Ao31 x4_1.length co31] rfl zz125 ?_;(with_reducible refine(perm_Build.calls k1 a0_0 _ _ x4_1 t229 t230 t233 _ ?side1 ?side2 A28.out).mono ?_);(case side1=>exact zC ((Kd.N_reads' HO_4.out).2.2));(case side2=>exact(Kd.N_reads' HO_4.out).2.1);rintro e w32 ⟨v231,rfl,ho0,hb⟩;refine⟨_,rfl,?_⟩;replace HO_25:=aM (Kd.V_elder' (zV HO_25) (Kd.N_base ho0) hb);replace HO_223001:=aM (Kd.V_elder' (zV HO_223001) (Kd.N_base ho0) hb);have HO232:=aM (Kd.N_lower (Kd.N_mono (ok':=fun k_=>(P0_1_ k_∨w.heap.size≤k_)∧some k_≠(.slice Ao31 x4_1.length co31:Value).ownBlock∧k_≠gb222) ho0 (fun k_ hk_=>⟨(.inr (Nat.le_trans (Zc zz93) hk_)),(Kd.fresh' (Kd.N_lt (zN HO_4)) k_ hk_),(Kd.freshB (g:=gb222) (o:= .cells #[.int .i64 a0_0,.slice A0_1 l0_1.length c0_1] 46 (0,0)) (zB BK222) k_ hk_)⟩)) (Zc zz93));replace HO_4:=aM (Kd.N_elder' (zN HO_4) (Kd.N_base ho0) hb);replace BK222:=aM (Zg (g:=gb222) (o:= .cells #[.int .i64 a0_0,.slice A0_1 l0_1.length c0_1] 46 (0,0)) (zB BK222) hb);replace HB:=aM (Ze zz93 hb);(try clear hb);(try clear hb2);(try clear hk);(try clear hi);(try clear ho0))|((with_reducible refine Zr (N:=7) rfl ?_);(try(refine Zv (by rfl) ?_;dsimp only));refine Zy ?hg (N:=7) ?hd (cs:= #[.int .i64 0,.slice none 0 0]) (t:=46) ?hr ?_;(case hd=>rfl);(case hg=>rfl);(case hr=>first|(go_simp;done)|(go_simp;rfl));intro gb234 hg w33 hbox hb;replace HO_4:=aM (Kd.N_below (Kd.N_elderB (zN HO_4) gb234 (Nat.le_of_eq hg.symm)) hb);replace HO_25:=aM (Kd.V_below (Kd.V_elderB (zV HO_25) gb234 (Nat.le_of_eq hg.symm)) hb);replace HO_223001:=aM (Kd.V_below (Kd.V_elderB (zV HO_223001) gb234 (Nat.le_of_eq hg.symm)) hb);replace HO232:=aM (Kd.N_below (Kd.N_elderB (zN HO232) gb234 (Nat.le_of_eq hg.symm)) hb);have BK234:=aM (hbox);have GW234:=aM ((by rw[hg];exact(Zc zz93):w.heap.size≤gb234));have GE234:=aM ((by rw[hg];exact(Zc zz93):w.heap.size≤gb234));replace HB:=aM (Ze zz93 hb);have NB222_234:=aM ((by rw[hg];exact Nat.ne_of_lt (Zw (g:=gb222) (o:= .cells #[.int .i64 a0_0,.slice A0_1 l0_1.length c0_1] 46 (0,0)) (zB BK222)):gb222≠gb234));have NB234_222:=aM ((by rw[hg];exact Nat.ne_of_gt (Zw (g:=gb222) (o:= .cells #[.int .i64 a0_0,.slice A0_1 l0_1.length c0_1] 46 (0,0)) (zB BK222)):gb234≠gb222));replace BK222:=aM (Zg (g:=gb222) (o:= .cells #[.int .i64 a0_0,.slice A0_1 l0_1.length c0_1] 46 (0,0)) (zB BK222) hb);clear hb hbox hg;have hnb34:=NB234_222.out;have hnc34:=NB222_234.out;have hcz35_0:w33.cell? ⟨gb234,0,none⟩=some (.int .i64 0):=(Zb BK234.out 0).trans rfl;have hcz35_1:w33.cell? ⟨gb234,1,none⟩=some (.slice none 0 0):=(Zb BK234.out 1).trans rfl;have hfz35_0:=Za BK234.out 0;have hfz35_1:=Za BK234.out 1;obtain⟨Ao36,co36,eo36⟩:=Kd.N_slice HO232.out;subst eo36))
    (try simp only[Act.put,sA,sB,sC])
    go_cut [68] (fun v68 wc=>∃(kq:Nat) (x68_28:Bool),v68= .bool x68_28∧Aside0 (perm_CheckChain.j1 kq x68_28 a0_0 l0_1 t229 t230=some r)∧Aside0 (kq≤k1)∧Aside0 (Kd.V k74 74 wc w.heap.size (fun k_=>(P0_1_ k_∨w.heap.size≤k_)∧some k_≠((.slice Ao36 t230.length co36):Value).ownBlock∧k_≠gb222∧k_≠gb234) (.slice A0_1 l0_1.length c0_1) l0_1)∧Aside0 (Kd.N k74 74 wc w.heap.size (fun k_=>(P0_1_ k_∨w.heap.size≤k_)∧k_≠gb222∧k_≠gb234) (.slice Ao36 t230.length co36) t230)∧Aside0 (wc.heap[gb222]? =some (.cells #[.int .i64 a0_0,(.slice A0_1 l0_1.length c0_1)] 46 (0,0)))∧Aside0 (wc.heap[gb234]? =some (.cells #[.int .i64 t229,(.slice Ao36 t230.length co36)] 46 (0,0)))∧Aside0 (Below w.heap.size w wc))
    case first=>
     have H:=HC29.out;clear HC29
     by_cases c37:t233=0
     ·rw[if_pos c37] at H;have c37b0:=beq_iff_eq.mpr c37;have c37b1:=bne_eq_false_iff_eq.mpr c37;clear c37
      (first|rw[c37b0]|(simp only[Zt,Zu];rw[c37b0])|skip)
      have H':=aM H;clear H;have hnb38:=NB234_222.out;have hnc38:=NB222_234.out;have hcz39_0:w33.cell? ⟨gb234,0,none⟩=some (.int .i64 0):=(Zb BK234.out 0).trans rfl;have hcz39_1:w33.cell? ⟨gb234,1,none⟩=some (.slice none 0 0):=(Zb BK234.out 1).trans rfl;have hfz39_0:=Za BK234.out 0;have hfz39_1:=Za BK234.out 1;have hcz40_0:w33.cell? ⟨gb222,0,none⟩=some (.int .i64 a0_0):=(Zb BK222.out 0).trans rfl;have hcz40_1:w33.cell? ⟨gb222,1,none⟩=some (.slice A0_1 l0_1.length c0_1):=(Zb BK222.out 1).trans rfl;have hfz40_0:=Za BK222.out 0;have hfz40_1:=Za BK222.out 1;go_wp2;go_meet
      case rel=>exact⟨_,(((t230.length:Int) !=(l0_1.length:Int))),zz152,H',⟨(by have:=HK1.out;first|omega|exact Nat.le_refl _)⟩,⟨by(with_reducible repeat(first|apply Kd.V_alloc|apply Kd.V_drewN|apply Kd.V_drew));exact Kd.V_mono (Kd.V_far (p:=⟨gb234,1,none⟩) (Kd.V_far (p:=⟨gb234,0,none⟩) (Kd.V_mono HO_223001.out (fun k_ hk=>(⟨hk,hk.2⟩:_∧k_≠gb234))) (fun _ hk=>hk.2) (.int .i64 t229)) (fun _ hk=>hk.2) (.slice Ao36 t230.length co36)) (fun _ hk=>⟨hk.1.1.1.1,⟨hk.1.1.2,⟨hk.1.1.1.2.2,hk.1.2⟩⟩⟩)⟩,⟨by(with_reducible repeat(first|apply Kd.N_alloc|apply Kd.N_drewN|apply Kd.N_drew));exact Kd.N_mono (Kd.N_far (p:=⟨gb234,1,none⟩) (Kd.N_far (p:=⟨gb234,0,none⟩) (Kd.N_mono HO232.out (fun k_ hk=>(⟨hk,hk.2⟩:_∧k_≠gb234))) (fun _ hk=>hk.2) (.int .i64 t229)) (fun _ hk=>hk.2) (.slice Ao36 t230.length co36)) (fun _ hk=>⟨hk.1.1.1,⟨hk.1.1.2.2,hk.1.2⟩⟩)⟩,⟨zz55⟩,⟨zz53⟩,⟨zz75⟩⟩
     rw[if_neg c37] at H;have c37b0:=beq_eq_false_iff_ne.mpr c37;have c37b1:=bne_iff_ne.mpr c37
     (first|rw[c37b0]|(simp only[Zt,Zu];rw[c37b0])|skip)
     have H':=aM H;clear H;go_wp2;go_meet
     case rel=>exact⟨_,(true),zz152,H',⟨(by have:=HK1.out;first|omega|exact Nat.le_refl _)⟩,⟨by(with_reducible repeat(first|apply Kd.V_alloc|apply Kd.V_drewN|apply Kd.V_drew));exact Kd.V_mono (Kd.V_far (p:=⟨gb234,1,none⟩) (Kd.V_far (p:=⟨gb234,0,none⟩) (Kd.V_mono HO_223001.out (fun k_ hk=>(⟨hk,hk.2⟩:_∧k_≠gb234))) (fun _ hk=>hk.2) (.int .i64 t229)) (fun _ hk=>hk.2) (.slice Ao36 t230.length co36)) (fun _ hk=>⟨hk.1.1.1.1,⟨hk.1.1.2,⟨hk.1.1.1.2.2,hk.1.2⟩⟩⟩)⟩,⟨by(with_reducible repeat(first|apply Kd.N_alloc|apply Kd.N_drewN|apply Kd.N_drew));exact Kd.N_mono (Kd.N_far (p:=⟨gb234,1,none⟩) (Kd.N_far (p:=⟨gb234,0,none⟩) (Kd.N_mono HO232.out (fun k_ hk=>(⟨hk,hk.2⟩:_∧k_≠gb234))) (fun _ hk=>hk.2) (.int .i64 t229)) (fun _ hk=>hk.2) (.slice Ao36 t230.length co36)) (fun _ hk=>⟨hk.1.1.1,⟨hk.1.1.2.2,hk.1.2⟩⟩)⟩,⟨zz55⟩,⟨zz53⟩,⟨zz75⟩⟩
    case rest=>
     clear HC29;(try clear c1);(try clear c2);(try clear p2);(try clear q2);(try clear hx2);(try clear c3);(try clear c3b0);(try clear c3b1);(try clear c4);(try clear c4b0);(try clear c5);(try clear p6);(try clear c9);(try clear c9b0);(try clear c10);(try clear c10b0);(try clear c11);(try clear c11b0);(try clear c12);(try clear c12b0);(try clear c14);(try clear c17);(try clear c17b0);(try clear c17b1);(try clear c17b2);(try clear c18);(try clear c20);(try clear c22);(try clear p22);(try clear q22);(try clear hx22);(try clear c25);(try clear c30);(try clear c34);(try clear c36);(try clear c37);(try clear c37b0);(try clear c37b1);(try clear c38);(try clear hcz15_0);(try clear hcz15_1);(try clear hcz15_2);(try clear hcz16_0);(try clear hcz16_1);(try clear hcz21_0);(try clear hcz21_1);(try clear hcz21_2);(try clear hcz22_0);(try clear hcz22_1);(try clear hcz26_0);(try clear hcz26_1);(try clear hcz26_2);(try clear hcz27_0);(try clear hcz27_1);(try clear hcz30_0);(try clear hcz30_1);(try clear hcz35_0);(try clear hcz35_1);(try clear hcz39_0);(try clear hcz39_1);(try clear hcz40_0);(try clear hcz40_1);(try clear hcz6_0);(try clear hcz6_1);(try clear hcz8_0);(try clear hcz8_1);(try clear hfz15_0);(try clear hfz15_1);(try clear hfz15_2);(try clear hfz16_0);(try clear hfz16_1);(try clear hfz21_0);(try clear hfz21_1);(try clear hfz21_2);(try clear hfz22_0);(try clear hfz22_1);(try clear hfz26_0);(try clear hfz26_1);(try clear hfz26_2);(try clear hfz27_0);(try clear hfz27_1);(try clear hfz30_0);(try clear hfz30_1);(try clear hfz35_0);(try clear hfz35_1);(try clear hfz39_0);(try clear hfz39_1);(try clear hfz40_0);(try clear hfz40_1);(try clear hfz6_0);(try clear hfz6_1);(try clear hfz8_0);(try clear hfz8_1);(try clear hx224_0);(try clear hx224_1);(try clear hx224_2);(try clear p2);(try clear p224);(try clear q224);obtain⟨kq,x68_28,rfl,HA,HJ28,HO_223001,HO_235001,BK222,BK234,HB⟩:=hcut
     cases kq with
     |zero=>exact absurd HA.out (by simp[perm_CheckChain.j1])
     | succ kj28=>
      have H:=HA.out;clear HA;simp only[perm_CheckChain.j1] at H
      by_cases c41:x68_28=true
      ·subst c41;have H1:(some 5)=some r:=by rw[if_pos rfl] at H;exact H
       clear H;have H:=H1;clear H1;obtain rfl:=oI H;go_wp2;go_ret
       exact⟨by first|rfl|(simp[Zj,Zi]<;>rfl)|(simp[*,Zj,Zi]<;>rfl),by repeat(first|(with_reducible first|exact HB.out|apply Zn|apply Zf|apply Zh|refine Zk ?_ GE222.out|refine Zk ?_ GE234.out)|exact HB.out)⟩
      replace c41:=Bool.eq_false_iff.mpr c41;subst c41;have H1:(perm_CheckChain.l1 kj28 l0_1 (l0_1.length:Int) 0 t229 t230)=some r:=by rw[if_neg (show¬(false=true) by decide)] at H;exact H
      clear H;have H:=H1;clear H1;have H':=aM H;clear H;have hnb42:=NB222_234.out;have hnc42:=NB234_222.out;have hcz43_0:wc.cell? ⟨gb222,0,none⟩=some (.int .i64 a0_0):=(Zb BK222.out 0).trans rfl;have hcz43_1:wc.cell? ⟨gb222,1,none⟩=some (.slice A0_1 l0_1.length c0_1):=(Zb BK222.out 1).trans rfl;have hfz43_0:=Za BK222.out 0;have hfz43_1:=Za BK222.out 1;go_wp2
      go_loopg [72] kj28 (fun kq v72 w'=>∃(x72_3:Int),v72= .int .i64 x72_3∧Aside0 (perm_CheckChain.l1 kq l0_1 (l0_1.length:Int) x72_3 t229 t230=some r)∧Aside0 (kq≤kj28)∧Aside0 (Kd.V k74 74 w' w.heap.size (fun k_=>(P0_1_ k_∨w.heap.size≤k_)∧some k_≠((.slice Ao36 t230.length co36):Value).ownBlock∧k_≠gb222∧k_≠gb234) (.slice A0_1 l0_1.length c0_1) l0_1)∧Aside0 (Kd.V k74 74 w' w.heap.size (fun k_=>(P0_1_ k_∨w.heap.size≤k_)∧some k_≠((.slice Ao36 t230.length co36):Value).ownBlock∧k_≠gb222∧k_≠gb234) (.slice A0_1 l0_1.length c0_1) l0_1)∧Aside0 (Kd.N k74 74 w' w.heap.size (fun k_=>(P0_1_ k_∨w.heap.size≤k_)∧k_≠gb222∧k_≠gb234) (.slice Ao36 t230.length co36) t230)∧Aside0 (w'.heap[gb222]? =some (.cells #[.int .i64 a0_0,(.slice A0_1 l0_1.length c0_1)] 46 (0,0)))∧Aside0 (w'.heap[gb234]? =some (.cells #[.int .i64 t229,(.slice Ao36 t230.length co36)] 46 (0,0)))∧Aside0 (Below w.heap.size w w'))
      case atStart=>exact⟨(0),zz152,H',⟨Nat.le_refl _⟩,⟨(zV HO_223001)⟩,⟨(zV HO_223001)⟩,⟨(zN HO_235001)⟩,⟨(zB BK222)⟩,⟨(zB BK234)⟩,⟨zz75⟩⟩
      case round =>
       clear H';(try clear c1);(try clear c2);(try clear p2);(try clear q2);(try clear hx2);(try clear c3);(try clear c3b0);(try clear c3b1);(try clear c4);(try clear c4b0);(try clear c5);(try clear p6);(try clear c9);(try clear c9b0);(try clear c10);(try clear c10b0);(try clear c11);(try clear c11b0);(try clear c12);(try clear c12b0);(try clear c14);(try clear c17);(try clear c17b0);(try clear c17b1);(try clear c17b2);(try clear c18);(try clear c20);(try clear c22);(try clear p22);(try clear q22);(try clear hx22);(try clear c25);(try clear c30);(try clear c34);(try clear c36);(try clear c37);(try clear c37b0);(try clear c37b1);(try clear c38);(try clear c41);(try clear c42);(try clear hcz15_0);(try clear hcz15_1);(try clear hcz15_2);(try clear hcz16_0);(try clear hcz16_1);(try clear hcz21_0);(try clear hcz21_1);(try clear hcz21_2);(try clear hcz22_0);(try clear hcz22_1);(try clear hcz26_0);(try clear hcz26_1);(try clear hcz26_2);(try clear hcz27_0);(try clear hcz27_1);(try clear hcz30_0);(try clear hcz30_1);(try clear hcz35_0);(try clear hcz35_1);(try clear hcz39_0);(try clear hcz39_1);(try clear hcz40_0);(try clear hcz40_1);(try clear hcz43_0);(try clear hcz43_1);(try clear hcz6_0);(try clear hcz6_1);(try clear hcz8_0);(try clear hcz8_1);(try clear hfz15_0);(try clear hfz15_1);(try clear hfz15_2);(try clear hfz16_0);(try clear hfz16_1);(try clear hfz21_0);(try clear hfz21_1);(try clear hfz21_2);(try clear hfz22_0);(try clear hfz22_1);(try clear hfz26_0);(try clear hfz26_1);(try clear hfz26_2);(try clear hfz27_0);(try clear hfz27_1);(try clear hfz30_0);(try clear hfz30_1);(try clear hfz35_0);(try clear hfz35_1);(try clear hfz39_0);(try clear hfz39_1);(try clear hfz40_0);(try clear hfz40_1);(try clear hfz43_0);(try clear hfz43_1);(try clear hfz6_0);(try clear hfz6_1);(try clear hfz8_0);(try clear hfz8_1);(try clear hx224_0);(try clear hx224_1);(try clear hx224_2);(try clear p2);(try clear p22);(try clear p224);(try clear p6);(try clear q2);(try clear q22);(try clear q224);obtain⟨x72_3,rfl,HA,HK3,HO_70,HO_223001,HO_235001,BK222,BK234,HB⟩:=hrel
       cases gk with
       |zero=>exact absurd HA.out (by simp[perm_CheckChain.l1])
       | succ k3=>
        have H:=HA.out;clear HA;simp only[perm_CheckChain.l1] at H
        by_cases c44:x72_3<(l0_1.length:Int)
        ·rw [if_pos c44] at H;have c44b0:=dT c44;clear c44
         by_cases c45:0≤x72_3
         ·rw [if_pos c45] at H;have c45b0:=dT c45;clear c45
          by_cases c46:x72_3<(l0_1.length:Int)
          ·rw [if_pos c46] at H;have c46b0:=dT c46;clear c46
           by_cases c47:x72_3<(t230.length:Int)
           ·rw [if_pos c47] at H;have c47b0:=dT c47;clear c47
            by_cases c48:((Zd l0_1 x72_3).f0)=((Zd t230 x72_3).f0)
            ·rw [if_pos c48] at H;have c48b0:=beq_iff_eq.mpr c48;have c48b1:=bne_eq_false_iff_eq.mpr c48;clear c48;replace H:=oB H;obtain⟨t239,A490,H⟩:=H;replace H:(if t239=true then((slEqF.f ((Zd l0_1 x72_3).f2) ((Zd t230 x72_3).f2)).bind fun t240=>(if t240=true then(perm_CheckChain.l1 k3 l0_1 (l0_1.length:Int) (wrap64 (x72_3+1)) t229 t230) else(some 5))) else(some 5))=some r:=H;have A49:=aM A490;clear A490
             by_cases c50:t239=true
             ·subst c50;have H1:((slEqF.f ((Zd l0_1 x72_3).f2) ((Zd t230 x72_3).f2)).bind fun t240=>(if t240=true then(perm_CheckChain.l1 k3 l0_1 (l0_1.length:Int) (wrap64 (x72_3+1)) t229 t230) else(some 5)))=some r:=by rw[if_pos rfl] at H;exact H
              clear H;have H:=H1;clear H1;replace H:=oB H;obtain⟨t240,A510,H⟩:=H;replace H:(if t240=true then(perm_CheckChain.l1 k3 l0_1 (l0_1.length:Int) (wrap64 (x72_3+1)) t229 t230) else(some 5))=some r:=H;have A51:=aM A510;clear A510
              by_cases c52:t240=true
              ·subst c52;have H1:(perm_CheckChain.l1 k3 l0_1 (l0_1.length:Int) (wrap64 (x72_3+1)) t229 t230)=some r:=by rw[if_pos rfl] at H;exact H
               clear H;have H:=H1;clear H1;have H':=aM H;clear H;have p235:0≤(x72_3:Int):=oD zz151;have q235:x72_3<(l0_1.length:Int):=oD zz151;obtain⟨ad235,A235_1,c235_1,A235_2,c235_2,e235,hx235_0,hx235_1,hx235_2,hl235_1,hi235_1,hl235_2,hi235_2⟩:=Z1 (Kd.V_reads' HO_70.out).2.2 x72_3 p235 q235
               cases e235;obtain⟨ce235,hce235,hMe235,hcc235⟩:=Kd.V_get HO_70.out z74 x72_3 p235 zz117;obtain⟨ua235_1,uc235_1,ua235_2,uc235_2,rfl,ul235_1,ge235_1,ul235_2,ge235_2⟩:=Z3 hMe235;have hv235_1:=hcc235 1 _ rfl;rw[ZN _ _ 1 (by omega)] at hv235_1;replace hv235_1:=oI (hv235_1.symm.trans hx235_1);injection hv235_1 with hva_ hvn_ hvc_
               rw[hva_] at ge235_1;rw[hvc_] at ul235_1;have HL235_1:=aM (show Kd.V (Kd.int .i64) 3 _ w.heap.size _ _ ((Zd l0_1 x72_3).f1) from Kd.V_mk ul235_1 ge235_1);clear hva_ hvn_ hvc_ ge235_1 ul235_1;have hv235_2:=hcc235 2 _ rfl;rw[ZN _ _ 2 (by omega)] at hv235_2;replace hv235_2:=oI (hv235_2.symm.trans hx235_2);injection hv235_2 with hva_ hvn_ hvc_
               rw[hva_] at ge235_2;rw[hvc_] at ul235_2;have HL235_2:=aM (show Kd.V (Kd.slice 3 (Kd.int .i64)) 22 _ w.heap.size _ _ ((Zd l0_1 x72_3).f2) from Kd.V_mk ul235_2 ge235_2);clear hva_ hvn_ hvc_ ge235_2 ul235_2;clear hcc235 hce235;have HR235_1:=aM hi235_1;have HC235_1:=aM hl235_1;clear hi235_1 hl235_1;have HR235_2:=aM hi235_2;have HC235_2:=aM hl235_2;clear hi235_2 hl235_2;replace p235:=eq_true p235;replace q235:=eq_true q235
               go_wp2_with (first|((with_reducible refine Zr (N:=10) rfl ?_);(try(refine Zv (by rfl) ?_;dsimp only));refine Zy ?hg (N:=10) ?hd (cs:= #[.int .i64 0,.slice none 0 0,.slice none 0 0]) (t:=74) ?hr ?_;(case hd=>rfl);(case hg=>rfl);(case hr=>first|(go_simp;done)|(go_simp;rfl));intro gb236 hg w53 hbox hb;replace HO_70:=aM (Kd.V_below (Kd.V_elderB (zV HO_70) gb236 (Nat.le_of_eq hg.symm)) hb);replace HO_223001:=aM (Kd.V_below (Kd.V_elderB (zV HO_223001) gb236 (Nat.le_of_eq hg.symm)) hb);replace HO_235001:=aM (Kd.N_below (Kd.N_elderB (zN HO_235001) gb236 (Nat.le_of_eq hg.symm)) hb);replace HR235_1:=aM (Kd.C_below zz65 hb);replace HL235_1:=aM (Kd.V_below (Kd.V_elderB (zV HL235_1) gb236 (Nat.le_of_eq hg.symm)) hb);replace HR235_2:=aM (Kd.C_below zz66 hb);replace HL235_2:=aM (Kd.V_below (Kd.V_elderB (zV HL235_2) gb236 (Nat.le_of_eq hg.symm)) hb);have BK236:=aM (hbox);have GW236:=aM ((by rw[hg];exact(Zc zz75):w.heap.size≤gb236));have GE236:=aM ((by rw[hg];exact(Zc zz75):w.heap.size≤gb236));replace HB:=aM (Ze zz75 hb);have NB222_236:=aM ((by rw[hg];exact Nat.ne_of_lt (Zw (g:=gb222) (o:= .cells #[.int .i64 a0_0,.slice (some ad235) l0_1.length c0_1] 46 (0,0)) (zB BK222)):gb222≠gb236));have NB236_222:=aM ((by rw[hg];exact Nat.ne_of_gt (Zw (g:=gb222) (o:= .cells #[.int .i64 a0_0,.slice (some ad235) l0_1.length c0_1] 46 (0,0)) (zB BK222)):gb236≠gb222));replace BK222:=aM (Zg (g:=gb222) (o:= .cells #[.int .i64 a0_0,.slice (some ad235) l0_1.length c0_1] 46 (0,0)) (zB BK222) hb);have NB234_236:=aM ((by rw[hg];exact Nat.ne_of_lt (Zw (g:=gb234) (o:= .cells #[.int .i64 t229,.slice Ao36 t230.length co36] 46 (0,0)) (zB BK234)):gb234≠gb236));have NB236_234:=aM ((by rw[hg];exact Nat.ne_of_gt (Zw (g:=gb234) (o:= .cells #[.int .i64 t229,.slice Ao36 t230.length co36] 46 (0,0)) (zB BK234)):gb236≠gb234));replace BK234:=aM (Zg (g:=gb234) (o:= .cells #[.int .i64 t229,.slice Ao36 t230.length co36] 46 (0,0)) (zB BK234) hb);clear hb hbox hg;have hnb54:=NB236_222.out;have hnc54:=NB222_236.out;have hnb55:=NB236_234.out;have hnc55:=NB234_236.out;have hcz56_0:w53.cell? ⟨gb236,0,none⟩=some (.int .i64 0):=(Zb BK236.out 0).trans rfl;have hcz56_1:w53.cell? ⟨gb236,1,none⟩=some (.slice none 0 0):=(Zb BK236.out 1).trans rfl;have hcz56_2:w53.cell? ⟨gb236,2,none⟩=some (.slice none 0 0):=(Zb BK236.out 2).trans rfl;have hfz56_0:=Za BK236.out 0;have hfz56_1:=Za BK236.out 1;have hfz56_2:=Za BK236.out 2)|((with_reducible refine ZP (t:=74) (p:=10) rfl ?_);refine ZM (t:=74) (p:=10) (v:= ?vo_w57) (w1:=(((w53.setCell ⟨gb236,0,none⟩ (.int .i64 ((Zd l0_1 x72_3).f0))).setCell ⟨gb236,1,none⟩ (.slice A235_1 ((Zd l0_1 x72_3).f1).length c235_1)).setCell ⟨gb236,2,none⟩ (.slice A235_2 ((Zd l0_1 x72_3).f2).length c235_2))) ?hg ?ho ?hn ?hr ?_;(case ho=>rfl);(case hg=>rfl);(case hn=>rfl);(case hr=>first|(go_simp;done)|(go_simp;rfl));intro w57 hw;have n0_:Aside0 (Kd.V k74 74 w57 w.heap.size (fun k_=>(P0_1_ k_∨w.heap.size≤k_)∧some k_≠(.slice Ao36 t230.length co36:Value).ownBlock∧k_≠gb222∧k_≠gb234∧k_≠gb236) (.slice (some ad235) l0_1.length c0_1) l0_1):=⟨zz27⟩;have n1_:Aside0 (Kd.V k74 74 w57 w.heap.size (fun k_=>(P0_1_ k_∨w.heap.size≤k_)∧some k_≠(.slice Ao36 t230.length co36:Value).ownBlock∧k_≠gb222∧k_≠gb234∧k_≠gb236) (.slice (some ad235) l0_1.length c0_1) l0_1):=⟨zz24⟩;have n2_:Aside0 (Kd.N k74 74 w57 w.heap.size (fun k_=>(P0_1_ k_∨w.heap.size≤k_)∧k_≠gb222∧k_≠gb234∧k_≠gb236) (.slice Ao36 t230.length co36) t230):=⟨zz29⟩;have n3_:Aside0 (Kd.V (Kd.int .i64) 3 w57 w.heap.size (fun k_=>(P0_1_ k_∨w.heap.size≤k_)∧some k_≠(.slice Ao36 t230.length co36:Value).ownBlock∧k_≠gb222∧k_≠gb234∧k_≠gb236) (.slice A235_1 ((Zd l0_1 x72_3).f1).length c235_1) ((Zd l0_1 x72_3).f1)):=⟨zz25⟩;have n4_:Aside0 (Kd.V (Kd.slice 3 (Kd.int .i64)) 22 w57 w.heap.size (fun k_=>(P0_1_ k_∨w.heap.size≤k_)∧some k_≠(.slice Ao36 t230.length co36:Value).ownBlock∧k_≠gb222∧k_≠gb234∧k_≠gb236) (.slice A235_2 ((Zd l0_1 x72_3).f2).length c235_2) ((Zd l0_1 x72_3).f2)):=⟨zz26⟩;have n5_:Aside0 (w57.heap[gb222]? =some (.cells #[.int .i64 a0_0,.slice (some ad235) l0_1.length c0_1] 46 (0,0))):=⟨zz35⟩;have n6_:Aside0 (w57.heap[gb234]? =some (.cells #[.int .i64 t229,.slice Ao36 t230.length co36] 46 (0,0))):=⟨zz36⟩;have n7_:Aside0 (w57.heap[gb236]? =some (.cells #[.int .i64 ((Zd l0_1 x72_3).f0),.slice A235_1 ((Zd l0_1 x72_3).f1).length c235_1,.slice A235_2 ((Zd l0_1 x72_3).f2).length c235_2] 74 (0,0))):=⟨zz5⟩;have n8_:Aside0 (Below w.heap.size w w57):=⟨zz62⟩;clear hw;clear HO_70;clear HO_223001;clear HO_235001;clear HL235_1;clear HL235_2;clear BK222;clear BK234;clear BK236;clear HB;have HO_70:=n0_;have HO_223001:=n1_;have HO_235001:=n2_;have HL235_1:=n3_;have HL235_2:=n4_;have BK222:=n5_;have BK234:=n6_;have BK236:=n7_;have HB:=n8_;clear n0_ n1_ n2_ n3_ n4_ n5_ n6_ n7_ n8_;have hnb58:=NB234_222.out;have hnc58:=NB222_234.out;have hcz59_0:w57.cell? ⟨gb234,0,none⟩=some (.int .i64 t229):=(Zb BK234.out 0).trans rfl;have hcz59_1:w57.cell? ⟨gb234,1,none⟩=some (.slice Ao36 t230.length co36):=(Zb BK234.out 1).trans rfl;have hfz59_0:=Za BK234.out 0;have hfz59_1:=Za BK234.out 1;have p237:0≤(x72_3:Int):=oD zz151;have q237:x72_3<(t230.length:Int):=oD zz151;obtain⟨ad237,A237_1,c237_1,A237_2,c237_2,e237,hx237_0,hx237_1,hx237_2,hl237_1,hi237_1,hl237_2,hi237_2⟩:=Z1 (Kd.N_reads' HO_235001.out).2.2 x72_3 p237 q237;cases e237;obtain⟨ce237,hce237,hMe237,hcc237⟩:=Kd.N_get HO_235001.out z74 x72_3 p237 zz115;obtain⟨ua237_1,uc237_1,ua237_2,uc237_2,rfl,ul237_1,ge237_1,ul237_2,ge237_2⟩:=Z3 hMe237;have hv237_1:=hcc237 1 _ rfl;rw[ZN _ _ 1 (by omega)] at hv237_1;replace hv237_1:=oI (hv237_1.symm.trans hx237_1);injection hv237_1 with hva_ hvn_ hvc_;rw[hva_] at ge237_1;rw[hvc_] at ul237_1;have HL237_1:=aM (show Kd.V (Kd.int .i64) 3 _ w.heap.size _ _ ((Zd t230 x72_3).f1) from Kd.V_mk ul237_1 ge237_1);clear hva_ hvn_ hvc_ ge237_1 ul237_1;have hv237_2:=hcc237 2 _ rfl;rw[ZN _ _ 2 (by omega)] at hv237_2;replace hv237_2:=oI (hv237_2.symm.trans hx237_2);injection hv237_2 with hva_ hvn_ hvc_;rw[hva_] at ge237_2;rw[hvc_] at ul237_2;have HL237_2:=aM (show Kd.V (Kd.slice 3 (Kd.int .i64)) 22 _ w.heap.size _ _ ((Zd t230 x72_3).f2) from Kd.V_mk ul237_2 ge237_2);clear hva_ hvn_ hvc_ ge237_2 ul237_2;clear hcc237 hce237;have HR237_1:=aM hi237_1;have HC237_1:=aM hl237_1;clear hi237_1 hl237_1;have HR237_2:=aM hi237_2;have HC237_2:=aM hl237_2;clear hi237_2 hl237_2;replace p237:=eq_true p237;replace q237:=eq_true q237)|((with_reducible refine Zr (N:=11) rfl ?_);(try(refine Zv (by rfl) ?_;dsimp only));refine Zy ?hg (N:=11) ?hd (cs:= #[.int .i64 0,.slice none 0 0,.slice none 0 0]) (t:=74) ?hr ?_;(case hd=>rfl);(case hg=>rfl);(case hr=>first|(go_simp;done)|(go_simp;rfl));intro gb238 hg w60 hbox hb;replace HO_70:=aM (Kd.V_below (Kd.V_elderB (zV HO_70) gb238 (Nat.le_of_eq hg.symm)) hb);replace HO_223001:=aM (Kd.V_below (Kd.V_elderB (zV HO_223001) gb238 (Nat.le_of_eq hg.symm)) hb);replace HO_235001:=aM (Kd.N_below (Kd.N_elderB (zN HO_235001) gb238 (Nat.le_of_eq hg.symm)) hb);replace HR235_1:=aM (Kd.C_below zz65 hb);replace HL235_1:=aM (Kd.V_below (Kd.V_elderB (zV HL235_1) gb238 (Nat.le_of_eq hg.symm)) hb);replace HR235_2:=aM (Kd.C_below zz66 hb);replace HL235_2:=aM (Kd.V_below (Kd.V_elderB (zV HL235_2) gb238 (Nat.le_of_eq hg.symm)) hb);replace HR237_1:=aM (Kd.C_below zz67 hb);replace HL237_1:=aM (Kd.V_below (Kd.V_elderB (zV HL237_1) gb238 (Nat.le_of_eq hg.symm)) hb);replace HR237_2:=aM (Kd.C_below zz68 hb);replace HL237_2:=aM (Kd.V_below (Kd.V_elderB (zV HL237_2) gb238 (Nat.le_of_eq hg.symm)) hb);have BK238:=aM (hbox);have GW238:=aM ((by rw[hg];exact(Zc zz69):w.heap.size≤gb238));have GE238:=aM ((by rw[hg];exact(Zc zz69):w.heap.size≤gb238));replace HB:=aM (Ze zz69 hb);have NB222_238:=aM ((by rw[hg];exact Nat.ne_of_lt (Zw (g:=gb222) (o:= .cells #[.int .i64 a0_0,.slice (some ad235) l0_1.length c0_1] 46 (0,0)) (zB BK222)):gb222≠gb238));have NB238_222:=aM ((by rw[hg];exact Nat.ne_of_gt (Zw (g:=gb222) (o:= .cells #[.int .i64 a0_0,.slice (some ad235) l0_1.length c0_1] 46 (0,0)) (zB BK222)):gb238≠gb222));replace BK222:=aM (Zg (g:=gb222) (o:= .cells #[.int .i64 a0_0,.slice (some ad235) l0_1.length c0_1] 46 (0,0)) (zB BK222) hb);have NB234_238:=aM ((by rw[hg];exact Nat.ne_of_lt (Zw (g:=gb234) (o:= .cells #[.int .i64 t229,.slice (some ad237) t230.length co36] 46 (0,0)) (zB BK234)):gb234≠gb238));have NB238_234:=aM ((by rw[hg];exact Nat.ne_of_gt (Zw (g:=gb234) (o:= .cells #[.int .i64 t229,.slice (some ad237) t230.length co36] 46 (0,0)) (zB BK234)):gb238≠gb234));replace BK234:=aM (Zg (g:=gb234) (o:= .cells #[.int .i64 t229,.slice (some ad237) t230.length co36] 46 (0,0)) (zB BK234) hb);have NB236_238:=aM ((by rw[hg];exact Nat.ne_of_lt (Zw (g:=gb236) (o:= .cells #[.int .i64 ((Zd l0_1 x72_3).f0),.slice A235_1 ((Zd l0_1 x72_3).f1).length c235_1,.slice A235_2 ((Zd l0_1 x72_3).f2).length c235_2] 74 (0,0)) (zB BK236)):gb236≠gb238));have NB238_236:=aM ((by rw[hg];exact Nat.ne_of_gt (Zw (g:=gb236) (o:= .cells #[.int .i64 ((Zd l0_1 x72_3).f0),.slice A235_1 ((Zd l0_1 x72_3).f1).length c235_1,.slice A235_2 ((Zd l0_1 x72_3).f2).length c235_2] 74 (0,0)) (zB BK236)):gb238≠gb236));replace BK236:=aM (Zg (g:=gb236) (o:= .cells #[.int .i64 ((Zd l0_1 x72_3).f0),.slice A235_1 ((Zd l0_1 x72_3).f1).length c235_1,.slice A235_2 ((Zd l0_1 x72_3).f2).length c235_2] 74 (0,0)) (zB BK236) hb);clear hb hbox hg;have hnb61:=NB238_222.out;have hnc61:=NB222_238.out;have hnb62:=NB238_234.out;have hnc62:=NB234_238.out;have hnb63:=NB238_236.out;have hnc63:=NB236_238.out;have hcz64_0:w60.cell? ⟨gb238,0,none⟩=some (.int .i64 0):=(Zb BK238.out 0).trans rfl;have hcz64_1:w60.cell? ⟨gb238,1,none⟩=some (.slice none 0 0):=(Zb BK238.out 1).trans rfl;have hcz64_2:w60.cell? ⟨gb238,2,none⟩=some (.slice none 0 0):=(Zb BK238.out 2).trans rfl;have hfz64_0:=Za BK238.out 0;have hfz64_1:=Za BK238.out 1;have hfz64_2:=Za BK238.out 2;have hcz65_0:w60.cell? ⟨gb236,0,none⟩=some (.int .i64 ((Zd l0_1 x72_3).f0)):=(Zb BK236.out 0).trans rfl;have hcz65_1:w60.cell? ⟨gb236,1,none⟩=some (.slice A235_1 ((Zd l0_1 x72_3).f1).length c235_1):=(Zb BK236.out 1).trans rfl;have hcz65_2:w60.cell? ⟨gb236,2,none⟩=some (.slice A235_2 ((Zd l0_1 x72_3).f2).length c235_2):=(Zb BK236.out 2).trans rfl;have hfz65_0:=Za BK236.out 0;have hfz65_1:=Za BK236.out 1;have hfz65_2:=Za BK236.out 2)|(go_at_call 65;(with_reducible refine(slEq.calls k3 _ _ ((Zd l0_1 x72_3).f1) _ _ ((Zd t230 x72_3).f1) true _ ?side1 ?side2 ?side3 ?side4 A49.out).mono ?_);(case side1=>repeat(first|exact((Kd.V_reads' zz46).2.2)|(with_reducible refine Kd.C_alloc ?_ _)|(with_reducible refine Kd.C_drewN ?_ _)|(with_reducible refine Kd.C_drew ?_)));(case side2=>exact HC235_1.out);(case side3=>repeat(first|exact((Kd.V_reads' zz47).2.2)|(with_reducible refine Kd.C_alloc ?_ _)|(with_reducible refine Kd.C_drewN ?_ _)|(with_reducible refine Kd.C_drew ?_)));(case side4=>exact HC237_1.out);rintro e w' ⟨rfl,⟨nd,rfl⟩⟩)|(go_at_call 66;(with_reducible refine(slEqF.calls _ _ ((Zd l0_1 x72_3).f2) _ _ ((Zd t230 x72_3).f2) true _ ?side1 ?side2 ?side3 ?side4 A51.out).mono ?_);(case side1=>repeat(first|exact((Kd.V_reads' zz48).2.2)|(with_reducible refine Kd.C_alloc ?_ _)|(with_reducible refine Kd.C_drewN ?_ _)|(with_reducible refine Kd.C_drew ?_)));(case side2=>exact HC235_2.out);(case side3=>repeat(first|exact((Kd.V_reads' zz49).2.2)|(with_reducible refine Kd.C_alloc ?_ _)|(with_reducible refine Kd.C_drewN ?_ _)|(with_reducible refine Kd.C_drew ?_)));(case side4=>exact HC237_2.out);rintro e w' ⟨rfl,⟨nd,rfl⟩⟩))
               go_roundg k3
               case measure=>have:=HK1.out;have:=HJ28.out;have:=HK3.out;omega
               case rel=>exact⟨(wrap64 (x72_3+1)),zz152,H',⟨(by have:=HK1.out;have:=HJ28.out;have:=HK3.out;omega)⟩,⟨by(with_reducible repeat(first|apply Kd.V_alloc|apply Kd.V_drewN|apply Kd.V_drew));exact Kd.V_mono (Kd.V_far (p:=⟨gb238,2,none⟩) (Kd.V_far (p:=⟨gb238,1,none⟩) (Kd.V_far (p:=⟨gb238,0,none⟩) (Kd.V_mono HO_70.out (fun k_ hk=>(⟨hk,hk.2⟩:_∧k_≠gb238))) (fun _ hk=>hk.2) (.int .i64 ((Zd t230 x72_3).f0))) (fun _ hk=>hk.2) (.slice A237_1 ((Zd t230 x72_3).f1).length c237_1)) (fun _ hk=>hk.2) (.slice A237_2 ((Zd t230 x72_3).f2).length c237_2)) (fun _ hk=>⟨hk.1.1.1,⟨hk.1.1.2.1,⟨hk.1.1.2.2.1,hk.1.1.2.2.2.1⟩⟩⟩)⟩,⟨by(with_reducible repeat(first|apply Kd.V_alloc|apply Kd.V_drewN|apply Kd.V_drew));exact Kd.V_mono (Kd.V_far (p:=⟨gb238,2,none⟩) (Kd.V_far (p:=⟨gb238,1,none⟩) (Kd.V_far (p:=⟨gb238,0,none⟩) (Kd.V_mono HO_223001.out (fun k_ hk=>(⟨hk,hk.2⟩:_∧k_≠gb238))) (fun _ hk=>hk.2) (.int .i64 ((Zd t230 x72_3).f0))) (fun _ hk=>hk.2) (.slice A237_1 ((Zd t230 x72_3).f1).length c237_1)) (fun _ hk=>hk.2) (.slice A237_2 ((Zd t230 x72_3).f2).length c237_2)) (fun _ hk=>⟨hk.1.1.1,⟨hk.1.1.2.1,⟨hk.1.1.2.2.1,hk.1.1.2.2.2.1⟩⟩⟩)⟩,⟨by(with_reducible repeat(first|apply Kd.N_alloc|apply Kd.N_drewN|apply Kd.N_drew));exact Kd.N_mono (Kd.N_far (p:=⟨gb238,2,none⟩) (Kd.N_far (p:=⟨gb238,1,none⟩) (Kd.N_far (p:=⟨gb238,0,none⟩) (Kd.N_mono HO_235001.out (fun k_ hk=>(⟨hk,hk.2⟩:_∧k_≠gb238))) (fun _ hk=>hk.2) (.int .i64 ((Zd t230 x72_3).f0))) (fun _ hk=>hk.2) (.slice A237_1 ((Zd t230 x72_3).f1).length c237_1)) (fun _ hk=>hk.2) (.slice A237_2 ((Zd t230 x72_3).f2).length c237_2)) (fun _ hk=>⟨hk.1.1.1,⟨hk.1.1.2.1,hk.1.1.2.2.1⟩⟩)⟩,⟨(by(with_reducible repeat(first|refine Zm ?_ _|refine Zo ?_|refine Zl ?_ _));refine ZH ?_ NB222_238.out _;(with_reducible repeat(first|refine Zm ?_ _|refine Zo ?_|refine Zl ?_ _));refine ZH ?_ NB222_238.out _;(with_reducible repeat(first|refine Zm ?_ _|refine Zo ?_|refine Zl ?_ _));refine ZH ?_ NB222_238.out _;(with_reducible repeat(first|refine Zm ?_ _|refine Zo ?_|refine Zl ?_ _));exact BK222.out)⟩,⟨(by(with_reducible repeat(first|refine Zm ?_ _|refine Zo ?_|refine Zl ?_ _));refine ZH ?_ NB234_238.out _;(with_reducible repeat(first|refine Zm ?_ _|refine Zo ?_|refine Zl ?_ _));refine ZH ?_ NB234_238.out _;(with_reducible repeat(first|refine Zm ?_ _|refine Zo ?_|refine Zl ?_ _));refine ZH ?_ NB234_238.out _;(with_reducible repeat(first|refine Zm ?_ _|refine Zo ?_|refine Zl ?_ _));exact BK234.out)⟩,⟨(by repeat(first|(with_reducible first|exact HB.out|apply Zn|apply Zf|apply Zh|refine Zk ?_ GE222.out|refine Zk ?_ GE234.out|refine Zk ?_ GE236.out|refine Zk ?_ GE238.out)|exact HB.out))⟩⟩
              replace c52:=Bool.eq_false_iff.mpr c52;subst c52;have H1:(some 5)=some r:=by rw[if_neg (show¬(false=true) by decide)] at H;exact H
              clear H;have H:=H1;clear H1;obtain rfl:=oI H;have p235:0≤(x72_3:Int):=oD zz151;have q235:x72_3<(l0_1.length:Int):=oD zz151;obtain⟨ad235,A235_1,c235_1,A235_2,c235_2,e235,hx235_0,hx235_1,hx235_2,hl235_1,hi235_1,hl235_2,hi235_2⟩:=Z1 (Kd.V_reads' HO_70.out).2.2 x72_3 p235 q235
              cases e235;obtain⟨ce235,hce235,hMe235,hcc235⟩:=Kd.V_get HO_70.out z74 x72_3 p235 zz117;obtain⟨ua235_1,uc235_1,ua235_2,uc235_2,rfl,ul235_1,ge235_1,ul235_2,ge235_2⟩:=Z3 hMe235;have hv235_1:=hcc235 1 _ rfl;rw[ZN _ _ 1 (by omega)] at hv235_1;replace hv235_1:=oI (hv235_1.symm.trans hx235_1);injection hv235_1 with hva_ hvn_ hvc_
              rw[hva_] at ge235_1;rw[hvc_] at ul235_1;have HL235_1:=aM (show Kd.V (Kd.int .i64) 3 _ w.heap.size _ _ ((Zd l0_1 x72_3).f1) from Kd.V_mk ul235_1 ge235_1);clear hva_ hvn_ hvc_ ge235_1 ul235_1;have hv235_2:=hcc235 2 _ rfl;rw[ZN _ _ 2 (by omega)] at hv235_2;replace hv235_2:=oI (hv235_2.symm.trans hx235_2);injection hv235_2 with hva_ hvn_ hvc_
              rw[hva_] at ge235_2;rw[hvc_] at ul235_2;have HL235_2:=aM (show Kd.V (Kd.slice 3 (Kd.int .i64)) 22 _ w.heap.size _ _ ((Zd l0_1 x72_3).f2) from Kd.V_mk ul235_2 ge235_2);clear hva_ hvn_ hvc_ ge235_2 ul235_2;clear hcc235 hce235;have HR235_1:=aM hi235_1;have HC235_1:=aM hl235_1;clear hi235_1 hl235_1;have HR235_2:=aM hi235_2;have HC235_2:=aM hl235_2;clear hi235_2 hl235_2;replace p235:=eq_true p235;replace q235:=eq_true q235
              go_wp2_with (first|((with_reducible refine Zr (N:=10) rfl ?_);(try(refine Zv (by rfl) ?_;dsimp only));refine Zy ?hg (N:=10) ?hd (cs:= #[.int .i64 0,.slice none 0 0,.slice none 0 0]) (t:=74) ?hr ?_;(case hd=>rfl);(case hg=>rfl);(case hr=>first|(go_simp;done)|(go_simp;rfl));intro gb236 hg w66 hbox hb;replace HO_70:=aM (Kd.V_below (Kd.V_elderB (zV HO_70) gb236 (Nat.le_of_eq hg.symm)) hb);replace HO_223001:=aM (Kd.V_below (Kd.V_elderB (zV HO_223001) gb236 (Nat.le_of_eq hg.symm)) hb);replace HO_235001:=aM (Kd.N_below (Kd.N_elderB (zN HO_235001) gb236 (Nat.le_of_eq hg.symm)) hb);replace HR235_1:=aM (Kd.C_below zz65 hb);replace HL235_1:=aM (Kd.V_below (Kd.V_elderB (zV HL235_1) gb236 (Nat.le_of_eq hg.symm)) hb);replace HR235_2:=aM (Kd.C_below zz66 hb);replace HL235_2:=aM (Kd.V_below (Kd.V_elderB (zV HL235_2) gb236 (Nat.le_of_eq hg.symm)) hb);have BK236:=aM (hbox);have GW236:=aM ((by rw[hg];exact(Zc zz75):w.heap.size≤gb236));have GE236:=aM ((by rw[hg];exact(Zc zz75):w.heap.size≤gb236));replace HB:=aM (Ze zz75 hb);have NB222_236:=aM ((by rw[hg];exact Nat.ne_of_lt (Zw (g:=gb222) (o:= .cells #[.int .i64 a0_0,.slice (some ad235) l0_1.length c0_1] 46 (0,0)) (zB BK222)):gb222≠gb236));have NB236_222:=aM ((by rw[hg];exact Nat.ne_of_gt (Zw (g:=gb222) (o:= .cells #[.int .i64 a0_0,.slice (some ad235) l0_1.length c0_1] 46 (0,0)) (zB BK222)):gb236≠gb222));replace BK222:=aM (Zg (g:=gb222) (o:= .cells #[.int .i64 a0_0,.slice (some ad235) l0_1.length c0_1] 46 (0,0)) (zB BK222) hb);have NB234_236:=aM ((by rw[hg];exact Nat.ne_of_lt (Zw (g:=gb234) (o:= .cells #[.int .i64 t229,.slice Ao36 t230.length co36] 46 (0,0)) (zB BK234)):gb234≠gb236));have NB236_234:=aM ((by rw[hg];exact Nat.ne_of_gt (Zw (g:=gb234) (o:= .cells #[.int .i64 t229,.slice Ao36 t230.length co36] 46 (0,0)) (zB BK234)):gb236≠gb234));replace BK234:=aM (Zg (g:=gb234) (o:= .cells #[.int .i64 t229,.slice Ao36 t230.length co36] 46 (0,0)) (zB BK234) hb);clear hb hbox hg;have hnb67:=NB236_222.out;have hnc67:=NB222_236.out;have hnb68:=NB236_234.out;have hnc68:=NB234_236.out;have hcz69_0:w66.cell? ⟨gb236,0,none⟩=some (.int .i64 0):=(Zb BK236.out 0).trans rfl;have hcz69_1:w66.cell? ⟨gb236,1,none⟩=some (.slice none 0 0):=(Zb BK236.out 1).trans rfl;have hcz69_2:w66.cell? ⟨gb236,2,none⟩=some (.slice none 0 0):=(Zb BK236.out 2).trans rfl;have hfz69_0:=Za BK236.out 0;have hfz69_1:=Za BK236.out 1;have hfz69_2:=Za BK236.out 2)|((with_reducible refine ZP (t:=74) (p:=10) rfl ?_);refine ZM (t:=74) (p:=10) (v:= ?vo_w70) (w1:=(((w66.setCell ⟨gb236,0,none⟩ (.int .i64 ((Zd l0_1 x72_3).f0))).setCell ⟨gb236,1,none⟩ (.slice A235_1 ((Zd l0_1 x72_3).f1).length c235_1)).setCell ⟨gb236,2,none⟩ (.slice A235_2 ((Zd l0_1 x72_3).f2).length c235_2))) ?hg ?ho ?hn ?hr ?_;(case ho=>rfl);(case hg=>rfl);(case hn=>rfl);(case hr=>first|(go_simp;done)|(go_simp;rfl));intro w70 hw;have n0_:Aside0 (Kd.V k74 74 w70 w.heap.size (fun k_=>(P0_1_ k_∨w.heap.size≤k_)∧some k_≠(.slice Ao36 t230.length co36:Value).ownBlock∧k_≠gb222∧k_≠gb234∧k_≠gb236) (.slice (some ad235) l0_1.length c0_1) l0_1):=⟨zz27⟩;have n1_:Aside0 (Kd.V k74 74 w70 w.heap.size (fun k_=>(P0_1_ k_∨w.heap.size≤k_)∧some k_≠(.slice Ao36 t230.length co36:Value).ownBlock∧k_≠gb222∧k_≠gb234∧k_≠gb236) (.slice (some ad235) l0_1.length c0_1) l0_1):=⟨zz24⟩;have n2_:Aside0 (Kd.N k74 74 w70 w.heap.size (fun k_=>(P0_1_ k_∨w.heap.size≤k_)∧k_≠gb222∧k_≠gb234∧k_≠gb236) (.slice Ao36 t230.length co36) t230):=⟨zz29⟩;have n3_:Aside0 (Kd.V (Kd.int .i64) 3 w70 w.heap.size (fun k_=>(P0_1_ k_∨w.heap.size≤k_)∧some k_≠(.slice Ao36 t230.length co36:Value).ownBlock∧k_≠gb222∧k_≠gb234∧k_≠gb236) (.slice A235_1 ((Zd l0_1 x72_3).f1).length c235_1) ((Zd l0_1 x72_3).f1)):=⟨zz25⟩;have n4_:Aside0 (Kd.V (Kd.slice 3 (Kd.int .i64)) 22 w70 w.heap.size (fun k_=>(P0_1_ k_∨w.heap.size≤k_)∧some k_≠(.slice Ao36 t230.length co36:Value).ownBlock∧k_≠gb222∧k_≠gb234∧k_≠gb236) (.slice A235_2 ((Zd l0_1 x72_3).f2).length c235_2) ((Zd l0_1 x72_3).f2)):=⟨zz26⟩;have n5_:Aside0 (w70.heap[gb222]? =some (.cells #[.int .i64 a0_0,.slice (some ad235) l0_1.length c0_1] 46 (0,0))):=⟨zz35⟩;have n6_:Aside0 (w70.heap[gb234]? =some (.cells #[.int .i64 t229,.slice Ao36 t230.length co36] 46 (0,0))):=⟨zz36⟩;have n7_:Aside0 (w70.heap[gb236]? =some (.cells #[.int .i64 ((Zd l0_1 x72_3).f0),.slice A235_1 ((Zd l0_1 x72_3).f1).length c235_1,.slice A235_2 ((Zd l0_1 x72_3).f2).length c235_2] 74 (0,0))):=⟨zz5⟩;have n8_:Aside0 (Below w.heap.size w w70):=⟨zz62⟩;clear hw;clear HO_70;clear HO_223001;clear HO_235001;clear HL235_1;clear HL235_2;clear BK222;clear BK234;clear BK236;clear HB;have HO_70:=n0_;have HO_223001:=n1_;have HO_235001:=n2_;have HL235_1:=n3_;have HL235_2:=n4_;have BK222:=n5_;have BK234:=n6_;have BK236:=n7_;have HB:=n8_;clear n0_ n1_ n2_ n3_ n4_ n5_ n6_ n7_ n8_;have hnb71:=NB234_222.out;have hnc71:=NB222_234.out;have hcz72_0:w70.cell? ⟨gb234,0,none⟩=some (.int .i64 t229):=(Zb BK234.out 0).trans rfl;have hcz72_1:w70.cell? ⟨gb234,1,none⟩=some (.slice Ao36 t230.length co36):=(Zb BK234.out 1).trans rfl;have hfz72_0:=Za BK234.out 0;have hfz72_1:=Za BK234.out 1;have p237:0≤(x72_3:Int):=oD zz151;have q237:x72_3<(t230.length:Int):=oD zz151;obtain⟨ad237,A237_1,c237_1,A237_2,c237_2,e237,hx237_0,hx237_1,hx237_2,hl237_1,hi237_1,hl237_2,hi237_2⟩:=Z1 (Kd.N_reads' HO_235001.out).2.2 x72_3 p237 q237;cases e237;obtain⟨ce237,hce237,hMe237,hcc237⟩:=Kd.N_get HO_235001.out z74 x72_3 p237 zz115;obtain⟨ua237_1,uc237_1,ua237_2,uc237_2,rfl,ul237_1,ge237_1,ul237_2,ge237_2⟩:=Z3 hMe237;have hv237_1:=hcc237 1 _ rfl;rw[ZN _ _ 1 (by omega)] at hv237_1;replace hv237_1:=oI (hv237_1.symm.trans hx237_1);injection hv237_1 with hva_ hvn_ hvc_;rw[hva_] at ge237_1;rw[hvc_] at ul237_1;have HL237_1:=aM (show Kd.V (Kd.int .i64) 3 _ w.heap.size _ _ ((Zd t230 x72_3).f1) from Kd.V_mk ul237_1 ge237_1);clear hva_ hvn_ hvc_ ge237_1 ul237_1;have hv237_2:=hcc237 2 _ rfl;rw[ZN _ _ 2 (by omega)] at hv237_2;replace hv237_2:=oI (hv237_2.symm.trans hx237_2);injection hv237_2 with hva_ hvn_ hvc_;rw[hva_] at ge237_2;rw[hvc_] at ul237_2;have HL237_2:=aM (show Kd.V (Kd.slice 3 (Kd.int .i64)) 22 _ w.heap.size _ _ ((Zd t230 x72_3).f2) from Kd.V_mk ul237_2 ge237_2);clear hva_ hvn_ hvc_ ge237_2 ul237_2;clear hcc237 hce237;have HR237_1:=aM hi237_1;have HC237_1:=aM hl237_1;clear hi237_1 hl237_1;have HR237_2:=aM hi237_2;have HC237_2:=aM hl237_2;clear hi237_2 hl237_2;replace p237:=eq_true p237;replace q237:=eq_true q237)|((with_reducible refine Zr (N:=11) rfl ?_);(try(refine Zv (by rfl) ?_;dsimp only));refine Zy ?hg (N:=11) ?hd (cs:= #[.int .i64 0,.slice none 0 0,.slice none 0 0]) (t:=74) ?hr ?_;(case hd=>rfl);(case hg=>rfl);(case hr=>first|(go_simp;done)|(go_simp;rfl));intro gb238 hg w73 hbox hb;replace HO_70:=aM (Kd.V_below (Kd.V_elderB (zV HO_70) gb238 (Nat.le_of_eq hg.symm)) hb);replace HO_223001:=aM (Kd.V_below (Kd.V_elderB (zV HO_223001) gb238 (Nat.le_of_eq hg.symm)) hb);replace HO_235001:=aM (Kd.N_below (Kd.N_elderB (zN HO_235001) gb238 (Nat.le_of_eq hg.symm)) hb);replace HR235_1:=aM (Kd.C_below zz65 hb);replace HL235_1:=aM (Kd.V_below (Kd.V_elderB (zV HL235_1) gb238 (Nat.le_of_eq hg.symm)) hb);replace HR235_2:=aM (Kd.C_below zz66 hb);replace HL235_2:=aM (Kd.V_below (Kd.V_elderB (zV HL235_2) gb238 (Nat.le_of_eq hg.symm)) hb);replace HR237_1:=aM (Kd.C_below zz67 hb);replace HL237_1:=aM (Kd.V_below (Kd.V_elderB (zV HL237_1) gb238 (Nat.le_of_eq hg.symm)) hb);replace HR237_2:=aM (Kd.C_below zz68 hb);replace HL237_2:=aM (Kd.V_below (Kd.V_elderB (zV HL237_2) gb238 (Nat.le_of_eq hg.symm)) hb);have BK238:=aM (hbox);have GW238:=aM ((by rw[hg];exact(Zc zz69):w.heap.size≤gb238));have GE238:=aM ((by rw[hg];exact(Zc zz69):w.heap.size≤gb238));replace HB:=aM (Ze zz69 hb);have NB222_238:=aM ((by rw[hg];exact Nat.ne_of_lt (Zw (g:=gb222) (o:= .cells #[.int .i64 a0_0,.slice (some ad235) l0_1.length c0_1] 46 (0,0)) (zB BK222)):gb222≠gb238));have NB238_222:=aM ((by rw[hg];exact Nat.ne_of_gt (Zw (g:=gb222) (o:= .cells #[.int .i64 a0_0,.slice (some ad235) l0_1.length c0_1] 46 (0,0)) (zB BK222)):gb238≠gb222));replace BK222:=aM (Zg (g:=gb222) (o:= .cells #[.int .i64 a0_0,.slice (some ad235) l0_1.length c0_1] 46 (0,0)) (zB BK222) hb);have NB234_238:=aM ((by rw[hg];exact Nat.ne_of_lt (Zw (g:=gb234) (o:= .cells #[.int .i64 t229,.slice (some ad237) t230.length co36] 46 (0,0)) (zB BK234)):gb234≠gb238));have NB238_234:=aM ((by rw[hg];exact Nat.ne_of_gt (Zw (g:=gb234) (o:= .cells #[.int .i64 t229,.slice (some ad237) t230.length co36] 46 (0,0)) (zB BK234)):gb238≠gb234));replace BK234:=aM (Zg (g:=gb234) (o:= .cells #[.int .i64 t229,.slice (some ad237) t230.length co36] 46 (0,0)) (zB BK234) hb);have NB236_238:=aM ((by rw[hg];exact Nat.ne_of_lt (Zw (g:=gb236) (o:= .cells #[.int .i64 ((Zd l0_1 x72_3).f0),.slice A235_1 ((Zd l0_1 x72_3).f1).length c235_1,.slice A235_2 ((Zd l0_1 x72_3).f2).length c235_2] 74 (0,0)) (zB BK236)):gb236≠gb238));have NB238_236:=aM ((by rw[hg];exact Nat.ne_of_gt (Zw (g:=gb236) (o:= .cells #[.int .i64 ((Zd l0_1 x72_3).f0),.slice A235_1 ((Zd l0_1 x72_3).f1).length c235_1,.slice A235_2 ((Zd l0_1 x72_3).f2).length c235_2] 74 (0,0)) (zB BK236)):gb238≠gb236));replace BK236:=aM (Zg (g:=gb236) (o:= .cells #[.int .i64 ((Zd l0_1 x72_3).f0),.slice A235_1 ((Zd l0_1 x72_3).f1).length c235_1,.slice A235_2 ((Zd l0_1 x72_3).f2).length c235_2] 74 (0,0)) (zB BK236) hb);clear hb hbox hg;have hnb74:=NB238_222.out;have hnc74:=NB222_238.out;have hnb75:=NB238_234.out;have hnc75:=NB234_238.out;have hnb76:=NB238_236.out;have hnc76:=NB236_238.out;have hcz77_0:w73.cell? ⟨gb238,0,none⟩=some (.int .i64 0):=(Zb BK238.out 0).trans rfl;have hcz77_1:w73.cell? ⟨gb238,1,none⟩=some (.slice none 0 0):=(Zb BK238.out 1).trans rfl;have hcz77_2:w73.cell? ⟨gb238,2,none⟩=some (.slice none 0 0):=(Zb BK238.out 2).trans rfl;have hfz77_0:=Za BK238.out 0;have hfz77_1:=Za BK238.out 1;have hfz77_2:=Za BK238.out 2;have hcz78_0:w73.cell? ⟨gb236,0,none⟩=some (.int .i64 ((Zd l0_1 x72_3).f0)):=(Zb BK236.out 0).trans rfl;have hcz78_1:w73.cell? ⟨gb236,1,none⟩=some (.slice A235_1 ((Zd l0_1 x72_3).f1).length c235_1):=(Zb BK236.out 1).trans rfl;have hcz78_2:w73.cell? ⟨gb236,2,none⟩=some (.slice A235_2 ((Zd l0_1 x72_3).f2).length c235_2):=(Zb BK236.out 2).trans rfl;have hfz78_0:=Za BK236.out 0;have hfz78_1:=Za BK236.out 1;have hfz78_2:=Za BK236.out 2)|(go_at_call 65;(with_reducible refine(slEq.calls k3 _ _ ((Zd l0_1 x72_3).f1) _ _ ((Zd t230 x72_3).f1) true _ ?side1 ?side2 ?side3 ?side4 A49.out).mono ?_);(case side1=>repeat(first|exact((Kd.V_reads' zz46).2.2)|(with_reducible refine Kd.C_alloc ?_ _)|(with_reducible refine Kd.C_drewN ?_ _)|(with_reducible refine Kd.C_drew ?_)));(case side2=>exact HC235_1.out);(case side3=>repeat(first|exact((Kd.V_reads' zz47).2.2)|(with_reducible refine Kd.C_alloc ?_ _)|(with_reducible refine Kd.C_drewN ?_ _)|(with_reducible refine Kd.C_drew ?_)));(case side4=>exact HC237_1.out);rintro e w' ⟨rfl,⟨nd,rfl⟩⟩)|(go_at_call 66;(with_reducible refine(slEqF.calls _ _ ((Zd l0_1 x72_3).f2) _ _ ((Zd t230 x72_3).f2) false _ ?side1 ?side2 ?side3 ?side4 A51.out).mono ?_);(case side1=>repeat(first|exact((Kd.V_reads' zz48).2.2)|(with_reducible refine Kd.C_alloc ?_ _)|(with_reducible refine Kd.C_drewN ?_ _)|(with_reducible refine Kd.C_drew ?_)));(case side2=>exact HC235_2.out);(case side3=>repeat(first|exact((Kd.V_reads' zz49).2.2)|(with_reducible refine Kd.C_alloc ?_ _)|(with_reducible refine Kd.C_drewN ?_ _)|(with_reducible refine Kd.C_drew ?_)));(case side4=>exact HC237_2.out);rintro e w' ⟨rfl,⟨nd,rfl⟩⟩))
              go_ret
              exact⟨by first|rfl|(simp[Zj,Zi]<;>rfl)|(simp[*,Zj,Zi]<;>rfl),by repeat(first|(with_reducible first|exact HB.out|apply Zn|apply Zf|apply Zh|refine Zk ?_ GE222.out|refine Zk ?_ GE234.out|refine Zk ?_ GE236.out|refine Zk ?_ GE238.out)|exact HB.out)⟩
             replace c50:=Bool.eq_false_iff.mpr c50;subst c50;have H1:(some 5)=some r:=by rw[if_neg (show¬(false=true) by decide)] at H;exact H
             clear H;have H:=H1;clear H1;obtain rfl:=oI H;have p235:0≤(x72_3:Int):=oD zz151;have q235:x72_3<(l0_1.length:Int):=oD zz151;obtain⟨ad235,A235_1,c235_1,A235_2,c235_2,e235,hx235_0,hx235_1,hx235_2,hl235_1,hi235_1,hl235_2,hi235_2⟩:=Z1 (Kd.V_reads' HO_70.out).2.2 x72_3 p235 q235
             cases e235;obtain⟨ce235,hce235,hMe235,hcc235⟩:=Kd.V_get HO_70.out z74 x72_3 p235 zz117;obtain⟨ua235_1,uc235_1,ua235_2,uc235_2,rfl,ul235_1,ge235_1,ul235_2,ge235_2⟩:=Z3 hMe235;have hv235_1:=hcc235 1 _ rfl;rw[ZN _ _ 1 (by omega)] at hv235_1;replace hv235_1:=oI (hv235_1.symm.trans hx235_1);injection hv235_1 with hva_ hvn_ hvc_
             rw[hva_] at ge235_1;rw[hvc_] at ul235_1;have HL235_1:=aM (show Kd.V (Kd.int .i64) 3 _ w.heap.size _ _ ((Zd l0_1 x72_3).f1) from Kd.V_mk ul235_1 ge235_1);clear hva_ hvn_ hvc_ ge235_1 ul235_1;have hv235_2:=hcc235 2 _ rfl;rw[ZN _ _ 2 (by omega)] at hv235_2;replace hv235_2:=oI (hv235_2.symm.trans hx235_2);injection hv235_2 with hva_ hvn_ hvc_
             rw[hva_] at ge235_2;rw[hvc_] at ul235_2;have HL235_2:=aM (show Kd.V (Kd.slice 3 (Kd.int .i64)) 22 _ w.heap.size _ _ ((Zd l0_1 x72_3).f2) from Kd.V_mk ul235_2 ge235_2);clear hva_ hvn_ hvc_ ge235_2 ul235_2;clear hcc235 hce235;have HR235_1:=aM hi235_1;have HC235_1:=aM hl235_1;clear hi235_1 hl235_1;have HR235_2:=aM hi235_2;have HC235_2:=aM hl235_2;clear hi235_2 hl235_2;replace p235:=eq_true p235;replace q235:=eq_true q235
             go_wp2_with (first|((with_reducible refine Zr (N:=10) rfl ?_);(try(refine Zv (by rfl) ?_;dsimp only));refine Zy ?hg (N:=10) ?hd (cs:= #[.int .i64 0,.slice none 0 0,.slice none 0 0]) (t:=74) ?hr ?_;(case hd=>rfl);(case hg=>rfl);(case hr=>first|(go_simp;done)|(go_simp;rfl));intro gb236 hg w79 hbox hb;replace HO_70:=aM (Kd.V_below (Kd.V_elderB (zV HO_70) gb236 (Nat.le_of_eq hg.symm)) hb);replace HO_223001:=aM (Kd.V_below (Kd.V_elderB (zV HO_223001) gb236 (Nat.le_of_eq hg.symm)) hb);replace HO_235001:=aM (Kd.N_below (Kd.N_elderB (zN HO_235001) gb236 (Nat.le_of_eq hg.symm)) hb);replace HR235_1:=aM (Kd.C_below zz65 hb);replace HL235_1:=aM (Kd.V_below (Kd.V_elderB (zV HL235_1) gb236 (Nat.le_of_eq hg.symm)) hb);replace HR235_2:=aM (Kd.C_below zz66 hb);replace HL235_2:=aM (Kd.V_below (Kd.V_elderB (zV HL235_2) gb236 (Nat.le_of_eq hg.symm)) hb);have BK236:=aM (hbox);have GW236:=aM ((by rw[hg];exact(Zc zz75):w.heap.size≤gb236));have GE236:=aM ((by rw[hg];exact(Zc zz75):w.heap.size≤gb236));replace HB:=aM (Ze zz75 hb);have NB222_236:=aM ((by rw[hg];exact Nat.ne_of_lt (Zw (g:=gb222) (o:= .cells #[.int .i64 a0_0,.slice (some ad235) l0_1.length c0_1] 46 (0,0)) (zB BK222)):gb222≠gb236));have NB236_222:=aM ((by rw[hg];exact Nat.ne_of_gt (Zw (g:=gb222) (o:= .cells #[.int .i64 a0_0,.slice (some ad235) l0_1.length c0_1] 46 (0,0)) (zB BK222)):gb236≠gb222));replace BK222:=aM (Zg (g:=gb222) (o:= .cells #[.int .i64 a0_0,.slice (some ad235) l0_1.length c0_1] 46 (0,0)) (zB BK222) hb);have NB234_236:=aM ((by rw[hg];exact Nat.ne_of_lt (Zw (g:=gb234) (o:= .cells #[.int .i64 t229,.slice Ao36 t230.length co36] 46 (0,0)) (zB BK234)):gb234≠gb236));have NB236_234:=aM ((by rw[hg];exact Nat.ne_of_gt (Zw (g:=gb234) (o:= .cells #[.int .i64 t229,.slice Ao36 t230.length co36] 46 (0,0)) (zB BK234)):gb236≠gb234));replace BK234:=aM (Zg (g:=gb234) (o:= .cells #[.int .i64 t229,.slice Ao36 t230.length co36] 46 (0,0)) (zB BK234) hb);clear hb hbox hg;have hnb80:=NB236_222.out;have hnc80:=NB222_236.out;have hnb81:=NB236_234.out;have hnc81:=NB234_236.out;have hcz82_0:w79.cell? ⟨gb236,0,none⟩=some (.int .i64 0):=(Zb BK236.out 0).trans rfl;have hcz82_1:w79.cell? ⟨gb236,1,none⟩=some (.slice none 0 0):=(Zb BK236.out 1).trans rfl;have hcz82_2:w79.cell? ⟨gb236,2,none⟩=some (.slice none 0 0):=(Zb BK236.out 2).trans rfl;have hfz82_0:=Za BK236.out 0;have hfz82_1:=Za BK236.out 1;have hfz82_2:=Za BK236.out 2)|((with_reducible refine ZP (t:=74) (p:=10) rfl ?_);refine ZM (t:=74) (p:=10) (v:= ?vo_w83) (w1:=(((w79.setCell ⟨gb236,0,none⟩ (.int .i64 ((Zd l0_1 x72_3).f0))).setCell ⟨gb236,1,none⟩ (.slice A235_1 ((Zd l0_1 x72_3).f1).length c235_1)).setCell ⟨gb236,2,none⟩ (.slice A235_2 ((Zd l0_1 x72_3).f2).length c235_2))) ?hg ?ho ?hn ?hr ?_;(case ho=>rfl);(case hg=>rfl);(case hn=>rfl);(case hr=>first|(go_simp;done)|(go_simp;rfl));intro w83 hw;have n0_:Aside0 (Kd.V k74 74 w83 w.heap.size (fun k_=>(P0_1_ k_∨w.heap.size≤k_)∧some k_≠(.slice Ao36 t230.length co36:Value).ownBlock∧k_≠gb222∧k_≠gb234∧k_≠gb236) (.slice (some ad235) l0_1.length c0_1) l0_1):=⟨zz27⟩;have n1_:Aside0 (Kd.V k74 74 w83 w.heap.size (fun k_=>(P0_1_ k_∨w.heap.size≤k_)∧some k_≠(.slice Ao36 t230.length co36:Value).ownBlock∧k_≠gb222∧k_≠gb234∧k_≠gb236) (.slice (some ad235) l0_1.length c0_1) l0_1):=⟨zz24⟩;have n2_:Aside0 (Kd.N k74 74 w83 w.heap.size (fun k_=>(P0_1_ k_∨w.heap.size≤k_)∧k_≠gb222∧k_≠gb234∧k_≠gb236) (.slice Ao36 t230.length co36) t230):=⟨zz29⟩;have n3_:Aside0 (Kd.V (Kd.int .i64) 3 w83 w.heap.size (fun k_=>(P0_1_ k_∨w.heap.size≤k_)∧some k_≠(.slice Ao36 t230.length co36:Value).ownBlock∧k_≠gb222∧k_≠gb234∧k_≠gb236) (.slice A235_1 ((Zd l0_1 x72_3).f1).length c235_1) ((Zd l0_1 x72_3).f1)):=⟨zz25⟩;have n4_:Aside0 (Kd.V (Kd.slice 3 (Kd.int .i64)) 22 w83 w.heap.size (fun k_=>(P0_1_ k_∨w.heap.size≤k_)∧some k_≠(.slice Ao36 t230.length co36:Value).ownBlock∧k_≠gb222∧k_≠gb234∧k_≠gb236) (.slice A235_2 ((Zd l0_1 x72_3).f2).length c235_2) ((Zd l0_1 x72_3).f2)):=⟨zz26⟩;have n5_:Aside0 (w83.heap[gb222]? =some (.cells #[.int .i64 a0_0,.slice (some ad235) l0_1.length c0_1] 46 (0,0))):=⟨zz35⟩;have n6_:Aside0 (w83.heap[gb234]? =some (.cells #[.int .i64 t229,.slice Ao36 t230.length co36] 46 (0,0))):=⟨zz36⟩;have n7_:Aside0 (w83.heap[gb236]? =some (.cells #[.int .i64 ((Zd l0_1 x72_3).f0),.slice A235_1 ((Zd l0_1 x72_3).f1).length c235_1,.slice A235_2 ((Zd l0_1 x72_3).f2).length c235_2] 74 (0,0))):=⟨zz5⟩;have n8_:Aside0 (Below w.heap.size w w83):=⟨zz62⟩;clear hw;clear HO_70;clear HO_223001;clear HO_235001;clear HL235_1;clear HL235_2;clear BK222;clear BK234;clear BK236;clear HB;have HO_70:=n0_;have HO_223001:=n1_;have HO_235001:=n2_;have HL235_1:=n3_;have HL235_2:=n4_;have BK222:=n5_;have BK234:=n6_;have BK236:=n7_;have HB:=n8_;clear n0_ n1_ n2_ n3_ n4_ n5_ n6_ n7_ n8_;have hnb84:=NB234_222.out;have hnc84:=NB222_234.out;have hcz85_0:w83.cell? ⟨gb234,0,none⟩=some (.int .i64 t229):=(Zb BK234.out 0).trans rfl;have hcz85_1:w83.cell? ⟨gb234,1,none⟩=some (.slice Ao36 t230.length co36):=(Zb BK234.out 1).trans rfl;have hfz85_0:=Za BK234.out 0;have hfz85_1:=Za BK234.out 1;have p237:0≤(x72_3:Int):=oD zz151;have q237:x72_3<(t230.length:Int):=oD zz151;obtain⟨ad237,A237_1,c237_1,A237_2,c237_2,e237,hx237_0,hx237_1,hx237_2,hl237_1,hi237_1,hl237_2,hi237_2⟩:=Z1 (Kd.N_reads' HO_235001.out).2.2 x72_3 p237 q237;cases e237;obtain⟨ce237,hce237,hMe237,hcc237⟩:=Kd.N_get HO_235001.out z74 x72_3 p237 zz115;obtain⟨ua237_1,uc237_1,ua237_2,uc237_2,rfl,ul237_1,ge237_1,ul237_2,ge237_2⟩:=Z3 hMe237;have hv237_1:=hcc237 1 _ rfl;rw[ZN _ _ 1 (by omega)] at hv237_1;replace hv237_1:=oI (hv237_1.symm.trans hx237_1);injection hv237_1 with hva_ hvn_ hvc_;rw[hva_] at ge237_1;rw[hvc_] at ul237_1;have HL237_1:=aM (show Kd.V (Kd.int .i64) 3 _ w.heap.size _ _ ((Zd t230 x72_3).f1) from Kd.V_mk ul237_1 ge237_1);clear hva_ hvn_ hvc_ ge237_1 ul237_1;have hv237_2:=hcc237 2 _ rfl;rw[ZN _ _ 2 (by omega)] at hv237_2;replace hv237_2:=oI (hv237_2.symm.trans hx237_2);injection hv237_2 with hva_ hvn_ hvc_;rw[hva_] at ge237_2;rw[hvc_] at ul237_2;have HL237_2:=aM (show Kd.V (Kd.slice 3 (Kd.int .i64)) 22 _ w.heap.size _ _ ((Zd t230 x72_3).f2) from Kd.V_mk ul237_2 ge237_2);clear hva_ hvn_ hvc_ ge237_2 ul237_2;clear hcc237 hce237;have HR237_1:=aM hi237_1;have HC237_1:=aM hl237_1;clear hi237_1 hl237_1;have HR237_2:=aM hi237_2;have HC237_2:=aM hl237_2;clear hi237_2 hl237_2;replace p237:=eq_true p237;replace q237:=eq_true q237)|((with_reducible refine Zr (N:=11) rfl ?_);(try(refine Zv (by rfl) ?_;dsimp only));refine Zy ?hg (N:=11) ?hd (cs:= #[.int .i64 0,.slice none 0 0,.slice none 0 0]) (t:=74) ?hr ?_;(case hd=>rfl);(case hg=>rfl);(case hr=>first|(go_simp;done)|(go_simp;rfl));intro gb238 hg w86 hbox hb;replace HO_70:=aM (Kd.V_below (Kd.V_elderB (zV HO_70) gb238 (Nat.le_of_eq hg.symm)) hb);replace HO_223001:=aM (Kd.V_below (Kd.V_elderB (zV HO_223001) gb238 (Nat.le_of_eq hg.symm)) hb);replace HO_235001:=aM (Kd.N_below (Kd.N_elderB (zN HO_235001) gb238 (Nat.le_of_eq hg.symm)) hb);replace HR235_1:=aM (Kd.C_below zz65 hb);replace HL235_1:=aM (Kd.V_below (Kd.V_elderB (zV HL235_1) gb238 (Nat.le_of_eq hg.symm)) hb);replace HR235_2:=aM (Kd.C_below zz66 hb);replace HL235_2:=aM (Kd.V_below (Kd.V_elderB (zV HL235_2) gb238 (Nat.le_of_eq hg.symm)) hb);replace HR237_1:=aM (Kd.C_below zz67 hb);replace HL237_1:=aM (Kd.V_below (Kd.V_elderB (zV HL237_1) gb238 (Nat.le_of_eq hg.symm)) hb);replace HR237_2:=aM (Kd.C_below zz68 hb);replace HL237_2:=aM (Kd.V_below (Kd.V_elderB (zV HL237_2) gb238 (Nat.le_of_eq hg.symm)) hb);have BK238:=aM (hbox);have GW238:=aM ((by rw[hg];exact(Zc zz69):w.heap.size≤gb238));have GE238:=aM ((by rw[hg];exact(Zc zz69):w.heap.size≤gb238));replace HB:=aM (Ze zz69 hb);have NB222_238:=aM ((by rw[hg];exact Nat.ne_of_lt (Zw (g:=gb222) (o:= .cells #[.int .i64 a0_0,.slice (some ad235) l0_1.length c0_1] 46 (0,0)) (zB BK222)):gb222≠gb238));have NB238_222:=aM ((by rw[hg];exact Nat.ne_of_gt (Zw (g:=gb222) (o:= .cells #[.int .i64 a0_0,.slice (some ad235) l0_1.length c0_1] 46 (0,0)) (zB BK222)):gb238≠gb222));replace BK222:=aM (Zg (g:=gb222) (o:= .cells #[.int .i64 a0_0,.slice (some ad235) l0_1.length c0_1] 46 (0,0)) (zB BK222) hb);have NB234_238:=aM ((by rw[hg];exact Nat.ne_of_lt (Zw (g:=gb234) (o:= .cells #[.int .i64 t229,.slice (some ad237) t230.length co36] 46 (0,0)) (zB BK234)):gb234≠gb238));have NB238_234:=aM ((by rw[hg];exact Nat.ne_of_gt (Zw (g:=gb234) (o:= .cells #[.int .i64 t229,.slice (some ad237) t230.length co36] 46 (0,0)) (zB BK234)):gb238≠gb234));replace BK234:=aM (Zg (g:=gb234) (o:= .cells #[.int .i64 t229,.slice (some ad237) t230.length co36] 46 (0,0)) (zB BK234) hb);have NB236_238:=aM ((by rw[hg];exact Nat.ne_of_lt (Zw (g:=gb236) (o:= .cells #[.int .i64 ((Zd l0_1 x72_3).f0),.slice A235_1 ((Zd l0_1 x72_3).f1).length c235_1,.slice A235_2 ((Zd l0_1 x72_3).f2).length c235_2] 74 (0,0)) (zB BK236)):gb236≠gb238));have NB238_236:=aM ((by rw[hg];exact Nat.ne_of_gt (Zw (g:=gb236) (o:= .cells #[.int .i64 ((Zd l0_1 x72_3).f0),.slice A235_1 ((Zd l0_1 x72_3).f1).length c235_1,.slice A235_2 ((Zd l0_1 x72_3).f2).length c235_2] 74 (0,0)) (zB BK236)):gb238≠gb236));replace BK236:=aM (Zg (g:=gb236) (o:= .cells #[.int .i64 ((Zd l0_1 x72_3).f0),.slice A235_1 ((Zd l0_1 x72_3).f1).length c235_1,.slice A235_2 ((Zd l0_1 x72_3).f2).length c235_2] 74 (0,0)) (zB BK236) hb);clear hb hbox hg;have hnb87:=NB238_222.out;have hnc87:=NB222_238.out;have hnb88:=NB238_234.out;have hnc88:=NB234_238.out;have hnb89:=NB238_236.out;have hnc89:=NB236_238.out;have hcz90_0:w86.cell? ⟨gb238,0,none⟩=some (.int .i64 0):=(Zb BK238.out 0).trans rfl;have hcz90_1:w86.cell? ⟨gb238,1,none⟩=some (.slice none 0 0):=(Zb BK238.out 1).trans rfl;have hcz90_2:w86.cell? ⟨gb238,2,none⟩=some (.slice none 0 0):=(Zb BK238.out 2).trans rfl;have hfz90_0:=Za BK238.out 0;have hfz90_1:=Za BK238.out 1;have hfz90_2:=Za BK238.out 2;have hcz91_0:w86.cell? ⟨gb236,0,none⟩=some (.int .i64 ((Zd l0_1 x72_3).f0)):=(Zb BK236.out 0).trans rfl;have hcz91_1:w86.cell? ⟨gb236,1,none⟩=some (.slice A235_1 ((Zd l0_1 x72_3).f1).length c235_1):=(Zb BK236.out 1).trans rfl;have hcz91_2:w86.cell? ⟨gb236,2,none⟩=some (.slice A235_2 ((Zd l0_1 x72_3).f2).length c235_2):=(Zb BK236.out 2).trans rfl;have hfz91_0:=Za BK236.out 0;have hfz91_1:=Za BK236.out 1;have hfz91_2:=Za BK236.out 2)|(go_at_call 65;(with_reducible refine(slEq.calls k3 _ _ ((Zd l0_1 x72_3).f1) _ _ ((Zd t230 x72_3).f1) false _ ?side1 ?side2 ?side3 ?side4 A49.out).mono ?_);(case side1=>repeat(first|exact((Kd.V_reads' zz46).2.2)|(with_reducible refine Kd.C_alloc ?_ _)|(with_reducible refine Kd.C_drewN ?_ _)|(with_reducible refine Kd.C_drew ?_)));(case side2=>exact HC235_1.out);(case side3=>repeat(first|exact((Kd.V_reads' zz47).2.2)|(with_reducible refine Kd.C_alloc ?_ _)|(with_reducible refine Kd.C_drewN ?_ _)|(with_reducible refine Kd.C_drew ?_)));(case side4=>exact HC237_1.out);rintro e w' ⟨rfl,⟨nd,rfl⟩⟩))
             go_ret
             exact⟨by first|rfl|(simp[Zj,Zi]<;>rfl)|(simp[*,Zj,Zi]<;>rfl),by repeat(first|(with_reducible first|exact HB.out|apply Zn|apply Zf|apply Zh|refine Zk ?_ GE222.out|refine Zk ?_ GE234.out|refine Zk ?_ GE236.out|refine Zk ?_ GE238.out)|exact HB.out)⟩
            rw[if_neg c48] at H;have c48b0:=beq_eq_false_iff_ne.mpr c48;have c48b1:=bne_iff_ne.mpr c48;obtain rfl:=oI H;have p235:0≤(x72_3:Int):=oD zz151;have q235:x72_3<(l0_1.length:Int):=oD zz151;obtain⟨ad235,A235_1,c235_1,A235_2,c235_2,e235,hx235_0,hx235_1,hx235_2,hl235_1,hi235_1,hl235_2,hi235_2⟩:=Z1 (Kd.V_reads' HO_70.out).2.2 x72_3 p235 q235
            cases e235;obtain⟨ce235,hce235,hMe235,hcc235⟩:=Kd.V_get HO_70.out z74 x72_3 p235 zz117;obtain⟨ua235_1,uc235_1,ua235_2,uc235_2,rfl,ul235_1,ge235_1,ul235_2,ge235_2⟩:=Z3 hMe235;have hv235_1:=hcc235 1 _ rfl;rw[ZN _ _ 1 (by omega)] at hv235_1;replace hv235_1:=oI (hv235_1.symm.trans hx235_1);injection hv235_1 with hva_ hvn_ hvc_
            rw[hva_] at ge235_1;rw[hvc_] at ul235_1;have HL235_1:=aM (show Kd.V (Kd.int .i64) 3 _ w.heap.size _ _ ((Zd l0_1 x72_3).f1) from Kd.V_mk ul235_1 ge235_1);clear hva_ hvn_ hvc_ ge235_1 ul235_1;have hv235_2:=hcc235 2 _ rfl;rw[ZN _ _ 2 (by omega)] at hv235_2;replace hv235_2:=oI (hv235_2.symm.trans hx235_2);injection hv235_2 with hva_ hvn_ hvc_
            rw[hva_] at ge235_2;rw[hvc_] at ul235_2;have HL235_2:=aM (show Kd.V (Kd.slice 3 (Kd.int .i64)) 22 _ w.heap.size _ _ ((Zd l0_1 x72_3).f2) from Kd.V_mk ul235_2 ge235_2);clear hva_ hvn_ hvc_ ge235_2 ul235_2;clear hcc235 hce235;have HR235_1:=aM hi235_1;have HC235_1:=aM hl235_1;clear hi235_1 hl235_1;have HR235_2:=aM hi235_2;have HC235_2:=aM hl235_2;clear hi235_2 hl235_2;replace p235:=eq_true p235;replace q235:=eq_true q235
            go_wp2_with (first|((with_reducible refine Zr (N:=10) rfl ?_);(try(refine Zv (by rfl) ?_;dsimp only));refine Zy ?hg (N:=10) ?hd (cs:= #[.int .i64 0,.slice none 0 0,.slice none 0 0]) (t:=74) ?hr ?_;(case hd=>rfl);(case hg=>rfl);(case hr=>first|(go_simp;done)|(go_simp;rfl));intro gb236 hg w92 hbox hb;replace HO_70:=aM (Kd.V_below (Kd.V_elderB (zV HO_70) gb236 (Nat.le_of_eq hg.symm)) hb);replace HO_223001:=aM (Kd.V_below (Kd.V_elderB (zV HO_223001) gb236 (Nat.le_of_eq hg.symm)) hb);replace HO_235001:=aM (Kd.N_below (Kd.N_elderB (zN HO_235001) gb236 (Nat.le_of_eq hg.symm)) hb);replace HR235_1:=aM (Kd.C_below zz65 hb);replace HL235_1:=aM (Kd.V_below (Kd.V_elderB (zV HL235_1) gb236 (Nat.le_of_eq hg.symm)) hb);replace HR235_2:=aM (Kd.C_below zz66 hb);replace HL235_2:=aM (Kd.V_below (Kd.V_elderB (zV HL235_2) gb236 (Nat.le_of_eq hg.symm)) hb);have BK236:=aM (hbox);have GW236:=aM ((by rw[hg];exact(Zc zz75):w.heap.size≤gb236));have GE236:=aM ((by rw[hg];exact(Zc zz75):w.heap.size≤gb236));replace HB:=aM (Ze zz75 hb);have NB222_236:=aM ((by rw[hg];exact Nat.ne_of_lt (Zw (g:=gb222) (o:= .cells #[.int .i64 a0_0,.slice (some ad235) l0_1.length c0_1] 46 (0,0)) (zB BK222)):gb222≠gb236));have NB236_222:=aM ((by rw[hg];exact Nat.ne_of_gt (Zw (g:=gb222) (o:= .cells #[.int .i64 a0_0,.slice (some ad235) l0_1.length c0_1] 46 (0,0)) (zB BK222)):gb236≠gb222));replace BK222:=aM (Zg (g:=gb222) (o:= .cells #[.int .i64 a0_0,.slice (some ad235) l0_1.length c0_1] 46 (0,0)) (zB BK222) hb);have NB234_236:=aM ((by rw[hg];exact Nat.ne_of_lt (Zw (g:=gb234) (o:= .cells #[.int .i64 t229,.slice Ao36 t230.length co36] 46 (0,0)) (zB BK234)):gb234≠gb236));have NB236_234:=aM ((by rw[hg];exact Nat.ne_of_gt (Zw (g:=gb234) (o:= .cells #[.int .i64 t229,.slice Ao36 t230.length co36] 46 (0,0)) (zB BK234)):gb236≠gb234));replace BK234:=aM (Zg (g:=gb234) (o:= .cells #[.int .i64 t229,.slice Ao36 t230.length co36] 46 (0,0)) (zB BK234) hb);clear hb hbox hg;have hnb93:=NB236_222.out;have hnc93:=NB222_236.out;have hnb94:=NB236_234.out;have hnc94:=NB234_236.out;have hcz95_0:w92.cell? ⟨gb236,0,none⟩=some (.int .i64 0):=(Zb BK236.out 0).trans rfl;have hcz95_1:w92.cell? ⟨gb236,1,none⟩=some (.slice none 0 0):=(Zb BK236.out 1).trans rfl;have hcz95_2:w92.cell? ⟨gb236,2,none⟩=some (.slice none 0 0):=(Zb BK236.out 2).trans rfl;have hfz95_0:=Za BK236.out 0;have hfz95_1:=Za BK236.out 1;have hfz95_2:=Za BK236.out 2)|((with_reducible refine ZP (t:=74) (p:=10) rfl ?_);refine ZM (t:=74) (p:=10) (v:= ?vo_w96) (w1:=(((w92.setCell ⟨gb236,0,none⟩ (.int .i64 ((Zd l0_1 x72_3).f0))).setCell ⟨gb236,1,none⟩ (.slice A235_1 ((Zd l0_1 x72_3).f1).length c235_1)).setCell ⟨gb236,2,none⟩ (.slice A235_2 ((Zd l0_1 x72_3).f2).length c235_2))) ?hg ?ho ?hn ?hr ?_;(case ho=>rfl);(case hg=>rfl);(case hn=>rfl);(case hr=>first|(go_simp;done)|(go_simp;rfl));intro w96 hw;have n0_:Aside0 (Kd.V k74 74 w96 w.heap.size (fun k_=>(P0_1_ k_∨w.heap.size≤k_)∧some k_≠(.slice Ao36 t230.length co36:Value).ownBlock∧k_≠gb222∧k_≠gb234∧k_≠gb236) (.slice (some ad235) l0_1.length c0_1) l0_1):=⟨zz27⟩;have n1_:Aside0 (Kd.V k74 74 w96 w.heap.size (fun k_=>(P0_1_ k_∨w.heap.size≤k_)∧some k_≠(.slice Ao36 t230.length co36:Value).ownBlock∧k_≠gb222∧k_≠gb234∧k_≠gb236) (.slice (some ad235) l0_1.length c0_1) l0_1):=⟨zz24⟩;have n2_:Aside0 (Kd.N k74 74 w96 w.heap.size (fun k_=>(P0_1_ k_∨w.heap.size≤k_)∧k_≠gb222∧k_≠gb234∧k_≠gb236) (.slice Ao36 t230.length co36) t230):=⟨zz29⟩;have n3_:Aside0 (Kd.V (Kd.int .i64) 3 w96 w.heap.size (fun k_=>(P0_1_ k_∨w.heap.size≤k_)∧some k_≠(.slice Ao36 t230.length co36:Value).ownBlock∧k_≠gb222∧k_≠gb234∧k_≠gb236) (.slice A235_1 ((Zd l0_1 x72_3).f1).length c235_1) ((Zd l0_1 x72_3).f1)):=⟨zz25⟩;have n4_:Aside0 (Kd.V (Kd.slice 3 (Kd.int .i64)) 22 w96 w.heap.size (fun k_=>(P0_1_ k_∨w.heap.size≤k_)∧some k_≠(.slice Ao36 t230.length co36:Value).ownBlock∧k_≠gb222∧k_≠gb234∧k_≠gb236) (.slice A235_2 ((Zd l0_1 x72_3).f2).length c235_2) ((Zd l0_1 x72_3).f2)):=⟨zz26⟩;have n5_:Aside0 (w96.heap[gb222]? =some (.cells #[.int .i64 a0_0,.slice (some ad235) l0_1.length c0_1] 46 (0,0))):=⟨zz35⟩;have n6_:Aside0 (w96.heap[gb234]? =some (.cells #[.int .i64 t229,.slice Ao36 t230.length co36] 46 (0,0))):=⟨zz36⟩;have n7_:Aside0 (w96.heap[gb236]? =some (.cells #[.int .i64 ((Zd l0_1 x72_3).f0),.slice A235_1 ((Zd l0_1 x72_3).f1).length c235_1,.slice A235_2 ((Zd l0_1 x72_3).f2).length c235_2] 74 (0,0))):=⟨zz5⟩;have n8_:Aside0 (Below w.heap.size w w96):=⟨zz62⟩;clear hw;clear HO_70;clear HO_223001;clear HO_235001;clear HL235_1;clear HL235_2;clear BK222;clear BK234;clear BK236;clear HB;have HO_70:=n0_;have HO_223001:=n1_;have HO_235001:=n2_;have HL235_1:=n3_;have HL235_2:=n4_;have BK222:=n5_;have BK234:=n6_;have BK236:=n7_;have HB:=n8_;clear n0_ n1_ n2_ n3_ n4_ n5_ n6_ n7_ n8_;have hnb97:=NB234_222.out;have hnc97:=NB222_234.out;have hcz98_0:w96.cell? ⟨gb234,0,none⟩=some (.int .i64 t229):=(Zb BK234.out 0).trans rfl;have hcz98_1:w96.cell? ⟨gb234,1,none⟩=some (.slice Ao36 t230.length co36):=(Zb BK234.out 1).trans rfl;have hfz98_0:=Za BK234.out 0;have hfz98_1:=Za BK234.out 1;have p237:0≤(x72_3:Int):=oD zz151;have q237:x72_3<(t230.length:Int):=oD zz151;obtain⟨ad237,A237_1,c237_1,A237_2,c237_2,e237,hx237_0,hx237_1,hx237_2,hl237_1,hi237_1,hl237_2,hi237_2⟩:=Z1 (Kd.N_reads' HO_235001.out).2.2 x72_3 p237 q237;cases e237;obtain⟨ce237,hce237,hMe237,hcc237⟩:=Kd.N_get HO_235001.out z74 x72_3 p237 zz115;obtain⟨ua237_1,uc237_1,ua237_2,uc237_2,rfl,ul237_1,ge237_1,ul237_2,ge237_2⟩:=Z3 hMe237;have hv237_1:=hcc237 1 _ rfl;rw[ZN _ _ 1 (by omega)] at hv237_1;replace hv237_1:=oI (hv237_1.symm.trans hx237_1);injection hv237_1 with hva_ hvn_ hvc_;rw[hva_] at ge237_1;rw[hvc_] at ul237_1;have HL237_1:=aM (show Kd.V (Kd.int .i64) 3 _ w.heap.size _ _ ((Zd t230 x72_3).f1) from Kd.V_mk ul237_1 ge237_1);clear hva_ hvn_ hvc_ ge237_1 ul237_1;have hv237_2:=hcc237 2 _ rfl;rw[ZN _ _ 2 (by omega)] at hv237_2;replace hv237_2:=oI (hv237_2.symm.trans hx237_2);injection hv237_2 with hva_ hvn_ hvc_;rw[hva_] at ge237_2;rw[hvc_] at ul237_2;have HL237_2:=aM (show Kd.V (Kd.slice 3 (Kd.int .i64)) 22 _ w.heap.size _ _ ((Zd t230 x72_3).f2) from Kd.V_mk ul237_2 ge237_2);clear hva_ hvn_ hvc_ ge237_2 ul237_2;clear hcc237 hce237;have HR237_1:=aM hi237_1;have HC237_1:=aM hl237_1;clear hi237_1 hl237_1;have HR237_2:=aM hi237_2;have HC237_2:=aM hl237_2;clear hi237_2 hl237_2;replace p237:=eq_true p237;replace q237:=eq_true q237)|((with_reducible refine Zr (N:=11) rfl ?_);(try(refine Zv (by rfl) ?_;dsimp only));refine Zy ?hg (N:=11) ?hd (cs:= #[.int .i64 0,.slice none 0 0,.slice none 0 0]) (t:=74) ?hr ?_;(case hd=>rfl);(case hg=>rfl);(case hr=>first|(go_simp;done)|(go_simp;rfl));intro gb238 hg w99 hbox hb;replace HO_70:=aM (Kd.V_below (Kd.V_elderB (zV HO_70) gb238 (Nat.le_of_eq hg.symm)) hb);replace HO_223001:=aM (Kd.V_below (Kd.V_elderB (zV HO_223001) gb238 (Nat.le_of_eq hg.symm)) hb);replace HO_235001:=aM (Kd.N_below (Kd.N_elderB (zN HO_235001) gb238 (Nat.le_of_eq hg.symm)) hb);replace HR235_1:=aM (Kd.C_below zz65 hb);replace HL235_1:=aM (Kd.V_below (Kd.V_elderB (zV HL235_1) gb238 (Nat.le_of_eq hg.symm)) hb);replace HR235_2:=aM (Kd.C_below zz66 hb);replace HL235_2:=aM (Kd.V_below (Kd.V_elderB (zV HL235_2) gb238 (Nat.le_of_eq hg.symm)) hb);replace HR237_1:=aM (Kd.C_below zz67 hb);replace HL237_1:=aM (Kd.V_below (Kd.V_elderB (zV HL237_1) gb238 (Nat.le_of_eq hg.symm)) hb);replace HR237_2:=aM (Kd.C_below zz68 hb);replace HL237_2:=aM (Kd.V_below (Kd.V_elderB (zV HL237_2) gb238 (Nat.le_of_eq hg.symm)) hb);have BK238:=aM (hbox);have GW238:=aM ((by rw[hg];exact(Zc zz69):w.heap.size≤gb238));have GE238:=aM ((by rw[hg];exact(Zc zz69):w.heap.size≤gb238));replace HB:=aM (Ze zz69 hb);have NB222_238:=aM ((by rw[hg];exact Nat.ne_of_lt (Zw (g:=gb222) (o:= .cells #[.int .i64 a0_0,.slice (some ad235) l0_1.length c0_1] 46 (0,0)) (zB BK222)):gb222≠gb238));have NB238_222:=aM ((by rw[hg];exact Nat.ne_of_gt (Zw (g:=gb222) (o:= .cells #[.int .i64 a0_0,.slice (some ad235) l0_1.length c0_1] 46 (0,0)) (zB BK222)):gb238≠gb222));replace BK222:=aM (Zg (g:=gb222) (o:= .cells #[.int .i64 a0_0,.slice (some ad235) l0_1.length c0_1] 46 (0,0)) (zB BK222) hb);have NB234_238:=aM ((by rw[hg];exact Nat.ne_of_lt (Zw (g:=gb234) (o:= .cells #[.int .i64 t229,.slice (some ad237) t230.length co36] 46 (0,0)) (zB BK234)):gb234≠gb238));have NB238_234:=aM ((by rw[hg];exact Nat.ne_of_gt (Zw (g:=gb234) (o:= .cells #[.int .i64 t229,.slice (some ad237) t230.length co36] 46 (0,0)) (zB BK234)):gb238≠gb234));replace BK234:=aM (Zg (g:=gb234) (o:= .cells #[.int .i64 t229,.slice (some ad237) t230.length co36] 46 (0,0)) (zB BK234) hb);have NB236_238:=aM ((by rw[hg];exact Nat.ne_of_lt (Zw (g:=gb236) (o:= .cells #[.int .i64 ((Zd l0_1 x72_3).f0),.slice A235_1 ((Zd l0_1 x72_3).f1).length c235_1,.slice A235_2 ((Zd l0_1 x72_3).f2).length c235_2] 74 (0,0)) (zB BK236)):gb236≠gb238));have NB238_236:=aM ((by rw[hg];exact Nat.ne_of_gt (Zw (g:=gb236) (o:= .cells #[.int .i64 ((Zd l0_1 x72_3).f0),.slice A235_1 ((Zd l0_1 x72_3).f1).length c235_1,.slice A235_2 ((Zd l0_1 x72_3).f2).length c235_2] 74 (0,0)) (zB BK236)):gb238≠gb236));replace BK236:=aM (Zg (g:=gb236) (o:= .cells #[.int .i64 ((Zd l0_1 x72_3).f0),.slice A235_1 ((Zd l0_1 x72_3).f1).length c235_1,.slice A235_2 ((Zd l0_1 x72_3).f2).length c235_2] 74 (0,0)) (zB BK236) hb);clear hb hbox hg;have hnb100:=NB238_222.out;have hnc100:=NB222_238.out;have hnb101:=NB238_234.out;have hnc101:=NB234_238.out;have hnb102:=NB238_236.out;have hnc102:=NB236_238.out;have hcz103_0:w99.cell? ⟨gb238,0,none⟩=some (.int .i64 0):=(Zb BK238.out 0).trans rfl;have hcz103_1:w99.cell? ⟨gb238,1,none⟩=some (.slice none 0 0):=(Zb BK238.out 1).trans rfl;have hcz103_2:w99.cell? ⟨gb238,2,none⟩=some (.slice none 0 0):=(Zb BK238.out 2).trans rfl;have hfz103_0:=Za BK238.out 0;have hfz103_1:=Za BK238.out 1;have hfz103_2:=Za BK238.out 2;have hcz104_0:w99.cell? ⟨gb236,0,none⟩=some (.int .i64 ((Zd l0_1 x72_3).f0)):=(Zb BK236.out 0).trans rfl;have hcz104_1:w99.cell? ⟨gb236,1,none⟩=some (.slice A235_1 ((Zd l0_1 x72_3).f1).length c235_1):=(Zb BK236.out 1).trans rfl;have hcz104_2:w99.cell? ⟨gb236,2,none⟩=some (.slice A235_2 ((Zd l0_1 x72_3).f2).length c235_2):=(Zb BK236.out 2).trans rfl;have hfz104_0:=Za BK236.out 0;have hfz104_1:=Za BK236.out 1;have hfz104_2:=Za BK236.out 2))
            go_ret
            exact⟨by first|rfl|(simp[Zj,Zi]<;>rfl)|(simp[*,Zj,Zi]<;>rfl),by repeat(first|(with_reducible first|exact HB.out|apply Zn|apply Zf|apply Zh|refine Zk ?_ GE222.out|refine Zk ?_ GE234.out|refine Zk ?_ GE236.out|refine Zk ?_ GE238.out)|exact HB.out)⟩
           rw[if_neg c47] at H
           exact absurd H (by simp)
          rw[if_neg c46] at H
          exact absurd H (by simp)
         rw[if_neg c45] at H
         exact absurd H (by simp)
        rw[if_neg c44] at H;have c44b0:=dF c44;clear c44;obtain rfl:=oI H;go_wp2;go_ret
        exact⟨by first|rfl|(simp[Zj,Zi]<;>rfl)|(simp[*,Zj,Zi]<;>rfl),by repeat(first|(with_reducible first|exact HB.out|apply Zn|apply Zf|apply Zh|refine Zk ?_ GE222.out|refine Zk ?_ GE234.out)|exact HB.out)⟩
 rw[if_neg c3] at H
 have c3b0:=beq_eq_false_iff_ne.mpr c3
 have c3b1:=bne_iff_ne.mpr c3
 obtain rfl:=oI H
 go_enter Try.func36,Try.ntmps36
 go_wp2_with (first|((with_reducible refine Zr (N:=1) rfl ?_);(try(refine Zv (by rfl) ?_;dsimp only));refine Zy ?hg (N:=1) ?hd (cs:= #[.int .i64 a0_0,.slice A0_1 l0_1.length c0_1]) (t:=46) ?hr ?_;(case hd=>rfl);(case hg=>rfl);(case hr=>first|(go_simp;done)|(go_simp;rfl));intro gb222 hg w105 hbox hb;replace HO0_1:=aM (Kd.V_below (Kd.V_elderB (zV HO0_1) gb222 (Nat.le_of_eq hg.symm)) hb);have BK222:=aM (hbox);have GW222:=aM ((by rw[hg];exact(Zc zz126):w.heap.size≤gb222));have GE222:=aM ((by rw[hg];exact(Zc zz126):w.heap.size≤gb222));replace HB:=aM (Ze zz126 hb);clear hb hbox hg;have hcz106_0:w105.cell? ⟨gb222,0,none⟩=some (.int .i64 a0_0):=(Zb BK222.out 0).trans rfl;have hcz106_1:w105.cell? ⟨gb222,1,none⟩=some (.slice A0_1 l0_1.length c0_1):=(Zb BK222.out 1).trans rfl;have hfz106_0:=Za BK222.out 0;have hfz106_1:=Za BK222.out 1)|((with_reducible refine Zq (f:=52) rfl ?_);refine ZG (some 14) rfl rfl Try.func52 (by kernel_rfl) rfl #[.int .i64 a0_0] rfl zz125 ?_;(with_reducible refine(perm_degree.calls a0_0 t223 _ A2.out).mono ?_);rintro e w' ⟨rfl,⟨nd,rfl⟩⟩;refine⟨_,rfl,?_⟩))
 go_ret
 exact⟨by first|rfl|(simp[Zj,Zi]<;>rfl)|(simp[*,Zj,Zi]<;>rfl),by repeat(first|(with_reducible first|exact HB.out|apply Zn|apply Zf|apply Zh|refine Zk ?_ GE222.out)|exact HB.out)⟩
end
section
theorem perm_CheckChain.calls (k:Nat) (a0_0:Int) (A0_1:Option Addr) (c0_1:Nat) (l0_1:List S74) (r:Int) (w:World) (hr0_1:Kd.C k74 w A0_1 l0_1.length l0_1) (hc0_1:l0_1.length≤c0_1) (h:perm_CheckChain.f k a0_0 l0_1=some r):
    Calls Try.prog 36 #[.agg #[.int .i64 a0_0,.slice A0_1 l0_1.length c0_1]] w fun e w'=>e= .returned (.int .i64 r)∧Below w.heap.size w w':=
 perm_CheckChain.callsV k a0_0 (fun k_=>k_<w.heap.size) A0_1 c0_1 l0_1 r w (Kd.V_mk hc0_1 (Kd.C_F k74_heap hr0_1)) h
end
section
attribute [local go_sem] ZE ZC ZJ ZI ZA Zz ZD ZB
def perm_Size.l0:Nat→List Int→List (S74)→Int→Int→Option (List Int×Int)
 |0,_,_,_,_=>none
 |k+1,x5,x15,x16,x17=>if x17<x16 then(if 0≤x17 then(if x17<(x15.length:Int) then((nat_Of.f (IntKind.u64.wrap ((((Zd x15 x17).f1).length:Int)))).bind fun t259=>((nat_Mul.f k (([x5,t259]:List (List Int)))).bind fun t265=>(perm_Size.l0 k t265 x15 x16 (wrap64 (x17+1))))) else(none)) else(none)) else(some (x5,0))
def perm_Size.f (k:Nat) (a0_0:Int) (l0_1:List (S74)):Option (List Int×Int):=(perm_CheckChain.f k a0_0 l0_1).bind fun t253=>(if t253=0 then((nat_Of.f 1).bind fun t254=>(perm_Size.l0 k t254 l0_1 (l0_1.length:Int) 0)) else(some (([]:List Int),t253)))
theorem perm_Size.calls (k:Nat) (a0_0:Int) (A0_1:Option Addr) (c0_1:Nat) (l0_1:List (S74)) (r1:List Int) (r2:Int) (w:World) (hr0_1:Kd.C k74 w A0_1 l0_1.length l0_1) (hc0_1:l0_1.length≤c0_1) (h:perm_Size.f k a0_0 l0_1=some (r1,r2)):
    Calls Try.prog 35 #[.agg #[.int .i64 a0_0,.slice A0_1 l0_1.length c0_1]] w fun e w'=>∃v0_:Value,e= .returned (.tuple #[v0_,.int .i64 r2])∧Kd.R (Kd.int .u32) 72 w' w.heap.size (fun _=>True) v0_ r1∧Below w.heap.size w w':=by
 have hu46:=Try.underlying46
 have hu74:=Try.underlying74
 have HR0_1:=aM hr0_1
 have HC0_1:=aM hc0_1
 clear hr0_1 hc0_1
 have HB:=aM (Below.refl w.heap.size w)
 have H:((perm_CheckChain.f k a0_0 l0_1).bind fun t253=>(if t253=0 then((nat_Of.f 1).bind fun t254=>(perm_Size.l0 k t254 l0_1 (l0_1.length:Int) 0)) else(some (([]:List Int),t253))))=some (r1,r2):=h
 clear h
 replace H:=oB H
 obtain⟨t253,A20,H⟩:=H
 replace H:(if t253=0 then((nat_Of.f 1).bind fun t254=>(perm_Size.l0 k t254 l0_1 (l0_1.length:Int) 0)) else(some (([]:List Int),t253)))=some (r1,r2):=H
 have A2:=aM A20
 clear A20
 by_cases c3:t253=0
 ·rw [if_pos c3] at H
  have c3b0:=beq_iff_eq.mpr c3;have c3b1:=bne_eq_false_iff_eq.mpr c3;clear c3;replace H:=oB H;obtain⟨t254,A40,H⟩:=H;replace H:(perm_Size.l0 k t254 l0_1 (l0_1.length:Int) 0)=some (r1,r2):=H;have A4:=aM A40;clear A40;have H':=aM H;clear H
  go_enter Try.func35,Try.ntmps35
  go_wp2_with (first|((with_reducible refine Zr (N:=1) rfl ?_);refine Zy ?hg (N:=1) ?hd (cs:= #[.int .i64 a0_0,.slice A0_1 l0_1.length c0_1]) (t:=46) ?hr ?_;(case hd=>rfl);(case hg=>rfl);(case hr=>first|(go_simp;done)|(go_simp;rfl));intro gb252 hg w5 hbox hb;have BK252:=aM (hbox);have GW252:=aM ((by rw[hg];exact(Zc zz126):w.heap.size≤gb252));have GE252:=aM ((by rw[hg];exact(Zc zz126):w.heap.size≤gb252));replace HB:=aM (Ze zz126 hb);clear hb hbox hg;have hcz6_0:w5.cell? ⟨gb252,0,none⟩=some (.int .i64 a0_0):=(Zb BK252.out 0).trans rfl;have hcz6_1:w5.cell? ⟨gb252,1,none⟩=some (.slice A0_1 l0_1.length c0_1):=(Zb BK252.out 1).trans rfl;have hfz6_0:=Za BK252.out 0;have hfz6_1:=Za BK252.out 1)|((with_reducible refine Zq (f:=36) rfl ?_);refine ZG (some 9) rfl rfl Try.func36 (by kernel_rfl) rfl #[.agg #[.int .i64 a0_0,.slice A0_1 l0_1.length c0_1]] rfl zz125 ?_;(with_reducible refine(perm_CheckChain.calls k a0_0 _ _ l0_1 t253 _ ?side1 ?side2 A2.out).mono ?_);(case side1=>exact zC (Kd.C_below HR0_1.out HB.out));(case side2=>exact HC0_1.out);rintro e w7 ⟨rfl,hb⟩;refine⟨_,rfl,?_⟩;replace BK252:=aM (Zg (g:=gb252) (o:= .cells #[.int .i64 a0_0,.slice A0_1 l0_1.length c0_1] 46 (0,0)) (zB BK252) hb);replace HB:=aM (Ze zz94 hb);(try clear hb);(try clear hb2);(try clear hk);(try clear hi))|((with_reducible refine Zq (f:=48) rfl ?_);refine ZG (some 13) rfl rfl Try.func48 (by kernel_rfl) rfl #[.int .u64 1] rfl zz125 ?_;(with_reducible refine(nat_Of.calls 1 t254 _ A4.out).mono ?_);rintro e w8 ⟨v255,rfl,ho0,hb⟩;refine⟨_,rfl,?_⟩;have HO256:=aM (Kd.R_lower ho0 (Zc zz94));replace BK252:=aM (Zg (g:=gb252) (o:= .cells #[.int .i64 a0_0,.slice A0_1 l0_1.length c0_1] 46 (0,0)) (zB BK252) hb);replace HB:=aM (Ze zz94 hb);(try clear hb);(try clear hb2);(try clear hk);(try clear hi);(try clear ho0);have hcz9_0:w8.cell? ⟨gb252,0,none⟩=some (.int .i64 a0_0):=(Zb BK252.out 0).trans rfl;have hcz9_1:w8.cell? ⟨gb252,1,none⟩=some (.slice A0_1 l0_1.length c0_1):=(Zb BK252.out 1).trans rfl;have hfz9_0:=Za BK252.out 0;have hfz9_1:=Za BK252.out 1))
  go_loopg [5,17] k (fun kq v5 v17 w'=>∃(x5_1:List Int) (x17_1:Int),v17= .int .i64 x17_1∧Aside0 (perm_Size.l0 kq x5_1 l0_1 (l0_1.length:Int) x17_1=some (r1,r2))∧Aside0 (kq≤k)∧Aside0 (Kd.R (Kd.int .u32) 72 w' w.heap.size (fun _=>True) v5 x5_1)∧Aside0 (w'.heap[gb252]? =some (.cells #[.int .i64 a0_0,(.slice A0_1 l0_1.length c0_1)] 46 (0,0)))∧Aside0 (Below w.heap.size w w'))
  case atStart=>exact⟨(t254),(0),zz152,H',⟨Nat.le_refl _⟩,⟨(zR HO256)⟩,⟨(zB BK252)⟩,⟨zz94⟩⟩
  case round =>
   clear H';(try clear p2);(try clear c3);(try clear c3b0);(try clear c3b1);(try clear c4);(try clear hcz6_0);(try clear hcz6_1);(try clear hcz9_0);(try clear hcz9_1);(try clear hfz6_0);(try clear hfz6_1);(try clear hfz9_0);(try clear hfz9_1);obtain⟨x5_1,x17_1,rfl,HA,HK1,HO_5,BK252,HB⟩:=hrel
   cases gk with
   |zero=>exact absurd HA.out (by simp[perm_Size.l0])
   | succ k1=>
    have H:=HA.out;clear HA;simp only[perm_Size.l0] at H
    by_cases c10:x17_1<(l0_1.length:Int)
    ·rw [if_pos c10] at H;have c10b0:=dT c10;clear c10
     by_cases c11:0≤x17_1
     ·rw [if_pos c11] at H;have c11b0:=dT c11;clear c11
      by_cases c12:x17_1<(l0_1.length:Int)
      ·rw[if_pos c12] at H;have c12b0:=dT c12;clear c12;replace H:=oB H;obtain⟨t259,A130,H⟩:=H;replace H:((nat_Mul.f k1 (([x5_1,t259]:List (List Int)))).bind fun t265=>(perm_Size.l0 k1 t265 l0_1 (l0_1.length:Int) (wrap64 (x17_1+1))))=some (r1,r2):=H;have A13:=aM A130;clear A130;obtain⟨y262,hy262⟩:∃y_:List (List Int),y_=(([x5_1,t259]:List (List Int))):=⟨_,rfl⟩;replace H:((nat_Mul.f k1 y262).bind fun t265=>(perm_Size.l0 k1 t265 l0_1 (l0_1.length:Int) (wrap64 (x17_1+1))))=some (r1,r2):=by first|(rw[hy262];with_reducible exact H)|(have H2_:=(Option.bind_some _ _).symm.trans H;rw[hy262];with_reducible exact H2_)|(have H2_:=(Option.bind_some _ _).symm.trans H;with_reducible exact H2_)|with_reducible exact H|(rw[hy262];exact H)|exact H
       have Ny262:=aM hy262;clear hy262;replace H:=oB H;obtain⟨t265,A140,H⟩:=H;replace H:(perm_Size.l0 k1 t265 l0_1 (l0_1.length:Int) (wrap64 (x17_1+1)))=some (r1,r2):=H;have A14:=aM A140;clear A140;have H':=aM H;clear H;have p257:0≤(x17_1:Int):=oD zz151;have q257:x17_1<(l0_1.length:Int):=oD zz151;obtain⟨ad257,A257_1,c257_1,A257_2,c257_2,e257,hx257_0,hx257_1,hx257_2,hl257_1,hi257_1,hl257_2,hi257_2⟩:=Z1 HR0_1.out x17_1 p257 q257
       cases e257;replace hx257_0:=(HB.out.cell (wB w _ hx257_0)).trans hx257_0;replace hx257_1:=(HB.out.cell (wB w _ hx257_1)).trans hx257_1;replace hx257_2:=(HB.out.cell (wB w _ hx257_2)).trans hx257_2;have HR257_1:=aM hi257_1;have HC257_1:=aM hl257_1;clear hi257_1 hl257_1;have HR257_2:=aM hi257_2;have HC257_2:=aM hl257_2;clear hi257_2 hl257_2;replace p257:=eq_true p257;replace q257:=eq_true q257
       go_wp2_with (first|((with_reducible refine Zr (N:=7) rfl ?_);refine Zy ?hg (N:=7) ?hd (cs:= #[.int .i64 0,.slice none 0 0,.slice none 0 0]) (t:=74) ?hr ?_;(case hd=>rfl);(case hg=>rfl);(case hr=>first|(go_simp;done)|(go_simp;rfl));intro gb258 hg w15 hbox hb;replace HO_5:=aM (Kd.R_below (zR HO_5) hb);have BK258:=aM (hbox);have GW258:=aM ((by rw[hg];exact(Zc zz94):w.heap.size≤gb258));have GE258:=aM ((by rw[hg];exact(Zc zz94):w.heap.size≤gb258));replace HB:=aM (Ze zz94 hb);have NB252_258:=aM ((by rw[hg];exact Nat.ne_of_lt (Zw (g:=gb252) (o:= .cells #[.int .i64 a0_0,.slice (some ad257) l0_1.length c0_1] 46 (0,0)) (zB BK252)):gb252≠gb258));have NB258_252:=aM ((by rw[hg];exact Nat.ne_of_gt (Zw (g:=gb252) (o:= .cells #[.int .i64 a0_0,.slice (some ad257) l0_1.length c0_1] 46 (0,0)) (zB BK252)):gb258≠gb252));replace BK252:=aM (Zg (g:=gb252) (o:= .cells #[.int .i64 a0_0,.slice (some ad257) l0_1.length c0_1] 46 (0,0)) (zB BK252) hb);clear hb hbox hg;have hnb16:=NB258_252.out;have hnc16:=NB252_258.out;have hcz17_0:w15.cell? ⟨gb258,0,none⟩=some (.int .i64 0):=(Zb BK258.out 0).trans rfl;have hcz17_1:w15.cell? ⟨gb258,1,none⟩=some (.slice none 0 0):=(Zb BK258.out 1).trans rfl;have hcz17_2:w15.cell? ⟨gb258,2,none⟩=some (.slice none 0 0):=(Zb BK258.out 2).trans rfl;have hfz17_0:=Za BK258.out 0;have hfz17_1:=Za BK258.out 1;have hfz17_2:=Za BK258.out 2)|((with_reducible refine Zq (f:=48) rfl ?_);refine ZG (some 26) rfl rfl Try.func48 (by kernel_rfl) rfl #[.int .u64 (IntKind.u64.wrap ((((Zd l0_1 x17_1).f1).length:Int)))] rfl zz125 ?_;(with_reducible refine(nat_Of.calls (IntKind.u64.wrap ((((Zd l0_1 x17_1).f1).length:Int))) t259 _ A13.out).mono ?_);rintro e w18 ⟨v260,rfl,ho0,hb⟩;refine⟨_,rfl,?_⟩;have HO261:=aM (Kd.R_lower (Kd.R_new' ho0 (Kd.R_lt zz52)) (Zc zz76));replace HO_5:=aM (Kd.R_elder' zz52 (Kd.R_base ho0) hb);replace BK252:=aM (Zg (g:=gb252) (o:= .cells #[.int .i64 a0_0,.slice (some ad257) l0_1.length c0_1] 46 (0,0)) (by(with_reducible repeat(first|refine Zm ?_ _|refine Zo ?_|refine Zl ?_ _));refine ZH ?_ NB252_258.out _;(with_reducible repeat(first|refine Zm ?_ _|refine Zo ?_|refine Zl ?_ _));refine ZH ?_ NB252_258.out _;(with_reducible repeat(first|refine Zm ?_ _|refine Zo ?_|refine Zl ?_ _));refine ZH ?_ NB252_258.out _;(with_reducible repeat(first|refine Zm ?_ _|refine Zo ?_|refine Zl ?_ _));exact BK252.out) hb);replace BK258:=aM (Zg (g:=gb258) (o:= .cells #[.int .i64 ((Zd l0_1 x17_1).f0),.slice A257_1 ((Zd l0_1 x17_1).f1).length c257_1,.slice A257_2 ((Zd l0_1 x17_1).f2).length c257_2] 74 (0,0)) (by(with_reducible repeat(first|refine Zm ?_ _|refine Zo ?_|refine Zl ?_ _));refine ZK (cs:= #[.int .i64 ((Zd l0_1 x17_1).f0),.slice A257_1 ((Zd l0_1 x17_1).f1).length c257_1,.slice none 0 0]) ?_ 2 _ rfl;(with_reducible repeat(first|refine Zm ?_ _|refine Zo ?_|refine Zl ?_ _));refine ZK (cs:= #[.int .i64 ((Zd l0_1 x17_1).f0),.slice none 0 0,.slice none 0 0]) ?_ 1 _ rfl;(with_reducible repeat(first|refine Zm ?_ _|refine Zo ?_|refine Zl ?_ _));refine ZK (cs:= #[.int .i64 0,.slice none 0 0,.slice none 0 0]) ?_ 0 _ rfl;(with_reducible repeat(first|refine Zm ?_ _|refine Zo ?_|refine Zl ?_ _));exact BK258.out) hb);replace HB:=aM (Ze zz76 hb);(try clear hb);(try clear hb2);(try clear hk);(try clear hi);(try clear ho0);obtain⟨Ao19,co19,eo19⟩:=Kd.R_slice HO_5.out;subst eo19;obtain⟨Ao20,co20,eo20⟩:=Kd.R_slice HO261.out;subst eo20)|((with_reducible refine Zr (N:=27) rfl ?_);refine Kd.N_lit (Kd.slice 72 (Kd.int .u32)) _ 53 ?hg (N':=27) ?hd (xs:=([x5_1,t259]:List (List Int))) (inner:= [.slice Ao19 x5_1.length co19,.slice Ao20 t259.length co20]) (ok:=(fun k_=>k_≠gb252∧k_≠gb258)) (okp:=(fun k_=>k_≠gb252∧k_≠gb258)) ?hr ?hp (fun _ hk=>hk) ((show∀k_,w18.heap.size≤k_→(fun k_=>k_≠gb252∧k_≠gb258) k_ from fun k_ hk=>⟨Kd.freshB (g:=gb252) (o:= .cells #[.int .i64 a0_0,.slice (some ad257) l0_1.length c0_1] 46 (0,0)) (zB BK252) k_ hk,Kd.freshB (g:=gb258) (o:= .cells #[.int .i64 ((Zd l0_1 x17_1).f0),.slice A257_1 ((Zd l0_1 x17_1).f1).length c257_1,.slice A257_2 ((Zd l0_1 x17_1).f2).length c257_2] 74 (0,0)) (zB BK258) k_ hk⟩) _ (Nat.le_refl _)) (Below.refl _ _) (Nat.le_refl _) (by simp) ?_;(case hd=>rfl);(case hg=>rfl);(case hr=>first|(go_simp;done)|(go_simp;rfl));(case hp=>exact(Reps.one (show Kd.FK (Kd.slice 72 (Kd.int .u32)) _ _ x5_1 [.slice Ao19 x5_1.length co19] from(Kd.FK_slice_mk (Kd.R_reads' (Kd.R_mono (ok':=(fun k_=>k_≠gb252∧k_≠gb258)) (Kd.R_types (Kd.R_types (HO_5.out) BK252.out (by decide)) BK258.out (by decide)) (fun k_ hk=>⟨hk.1.2,hk.2⟩))).2.1 (Kd.R_F (Kd.R_mono (ok':=(fun k_=>k_≠gb252∧k_≠gb258)) (Kd.R_types (Kd.R_types (HO_5.out) BK252.out (by decide)) BK258.out (by decide)) (fun k_ hk=>⟨hk.1.2,hk.2⟩))))) (Reps.one (show Kd.FK (Kd.slice 72 (Kd.int .u32)) _ _ t259 [.slice Ao20 t259.length co20] from(Kd.FK_slice_mk (Kd.R_reads' (Kd.R_mono (ok':=(fun k_=>k_≠gb252∧k_≠gb258)) (Kd.R_types (Kd.R_types (HO261.out) BK252.out (by decide)) BK258.out (by decide)) (fun k_ hk=>⟨hk.1.2,hk.2⟩))).2.1 (Kd.R_F (Kd.R_mono (ok':=(fun k_=>k_≠gb252∧k_≠gb258)) (Kd.R_types (Kd.R_types (HO261.out) BK252.out (by decide)) BK258.out (by decide)) (fun k_ hk=>⟨hk.1.2,hk.2⟩))))) (Reps.none _ _))));intro v263 w21 ho22 hb hg_ hnew_;clear hg_ hnew_;(first|rw[←Ny262.out] at ho22|(simp only[Int.reduceToNat] at ho22;rw[←Ny262.out] at ho22));have HO264:=aM (Kd.N_lower ho22 (Zc zz76));replace BK252:=aM (Zg (g:=gb252) (o:= .cells #[.int .i64 a0_0,.slice (some ad257) l0_1.length c0_1] 46 (0,0)) (zB BK252) hb);replace BK258:=aM (Zg (g:=gb258) (o:= .cells #[.int .i64 ((Zd l0_1 x17_1).f0),.slice A257_1 ((Zd l0_1 x17_1).f1).length c257_1,.slice A257_2 ((Zd l0_1 x17_1).f2).length c257_2] 74 (0,0)) (zB BK258) hb);replace HB:=aM (Ze zz76 hb);clear HO261 HO_5;clear hb ho22;obtain⟨Ao23,co23,eo23⟩:=Kd.N_slice HO264.out;subst eo23)|((with_reducible refine Zq (f:=47) rfl ?_);refine ZG (some 28) rfl rfl Try.func47 (by kernel_rfl) rfl #[.slice Ao23 y262.length co23] rfl zz125 ?_;(with_reducible refine(nat_Mul.calls k1 _ _ y262 t265 _ ?side1 ?side2 A14.out).mono ?_);(case side1=>exact zC ((Kd.N_reads' HO264.out).2.2));(case side2=>exact(Kd.N_reads' HO264.out).2.1);rintro e w24 ⟨v266,rfl,ho0,hb⟩;refine⟨_,rfl,?_⟩;replace HO264:=aM (Kd.N_elder' (zN HO264) (Kd.R_base ho0) hb);have HO267:=aM (Kd.R_lower ho0 (Zc zz76));replace BK252:=aM (Zg (g:=gb252) (o:= .cells #[.int .i64 a0_0,.slice (some ad257) l0_1.length c0_1] 46 (0,0)) (zB BK252) hb);replace BK258:=aM (Zg (g:=gb258) (o:= .cells #[.int .i64 ((Zd l0_1 x17_1).f0),.slice A257_1 ((Zd l0_1 x17_1).f1).length c257_1,.slice A257_2 ((Zd l0_1 x17_1).f2).length c257_2] 74 (0,0)) (zB BK258) hb);replace HB:=aM (Ze zz76 hb);(try clear hb);(try clear hb2);(try clear hk);(try clear hi);(try clear ho0)))
       go_roundg k1
       case measure=>have:=HK1.out;omega
       case rel=>exact⟨(t265),(wrap64 (x17_1+1)),zz152,H',⟨zz161⟩,⟨(zR HO267)⟩,⟨(zB BK252)⟩,⟨zz76⟩⟩
      rw[if_neg c12] at H
      exact absurd H (by simp)
     rw[if_neg c11] at H
     exact absurd H (by simp)
    rw[if_neg c10] at H;have c10b0:=dF c10;clear c10;simp only[Option.some.injEq,Prod.mk.injEq] at H;obtain⟨rfl,rfl⟩:=H;go_wp2
    go_ret2
    exact⟨_,by first|rfl|(simp[Zj,Zi]<;>rfl)|(simp[*,Zj,Zi]<;>rfl),by(with_reducible repeat(first|apply Kd.R_alloc|apply Kd.R_drewN|apply Kd.R_drew));exact HO_5.out,by repeat(first|(with_reducible first|exact HB.out|apply Zn|apply Zf|apply Zh|refine Zk ?_ GE252.out)|exact HB.out)⟩
 rw[if_neg c3] at H
 have c3b0:=beq_eq_false_iff_ne.mpr c3
 have c3b1:=bne_iff_ne.mpr c3
 simp only[Option.some.injEq,Prod.mk.injEq] at H
 obtain⟨rfl,rfl⟩:=H
 go_enter Try.func35,Try.ntmps35
 go_wp2_with (first|((with_reducible refine Zr (N:=1) rfl ?_);refine Zy ?hg (N:=1) ?hd (cs:= #[.int .i64 a0_0,.slice A0_1 l0_1.length c0_1]) (t:=46) ?hr ?_;(case hd=>rfl);(case hg=>rfl);(case hr=>first|(go_simp;done)|(go_simp;rfl));intro gb252 hg w25 hbox hb;have BK252:=aM (hbox);have GW252:=aM ((by rw[hg];exact(Zc zz126):w.heap.size≤gb252));have GE252:=aM ((by rw[hg];exact(Zc zz126):w.heap.size≤gb252));replace HB:=aM (Ze zz126 hb);clear hb hbox hg;have hcz26_0:w25.cell? ⟨gb252,0,none⟩=some (.int .i64 a0_0):=(Zb BK252.out 0).trans rfl;have hcz26_1:w25.cell? ⟨gb252,1,none⟩=some (.slice A0_1 l0_1.length c0_1):=(Zb BK252.out 1).trans rfl;have hfz26_0:=Za BK252.out 0;have hfz26_1:=Za BK252.out 1)|((with_reducible refine Zq (f:=36) rfl ?_);refine ZG (some 9) rfl rfl Try.func36 (by kernel_rfl) rfl #[.agg #[.int .i64 a0_0,.slice A0_1 l0_1.length c0_1]] rfl zz125 ?_;(with_reducible refine(perm_CheckChain.calls k a0_0 _ _ l0_1 t253 _ ?side1 ?side2 A2.out).mono ?_);(case side1=>exact zC (Kd.C_below HR0_1.out HB.out));(case side2=>exact HC0_1.out);rintro e w27 ⟨rfl,hb⟩;refine⟨_,rfl,?_⟩;replace BK252:=aM (Zg (g:=gb252) (o:= .cells #[.int .i64 a0_0,.slice A0_1 l0_1.length c0_1] 46 (0,0)) (zB BK252) hb);replace HB:=aM (Ze zz94 hb);(try clear hb);(try clear hb2);(try clear hk);(try clear hi)))
 go_ret2
 exact⟨_,by first|rfl|(simp[Zj,Zi]<;>rfl)|(simp[*,Zj,Zi]<;>rfl),by first|exact Kd.R_nil _ _ _ _ _|exact Kd.N_nil _ _ _ _ _|exact Kd.V_nil _ _ _ _ _|exact Kd.Q_nil _ _ _ _ _|exact Kd.S_nil _ _ _ _ _,by repeat(first|(with_reducible first|exact HB.out|apply Zn|apply Zf|apply Zh|refine Zk ?_ GE252.out)|exact HB.out)⟩
mutual
def r09_Few.j0:Nat→Int→Bool→Int→List (List Int)→Option (Bool)
 |0,_,_,_,_=>none
 |k+1,x1,x16,x481000,x481001=>if x16=true then(some false) else(r09_Few.l0 k (wrap64 (x1-(x481001.length:Int))) 0 x481000 x481001)
def r09_Few.l0:Nat→Int→Int→Int→List (List Int)→Option (Bool)
 |0,_,_,_,_=>none
 |k+1,x5,x6,x481000,x481001=>if x6<(x481001.length:Int) then(if 0≤x6 then(if((Zp x481001 x6).length:Int)>x5 then(some false) else(r09_Few.l0 k (wrap64 (x5-((Zp x481001 x6).length:Int))) (wrap64 (x6+1)) x481000 x481001)) else(none)) else(some true)
end
def r09_Few.f (k:Nat) (a0_0:Int) (l0_1:List (List Int)) (a1:Int):Option (Bool):=if a0_0>260 then(r09_Few.j0 k a1 true a0_0 l0_1) else(r09_Few.j0 k a1 (decide ((l0_1.length:Int)>a1)) a0_0 l0_1)
theorem r09_Few.calls (k:Nat) (a0_0:Int) (A0_1:Option Addr) (c0_1:Nat) (l0_1:List (List Int)) (a1:Int) (r:Bool) (w:World) (hr0_1:Kd.C (Kd.slice 3 (Kd.int .i64)) w A0_1 l0_1.length l0_1) (hc0_1:l0_1.length≤c0_1) (h:r09_Few.f k a0_0 l0_1 a1=some r):
    Calls Try.prog 27 #[.agg #[.int .i64 a0_0,.slice A0_1 l0_1.length c0_1],.int .i64 a1] w fun e w'=>e= .returned (.bool r)∧Below w.heap.size w w':=by
 have hu42:=Try.underlying42
 have HR0_1:=aM hr0_1
 have HC0_1:=aM hc0_1
 clear hr0_1 hc0_1
 have HB:=aM (Below.refl w.heap.size w)
 have H:(if a0_0>260 then(r09_Few.j0 k a1 true a0_0 l0_1) else(r09_Few.j0 k a1 (decide ((l0_1.length:Int)>a1)) a0_0 l0_1))=some r:=h
 clear h
 have HC3:=aM H
 clear H
 go_enter Try.func27,Try.ntmps27
 go_upto_region 1 with(first|((with_reducible refine Zr (N:=2) rfl ?_);(try(refine Zv (by rfl) ?_;dsimp only));refine Zy ?hg (N:=2) ?hd (cs:= #[.int .i64 a0_0,.slice A0_1 l0_1.length c0_1]) (t:=42) ?hr ?_;(case hd=>rfl);(case hg=>rfl);(case hr=>first|(go_simp;done)|(go_simp;rfl));intro gb480 hg w4 hbox hb;have BK480:=aM (hbox);have GW480:=aM ((by rw[hg];exact(Zc zz126):w.heap.size≤gb480));have GE480:=aM ((by rw[hg];exact(Zc zz126):w.heap.size≤gb480));replace HB:=aM (Ze zz126 hb);clear hb hbox hg))
 (try simp only[Act.put,sA,sB,sC])
 go_cut [16] (fun v16 wc=>∃(kq:Nat) (x16_2:Bool),v16= .bool x16_2∧Aside0 (r09_Few.j0 kq a1 x16_2 a0_0 l0_1=some r)∧Aside0 (kq≤k)∧Aside0 (wc.heap[gb480]? =some (.cells #[.int .i64 a0_0,(.slice A0_1 l0_1.length c0_1)] 42 (0,0)))∧Aside0 (Below w.heap.size w wc))
 case first=>
  have H:=HC3.out;clear HC3
  by_cases c5:a0_0>260
  ·rw[if_pos c5] at H;have c5b0:=dT c5;clear c5
   (first|rw[c5b0]|(simp only[Zt,Zu];rw[c5b0])|skip)
   have H':=aM H;clear H;have hcz6_0:w4.cell? ⟨gb480,0,none⟩=some (.int .i64 a0_0):=(Zb BK480.out 0).trans rfl;have hcz6_1:w4.cell? ⟨gb480,1,none⟩=some (.slice A0_1 l0_1.length c0_1):=(Zb BK480.out 1).trans rfl;have hfz6_0:=Za BK480.out 0;have hfz6_1:=Za BK480.out 1;go_wp2;go_meet
   case rel=>exact⟨_,(true),zz152,H',⟨zz154⟩,⟨(zB BK480)⟩,⟨zz95⟩⟩
  rw[if_neg c5] at H;have c5b0:=dF c5;clear c5
  (first|rw[c5b0]|(simp only[Zt,Zu];rw[c5b0])|skip)
  have H':=aM H;clear H;have hcz7_0:w4.cell? ⟨gb480,0,none⟩=some (.int .i64 a0_0):=(Zb BK480.out 0).trans rfl;have hcz7_1:w4.cell? ⟨gb480,1,none⟩=some (.slice A0_1 l0_1.length c0_1):=(Zb BK480.out 1).trans rfl;have hfz7_0:=Za BK480.out 0;have hfz7_1:=Za BK480.out 1;go_wp2;go_meet
  case rel=>exact⟨_,(decide ((l0_1.length:Int)>a1)),zz152,H',⟨zz154⟩,⟨(zB BK480)⟩,⟨zz95⟩⟩
 case rest=>
  clear HC3;(try clear c2);(try clear p2);(try clear c5);(try clear c5b0);(try clear hcz6_0);(try clear hcz6_1);(try clear hcz7_0);(try clear hcz7_1);(try clear hfz6_0);(try clear hfz6_1);(try clear hfz7_0);(try clear hfz7_1);obtain⟨kq,x16_2,rfl,HA,HJ2,BK480,HB⟩:=hcut
  cases kq with
  |zero=>exact absurd HA.out (by simp[r09_Few.j0])
  | succ kj2 =>
   have H:=HA.out;clear HA;simp only[r09_Few.j0] at H
   by_cases c8:x16_2=true
   ·subst c8;have H1:(some false)=some r:=by rw[if_pos rfl] at H;exact H
    clear H;have H:=H1;clear H1;obtain rfl:=oI H;go_wp2;go_ret
    exact⟨by first|rfl|(simp[Zj,Zi]<;>rfl)|(simp[*,Zj,Zi]<;>rfl),by repeat(first|(with_reducible first|exact HB.out|apply Zn|apply Zf|apply Zh|refine Zk ?_ GE480.out)|exact HB.out)⟩
   replace c8:=Bool.eq_false_iff.mpr c8;subst c8;have H1:(r09_Few.l0 kj2 (wrap64 (a1-(l0_1.length:Int))) 0 a0_0 l0_1)=some r:=by rw[if_neg (show¬(false=true) by decide)] at H;exact H
   clear H;have H:=H1;clear H1;have H':=aM H;clear H;have hcz9_0:wc.cell? ⟨gb480,0,none⟩=some (.int .i64 a0_0):=(Zb BK480.out 0).trans rfl;have hcz9_1:wc.cell? ⟨gb480,1,none⟩=some (.slice A0_1 l0_1.length c0_1):=(Zb BK480.out 1).trans rfl;have hfz9_0:=Za BK480.out 0;have hfz9_1:=Za BK480.out 1;go_wp2
   go_loopg [5,6] kj2 (fun kq v5 v6 w'=>∃(x5_2:Int) (x6_2:Int),v5= .int .i64 x5_2∧v6= .int .i64 x6_2∧Aside0 (r09_Few.l0 kq x5_2 x6_2 a0_0 l0_1=some r)∧Aside0 (kq≤kj2)∧Aside0 (w'.heap[gb480]? =some (.cells #[.int .i64 a0_0,(.slice A0_1 l0_1.length c0_1)] 42 (0,0)))∧Aside0 (Below w.heap.size w w'))
   case atStart=>exact⟨(wrap64 (a1-(l0_1.length:Int))),(0),zz152,zz152,H',⟨Nat.le_refl _⟩,⟨(zB BK480)⟩,⟨zz95⟩⟩
   case round =>
    clear H';(try clear c2);(try clear p2);(try clear c5);(try clear c5b0);(try clear p6);(try clear c8);(try clear hcz6_0);(try clear hcz6_1);(try clear hcz7_0);(try clear hcz7_1);(try clear hcz9_0);(try clear hcz9_1);(try clear hfz6_0);(try clear hfz6_1);(try clear hfz7_0);(try clear hfz7_1);(try clear hfz9_0);(try clear hfz9_1);(try clear p2);obtain⟨x5_2,x6_2,rfl,rfl,HA,HK2,BK480,HB⟩:=hrel
    cases gk with
    |zero=>exact absurd HA.out (by simp[r09_Few.l0])
    | succ k2=>
     have H:=HA.out;clear HA;simp only[r09_Few.l0] at H
     by_cases c10:x6_2<(l0_1.length:Int)
     ·rw [if_pos c10] at H;have c10b0:=dT c10;clear c10
      by_cases c11:0≤x6_2
      ·rw [if_pos c11] at H;have c11b0:=dT c11;clear c11
       by_cases c12:((Zp l0_1 x6_2).length:Int)>x5_2
       ·rw[if_pos c12] at H;have c12b0:=dT c12;clear c12;obtain rfl:=oI H;have hcz13_0:wr.cell? ⟨gb480,0,none⟩=some (.int .i64 a0_0):=(Zb BK480.out 0).trans rfl;have hcz13_1:wr.cell? ⟨gb480,1,none⟩=some (.slice A0_1 l0_1.length c0_1):=(Zb BK480.out 1).trans rfl;have hfz13_0:=Za BK480.out 0;have hfz13_1:=Za BK480.out 1;have p481:0≤(x6_2:Int):=oD zz151;have q481:x6_2<(l0_1.length:Int):=oD zz151;obtain⟨ad481,A481_0,c481_0,e481,hx481_0,hl481_0,hi481_0⟩:=ZY HR0_1.out x6_2 p481 q481
        cases e481;replace hx481_0:=(HB.out.cell (wB w _ hx481_0)).trans hx481_0;have HR481_0:=aM hi481_0;have HC481_0:=aM hl481_0;clear hi481_0 hl481_0;replace p481:=eq_true p481;replace q481:=eq_true q481;go_wp2;go_ret
        exact⟨by first|rfl|(simp[Zj,Zi]<;>rfl)|(simp[*,Zj,Zi]<;>rfl),by repeat(first|(with_reducible first|exact HB.out|apply Zn|apply Zf|apply Zh|refine Zk ?_ GE480.out)|exact HB.out)⟩
       rw[if_neg c12] at H;have c12b0:=dF c12;clear c12;have H':=aM H;clear H;have hcz14_0:wr.cell? ⟨gb480,0,none⟩=some (.int .i64 a0_0):=(Zb BK480.out 0).trans rfl;have hcz14_1:wr.cell? ⟨gb480,1,none⟩=some (.slice A0_1 l0_1.length c0_1):=(Zb BK480.out 1).trans rfl;have hfz14_0:=Za BK480.out 0;have hfz14_1:=Za BK480.out 1;have p481:0≤(x6_2:Int):=oD zz151;have q481:x6_2<(l0_1.length:Int):=oD zz151;obtain⟨ad481,A481_0,c481_0,e481,hx481_0,hl481_0,hi481_0⟩:=ZY HR0_1.out x6_2 p481 q481
       cases e481;replace hx481_0:=(HB.out.cell (wB w _ hx481_0)).trans hx481_0;have HR481_0:=aM hi481_0;have HC481_0:=aM hl481_0;clear hi481_0 hl481_0;replace p481:=eq_true p481;replace q481:=eq_true q481;have p482:0≤(x6_2:Int):=oD zz151;have q482:x6_2<(l0_1.length:Int):=oD zz151;obtain⟨ad482,A482_0,c482_0,e482,hx482_0,hl482_0,hi482_0⟩:=ZY HR0_1.out x6_2 p482 q482;obtain rfl:ad481=ad482:=(by injection e482);replace hx482_0:=(HB.out.cell (wB w _ hx482_0)).trans hx482_0;have HR482_0:=aM hi482_0;have HC482_0:=aM hl482_0;clear hi482_0 hl482_0;replace p482:=eq_true p482;replace q482:=eq_true q482;have ea_:=oI (hx481_0.symm.trans hx482_0);injection ea_ with ea_ en_ ec_
       subst ea_;subst ec_;clear en_;go_wp2
       go_roundg k2
       case measure=>have:=HJ2.out;have:=HK2.out;omega
       case rel=>exact⟨(wrap64 (x5_2-((Zp l0_1 x6_2).length:Int))),(wrap64 (x6_2+1)),zz152,zz152,H',⟨(by have:=HJ2.out;have:=HK2.out;omega)⟩,⟨(zB BK480)⟩,⟨zz95⟩⟩
      rw[if_neg c11] at H
      exact absurd H (by simp)
     rw[if_neg c10] at H;have c10b0:=dF c10;clear c10;obtain rfl:=oI H;have hcz15_0:wr.cell? ⟨gb480,0,none⟩=some (.int .i64 a0_0):=(Zb BK480.out 0).trans rfl;have hcz15_1:wr.cell? ⟨gb480,1,none⟩=some (.slice A0_1 l0_1.length c0_1):=(Zb BK480.out 1).trans rfl;have hfz15_0:=Za BK480.out 0;have hfz15_1:=Za BK480.out 1;go_wp2;go_ret
     exact⟨by first|rfl|(simp[Zj,Zi]<;>rfl)|(simp[*,Zj,Zi]<;>rfl),by repeat(first|(with_reducible first|exact HB.out|apply Zn|apply Zf|apply Zh|refine Zk ?_ GE480.out)|exact HB.out)⟩
mutual
def r30_Few.j0:Nat→Bool→Int→List (S74)→Option (Bool)
 |0,_,_,_=>none
 |k+1,x21,x564000,x564001=>if x21=true then(some false) else(r30_Few.l0 k 0 0 x564000 x564001)
def r30_Few.l0:Nat→Int→Int→Int→List (S74)→Option (Bool)
 |0,_,_,_,_=>none
 |k+1,x5,x6,x564000,x564001=>if x6<(x564001.length:Int) then(if 0≤x6 then(if(((Zd x564001 x6).f1).length:Int)>100 then(some false) else((r09_Few.f k 0 ((Zd x564001 x6).f2) 1000).bind fun t566=>(if t566=true then(r30_Few.l0 k (wrap64 (x5+(((Zd x564001 x6).f2).length:Int))) (wrap64 (x6+1)) x564000 x564001) else(some false)))) else(none)) else(some (decide (x5≤200)))
end
def r30_Few.f (k:Nat) (a0_0:Int) (l0_1:List (S74)) (a1:Int):Option (Bool):=if a0_0>a1 then(if a0_0≤64 then(r30_Few.j0 k true a0_0 l0_1) else(r30_Few.j0 k (decide ((l0_1.length:Int)>70)) a0_0 l0_1)) else(r30_Few.j0 k (decide ((l0_1.length:Int)>70)) a0_0 l0_1)
theorem r30_Few.calls (k:Nat) (a0_0:Int) (A0_1:Option Addr) (c0_1:Nat) (l0_1:List (S74)) (a1:Int) (r:Bool) (w:World) (hr0_1:Kd.C k74 w A0_1 l0_1.length l0_1) (hc0_1:l0_1.length≤c0_1) (h:r30_Few.f k a0_0 l0_1 a1=some r):
    Calls Try.prog 33 #[.agg #[.int .i64 a0_0,.slice A0_1 l0_1.length c0_1],.int .i64 a1] w fun e w'=>e= .returned (.bool r)∧Below w.heap.size w w':=by
 have hu46:=Try.underlying46
 have hu42:=Try.underlying42
 have HR0_1:=aM hr0_1
 have HC0_1:=aM hc0_1
 clear hr0_1 hc0_1
 have HB:=aM (Below.refl w.heap.size w)
 have H:(if a0_0>a1 then(if a0_0≤64 then(r30_Few.j0 k true a0_0 l0_1) else(r30_Few.j0 k (decide ((l0_1.length:Int)>70)) a0_0 l0_1)) else(r30_Few.j0 k (decide ((l0_1.length:Int)>70)) a0_0 l0_1))=some r:=h
 clear h
 have HC3:=aM H
 clear H
 go_enter Try.func33,Try.ntmps33
 go_upto_region 1 with(first|((with_reducible refine Zr (N:=2) rfl ?_);(try(refine Zv (by rfl) ?_;dsimp only));refine Zy ?hg (N:=2) ?hd (cs:= #[.int .i64 a0_0,.slice A0_1 l0_1.length c0_1]) (t:=46) ?hr ?_;(case hd=>rfl);(case hg=>rfl);(case hr=>first|(go_simp;done)|(go_simp;rfl));intro gb563 hg w4 hbox hb;have BK563:=aM (hbox);have GW563:=aM ((by rw[hg];exact(Zc zz126):w.heap.size≤gb563));have GE563:=aM ((by rw[hg];exact(Zc zz126):w.heap.size≤gb563));replace HB:=aM (Ze zz126 hb);clear hb hbox hg))
 (try simp only[Act.put,sA,sB,sC])
 go_cut [21] (fun v21 wc=>∃(kq:Nat) (x21_2:Bool),v21= .bool x21_2∧Aside0 (r30_Few.j0 kq x21_2 a0_0 l0_1=some r)∧Aside0 (kq≤k)∧Aside0 (wc.heap[gb563]? =some (.cells #[.int .i64 a0_0,(.slice A0_1 l0_1.length c0_1)] 46 (0,0)))∧Aside0 (Below w.heap.size w wc))
 case first=>
  have H:=HC3.out;clear HC3
  by_cases c5:a0_0>a1
  ·rw [if_pos c5] at H;have c5b0:=dT c5;clear c5
   (first|rw[c5b0]|(simp only[Zt,Zu];rw[c5b0])|skip)
   by_cases c6:a0_0≤64
   ·rw[if_pos c6] at H;have c6b0:=dT c6;clear c6;have H':=aM H;clear H;have hcz7_0:w4.cell? ⟨gb563,0,none⟩=some (.int .i64 a0_0):=(Zb BK563.out 0).trans rfl;have hcz7_1:w4.cell? ⟨gb563,1,none⟩=some (.slice A0_1 l0_1.length c0_1):=(Zb BK563.out 1).trans rfl;have hfz7_0:=Za BK563.out 0;have hfz7_1:=Za BK563.out 1;go_wp2;go_meet
    case rel=>exact⟨_,(true),zz152,H',⟨zz154⟩,⟨(zB BK563)⟩,⟨zz96⟩⟩
   rw[if_neg c6] at H;have c6b0:=dF c6;clear c6;have H':=aM H;clear H;have hcz8_0:w4.cell? ⟨gb563,0,none⟩=some (.int .i64 a0_0):=(Zb BK563.out 0).trans rfl;have hcz8_1:w4.cell? ⟨gb563,1,none⟩=some (.slice A0_1 l0_1.length c0_1):=(Zb BK563.out 1).trans rfl;have hfz8_0:=Za BK563.out 0;have hfz8_1:=Za BK563.out 1;go_wp2;go_meet
   case rel=>exact⟨_,(decide ((l0_1.length:Int)>70)),zz152,H',⟨zz154⟩,⟨(zB BK563)⟩,⟨zz96⟩⟩
  rw[if_neg c5] at H;have c5b0:=dF c5;clear c5
  (first|rw[c5b0]|(simp only[Zt,Zu];rw[c5b0])|skip)
  have H':=aM H;clear H;have hcz9_0:w4.cell? ⟨gb563,0,none⟩=some (.int .i64 a0_0):=(Zb BK563.out 0).trans rfl;have hcz9_1:w4.cell? ⟨gb563,1,none⟩=some (.slice A0_1 l0_1.length c0_1):=(Zb BK563.out 1).trans rfl;have hfz9_0:=Za BK563.out 0;have hfz9_1:=Za BK563.out 1;go_wp2;go_meet
  case rel=>exact⟨_,(decide ((l0_1.length:Int)>70)),zz152,H',⟨zz154⟩,⟨(zB BK563)⟩,⟨zz96⟩⟩
 case rest=>
  clear HC3;(try clear p2);(try clear c3);(try clear c5);(try clear c5b0);(try clear c6);(try clear c6b0);(try clear hcz7_0);(try clear hcz7_1);(try clear hcz8_0);(try clear hcz8_1);(try clear hcz9_0);(try clear hcz9_1);(try clear hfz7_0);(try clear hfz7_1);(try clear hfz8_0);(try clear hfz8_1);(try clear hfz9_0);(try clear hfz9_1);obtain⟨kq,x21_2,rfl,HA,HJ2,BK563,HB⟩:=hcut
  cases kq with
  |zero=>exact absurd HA.out (by simp[r30_Few.j0])
  | succ kj2 =>
   have H:=HA.out;clear HA;simp only[r30_Few.j0] at H
   by_cases c10:x21_2=true
   ·subst c10;have H1:(some false)=some r:=by rw[if_pos rfl] at H;exact H
    clear H;have H:=H1;clear H1;obtain rfl:=oI H;go_wp2;go_ret
    exact⟨by first|rfl|(simp[Zj,Zi]<;>rfl)|(simp[*,Zj,Zi]<;>rfl),by repeat(first|(with_reducible first|exact HB.out|apply Zn|apply Zf|apply Zh|refine Zk ?_ GE563.out)|exact HB.out)⟩
   replace c10:=Bool.eq_false_iff.mpr c10;subst c10;have H1:(r30_Few.l0 kj2 0 0 a0_0 l0_1)=some r:=by rw[if_neg (show¬(false=true) by decide)] at H;exact H
   clear H;have H:=H1;clear H1;have H':=aM H;clear H;go_wp2
   go_loopg [5,6] kj2 (fun kq v5 v6 w'=>∃(x5_2:Int) (x6_2:Int),v5= .int .i64 x5_2∧v6= .int .i64 x6_2∧Aside0 (r30_Few.l0 kq x5_2 x6_2 a0_0 l0_1=some r)∧Aside0 (kq≤kj2)∧Aside0 (w'.heap[gb563]? =some (.cells #[.int .i64 a0_0,(.slice A0_1 l0_1.length c0_1)] 46 (0,0)))∧Aside0 (Below w.heap.size w w'))
   case atStart=>exact⟨(0),(0),zz152,zz152,H',⟨Nat.le_refl _⟩,⟨(zB BK563)⟩,⟨zz96⟩⟩
   case round =>
    clear H';(try clear c1);(try clear p2);(try clear c3);(try clear c5);(try clear c5b0);(try clear c6);(try clear c6b0);(try clear c10);(try clear hcz7_0);(try clear hcz7_1);(try clear hcz8_0);(try clear hcz8_1);(try clear hcz9_0);(try clear hcz9_1);(try clear hfz7_0);(try clear hfz7_1);(try clear hfz8_0);(try clear hfz8_1);(try clear hfz9_0);(try clear hfz9_1);(try clear p2);obtain⟨x5_2,x6_2,rfl,rfl,HA,HK2,BK563,HB⟩:=hrel
    cases gk with
    |zero=>exact absurd HA.out (by simp[r30_Few.l0])
    | succ k2=>
     have H:=HA.out;clear HA;simp only[r30_Few.l0] at H
     by_cases c11:x6_2<(l0_1.length:Int)
     ·rw [if_pos c11] at H;have c11b0:=dT c11;clear c11
      by_cases c12:0≤x6_2
      ·rw [if_pos c12] at H;have c12b0:=dT c12;clear c12
       by_cases c13:(((Zd l0_1 x6_2).f1).length:Int)>100
       ·rw[if_pos c13] at H;have c13b0:=dT c13;have c13b1:decide (100<((Zd l0_1 x6_2).f1).length)=true:=dT (by omega);clear c13;obtain rfl:=oI H;have hcz14_0:wr.cell? ⟨gb563,0,none⟩=some (.int .i64 a0_0):=(Zb BK563.out 0).trans rfl;have hcz14_1:wr.cell? ⟨gb563,1,none⟩=some (.slice A0_1 l0_1.length c0_1):=(Zb BK563.out 1).trans rfl;have hfz14_0:=Za BK563.out 0;have hfz14_1:=Za BK563.out 1;have p564:0≤(x6_2:Int):=oD zz151;have q564:x6_2<(l0_1.length:Int):=oD zz151;obtain⟨ad564,A564_1,c564_1,A564_2,c564_2,e564,hx564_0,hx564_1,hx564_2,hl564_1,hi564_1,hl564_2,hi564_2⟩:=Z1 HR0_1.out x6_2 p564 q564
        cases e564;replace hx564_0:=(HB.out.cell (wB w _ hx564_0)).trans hx564_0;replace hx564_1:=(HB.out.cell (wB w _ hx564_1)).trans hx564_1;replace hx564_2:=(HB.out.cell (wB w _ hx564_2)).trans hx564_2;have HR564_1:=aM hi564_1;have HC564_1:=aM hl564_1;clear hi564_1 hl564_1;have HR564_2:=aM hi564_2;have HC564_2:=aM hl564_2;clear hi564_2 hl564_2;replace p564:=eq_true p564;replace q564:=eq_true q564;go_wp2;go_ret
        exact⟨by first|rfl|(simp[Zj,Zi]<;>rfl)|(simp[*,Zj,Zi]<;>rfl),by repeat(first|(with_reducible first|exact HB.out|apply Zn|apply Zf|apply Zh|refine Zk ?_ GE563.out)|exact HB.out)⟩
       rw[if_neg c13] at H;have c13b0:=dF c13;have c13b1:decide (100<((Zd l0_1 x6_2).f1).length)=false:=dF (by omega);clear c13;replace H:=oB H;obtain⟨t566,A150,H⟩:=H;replace H:(if t566=true then(r30_Few.l0 k2 (wrap64 (x5_2+(((Zd l0_1 x6_2).f2).length:Int))) (wrap64 (x6_2+1)) a0_0 l0_1) else(some false))=some r:=H;have A15:=aM A150;clear A150
       by_cases c16:t566=true
       ·subst c16;have H1:(r30_Few.l0 k2 (wrap64 (x5_2+(((Zd l0_1 x6_2).f2).length:Int))) (wrap64 (x6_2+1)) a0_0 l0_1)=some r:=by rw[if_pos rfl] at H;exact H
        clear H;have H:=H1;clear H1;have H':=aM H;clear H;have hcz17_0:wr.cell? ⟨gb563,0,none⟩=some (.int .i64 a0_0):=(Zb BK563.out 0).trans rfl;have hcz17_1:wr.cell? ⟨gb563,1,none⟩=some (.slice A0_1 l0_1.length c0_1):=(Zb BK563.out 1).trans rfl;have hfz17_0:=Za BK563.out 0;have hfz17_1:=Za BK563.out 1;have p564:0≤(x6_2:Int):=oD zz151;have q564:x6_2<(l0_1.length:Int):=oD zz151;obtain⟨ad564,A564_1,c564_1,A564_2,c564_2,e564,hx564_0,hx564_1,hx564_2,hl564_1,hi564_1,hl564_2,hi564_2⟩:=Z1 HR0_1.out x6_2 p564 q564
        cases e564;replace hx564_0:=(HB.out.cell (wB w _ hx564_0)).trans hx564_0;replace hx564_1:=(HB.out.cell (wB w _ hx564_1)).trans hx564_1;replace hx564_2:=(HB.out.cell (wB w _ hx564_2)).trans hx564_2;have HR564_1:=aM hi564_1;have HC564_1:=aM hl564_1;clear hi564_1 hl564_1;have HR564_2:=aM hi564_2;have HC564_2:=aM hl564_2;clear hi564_2 hl564_2;replace p564:=eq_true p564;replace q564:=eq_true q564;have p565:0≤(x6_2:Int):=oD zz151;have q565:x6_2<(l0_1.length:Int):=oD zz151;obtain⟨ad565,A565_1,c565_1,A565_2,c565_2,e565,hx565_0,hx565_1,hx565_2,hl565_1,hi565_1,hl565_2,hi565_2⟩:=Z1 HR0_1.out x6_2 p565 q565;obtain rfl:ad564=ad565:=(by injection e565);replace hx565_0:=(HB.out.cell (wB w _ hx565_0)).trans hx565_0;replace hx565_1:=(HB.out.cell (wB w _ hx565_1)).trans hx565_1;replace hx565_2:=(HB.out.cell (wB w _ hx565_2)).trans hx565_2;have HR565_1:=aM hi565_1;have HC565_1:=aM hl565_1;clear hi565_1 hl565_1;have HR565_2:=aM hi565_2;have HC565_2:=aM hl565_2;clear hi565_2 hl565_2;replace p565:=eq_true p565;replace q565:=eq_true q565;have ea_:=oI (hx564_1.symm.trans hx565_1);injection ea_ with ea_ en_ ec_
        subst ea_;subst ec_;clear en_;have ea_:=oI (hx564_2.symm.trans hx565_2);injection ea_ with ea_ en_ ec_
        subst ea_;subst ec_;clear en_
        go_wp2_with (first|(go_at_call 27;(with_reducible refine(r09_Few.calls k2 0 _ _ ((Zd l0_1 x6_2).f2) 1000 true _ ?side1 ?side2 A15.out).mono ?_);(case side1=>exact zC (Kd.C_below HR565_2.out HB.out));(case side2=>exact HC565_2.out);rintro e w18 ⟨rfl,hb⟩;replace BK563:=aM (Zg (g:=gb563) (o:= .cells #[.int .i64 a0_0,.slice (some ad564) l0_1.length c0_1] 46 (0,0)) (zB BK563) hb);replace HB:=aM (Ze zz96 hb);(try clear hb);(try clear hb2);(try clear hk);(try clear hi);have hcz19_0:w18.cell? ⟨gb563,0,none⟩=some (.int .i64 a0_0):=(Zb BK563.out 0).trans rfl;have hcz19_1:w18.cell? ⟨gb563,1,none⟩=some (.slice (some ad564) l0_1.length c0_1):=(Zb BK563.out 1).trans rfl;have hfz19_0:=Za BK563.out 0;have hfz19_1:=Za BK563.out 1;have p567:0≤(x6_2:Int):=oD zz151;have q567:x6_2<(l0_1.length:Int):=oD zz151;obtain⟨ad567,A567_1,c567_1,A567_2,c567_2,e567,hx567_0,hx567_1,hx567_2,hl567_1,hi567_1,hl567_2,hi567_2⟩:=Z1 HR0_1.out x6_2 p567 q567;obtain rfl:ad564=ad567:=(by injection e567);replace hx567_0:=(HB.out.cell (wB w _ hx567_0)).trans hx567_0;replace hx567_1:=(HB.out.cell (wB w _ hx567_1)).trans hx567_1;replace hx567_2:=(HB.out.cell (wB w _ hx567_2)).trans hx567_2;have HR567_1:=aM hi567_1;have HC567_1:=aM hl567_1;clear hi567_1 hl567_1;have HR567_2:=aM hi567_2;have HC567_2:=aM hl567_2;clear hi567_2 hl567_2;replace p567:=eq_true p567;replace q567:=eq_true q567))
        go_roundg k2
        case measure=>have:=HJ2.out;have:=HK2.out;omega
        case rel=>exact⟨(wrap64 (x5_2+(((Zd l0_1 x6_2).f2).length:Int))),(wrap64 (x6_2+1)),zz152,zz152,H',⟨(by have:=HJ2.out;have:=HK2.out;omega)⟩,⟨(zB BK563)⟩,⟨zz96⟩⟩
       replace c16:=Bool.eq_false_iff.mpr c16;subst c16;have H1:(some false)=some r:=by rw[if_neg (show¬(false=true) by decide)] at H;exact H
       clear H;have H:=H1;clear H1;obtain rfl:=oI H;have hcz20_0:wr.cell? ⟨gb563,0,none⟩=some (.int .i64 a0_0):=(Zb BK563.out 0).trans rfl;have hcz20_1:wr.cell? ⟨gb563,1,none⟩=some (.slice A0_1 l0_1.length c0_1):=(Zb BK563.out 1).trans rfl;have hfz20_0:=Za BK563.out 0;have hfz20_1:=Za BK563.out 1;have p564:0≤(x6_2:Int):=oD zz151;have q564:x6_2<(l0_1.length:Int):=oD zz151;obtain⟨ad564,A564_1,c564_1,A564_2,c564_2,e564,hx564_0,hx564_1,hx564_2,hl564_1,hi564_1,hl564_2,hi564_2⟩:=Z1 HR0_1.out x6_2 p564 q564
       cases e564;replace hx564_0:=(HB.out.cell (wB w _ hx564_0)).trans hx564_0;replace hx564_1:=(HB.out.cell (wB w _ hx564_1)).trans hx564_1;replace hx564_2:=(HB.out.cell (wB w _ hx564_2)).trans hx564_2;have HR564_1:=aM hi564_1;have HC564_1:=aM hl564_1;clear hi564_1 hl564_1;have HR564_2:=aM hi564_2;have HC564_2:=aM hl564_2;clear hi564_2 hl564_2;replace p564:=eq_true p564;replace q564:=eq_true q564;have p565:0≤(x6_2:Int):=oD zz151;have q565:x6_2<(l0_1.length:Int):=oD zz151;obtain⟨ad565,A565_1,c565_1,A565_2,c565_2,e565,hx565_0,hx565_1,hx565_2,hl565_1,hi565_1,hl565_2,hi565_2⟩:=Z1 HR0_1.out x6_2 p565 q565;obtain rfl:ad564=ad565:=(by injection e565);replace hx565_0:=(HB.out.cell (wB w _ hx565_0)).trans hx565_0;replace hx565_1:=(HB.out.cell (wB w _ hx565_1)).trans hx565_1;replace hx565_2:=(HB.out.cell (wB w _ hx565_2)).trans hx565_2;have HR565_1:=aM hi565_1;have HC565_1:=aM hl565_1;clear hi565_1 hl565_1;have HR565_2:=aM hi565_2;have HC565_2:=aM hl565_2;clear hi565_2 hl565_2;replace p565:=eq_true p565;replace q565:=eq_true q565;have ea_:=oI (hx564_1.symm.trans hx565_1);injection ea_ with ea_ en_ ec_
       subst ea_;subst ec_;clear en_;have ea_:=oI (hx564_2.symm.trans hx565_2);injection ea_ with ea_ en_ ec_
       subst ea_;subst ec_;clear en_
       go_wp2_with (first|(go_at_call 27;(with_reducible refine(r09_Few.calls k2 0 _ _ ((Zd l0_1 x6_2).f2) 1000 false _ ?side1 ?side2 A15.out).mono ?_);(case side1=>exact zC (Kd.C_below HR565_2.out HB.out));(case side2=>exact HC565_2.out);rintro e w21 ⟨rfl,hb⟩;replace BK563:=aM (Zg (g:=gb563) (o:= .cells #[.int .i64 a0_0,.slice (some ad564) l0_1.length c0_1] 46 (0,0)) (zB BK563) hb);replace HB:=aM (Ze zz96 hb);(try clear hb);(try clear hb2);(try clear hk);(try clear hi)))
       go_ret
       exact⟨by first|rfl|(simp[Zj,Zi]<;>rfl)|(simp[*,Zj,Zi]<;>rfl),by repeat(first|(with_reducible first|exact HB.out|apply Zn|apply Zf|apply Zh|refine Zk ?_ GE563.out)|exact HB.out)⟩
      rw[if_neg c12] at H
      exact absurd H (by simp)
     rw[if_neg c11] at H;have c11b0:=dF c11;clear c11;obtain rfl:=oI H;have hcz22_0:wr.cell? ⟨gb563,0,none⟩=some (.int .i64 a0_0):=(Zb BK563.out 0).trans rfl;have hcz22_1:wr.cell? ⟨gb563,1,none⟩=some (.slice A0_1 l0_1.length c0_1):=(Zb BK563.out 1).trans rfl;have hfz22_0:=Za BK563.out 0;have hfz22_1:=Za BK563.out 1;go_wp2;go_ret
     exact⟨by first|rfl|(simp[Zj,Zi]<;>rfl)|(simp[*,Zj,Zi]<;>rfl),by repeat(first|(with_reducible first|exact HB.out|apply Zn|apply Zf|apply Zh|refine Zk ?_ GE563.out)|exact HB.out)⟩
def r09_SameInts.l0:Nat→List Int→List Int→Int→Option (Bool)
 |0,_,_,_=>none
 |k+1,x0,x1,x5=>if x5<(x0.length:Int) then(if 0≤x5 then(if x5<(x1.length:Int) then(if(rd x0 x5)=(rd x1 x5) then(r09_SameInts.l0 k x0 x1 (wrap64 (x5+1))) else(some false)) else(none)) else(none)) else(some true)
def r09_SameInts.f (k:Nat) (l0:List Int) (l1:List Int):Option (Bool):=if(l0.length:Int)=(l1.length:Int) then(r09_SameInts.l0 k l0 l1 0) else(some false)
theorem r09_SameInts.calls (k:Nat) (A0:Option Addr) (c0:Nat) (l0:List Int) (A1:Option Addr) (c1:Nat) (l1:List Int) (r:Bool) (w:World) (hr0:Kd.C (Kd.int .i64) w A0 l0.length l0) (hc0:l0.length≤c0) (hr1:Kd.C (Kd.int .i64) w A1 l1.length l1) (hc1:l1.length≤c1) (h:r09_SameInts.f k l0 l1=some r):
    Calls Try.prog 15 #[.slice A0 l0.length c0,.slice A1 l1.length c1] w fun e w'=>e= .returned (.bool r)∧Drawn0 w w':=by
 have HR0:=aM hr0
 have HC0:=aM hc0
 clear hr0 hc0
 have HR1:=aM hr1
 have HC1:=aM hc1
 clear hr1 hc1
 have H:(if(l0.length:Int)=(l1.length:Int) then(r09_SameInts.l0 k l0 l1 0) else(some false))=some r:=h
 clear h
 by_cases c3:(l0.length:Int)=(l1.length:Int)
 ·rw [if_pos c3] at H
  have c3b0:=beq_iff_eq.mpr c3;have c3b1:=bne_eq_false_iff_eq.mpr c3;have c3b2:(l0.length==l1.length)=true:=by first|simpa using c3|(simp at c3⊢;omega)
  clear c3;have H':=aM H;clear H
  go_enter Try.func15,Try.ntmps15
  go_wp2
  repeat(go_quiet (fail);try go_wp2)
  go_loopg [5] k (fun kq v5 w'=>∃(x5_1:Int),v5= .int .i64 x5_1∧Aside0 (r09_SameInts.l0 kq l0 l1 x5_1=some r)∧Aside0 (kq≤k)∧Drawn0 w w')
  case atStart=>exact⟨(0),zz152,H',⟨Nat.le_refl _⟩,by repeat(first|exact Drawn0.refl _|apply Drawn0.step)⟩
  case round =>
   clear H';(try clear c1);(try clear p2);(try clear c3);(try clear c3b0);(try clear c3b1);(try clear c3b2);obtain⟨x5_1,rfl,HA,HK1,⟨m1,rfl⟩⟩:=hrel
   cases gk with
   |zero=>exact absurd HA.out (by simp[r09_SameInts.l0])
   | succ k1=>
    have H:=HA.out;clear HA;simp only[r09_SameInts.l0] at H
    by_cases c4:x5_1<(l0.length:Int)
    ·rw [if_pos c4] at H;have c4b0:=dT c4;clear c4
     by_cases c5:0≤x5_1
     ·rw [if_pos c5] at H;have c5b0:=dT c5;clear c5
      by_cases c6:x5_1<(l1.length:Int)
      ·rw [if_pos c6] at H;have c6b0:=dT c6;clear c6
       by_cases c7:(rd l0 x5_1)=(rd l1 x5_1)
       ·rw[if_pos c7] at H;have c7b0:=beq_iff_eq.mpr c7;have c7b1:=bne_eq_false_iff_eq.mpr c7;clear c7;have H':=aM H;clear H;have p121:0≤(x5_1:Int):=oD zz151;have q121:x5_1<(l0.length:Int):=oD zz151;obtain⟨ad121,e121,hx121_0⟩:=Kd.at_int HR0.out x5_1 p121 q121
        cases e121;replace p121:=eq_true p121;replace q121:=eq_true q121;have p122:0≤(x5_1:Int):=oD zz151;have q122:x5_1<(l1.length:Int):=oD zz151;obtain⟨ad122,e122,hx122_0⟩:=Kd.at_int HR1.out x5_1 p122 q122
        cases e122;replace p122:=eq_true p122;replace q122:=eq_true q122;go_wp2
        repeat(go_quiet (fail);try go_wp2)
        go_roundg k1
        case measure=>have:=HK1.out;omega
        case rel=>exact⟨(wrap64 (x5_1+1)),zz152,H',⟨zz161⟩,by repeat(first|exact Drawn0.refl _|apply Drawn0.step)⟩
       rw[if_neg c7] at H;have c7b0:=beq_eq_false_iff_ne.mpr c7;have c7b1:=bne_iff_ne.mpr c7;obtain rfl:=oI H;have p121:0≤(x5_1:Int):=oD zz151;have q121:x5_1<(l0.length:Int):=oD zz151;obtain⟨ad121,e121,hx121_0⟩:=Kd.at_int HR0.out x5_1 p121 q121
       cases e121;replace p121:=eq_true p121;replace q121:=eq_true q121;have p122:0≤(x5_1:Int):=oD zz151;have q122:x5_1<(l1.length:Int):=oD zz151;obtain⟨ad122,e122,hx122_0⟩:=Kd.at_int HR1.out x5_1 p122 q122
       cases e122;replace p122:=eq_true p122;replace q122:=eq_true q122;go_wp2
       repeat(go_quiet (fail);try go_wp2)
       go_ret
       exact⟨by first|rfl|(simp;done)|(simp[*];done),by repeat(first|exact Drawn0.refl _|apply Drawn0.step)⟩
      rw[if_neg c6] at H
      exact absurd H (by simp)
     rw[if_neg c5] at H
     exact absurd H (by simp)
    rw[if_neg c4] at H;have c4b0:=dF c4;clear c4;obtain rfl:=oI H;go_wp2
    repeat(go_quiet (fail);try go_wp2)
    go_ret
    exact⟨by first|rfl|(simp;done)|(simp[*];done),by repeat(first|exact Drawn0.refl _|apply Drawn0.step)⟩
 rw[if_neg c3] at H
 have c3b0:=beq_eq_false_iff_ne.mpr c3
 have c3b1:=bne_iff_ne.mpr c3
 have c3b2:(l0.length==l1.length)=false:=by first|simpa using c3|(simp at c3⊢;omega)
 obtain rfl:=oI H
 go_enter Try.func15,Try.ntmps15
 go_wp2
 repeat(go_quiet (fail);try go_wp2)
 go_ret
 exact⟨by first|rfl|(simp;done)|(simp[*];done),by repeat(first|exact Drawn0.refl _|apply Drawn0.step)⟩
def r09_SameRows.l0:Nat→List (List Int)→List (List Int)→Int→Option (Bool)
 |0,_,_,_=>none
 |k+1,x0,x1,x5=>if x5<(x0.length:Int) then(if 0≤x5 then(if x5<(x1.length:Int) then((r09_SameInts.f k (Zp x0 x5) (Zp x1 x5)).bind fun t152=>(if t152=true then(r09_SameRows.l0 k x0 x1 (wrap64 (x5+1))) else(some false))) else(none)) else(none)) else(some true)
def r09_SameRows.f (k:Nat) (l0:List (List Int)) (l1:List (List Int)):Option (Bool):=if(l0.length:Int)=(l1.length:Int) then(r09_SameRows.l0 k l0 l1 0) else(some false)
theorem r09_SameRows.calls (k:Nat) (A0:Option Addr) (c0:Nat) (l0:List (List Int)) (A1:Option Addr) (c1:Nat) (l1:List (List Int)) (r:Bool) (w:World) (hr0:Kd.C (Kd.slice 3 (Kd.int .i64)) w A0 l0.length l0) (hc0:l0.length≤c0) (hr1:Kd.C (Kd.slice 3 (Kd.int .i64)) w A1 l1.length l1) (hc1:l1.length≤c1) (h:r09_SameRows.f k l0 l1=some r):
    Calls Try.prog 24 #[.slice A0 l0.length c0,.slice A1 l1.length c1] w fun e w'=>e= .returned (.bool r)∧Drawn0 w w':=by
 have HR0:=aM hr0
 have HC0:=aM hc0
 clear hr0 hc0
 have HR1:=aM hr1
 have HC1:=aM hc1
 clear hr1 hc1
 have H:(if(l0.length:Int)=(l1.length:Int) then(r09_SameRows.l0 k l0 l1 0) else(some false))=some r:=h
 clear h
 by_cases c3:(l0.length:Int)=(l1.length:Int)
 ·rw [if_pos c3] at H
  have c3b0:=beq_iff_eq.mpr c3;have c3b1:=bne_eq_false_iff_eq.mpr c3;have c3b2:(l0.length==l1.length)=true:=by first|simpa using c3|(simp at c3⊢;omega)
  clear c3;have H':=aM H;clear H
  go_enter Try.func24,Try.ntmps24
  go_wp2
  repeat(go_quiet (fail);try go_wp2)
  go_loopg [5] k (fun kq v5 w'=>∃(x5_1:Int),v5= .int .i64 x5_1∧Aside0 (r09_SameRows.l0 kq l0 l1 x5_1=some r)∧Aside0 (kq≤k)∧Drawn0 w w')
  case atStart=>exact⟨(0),zz152,H',⟨Nat.le_refl _⟩,by repeat(first|exact Drawn0.refl _|apply Drawn0.step)⟩
  case round =>
   clear H';(try clear c1);(try clear c2);(try clear p2);(try clear c3);(try clear c3b0);(try clear c3b1);(try clear c3b2);obtain⟨x5_1,rfl,HA,HK1,⟨m1,rfl⟩⟩:=hrel
   cases gk with
   |zero=>exact absurd HA.out (by simp[r09_SameRows.l0])
   | succ k1=>
    have H:=HA.out;clear HA;simp only[r09_SameRows.l0] at H
    by_cases c4:x5_1<(l0.length:Int)
    ·rw [if_pos c4] at H;have c4b0:=dT c4;clear c4
     by_cases c5:0≤x5_1
     ·rw [if_pos c5] at H;have c5b0:=dT c5;clear c5
      by_cases c6:x5_1<(l1.length:Int)
      ·rw [if_pos c6] at H;have c6b0:=dT c6;clear c6;replace H:=oB H;obtain⟨t152,A70,H⟩:=H;replace H:(if t152=true then(r09_SameRows.l0 k1 l0 l1 (wrap64 (x5_1+1))) else(some false))=some r:=H;have A7:=aM A70;clear A70
       by_cases c8:t152=true
       ·subst c8;have H1:(r09_SameRows.l0 k1 l0 l1 (wrap64 (x5_1+1)))=some r:=by rw[if_pos rfl] at H;exact H
        clear H;have H:=H1;clear H1;have H':=aM H;clear H;have p150:0≤(x5_1:Int):=oD zz151;have q150:x5_1<(l0.length:Int):=oD zz151;obtain⟨ad150,A150_0,c150_0,e150,hx150_0,hl150_0,hi150_0⟩:=ZY HR0.out x5_1 p150 q150
        cases e150;have HR150_0:=aM hi150_0;have HC150_0:=aM hl150_0;clear hi150_0 hl150_0;replace p150:=eq_true p150;replace q150:=eq_true q150;have p151:0≤(x5_1:Int):=oD zz151;have q151:x5_1<(l1.length:Int):=oD zz151;obtain⟨ad151,A151_0,c151_0,e151,hx151_0,hl151_0,hi151_0⟩:=ZY HR1.out x5_1 p151 q151
        cases e151;have HR151_0:=aM hi151_0;have HC151_0:=aM hl151_0;clear hi151_0 hl151_0;replace p151:=eq_true p151;replace q151:=eq_true q151
        go_wp2_with (first|(go_at_call 15;(with_reducible refine(r09_SameInts.calls k1 _ _ (Zp l0 x5_1) _ _ (Zp l1 x5_1) true _ ?side1 ?side2 ?side3 ?side4 A7.out).mono ?_);(case side1=>exact zC HR150_0.out);(case side2=>exact HC150_0.out);(case side3=>exact zC HR151_0.out);(case side4=>exact HC151_0.out);rintro e w' ⟨rfl,⟨nd,rfl⟩⟩;(try first|exact⟨rfl,_,World.drewN_drewN _ _ _⟩|exact⟨rfl,_,Eq.trans (World.drewN_drewN _ _ _) (congrArg (World.drewN _) (Nat.add_assoc _ _ _))⟩)))
        repeat(go_quiet (first|(go_at_call 15;(with_reducible refine(r09_SameInts.calls k1 _ _ (Zp l0 x5_1) _ _ (Zp l1 x5_1) true _ ?side1 ?side2 ?side3 ?side4 A7.out).mono ?_);(case side1=>exact zC HR150_0.out);(case side2=>exact HC150_0.out);(case side3=>exact zC HR151_0.out);(case side4=>exact HC151_0.out);rintro e w' ⟨rfl,⟨nd,rfl⟩⟩;(try first|exact⟨rfl,_,World.drewN_drewN _ _ _⟩|exact⟨rfl,_,Eq.trans (World.drewN_drewN _ _ _) (congrArg (World.drewN _) (Nat.add_assoc _ _ _))⟩)));try go_wp2_with (first|(go_at_call 15;(with_reducible refine(r09_SameInts.calls k1 _ _ (Zp l0 x5_1) _ _ (Zp l1 x5_1) true _ ?side1 ?side2 ?side3 ?side4 A7.out).mono ?_);(case side1=>exact zC HR150_0.out);(case side2=>exact HC150_0.out);(case side3=>exact zC HR151_0.out);(case side4=>exact HC151_0.out);rintro e w' ⟨rfl,⟨nd,rfl⟩⟩;(try first|exact⟨rfl,_,World.drewN_drewN _ _ _⟩|exact⟨rfl,_,Eq.trans (World.drewN_drewN _ _ _) (congrArg (World.drewN _) (Nat.add_assoc _ _ _))⟩))))
        go_roundg k1
        case measure=>have:=HK1.out;omega
        case rel=>exact⟨(wrap64 (x5_1+1)),zz152,H',⟨zz161⟩,by repeat(first|exact Drawn0.refl _|apply Drawn0.step)⟩
       replace c8:=Bool.eq_false_iff.mpr c8;subst c8;have H1:(some false)=some r:=by rw[if_neg (show¬(false=true) by decide)] at H;exact H
       clear H;have H:=H1;clear H1;obtain rfl:=oI H;have p150:0≤(x5_1:Int):=oD zz151;have q150:x5_1<(l0.length:Int):=oD zz151;obtain⟨ad150,A150_0,c150_0,e150,hx150_0,hl150_0,hi150_0⟩:=ZY HR0.out x5_1 p150 q150
       cases e150;have HR150_0:=aM hi150_0;have HC150_0:=aM hl150_0;clear hi150_0 hl150_0;replace p150:=eq_true p150;replace q150:=eq_true q150;have p151:0≤(x5_1:Int):=oD zz151;have q151:x5_1<(l1.length:Int):=oD zz151;obtain⟨ad151,A151_0,c151_0,e151,hx151_0,hl151_0,hi151_0⟩:=ZY HR1.out x5_1 p151 q151
       cases e151;have HR151_0:=aM hi151_0;have HC151_0:=aM hl151_0;clear hi151_0 hl151_0;replace p151:=eq_true p151;replace q151:=eq_true q151
       go_wp2_with (first|(go_at_call 15;(with_reducible refine(r09_SameInts.calls k1 _ _ (Zp l0 x5_1) _ _ (Zp l1 x5_1) false _ ?side1 ?side2 ?side3 ?side4 A7.out).mono ?_);(case side1=>exact zC HR150_0.out);(case side2=>exact HC150_0.out);(case side3=>exact zC HR151_0.out);(case side4=>exact HC151_0.out);rintro e w' ⟨rfl,⟨nd,rfl⟩⟩;(try first|exact⟨rfl,_,World.drewN_drewN _ _ _⟩|exact⟨rfl,_,Eq.trans (World.drewN_drewN _ _ _) (congrArg (World.drewN _) (Nat.add_assoc _ _ _))⟩)))
       repeat(go_quiet (first|(go_at_call 15;(with_reducible refine(r09_SameInts.calls k1 _ _ (Zp l0 x5_1) _ _ (Zp l1 x5_1) false _ ?side1 ?side2 ?side3 ?side4 A7.out).mono ?_);(case side1=>exact zC HR150_0.out);(case side2=>exact HC150_0.out);(case side3=>exact zC HR151_0.out);(case side4=>exact HC151_0.out);rintro e w' ⟨rfl,⟨nd,rfl⟩⟩;(try first|exact⟨rfl,_,World.drewN_drewN _ _ _⟩|exact⟨rfl,_,Eq.trans (World.drewN_drewN _ _ _) (congrArg (World.drewN _) (Nat.add_assoc _ _ _))⟩)));try go_wp2_with (first|(go_at_call 15;(with_reducible refine(r09_SameInts.calls k1 _ _ (Zp l0 x5_1) _ _ (Zp l1 x5_1) false _ ?side1 ?side2 ?side3 ?side4 A7.out).mono ?_);(case side1=>exact zC HR150_0.out);(case side2=>exact HC150_0.out);(case side3=>exact zC HR151_0.out);(case side4=>exact HC151_0.out);rintro e w' ⟨rfl,⟨nd,rfl⟩⟩;(try first|exact⟨rfl,_,World.drewN_drewN _ _ _⟩|exact⟨rfl,_,Eq.trans (World.drewN_drewN _ _ _) (congrArg (World.drewN _) (Nat.add_assoc _ _ _))⟩))))
       go_ret
       exact⟨by first|rfl|(simp;done)|(simp[*];done),by repeat(first|exact Drawn0.refl _|apply Drawn0.step)⟩
      rw[if_neg c6] at H
      exact absurd H (by simp)
     rw[if_neg c5] at H
     exact absurd H (by simp)
    rw[if_neg c4] at H;have c4b0:=dF c4;clear c4;obtain rfl:=oI H;go_wp2
    repeat(go_quiet (fail);try go_wp2)
    go_ret
    exact⟨by first|rfl|(simp;done)|(simp[*];done),by repeat(first|exact Drawn0.refl _|apply Drawn0.step)⟩
 rw[if_neg c3] at H
 have c3b0:=beq_eq_false_iff_ne.mpr c3
 have c3b1:=bne_iff_ne.mpr c3
 have c3b2:(l0.length==l1.length)=false:=by first|simpa using c3|(simp at c3⊢;omega)
 obtain rfl:=oI H
 go_enter Try.func24,Try.ntmps24
 go_wp2
 repeat(go_quiet (fail);try go_wp2)
 go_ret
 exact⟨by first|rfl|(simp;done)|(simp[*];done),by repeat(first|exact Drawn0.refl _|apply Drawn0.step)⟩
mutual
def r30_Same.j0:Nat→Bool→Int→List (S74)→Int→List (S74)→Option (Bool)
 |0,_,_,_,_,_=>none
 |k+1,x21,x213000,x213001,x214000,x214001=>if x21=true then(some false) else(r30_Same.l0 k 0 x213000 x213001 x214000 x214001)
def r30_Same.l0:Nat→Int→Int→List (S74)→Int→List (S74)→Option (Bool)
 |0,_,_,_,_,_=>none
 |k+1,x5,x213000,x213001,x214000,x214001=>if x5<(x213001.length:Int) then(if 0≤x5 then(if x5<(x214001.length:Int) then(if((Zd x213001 x5).f0)=((Zd x214001 x5).f0) then((r09_SameInts.f k ((Zd x213001 x5).f1) ((Zd x214001 x5).f1)).bind fun t218=>(if t218=true then((r09_SameRows.f k ((Zd x213001 x5).f2) ((Zd x214001 x5).f2)).bind fun t219=>(r30_Same.j2 k x5 (!t219) x213000 x213001 x214000 x214001)) else(r30_Same.j2 k x5 true x213000 x213001 x214000 x214001))) else(r30_Same.j2 k x5 true x213000 x213001 x214000 x214001)) else(none)) else(none)) else(some true)
def r30_Same.j2:Nat→Int→Bool→Int→List (S74)→Int→List (S74)→Option (Bool)
 |0,_,_,_,_,_,_=>none
 |k+1,x5,x59,x213000,x213001,x214000,x214001=>if x59=true then(some false) else(r30_Same.l0 k (wrap64 (x5+1)) x213000 x213001 x214000 x214001)
end
def r30_Same.f (k:Nat) (a0_0:Int) (l0_1:List (S74)) (a1_0:Int) (l1_1:List (S74)):Option (Bool):=if a0_0=a1_0 then(r30_Same.j0 k ((l0_1.length:Int) !=(l1_1.length:Int)) a0_0 l0_1 a1_0 l1_1) else(r30_Same.j0 k true a0_0 l0_1 a1_0 l1_1)
def r30_Same.T6:Bool×List (List Nat×List Nat):=(true,[([],[]),([0],[0]),([],[]),([1,2],[1,2]),([3],[3]),([],[]),([5],[5]),([],[]),([6,7],[6,7]),([8],[8]),([],[]),([],[]),([10,4,0,1,2,3,4,10,11],[4,10]),([11,9,12,0,1,2,3,4,5,6,7,8,9,10,11,12],[9,11])])
def r30_Same.B6:List Nat:= [0,1,0,7,15,0,32,0,224,480,0,0,3103,8191]
theorem r30_Same.tab6:rtab .any (opsOf Try.f32 6)=r30_Same.T6:=by kernel_rfl
theorem r30_Same.bits6:waitsOk r30_Same.T6.2 r30_Same.B6=true:=by kernel_rfl
theorem r30_Same.calls (k:Nat) (a0_0:Int) (A0_1:Option Addr) (c0_1:Nat) (l0_1:List (S74)) (a1_0:Int) (A1_1:Option Addr) (c1_1:Nat) (l1_1:List (S74)) (r:Bool) (w:World) (hr0_1:Kd.C k74 w A0_1 l0_1.length l0_1) (hc0_1:l0_1.length≤c0_1) (hr1_1:Kd.C k74 w A1_1 l1_1.length l1_1) (hc1_1:l1_1.length≤c1_1) (h:r30_Same.f k a0_0 l0_1 a1_0 l1_1=some r):
    Calls Try.prog 32 #[.agg #[.int .i64 a0_0,.slice A0_1 l0_1.length c0_1],.agg #[.int .i64 a1_0,.slice A1_1 l1_1.length c1_1]] w fun e w'=>e= .returned (.bool r)∧Below w.heap.size w w':=by
 have hu46:=Try.underlying46
 have hu74:=Try.underlying74
 have HR0_1:=aM hr0_1
 have HC0_1:=aM hc0_1
 clear hr0_1 hc0_1
 have HR1_1:=aM hr1_1
 have HC1_1:=aM hc1_1
 clear hr1_1 hc1_1
 have HB:=aM (Below.refl w.heap.size w)
 have H:(if a0_0=a1_0 then(r30_Same.j0 k ((l0_1.length:Int) !=(l1_1.length:Int)) a0_0 l0_1 a1_0 l1_1) else(r30_Same.j0 k true a0_0 l0_1 a1_0 l1_1))=some r:=h
 clear h
 have HC3:=aM H
 clear H
 go_enter Try.func32,Try.ntmps32
 go_upto_region 1 with(first|((with_reducible refine Zr (N:=2) rfl ?_);(try(refine Zv (by rfl) ?_;dsimp only));refine Zy ?hg (N:=2) ?hd (cs:= #[.int .i64 a0_0,.slice A0_1 l0_1.length c0_1]) (t:=46) ?hr ?_;(case hd=>rfl);(case hg=>rfl);(case hr=>first|(go_simp;done)|(go_simp;rfl));intro gb212 hg w4 hbox hb;have BK212:=aM (hbox);have GW212:=aM ((by rw[hg];exact(Zc zz126):w.heap.size≤gb212));have GE212:=aM ((by rw[hg];exact(Zc zz126):w.heap.size≤gb212));replace HB:=aM (Ze zz126 hb);clear hb hbox hg)|((with_reducible refine Zr (N:=3) rfl ?_);(try(refine Zv (by rfl) ?_;dsimp only));refine Zy ?hg (N:=3) ?hd (cs:= #[.int .i64 a1_0,.slice A1_1 l1_1.length c1_1]) (t:=46) ?hr ?_;(case hd=>rfl);(case hg=>rfl);(case hr=>first|(go_simp;done)|(go_simp;rfl));intro gb213 hg w5 hbox hb;have BK213:=aM (hbox);have GW213:=aM ((by rw[hg];exact(Zc zz97):w.heap.size≤gb213));have GE213:=aM ((by rw[hg];exact(Zc zz97):w.heap.size≤gb213));replace HB:=aM (Ze zz97 hb);have NB212_213:=aM ((by rw[hg];exact Nat.ne_of_lt (Zw (g:=gb212) (o:= .cells #[.int .i64 a0_0,.slice A0_1 l0_1.length c0_1] 46 (0,0)) (zB BK212)):gb212≠gb213));have NB213_212:=aM ((by rw[hg];exact Nat.ne_of_gt (Zw (g:=gb212) (o:= .cells #[.int .i64 a0_0,.slice A0_1 l0_1.length c0_1] 46 (0,0)) (zB BK212)):gb213≠gb212));replace BK212:=aM (Zg (g:=gb212) (o:= .cells #[.int .i64 a0_0,.slice A0_1 l0_1.length c0_1] 46 (0,0)) (zB BK212) hb);clear hb hbox hg))
 (try simp only[Act.put,sA,sB,sC])
 go_cut [21] (fun v21 wc=>∃(kq:Nat) (x21_2:Bool),v21= .bool x21_2∧Aside0 (r30_Same.j0 kq x21_2 a0_0 l0_1 a1_0 l1_1=some r)∧Aside0 (kq≤k)∧Aside0 (wc.heap[gb212]? =some (.cells #[.int .i64 a0_0,(.slice A0_1 l0_1.length c0_1)] 46 (0,0)))∧Aside0 (wc.heap[gb213]? =some (.cells #[.int .i64 a1_0,(.slice A1_1 l1_1.length c1_1)] 46 (0,0)))∧Aside0 (Below w.heap.size w wc))
 case first=>
  have H:=HC3.out;clear HC3
  by_cases c6:a0_0=a1_0
  ·rw[if_pos c6] at H;have c6b0:=beq_iff_eq.mpr c6;have c6b1:=bne_eq_false_iff_eq.mpr c6;clear c6
   (first|rw[c6b0]|(simp only[Zt,Zu];rw[c6b0])|skip)
   have H':=aM H;clear H;have hnb7:=NB212_213.out;have hnc7:=NB213_212.out;have hcz8_0:w5.cell? ⟨gb212,0,none⟩=some (.int .i64 a0_0):=(Zb BK212.out 0).trans rfl;have hcz8_1:w5.cell? ⟨gb212,1,none⟩=some (.slice A0_1 l0_1.length c0_1):=(Zb BK212.out 1).trans rfl;have hfz8_0:=Za BK212.out 0;have hfz8_1:=Za BK212.out 1;have hcz9_0:w5.cell? ⟨gb213,0,none⟩=some (.int .i64 a1_0):=(Zb BK213.out 0).trans rfl;have hcz9_1:w5.cell? ⟨gb213,1,none⟩=some (.slice A1_1 l1_1.length c1_1):=(Zb BK213.out 1).trans rfl;have hfz9_0:=Za BK213.out 0;have hfz9_1:=Za BK213.out 1;go_wp2;go_meet
   case rel=>exact⟨_,(((l0_1.length:Int) !=(l1_1.length:Int))),zz152,H',⟨zz154⟩,⟨(zB BK212)⟩,⟨(zB BK213)⟩,⟨zz77⟩⟩
  rw[if_neg c6] at H;have c6b0:=beq_eq_false_iff_ne.mpr c6;have c6b1:=bne_iff_ne.mpr c6
  (first|rw[c6b0]|(simp only[Zt,Zu];rw[c6b0])|skip)
  have H':=aM H;clear H;have hnb10:=NB212_213.out;have hnc10:=NB213_212.out;have hcz11_0:w5.cell? ⟨gb212,0,none⟩=some (.int .i64 a0_0):=(Zb BK212.out 0).trans rfl;have hcz11_1:w5.cell? ⟨gb212,1,none⟩=some (.slice A0_1 l0_1.length c0_1):=(Zb BK212.out 1).trans rfl;have hfz11_0:=Za BK212.out 0;have hfz11_1:=Za BK212.out 1;have hcz12_0:w5.cell? ⟨gb213,0,none⟩=some (.int .i64 a1_0):=(Zb BK213.out 0).trans rfl;have hcz12_1:w5.cell? ⟨gb213,1,none⟩=some (.slice A1_1 l1_1.length c1_1):=(Zb BK213.out 1).trans rfl;have hfz12_0:=Za BK213.out 0;have hfz12_1:=Za BK213.out 1;go_wp2;go_meet
  case rel=>exact⟨_,(true),zz152,H',⟨zz154⟩,⟨(zB BK212)⟩,⟨(zB BK213)⟩,⟨zz77⟩⟩
 case rest=>
  clear HC3;(try clear c1);(try clear p2);(try clear c3);(try clear c6);(try clear c6b0);(try clear c6b1);(try clear c7);(try clear c10);(try clear hcz11_0);(try clear hcz11_1);(try clear hcz12_0);(try clear hcz12_1);(try clear hcz8_0);(try clear hcz8_1);(try clear hcz9_0);(try clear hcz9_1);(try clear hfz11_0);(try clear hfz11_1);(try clear hfz12_0);(try clear hfz12_1);(try clear hfz8_0);(try clear hfz8_1);(try clear hfz9_0);(try clear hfz9_1);obtain⟨kq,x21_2,rfl,HA,HJ2,BK212,BK213,HB⟩:=hcut
  cases kq with
  |zero=>exact absurd HA.out (by simp[r30_Same.j0])
  | succ kj2 =>
   have H:=HA.out;clear HA;simp only[r30_Same.j0] at H
   by_cases c13:x21_2=true
   ·subst c13;have H1:(some false)=some r:=by rw[if_pos rfl] at H;exact H
    clear H;have H:=H1;clear H1;obtain rfl:=oI H;go_wp2;go_ret
    exact⟨by first|rfl|(simp[Zj,Zi]<;>rfl)|(simp[*,Zj,Zi]<;>rfl),by repeat(first|(with_reducible first|exact HB.out|apply Zn|apply Zf|apply Zh|refine Zk ?_ GE212.out|refine Zk ?_ GE213.out)|exact HB.out)⟩
   replace c13:=Bool.eq_false_iff.mpr c13;subst c13;have H1:(r30_Same.l0 kj2 0 a0_0 l0_1 a1_0 l1_1)=some r:=by rw[if_neg (show¬(false=true) by decide)] at H;exact H
   clear H;have H:=H1;clear H1;have H':=aM H;clear H;go_wp2
   go_loopg [5] kj2 (fun kq v5 w'=>∃(x5_2:Int),v5= .int .i64 x5_2∧Aside0 (r30_Same.l0 kq x5_2 a0_0 l0_1 a1_0 l1_1=some r)∧Aside0 (kq≤kj2)∧Aside0 (w'.heap[gb212]? =some (.cells #[.int .i64 a0_0,(.slice A0_1 l0_1.length c0_1)] 46 (0,0)))∧Aside0 (w'.heap[gb213]? =some (.cells #[.int .i64 a1_0,(.slice A1_1 l1_1.length c1_1)] 46 (0,0)))∧Aside0 (Below w.heap.size w w'))
   case atStart=>exact⟨(0),zz152,H',⟨Nat.le_refl _⟩,⟨(zB BK212)⟩,⟨(zB BK213)⟩,⟨zz77⟩⟩
   case round =>
    clear H';(try clear c1);(try clear p2);(try clear c3);(try clear c6);(try clear c6b0);(try clear c6b1);(try clear c7);(try clear c10);(try clear c13);(try clear hcz11_0);(try clear hcz11_1);(try clear hcz12_0);(try clear hcz12_1);(try clear hcz8_0);(try clear hcz8_1);(try clear hcz9_0);(try clear hcz9_1);(try clear hfz11_0);(try clear hfz11_1);(try clear hfz12_0);(try clear hfz12_1);(try clear hfz8_0);(try clear hfz8_1);(try clear hfz9_0);(try clear hfz9_1);(try clear p2);obtain⟨x5_2,rfl,HA,HK2,BK212,BK213,HB⟩:=hrel
    cases gk with
    |zero=>exact absurd HA.out (by simp[r30_Same.l0])
    | succ k2=>
     have H:=HA.out;clear HA;simp only[r30_Same.l0] at H
     by_cases c14:x5_2<(l0_1.length:Int)
     ·rw [if_pos c14] at H;have c14b0:=dT c14;clear c14
      by_cases c15:0≤x5_2
      ·rw [if_pos c15] at H;have c15b0:=dT c15;clear c15
       by_cases c16:x5_2<(l1_1.length:Int)
       ·rw [if_pos c16] at H;have c16b0:=dT c16;clear c16;have HC17:=aM H;clear H;have hnb18:=NB212_213.out;have hnc18:=NB213_212.out;have hcz19_0:wr.cell? ⟨gb212,0,none⟩=some (.int .i64 a0_0):=(Zb BK212.out 0).trans rfl;have hcz19_1:wr.cell? ⟨gb212,1,none⟩=some (.slice A0_1 l0_1.length c0_1):=(Zb BK212.out 1).trans rfl;have hfz19_0:=Za BK212.out 0;have hfz19_1:=Za BK212.out 1
        try go_wp2
        have n0_:=aM (Zo BK212.out);have n1_:=aM (Zo BK213.out);have n2_:=aM (Zh HB.out);clear BK212;clear BK213;clear HB;have BK212:=n0_;have BK213:=n1_;have HB:=n2_;clear n0_ n1_ n2_;have p214:0≤(x5_2:Int):=oD zz151;have q214:x5_2<(l0_1.length:Int):=oD zz151;obtain⟨ad214,A214_1,c214_1,A214_2,c214_2,e214,hx214_0,hx214_1,hx214_2,hl214_1,hi214_1,hl214_2,hi214_2⟩:=Z1 HR0_1.out x5_2 p214 q214;have hw214_2:=hx214_2;have hw214_1:=hx214_1;have hw214_0:=hx214_0
        cases e214;replace hx214_0:=(HB.out.cell (wB w _ hx214_0)).trans hx214_0;replace hx214_1:=(HB.out.cell (wB w _ hx214_1)).trans hx214_1;replace hx214_2:=(HB.out.cell (wB w _ hx214_2)).trans hx214_2;have HR214_1:=aM hi214_1;have HC214_1:=aM hl214_1;clear hi214_1 hl214_1;have HR214_2:=aM hi214_2;have HC214_2:=aM hl214_2;clear hi214_2 hl214_2;replace p214:=eq_true p214;replace q214:=eq_true q214;have p215:0≤(x5_2:Int):=oD zz151;have q215:x5_2<(l1_1.length:Int):=oD zz151;obtain⟨ad215,A215_1,c215_1,A215_2,c215_2,e215,hx215_0,hx215_1,hx215_2,hl215_1,hi215_1,hl215_2,hi215_2⟩:=Z1 HR1_1.out x5_2 p215 q215;have hw215_2:=hx215_2;have hw215_1:=hx215_1;have hw215_0:=hx215_0
        cases e215;replace hx215_0:=(HB.out.cell (wB w _ hx215_0)).trans hx215_0;replace hx215_1:=(HB.out.cell (wB w _ hx215_1)).trans hx215_1;replace hx215_2:=(HB.out.cell (wB w _ hx215_2)).trans hx215_2;have HR215_1:=aM hi215_1;have HC215_1:=aM hl215_1;clear hi215_1 hl215_1;have HR215_2:=aM hi215_2;have HC215_2:=aM hl215_2;clear hi215_2 hl215_2;replace p215:=eq_true p215;replace q215:=eq_true q215
        refine start_ (n:=14) (S:=fun w'=>w'.cell? ⟨gb212,0,none⟩=some (.int .i64 a0_0)∧w'.cell? ⟨gb212,1,none⟩=some (.slice (some ad214) l0_1.length c0_1)∧w'.cell? ⟨gb213,0,none⟩=some (.int .i64 a1_0)∧w'.cell? ⟨gb213,1,none⟩=some (.slice (some ad215) l1_1.length c1_1)∧w'.cell? (ad214.add ((x5_2).toNat*3))=some (.int .i64 ((Zd l0_1 x5_2).f0))∧w'.cell? ⟨(ad214.add ((x5_2).toNat*3)).block,(ad214.add ((x5_2).toNat*3)).off+1,none⟩=some (.slice A214_1 ((Zd l0_1 x5_2).f1).length c214_1)∧w'.cell? ⟨(ad214.add ((x5_2).toNat*3)).block,(ad214.add ((x5_2).toNat*3)).off+2,none⟩=some (.slice A214_2 ((Zd l0_1 x5_2).f2).length c214_2)∧w'.cell? (ad215.add ((x5_2).toNat*3))=some (.int .i64 ((Zd l1_1 x5_2).f0))∧w'.cell? ⟨(ad215.add ((x5_2).toNat*3)).block,(ad215.add ((x5_2).toNat*3)).off+1,none⟩=some (.slice A215_1 ((Zd l1_1 x5_2).f1).length c215_1)∧w'.cell? ⟨(ad215.add ((x5_2).toNat*3)).block,(ad215.add ((x5_2).toNat*3)).off+2,none⟩=some (.slice A215_2 ((Zd l1_1 x5_2).f2).length c215_2)) (ds:= []) #[false,false,false,false,false,false,false,false,false,false,false,false,false,false] (by kernel_rfl) rfl rfl ⟨(Zb BK212.out 0).trans rfl,(Zb BK212.out 1).trans rfl,(Zb BK213.out 0).trans rfl,(Zb BK213.out 1).trans rfl,((HB.out.cell (wB w _ hw214_0)).trans hw214_0),((HB.out.cell (wB w _ hw214_1)).trans hw214_1),((HB.out.cell (wB w _ hw214_2)).trans hw214_2),((HB.out.cell (wB w _ hw215_0)).trans hw215_0),((HB.out.cell (wB w _ hw215_1)).trans hw215_1),((HB.out.cell (wB w _ hw215_2)).trans hw215_2)⟩ (fun hHeld=> ?_);refine Z5 r30_Same.tab6 r30_Same.bits6 (fun HT_ HW_=> ?_);generalize wr.drew=w20 at BK212 BK213 HB HR214_1 HR214_2 HR215_1 HR215_2 hx214_0 hx214_1 hx214_2 hx215_0 hx215_1 hx215_2 hHeld⊢
        refine ZF (i:=0) (N:=some 29) (v:= ?_) (a':= ?_) #[true,false,false,false,false,false,false,false,false,false,false,false,false,false] rfl rfl (Zx HT_.out (by kernel_rfl)) (fun _ _ _ h=>h) (Or.inl ⟨by rfl,?_⟩) ?_ ?_;rotate_left
        ·intro w';go_simp;with_reducible rfl
        rotate_left
        ·simp only[Act.put,sA,sB,sC,Zt,Zu];rfl
        refine ZF (i:=2) (N:=some 31) (v:= ?_) (a':= ?_) #[true,false,true,false,false,false,false,false,false,false,false,false,false,false] rfl rfl (Zx HT_.out (by kernel_rfl)) (fun _ _ _ h=>h) (Or.inl ⟨by rfl,?_⟩) ?_ ?_;rotate_left
        ·intro w';go_simp;with_reducible rfl
        rotate_left
        ·simp only[Act.put,sA,sB,sC,Zt,Zu];rfl
        refine ZF (i:=5) (N:=some 34) (v:= ?_) (a':= ?_) #[true,false,true,false,false,true,false,false,false,false,false,false,false,false] rfl rfl (Zx HT_.out (by kernel_rfl)) (fun _ _ _ h=>h) (Or.inl ⟨by rfl,?_⟩) ?_ ?_;rotate_left
        ·intro w';go_simp;with_reducible rfl
        rotate_left
        ·simp only[Act.put,sA,sB,sC,Zt,Zu];rfl
        refine ZF (i:=7) (N:=some 36) (v:= ?_) (a':= ?_) #[true,false,true,false,false,true,false,true,false,false,false,false,false,false] rfl rfl (Zx HT_.out (by kernel_rfl)) (fun _ _ _ h=>h) (Or.inl ⟨by rfl,?_⟩) ?_ ?_;rotate_left
        ·intro w';go_simp;with_reducible rfl
        rotate_left
        ·simp only[Act.put,sA,sB,sC,Zt,Zu];rfl
        refine take_ (i:=1) (N:=some 30) (v:= ?_) (a':= ?_) #[true,true,true,false,false,true,false,true,false,false,false,false,false,false] rfl rfl (ZV HT_.out HW_.out (by kernel_rfl)) (fun _ _ _ h=>h) (Or.inl ⟨by rfl,?_⟩) hHeld ?_ ?_;rotate_left
        ·rintro w' ⟨s0,s1,s2,s3,s4,s5,s6,s7,s8,s9⟩;go_simp;with_reducible rfl
        rotate_left
        ·simp only[Act.put,sA,sB,sC,Zt,Zu];rfl
        refine ZF (i:=3) (N:=some 32) (v:= ?_) (a':= ?_) #[true,true,true,true,false,true,false,true,false,false,false,false,false,false] rfl rfl (Zx HT_.out (by kernel_rfl)) (fun _ _ _ h=>h) (Or.inl ⟨by rfl,?_⟩) ?_ ?_;rotate_left
        ·intro w';go_simp;with_reducible rfl
        rotate_left
        ·simp only[Act.put,sA,sB,sC,Zt,Zu];rfl
        refine take_ (i:=4) (N:=some 33) (v:= ?_) (a':= ?_) #[true,true,true,true,true,true,false,true,false,false,false,false,false,false] rfl rfl (ZV HT_.out HW_.out (by kernel_rfl)) (fun _ _ _ h=>h) (Or.inl ⟨by rfl,?_⟩) hHeld ?_ ?_;rotate_left
        ·rintro w' ⟨s0,s1,s2,s3,s4,s5,s6,s7,s8,s9⟩;go_simp;with_reducible rfl
        rotate_left
        ·simp only[Act.put,sA,sB,sC,Zt,Zu];rfl
        refine take_ (i:=6) (N:=some 35) (v:= ?_) (a':= ?_) #[true,true,true,true,true,true,true,true,false,false,false,false,false,false] rfl rfl (ZV HT_.out HW_.out (by kernel_rfl)) (fun _ _ _ h=>h) (Or.inl ⟨by rfl,?_⟩) hHeld ?_ ?_;rotate_left
        ·rintro w' ⟨s0,s1,s2,s3,s4,s5,s6,s7,s8,s9⟩;go_simp;with_reducible rfl
        rotate_left
        ·simp only[Act.put,sA,sB,sC,Zt,Zu];rfl
        refine ZF (i:=8) (N:=some 37) (v:= ?_) (a':= ?_) #[true,true,true,true,true,true,true,true,true,false,false,false,false,false] rfl rfl (Zx HT_.out (by kernel_rfl)) (fun _ _ _ h=>h) (Or.inl ⟨by rfl,?_⟩) ?_ ?_;rotate_left
        ·intro w';go_simp;with_reducible rfl
        rotate_left
        ·simp only[Act.put,sA,sB,sC,Zt,Zu];rfl
        refine take_ (i:=9) (N:=some 38) (v:= ?_) (a':= ?_) #[true,true,true,true,true,true,true,true,true,true,false,false,false,false] rfl rfl (ZV HT_.out HW_.out (by kernel_rfl)) (fun _ _ _ h=>h) (Or.inl ⟨by rfl,?_⟩) hHeld ?_ ?_;rotate_left
        ·rintro w' ⟨s0,s1,s2,s3,s4,s5,s6,s7,s8,s9⟩;go_simp;with_reducible rfl
        rotate_left
        ·simp only[Act.put,sA,sB,sC,Zt,Zu];rfl
        refine join_ (σ:=Nat×Nat) 2 #[true,true,true,true,true,true,true,true,true,true,true,true,false,false] (fun s_=> [(6,.pointer (some ⟨s_.1,0,none⟩)),(7,.pointer (some ⟨s_.2,0,none⟩))]) (fun s_ w'=>(w'.cell? ⟨gb212,0,none⟩=some (.int .i64 a0_0)∧w'.cell? ⟨gb212,1,none⟩=some (.slice (some ad214) l0_1.length c0_1)∧w'.cell? ⟨gb213,0,none⟩=some (.int .i64 a1_0)∧w'.cell? ⟨gb213,1,none⟩=some (.slice (some ad215) l1_1.length c1_1)∧w'.cell? (ad214.add ((x5_2).toNat*3))=some (.int .i64 ((Zd l0_1 x5_2).f0))∧w'.cell? ⟨(ad214.add ((x5_2).toNat*3)).block,(ad214.add ((x5_2).toNat*3)).off+1,none⟩=some (.slice A214_1 ((Zd l0_1 x5_2).f1).length c214_1)∧w'.cell? ⟨(ad214.add ((x5_2).toNat*3)).block,(ad214.add ((x5_2).toNat*3)).off+2,none⟩=some (.slice A214_2 ((Zd l0_1 x5_2).f2).length c214_2)∧w'.cell? (ad215.add ((x5_2).toNat*3))=some (.int .i64 ((Zd l1_1 x5_2).f0))∧w'.cell? ⟨(ad215.add ((x5_2).toNat*3)).block,(ad215.add ((x5_2).toNat*3)).off+1,none⟩=some (.slice A215_1 ((Zd l1_1 x5_2).f1).length c215_1)∧w'.cell? ⟨(ad215.add ((x5_2).toNat*3)).block,(ad215.add ((x5_2).toNat*3)).off+2,none⟩=some (.slice A215_2 ((Zd l1_1 x5_2).f2).length c215_2))∧(w'.heap[gb212]? =some (.cells #[.int .i64 a0_0,.slice (some ad214) l0_1.length c0_1] 46 (0,0)))∧(w'.heap[gb213]? =some (.cells #[.int .i64 a1_0,.slice (some ad215) l1_1.length c1_1] 46 (0,0)))∧(w'.heap[s_.1]? =some (.cells #[.int .i64 0,.slice none 0 0,.slice none 0 0] 74 (0,0)))∧(w'.heap[s_.2]? =some (.cells #[.int .i64 0,.slice none 0 0,.slice none 0 0] 74 (0,0)))∧(w.heap.size≤s_.1)∧(w.heap.size≤s_.1)∧(gb212≠s_.1)∧(s_.1≠gb212)∧(gb213≠s_.1)∧(s_.1≠gb213)∧(s_.2≠s_.1)∧(s_.1≠s_.2)∧(w.heap.size≤s_.2)∧(w.heap.size≤s_.2)∧(gb212≠s_.2)∧(s_.2≠gb212)∧(gb213≠s_.2)∧(s_.2≠gb213)∧(Below w.heap.size w w')) ?_ ?_;rotate_left
        ·intro hCont
         refine two_ (i:=10) (j:=11) (Ni:=some 6) (Nj:=some 7) #[true,true,true,true,true,true,true,true,true,true,true,false,false,false] #[true,true,true,true,true,true,true,true,true,true,false,true,false,false] rfl rfl rfl rfl (two_of HT_.out (by kernel_rfl)) (by decide) (by decide) (fun K hK=> ?_) (fun K hK=> ?_)
         ·skip
          refine Z6 ?hg (N:=6) ?hd (cs:= #[.int .i64 0,.slice none 0 0,.slice none 0 0]) (t:=74) ?hr ?_;(case hd=>rfl);(case hg=>rfl);(case hr=>first|(go_simp;done)|(go_simp;rfl));intro gb216 hg w21 hbox hb;have n0_:=aM (Zg (g:=gb212) (o:= .cells #[.int .i64 a0_0,.slice (some ad214) l0_1.length c0_1] 46 (0,0)) (zB BK212) hb);have n1_:=aM (Zg (g:=gb213) (o:= .cells #[.int .i64 a1_0,.slice (some ad215) l1_1.length c1_1] 46 (0,0)) (zB BK213) hb);have n2_:=aM (Ze zz77 hb);have n3_:=aM (hbox);have n4_:=aM ((by rw[hg];exact(Zc zz77):w.heap.size≤gb216));have n5_:=aM ((by rw[hg];exact(Zc zz77):w.heap.size≤gb216));have n6_:=aM ((by rw[hg];exact Nat.ne_of_lt (Zw (g:=gb212) (o:= .cells #[.int .i64 a0_0,.slice (some ad214) l0_1.length c0_1] 46 (0,0)) (zB BK212)):gb212≠gb216));have n7_:=aM ((by rw[hg];exact Nat.ne_of_gt (Zw (g:=gb212) (o:= .cells #[.int .i64 a0_0,.slice (some ad214) l0_1.length c0_1] 46 (0,0)) (zB BK212)):gb216≠gb212));have n8_:=aM ((by rw[hg];exact Nat.ne_of_lt (Zw (g:=gb213) (o:= .cells #[.int .i64 a1_0,.slice (some ad215) l1_1.length c1_1] 46 (0,0)) (zB BK213)):gb213≠gb216));have n9_:=aM ((by rw[hg];exact Nat.ne_of_gt (Zw (g:=gb213) (o:= .cells #[.int .i64 a1_0,.slice (some ad215) l1_1.length c1_1] 46 (0,0)) (zB BK213)):gb216≠gb213));clear BK212;clear BK213;clear HB;have BK212:=n0_;have BK213:=n1_;have HB:=n2_;have BK216:=n3_;have GW216:=n4_;have GE216:=n5_;have NB212_216:=n6_;have NB216_212:=n7_;have NB213_216:=n8_;have NB216_213:=n9_;clear n0_ n1_ n2_ n3_ n4_ n5_ n6_ n7_ n8_ n9_;clear hb hbox hg
          refine hK.out _ _ ⟨(Zb BK212.out 0).trans rfl,(Zb BK212.out 1).trans rfl,(Zb BK213.out 0).trans rfl,(Zb BK213.out 1).trans rfl,((HB.out.cell (wB w _ hw214_0)).trans hw214_0),((HB.out.cell (wB w _ hw214_1)).trans hw214_1),((HB.out.cell (wB w _ hw214_2)).trans hw214_2),((HB.out.cell (wB w _ hw215_0)).trans hw215_0),((HB.out.cell (wB w _ hw215_1)).trans hw215_1),((HB.out.cell (wB w _ hw215_2)).trans hw215_2)⟩ (fun hHeld=> ?_);clear hK K
          refine ZT (a':= ?_) ?_ ?_;rotate_left
          ·show Act.put _ (some 6) _=_
           simp only[Act.put,sA,sB,sC,Zt,Zu];rfl
          refine one_ (i:=11) (N:=some 7) #[true,true,true,true,true,true,true,true,true,true,true,true,false,false] rfl rfl (Z0 HT_.out (by kernel_rfl)) (by decide) (fun K hK=> ?_)
          refine Z6 ?hg (N:=7) ?hd (cs:= #[.int .i64 0,.slice none 0 0,.slice none 0 0]) (t:=74) ?hr ?_;(case hd=>rfl);(case hg=>rfl);(case hr=>first|(go_simp;done)|(go_simp;rfl));intro gb217 hg w22 hbox hb;have n0_:=aM (Zg (g:=gb212) (o:= .cells #[.int .i64 a0_0,.slice (some ad214) l0_1.length c0_1] 46 (0,0)) (zB BK212) hb);have n1_:=aM (Zg (g:=gb213) (o:= .cells #[.int .i64 a1_0,.slice (some ad215) l1_1.length c1_1] 46 (0,0)) (zB BK213) hb);have n2_:=aM (Zg (g:=gb216) (o:= .cells #[.int .i64 0,.slice none 0 0,.slice none 0 0] 74 (0,0)) (zB BK216) hb);have n3_:=aM (Ze zz70 hb);have n4_:=aM (hbox);have n5_:=aM ((by rw[hg];exact(Zc zz70):w.heap.size≤gb217));have n6_:=aM ((by rw[hg];exact(Zc zz70):w.heap.size≤gb217));have n7_:=aM ((by rw[hg];exact Nat.ne_of_lt (Zw (g:=gb212) (o:= .cells #[.int .i64 a0_0,.slice (some ad214) l0_1.length c0_1] 46 (0,0)) (zB BK212)):gb212≠gb217));have n8_:=aM ((by rw[hg];exact Nat.ne_of_gt (Zw (g:=gb212) (o:= .cells #[.int .i64 a0_0,.slice (some ad214) l0_1.length c0_1] 46 (0,0)) (zB BK212)):gb217≠gb212));have n9_:=aM ((by rw[hg];exact Nat.ne_of_lt (Zw (g:=gb213) (o:= .cells #[.int .i64 a1_0,.slice (some ad215) l1_1.length c1_1] 46 (0,0)) (zB BK213)):gb213≠gb217));have n10_:=aM ((by rw[hg];exact Nat.ne_of_gt (Zw (g:=gb213) (o:= .cells #[.int .i64 a1_0,.slice (some ad215) l1_1.length c1_1] 46 (0,0)) (zB BK213)):gb217≠gb213));have n11_:=aM ((by rw[hg];exact Nat.ne_of_lt (Zw (g:=gb216) (o:= .cells #[.int .i64 0,.slice none 0 0,.slice none 0 0] 74 (0,0)) (zB BK216)):gb216≠gb217));have n12_:=aM ((by rw[hg];exact Nat.ne_of_gt (Zw (g:=gb216) (o:= .cells #[.int .i64 0,.slice none 0 0,.slice none 0 0] 74 (0,0)) (zB BK216)):gb217≠gb216));clear BK212;clear BK213;clear BK216;clear HB;have BK212:=n0_;have BK213:=n1_;have BK216:=n2_;have HB:=n3_;have BK217:=n4_;have GW217:=n5_;have GE217:=n6_;have NB212_217:=n7_;have NB217_212:=n8_;have NB213_217:=n9_;have NB217_213:=n10_;have NB216_217:=n11_;have NB217_216:=n12_;clear n0_ n1_ n2_ n3_ n4_ n5_ n6_ n7_ n8_ n9_ n10_ n11_ n12_;clear hb hbox hg
          refine hK.out _ _ ⟨(Zb BK212.out 0).trans rfl,(Zb BK212.out 1).trans rfl,(Zb BK213.out 0).trans rfl,(Zb BK213.out 1).trans rfl,((HB.out.cell (wB w _ hw214_0)).trans hw214_0),((HB.out.cell (wB w _ hw214_1)).trans hw214_1),((HB.out.cell (wB w _ hw214_2)).trans hw214_2),((HB.out.cell (wB w _ hw215_0)).trans hw215_0),((HB.out.cell (wB w _ hw215_1)).trans hw215_1),((HB.out.cell (wB w _ hw215_2)).trans hw215_2)⟩ (fun hHeld=> ?_);clear hK K
          refine ZT (a':= ?_) ?_ ?_;rotate_left
          ·show Act.put _ (some 7) _=_
           simp only[Act.put,sA,sB,sC,Zt,Zu];rfl
          exact ZT zz136 (hCont (gb216,gb217) _ ⟨hHeld,(zB BK212),(zB BK213),(zB BK216),(zB BK217),GW216.out,GE216.out,NB212_216.out,NB216_212.out,NB213_216.out,NB216_213.out,NB217_216.out,NB216_217.out,GW217.out,GE217.out,NB212_217.out,NB217_212.out,NB213_217.out,NB217_213.out,zz59⟩)
         ·skip
          refine Z6 ?hg (N:=7) ?hd (cs:= #[.int .i64 0,.slice none 0 0,.slice none 0 0]) (t:=74) ?hr ?_;(case hd=>rfl);(case hg=>rfl);(case hr=>first|(go_simp;done)|(go_simp;rfl));intro gb217 hg w21 hbox hb;have n0_:=aM (Zg (g:=gb212) (o:= .cells #[.int .i64 a0_0,.slice (some ad214) l0_1.length c0_1] 46 (0,0)) (zB BK212) hb);have n1_:=aM (Zg (g:=gb213) (o:= .cells #[.int .i64 a1_0,.slice (some ad215) l1_1.length c1_1] 46 (0,0)) (zB BK213) hb);have n2_:=aM (Ze zz77 hb);have n3_:=aM (hbox);have n4_:=aM ((by rw[hg];exact(Zc zz77):w.heap.size≤gb217));have n5_:=aM ((by rw[hg];exact(Zc zz77):w.heap.size≤gb217));have n6_:=aM ((by rw[hg];exact Nat.ne_of_lt (Zw (g:=gb212) (o:= .cells #[.int .i64 a0_0,.slice (some ad214) l0_1.length c0_1] 46 (0,0)) (zB BK212)):gb212≠gb217));have n7_:=aM ((by rw[hg];exact Nat.ne_of_gt (Zw (g:=gb212) (o:= .cells #[.int .i64 a0_0,.slice (some ad214) l0_1.length c0_1] 46 (0,0)) (zB BK212)):gb217≠gb212));have n8_:=aM ((by rw[hg];exact Nat.ne_of_lt (Zw (g:=gb213) (o:= .cells #[.int .i64 a1_0,.slice (some ad215) l1_1.length c1_1] 46 (0,0)) (zB BK213)):gb213≠gb217));have n9_:=aM ((by rw[hg];exact Nat.ne_of_gt (Zw (g:=gb213) (o:= .cells #[.int .i64 a1_0,.slice (some ad215) l1_1.length c1_1] 46 (0,0)) (zB BK213)):gb217≠gb213));clear BK212;clear BK213;clear HB;have BK212:=n0_;have BK213:=n1_;have HB:=n2_;have BK217:=n3_;have GW217:=n4_;have GE217:=n5_;have NB212_217:=n6_;have NB217_212:=n7_;have NB213_217:=n8_;have NB217_213:=n9_;clear n0_ n1_ n2_ n3_ n4_ n5_ n6_ n7_ n8_ n9_;clear hb hbox hg
          refine hK.out _ _ ⟨(Zb BK212.out 0).trans rfl,(Zb BK212.out 1).trans rfl,(Zb BK213.out 0).trans rfl,(Zb BK213.out 1).trans rfl,((HB.out.cell (wB w _ hw214_0)).trans hw214_0),((HB.out.cell (wB w _ hw214_1)).trans hw214_1),((HB.out.cell (wB w _ hw214_2)).trans hw214_2),((HB.out.cell (wB w _ hw215_0)).trans hw215_0),((HB.out.cell (wB w _ hw215_1)).trans hw215_1),((HB.out.cell (wB w _ hw215_2)).trans hw215_2)⟩ (fun hHeld=> ?_);clear hK K
          refine ZT (a':= ?_) ?_ ?_;rotate_left
          ·show Act.put _ (some 7) _=_
           simp only[Act.put,sA,sB,sC,Zt,Zu];rfl
          refine one_ (i:=10) (N:=some 6) #[true,true,true,true,true,true,true,true,true,true,true,true,false,false] rfl rfl (Z0 HT_.out (by kernel_rfl)) (by decide) (fun K hK=> ?_)
          refine Z6 ?hg (N:=6) ?hd (cs:= #[.int .i64 0,.slice none 0 0,.slice none 0 0]) (t:=74) ?hr ?_;(case hd=>rfl);(case hg=>rfl);(case hr=>first|(go_simp;done)|(go_simp;rfl));intro gb216 hg w22 hbox hb;have n0_:=aM (Zg (g:=gb212) (o:= .cells #[.int .i64 a0_0,.slice (some ad214) l0_1.length c0_1] 46 (0,0)) (zB BK212) hb);have n1_:=aM (Zg (g:=gb213) (o:= .cells #[.int .i64 a1_0,.slice (some ad215) l1_1.length c1_1] 46 (0,0)) (zB BK213) hb);have n2_:=aM (Zg (g:=gb217) (o:= .cells #[.int .i64 0,.slice none 0 0,.slice none 0 0] 74 (0,0)) (zB BK217) hb);have n3_:=aM (Ze zz71 hb);have n4_:=aM (hbox);have n5_:=aM ((by rw[hg];exact(Zc zz71):w.heap.size≤gb216));have n6_:=aM ((by rw[hg];exact(Zc zz71):w.heap.size≤gb216));have n7_:=aM ((by rw[hg];exact Nat.ne_of_lt (Zw (g:=gb212) (o:= .cells #[.int .i64 a0_0,.slice (some ad214) l0_1.length c0_1] 46 (0,0)) (zB BK212)):gb212≠gb216));have n8_:=aM ((by rw[hg];exact Nat.ne_of_gt (Zw (g:=gb212) (o:= .cells #[.int .i64 a0_0,.slice (some ad214) l0_1.length c0_1] 46 (0,0)) (zB BK212)):gb216≠gb212));have n9_:=aM ((by rw[hg];exact Nat.ne_of_lt (Zw (g:=gb213) (o:= .cells #[.int .i64 a1_0,.slice (some ad215) l1_1.length c1_1] 46 (0,0)) (zB BK213)):gb213≠gb216));have n10_:=aM ((by rw[hg];exact Nat.ne_of_gt (Zw (g:=gb213) (o:= .cells #[.int .i64 a1_0,.slice (some ad215) l1_1.length c1_1] 46 (0,0)) (zB BK213)):gb216≠gb213));have n11_:=aM ((by rw[hg];exact Nat.ne_of_lt (Zw (g:=gb217) (o:= .cells #[.int .i64 0,.slice none 0 0,.slice none 0 0] 74 (0,0)) (zB BK217)):gb217≠gb216));have n12_:=aM ((by rw[hg];exact Nat.ne_of_gt (Zw (g:=gb217) (o:= .cells #[.int .i64 0,.slice none 0 0,.slice none 0 0] 74 (0,0)) (zB BK217)):gb216≠gb217));clear BK212;clear BK213;clear BK217;clear HB;have BK212:=n0_;have BK213:=n1_;have BK217:=n2_;have HB:=n3_;have BK216:=n4_;have GW216:=n5_;have GE216:=n6_;have NB212_216:=n7_;have NB216_212:=n8_;have NB213_216:=n9_;have NB216_213:=n10_;have NB217_216:=n11_;have NB216_217:=n12_;clear n0_ n1_ n2_ n3_ n4_ n5_ n6_ n7_ n8_ n9_ n10_ n11_ n12_;clear hb hbox hg
          refine hK.out _ _ ⟨(Zb BK212.out 0).trans rfl,(Zb BK212.out 1).trans rfl,(Zb BK213.out 0).trans rfl,(Zb BK213.out 1).trans rfl,((HB.out.cell (wB w _ hw214_0)).trans hw214_0),((HB.out.cell (wB w _ hw214_1)).trans hw214_1),((HB.out.cell (wB w _ hw214_2)).trans hw214_2),((HB.out.cell (wB w _ hw215_0)).trans hw215_0),((HB.out.cell (wB w _ hw215_1)).trans hw215_1),((HB.out.cell (wB w _ hw215_2)).trans hw215_2)⟩ (fun hHeld=> ?_);clear hK K
          refine ZT (a':= ?_) ?_ ?_;rotate_left
          ·show Act.put _ (some 6) _=_
           simp only[Act.put,sA,sB,sC,Zt,Zu];rfl
          exact ZT zz136 (hCont (gb216,gb217) _ ⟨hHeld,(zB BK212),(zB BK213),(zB BK216),(zB BK217),GW216.out,GE216.out,NB212_216.out,NB216_212.out,NB213_216.out,NB216_213.out,NB217_216.out,NB216_217.out,GW217.out,GE217.out,NB212_217.out,NB217_212.out,NB213_217.out,NB217_213.out,(by repeat(first|(with_reducible first|exact HB.out|apply Zn|apply Zf|apply Zh|refine Zk ?_ GE212.out|refine Zk ?_ GE213.out|refine Zk ?_ GE217.out|refine Zk ?_ GE216.out)|exact HB.out))⟩)
        rintro ⟨gb216,gb217⟩ w23 ⟨hS_,h0_,h1_,h2_,h3_,h4_,h5_,h6_,h7_,h8_,h9_,h10_,h11_,h12_,h13_,h14_,h15_,h16_,h17_,h18_⟩;have n0_:Aside0 (w23.heap[gb212]? =some (.cells #[.int .i64 a0_0,.slice (some ad214) l0_1.length c0_1] 46 (0,0))):=⟨h0_⟩;have n1_:Aside0 (w23.heap[gb213]? =some (.cells #[.int .i64 a1_0,.slice (some ad215) l1_1.length c1_1] 46 (0,0))):=⟨h1_⟩;have n2_:Aside0 (w23.heap[gb216]? =some (.cells #[.int .i64 0,.slice none 0 0,.slice none 0 0] 74 (0,0))):=⟨h2_⟩;have n3_:Aside0 (w23.heap[gb217]? =some (.cells #[.int .i64 0,.slice none 0 0,.slice none 0 0] 74 (0,0))):=⟨h3_⟩;have n4_:Aside0 (w.heap.size≤gb216):=⟨h4_⟩;have n5_:Aside0 (w.heap.size≤gb216):=⟨h5_⟩;have n6_:Aside0 (gb212≠gb216):=⟨h6_⟩;have n7_:Aside0 (gb216≠gb212):=⟨h7_⟩;have n8_:Aside0 (gb213≠gb216):=⟨h8_⟩;have n9_:Aside0 (gb216≠gb213):=⟨h9_⟩;have n10_:Aside0 (gb217≠gb216):=⟨h10_⟩;have n11_:Aside0 (gb216≠gb217):=⟨h11_⟩;have n12_:Aside0 (w.heap.size≤gb217):=⟨h12_⟩;have n13_:Aside0 (w.heap.size≤gb217):=⟨h13_⟩;have n14_:Aside0 (gb212≠gb217):=⟨h14_⟩;have n15_:Aside0 (gb217≠gb212):=⟨h15_⟩;have n16_:Aside0 (gb213≠gb217):=⟨h16_⟩;have n17_:Aside0 (gb217≠gb213):=⟨h17_⟩;have n18_:Aside0 (Below w.heap.size w w23):=⟨h18_⟩;clear BK212;clear BK213;clear HB;clear h0_ h1_ h2_ h3_ h4_ h5_ h6_ h7_ h8_ h9_ h10_ h11_ h12_ h13_ h14_ h15_ h16_ h17_ h18_;have BK212:=n0_;have BK213:=n1_;have BK216:=n2_;have BK217:=n3_;have GW216:=n4_;have GE216:=n5_;have NB212_216:=n6_;have NB216_212:=n7_;have NB213_216:=n8_;have NB216_213:=n9_;have NB217_216:=n10_;have NB216_217:=n11_;have GW217:=n12_;have GE217:=n13_;have NB212_217:=n14_;have NB217_212:=n15_;have NB213_217:=n16_;have NB217_213:=n17_;have HB:=n18_;clear n0_ n1_ n2_ n3_ n4_ n5_ n6_ n7_ n8_ n9_ n10_ n11_ n12_ n13_ n14_ n15_ n16_ n17_ n18_;have hHeld:w23.cell? ⟨gb212,0,none⟩=some (.int .i64 a0_0)∧w23.cell? ⟨gb212,1,none⟩=some (.slice (some ad214) l0_1.length c0_1)∧w23.cell? ⟨gb213,0,none⟩=some (.int .i64 a1_0)∧w23.cell? ⟨gb213,1,none⟩=some (.slice (some ad215) l1_1.length c1_1)∧w23.cell? (ad214.add ((x5_2).toNat*3))=some (.int .i64 ((Zd l0_1 x5_2).f0))∧w23.cell? ⟨(ad214.add ((x5_2).toNat*3)).block,(ad214.add ((x5_2).toNat*3)).off+1,none⟩=some (.slice A214_1 ((Zd l0_1 x5_2).f1).length c214_1)∧w23.cell? ⟨(ad214.add ((x5_2).toNat*3)).block,(ad214.add ((x5_2).toNat*3)).off+2,none⟩=some (.slice A214_2 ((Zd l0_1 x5_2).f2).length c214_2)∧w23.cell? (ad215.add ((x5_2).toNat*3))=some (.int .i64 ((Zd l1_1 x5_2).f0))∧w23.cell? ⟨(ad215.add ((x5_2).toNat*3)).block,(ad215.add ((x5_2).toNat*3)).off+1,none⟩=some (.slice A215_1 ((Zd l1_1 x5_2).f1).length c215_1)∧w23.cell? ⟨(ad215.add ((x5_2).toNat*3)).block,(ad215.add ((x5_2).toNat*3)).off+2,none⟩=some (.slice A215_2 ((Zd l1_1 x5_2).f2).length c215_2):=hS_
        refine ZT (a':= ?_) ?_ ?_;rotate_left
        ·simp only[putAll,Act.put,sA,sB,sC];rfl
        refine one_ (i:=12) (N:=none) #[true,true,true,true,true,true,true,true,true,true,true,true,true,false] rfl rfl (Z0 HT_.out (by kernel_rfl)) (by decide) (fun K hK=> ?_);have hs24:w23.cell? ⟨gb216,0,none⟩=some (.int .i64 0):=(Zb BK216.out 0).trans rfl;have hfs24:=Za BK216.out 0;have hns24_0:=NB212_216.out;have hns24_1:=NB213_216.out;have hns24_3:=NB217_216.out;have hms24_0:=NB216_212.out;have hms24_1:=NB216_213.out;have hms24_3:=NB216_217.out;have hs25:w23.cell? ⟨gb216,1,none⟩=some (.slice none 0 0):=(Zb BK216.out 1).trans rfl;have hfs25:=Za BK216.out 1;have hns25_0:=NB212_216.out;have hns25_1:=NB213_216.out;have hns25_3:=NB217_216.out;have hms25_0:=NB216_212.out;have hms25_1:=NB216_213.out;have hms25_3:=NB216_217.out;have hs26:w23.cell? ⟨gb216,2,none⟩=some (.slice none 0 0):=(Zb BK216.out 2).trans rfl;have hfs26:=Za BK216.out 2;have hns26_0:=NB212_216.out;have hns26_1:=NB213_216.out;have hns26_3:=NB217_216.out;have hms26_0:=NB216_212.out;have hms26_1:=NB216_213.out;have hms26_3:=NB216_217.out
        refine skip_ (w1:= ?_) (by rfl) rfl ?_ ?_;rotate_left
        ·go_simp;rfl
        refine hK.out _ _ ⟨((cell_far (p:=⟨gb216,_,none⟩) NB212_216.out _).trans (((cell_far (p:=⟨gb216,_,none⟩) NB212_216.out _).trans (((cell_far (p:=⟨gb216,_,none⟩) NB212_216.out _).trans (hHeld.1)))))),((cell_far (p:=⟨gb216,_,none⟩) NB212_216.out _).trans (((cell_far (p:=⟨gb216,_,none⟩) NB212_216.out _).trans (((cell_far (p:=⟨gb216,_,none⟩) NB212_216.out _).trans (hHeld.2.1)))))),((cell_far (p:=⟨gb216,_,none⟩) NB213_216.out _).trans (((cell_far (p:=⟨gb216,_,none⟩) NB213_216.out _).trans (((cell_far (p:=⟨gb216,_,none⟩) NB213_216.out _).trans (hHeld.2.2.1)))))),((cell_far (p:=⟨gb216,_,none⟩) NB213_216.out _).trans (((cell_far (p:=⟨gb216,_,none⟩) NB213_216.out _).trans (((cell_far (p:=⟨gb216,_,none⟩) NB213_216.out _).trans (hHeld.2.2.2.1)))))),((cell_far (p:=⟨gb216,_,none⟩) zz9 _).trans (((cell_far (p:=⟨gb216,_,none⟩) zz9 _).trans (((cell_far (p:=⟨gb216,_,none⟩) zz9 _).trans (hHeld.2.2.2.2.1)))))),((cell_far (p:=⟨gb216,_,none⟩) zz10 _).trans (((cell_far (p:=⟨gb216,_,none⟩) zz10 _).trans (((cell_far (p:=⟨gb216,_,none⟩) zz10 _).trans (hHeld.2.2.2.2.2.1)))))),((cell_far (p:=⟨gb216,_,none⟩) zz11 _).trans (((cell_far (p:=⟨gb216,_,none⟩) zz11 _).trans (((cell_far (p:=⟨gb216,_,none⟩) zz11 _).trans (hHeld.2.2.2.2.2.2.1)))))),((cell_far (p:=⟨gb216,_,none⟩) zz12 _).trans (((cell_far (p:=⟨gb216,_,none⟩) zz12 _).trans (((cell_far (p:=⟨gb216,_,none⟩) zz12 _).trans (hHeld.2.2.2.2.2.2.2.1)))))),((cell_far (p:=⟨gb216,_,none⟩) zz13 _).trans (((cell_far (p:=⟨gb216,_,none⟩) zz13 _).trans (((cell_far (p:=⟨gb216,_,none⟩) zz13 _).trans (hHeld.2.2.2.2.2.2.2.2.1)))))),((cell_far (p:=⟨gb216,_,none⟩) zz14 _).trans (((cell_far (p:=⟨gb216,_,none⟩) zz14 _).trans (((cell_far (p:=⟨gb216,_,none⟩) zz14 _).trans (hHeld.2.2.2.2.2.2.2.2.2))))))⟩ (fun hHeld=> ?_);clear hK K
        refine one_ (i:=13) (N:=none) #[true,true,true,true,true,true,true,true,true,true,true,true,true,true] rfl rfl (Z0 HT_.out (by kernel_rfl)) (by decide) (fun K hK=> ?_);have hs27:w23.cell? ⟨gb217,0,none⟩=some (.int .i64 0):=(Zb BK217.out 0).trans rfl;have hfs27:=Za BK217.out 0;have hns27_0:=NB212_217.out;have hns27_1:=NB213_217.out;have hns27_2:=NB216_217.out;have hms27_0:=NB217_212.out;have hms27_1:=NB217_213.out;have hms27_2:=NB217_216.out;have hs28:w23.cell? ⟨gb217,1,none⟩=some (.slice none 0 0):=(Zb BK217.out 1).trans rfl;have hfs28:=Za BK217.out 1;have hns28_0:=NB212_217.out;have hns28_1:=NB213_217.out;have hns28_2:=NB216_217.out;have hms28_0:=NB217_212.out;have hms28_1:=NB217_213.out;have hms28_2:=NB217_216.out;have hs29:w23.cell? ⟨gb217,2,none⟩=some (.slice none 0 0):=(Zb BK217.out 2).trans rfl;have hfs29:=Za BK217.out 2;have hns29_0:=NB212_217.out;have hns29_1:=NB213_217.out;have hns29_2:=NB216_217.out;have hms29_0:=NB217_212.out;have hms29_1:=NB217_213.out;have hms29_2:=NB217_216.out
        refine skip_ (w1:= ?_) (by rfl) rfl ?_ ?_;rotate_left
        ·go_simp;rfl
        refine hK.out _ _ ⟨((cell_far (p:=⟨gb217,_,none⟩) NB212_217.out _).trans (((cell_far (p:=⟨gb217,_,none⟩) NB212_217.out _).trans (((cell_far (p:=⟨gb217,_,none⟩) NB212_217.out _).trans (hHeld.1)))))),((cell_far (p:=⟨gb217,_,none⟩) NB212_217.out _).trans (((cell_far (p:=⟨gb217,_,none⟩) NB212_217.out _).trans (((cell_far (p:=⟨gb217,_,none⟩) NB212_217.out _).trans (hHeld.2.1)))))),((cell_far (p:=⟨gb217,_,none⟩) NB213_217.out _).trans (((cell_far (p:=⟨gb217,_,none⟩) NB213_217.out _).trans (((cell_far (p:=⟨gb217,_,none⟩) NB213_217.out _).trans (hHeld.2.2.1)))))),((cell_far (p:=⟨gb217,_,none⟩) NB213_217.out _).trans (((cell_far (p:=⟨gb217,_,none⟩) NB213_217.out _).trans (((cell_far (p:=⟨gb217,_,none⟩) NB213_217.out _).trans (hHeld.2.2.2.1)))))),((cell_far (p:=⟨gb217,_,none⟩) zz15 _).trans (((cell_far (p:=⟨gb217,_,none⟩) zz15 _).trans (((cell_far (p:=⟨gb217,_,none⟩) zz15 _).trans (hHeld.2.2.2.2.1)))))),((cell_far (p:=⟨gb217,_,none⟩) zz16 _).trans (((cell_far (p:=⟨gb217,_,none⟩) zz16 _).trans (((cell_far (p:=⟨gb217,_,none⟩) zz16 _).trans (hHeld.2.2.2.2.2.1)))))),((cell_far (p:=⟨gb217,_,none⟩) zz17 _).trans (((cell_far (p:=⟨gb217,_,none⟩) zz17 _).trans (((cell_far (p:=⟨gb217,_,none⟩) zz17 _).trans (hHeld.2.2.2.2.2.2.1)))))),((cell_far (p:=⟨gb217,_,none⟩) zz18 _).trans (((cell_far (p:=⟨gb217,_,none⟩) zz18 _).trans (((cell_far (p:=⟨gb217,_,none⟩) zz18 _).trans (hHeld.2.2.2.2.2.2.2.1)))))),((cell_far (p:=⟨gb217,_,none⟩) zz19 _).trans (((cell_far (p:=⟨gb217,_,none⟩) zz19 _).trans (((cell_far (p:=⟨gb217,_,none⟩) zz19 _).trans (hHeld.2.2.2.2.2.2.2.2.1)))))),((cell_far (p:=⟨gb217,_,none⟩) zz20 _).trans (((cell_far (p:=⟨gb217,_,none⟩) zz20 _).trans (((cell_far (p:=⟨gb217,_,none⟩) zz20 _).trans (hHeld.2.2.2.2.2.2.2.2.2))))))⟩ (fun hHeld=> ?_);clear hK K
        refine done_ (done_of HT_.out (by kernel_rfl)) ?_
        go_upto_region 7 with(fail)
        go_cut [59] (fun v59 wc=>∃(kq:Nat) (x59_16:Bool),v59= .bool x59_16∧Aside0 (r30_Same.j2 kq x5_2 x59_16 a0_0 l0_1 a1_0 l1_1=some r)∧Aside0 (kq≤k2)∧Aside0 (wc.heap[gb212]? =some (.cells #[.int .i64 a0_0,(.slice (some ad214) l0_1.length c0_1)] 46 (0,0)))∧Aside0 (wc.heap[gb213]? =some (.cells #[.int .i64 a1_0,(.slice (some ad215) l1_1.length c1_1)] 46 (0,0)))∧Aside0 (wc.heap[gb216]? =some (.cells #[.int .i64 ((Zd l0_1 x5_2).f0),(.slice A214_1 ((Zd l0_1 x5_2).f1).length c214_1),(.slice A214_2 ((Zd l0_1 x5_2).f2).length c214_2)] 74 (0,0)))∧Aside0 (wc.heap[gb217]? =some (.cells #[.int .i64 ((Zd l1_1 x5_2).f0),(.slice A215_1 ((Zd l1_1 x5_2).f1).length c215_1),(.slice A215_2 ((Zd l1_1 x5_2).f2).length c215_2)] 74 (0,0)))∧Aside0 (Below w.heap.size w wc))
        case first=>
         have H:=HC17.out;clear HC17
         by_cases c30:((Zd l0_1 x5_2).f0)=((Zd l1_1 x5_2).f0)
         ·rw [if_pos c30] at H;have c30b0:=beq_iff_eq.mpr c30;have c30b1:=bne_eq_false_iff_eq.mpr c30;clear c30
          (first|rw[c30b0]|(simp only[Zt,Zu];rw[c30b0])|skip)
          replace H:=oB H;obtain⟨t218,A310,H⟩:=H;replace H:(if t218=true then((r09_SameRows.f k2 ((Zd l0_1 x5_2).f2) ((Zd l1_1 x5_2).f2)).bind fun t219=>(r30_Same.j2 k2 x5_2 (!t219) a0_0 l0_1 a1_0 l1_1)) else(r30_Same.j2 k2 x5_2 true a0_0 l0_1 a1_0 l1_1))=some r:=H;have A31:=aM A310;clear A310
          by_cases c32:t218=true
          ·subst c32;have H1:((r09_SameRows.f k2 ((Zd l0_1 x5_2).f2) ((Zd l1_1 x5_2).f2)).bind fun t219=>(r30_Same.j2 k2 x5_2 (!t219) a0_0 l0_1 a1_0 l1_1))=some r:=by rw[if_pos rfl] at H;exact H
           clear H;have H:=H1;clear H1;replace H:=oB H;obtain⟨t219,A330,H⟩:=H;replace H:(r30_Same.j2 k2 x5_2 (!t219) a0_0 l0_1 a1_0 l1_1)=some r:=H;have A33:=aM A330;clear A330;have H':=aM H;clear H;have hnb34:=NB216_212.out;have hnc34:=NB212_216.out;have hnb35:=NB216_213.out;have hnc35:=NB213_216.out;have hnb36:=NB216_217.out;have hnc36:=NB217_216.out;have hcz37_0:w23.cell? ⟨gb216,0,none⟩=some (.int .i64 0):=(Zb BK216.out 0).trans rfl;have hcz37_1:w23.cell? ⟨gb216,1,none⟩=some (.slice none 0 0):=(Zb BK216.out 1).trans rfl;have hcz37_2:w23.cell? ⟨gb216,2,none⟩=some (.slice none 0 0):=(Zb BK216.out 2).trans rfl;have hfz37_0:=Za BK216.out 0;have hfz37_1:=Za BK216.out 1;have hfz37_2:=Za BK216.out 2;have hnb38:=NB217_212.out;have hnc38:=NB212_217.out;have hnb39:=NB217_213.out;have hnc39:=NB213_217.out;have hcz40_0:w23.cell? ⟨gb217,0,none⟩=some (.int .i64 0):=(Zb BK217.out 0).trans rfl;have hcz40_1:w23.cell? ⟨gb217,1,none⟩=some (.slice none 0 0):=(Zb BK217.out 1).trans rfl;have hcz40_2:w23.cell? ⟨gb217,2,none⟩=some (.slice none 0 0):=(Zb BK217.out 2).trans rfl;have hfz40_0:=Za BK217.out 0;have hfz40_1:=Za BK217.out 1;have hfz40_2:=Za BK217.out 2
           go_wp2_with (first|(go_at_call 15;(with_reducible refine(r09_SameInts.calls k2 _ _ ((Zd l0_1 x5_2).f1) _ _ ((Zd l1_1 x5_2).f1) true _ ?side1 ?side2 ?side3 ?side4 A31.out).mono ?_);(case side1=>exact Kd.C_below HR214_1.out zz59);(case side2=>exact HC214_1.out);(case side3=>exact Kd.C_below HR215_1.out zz59);(case side4=>exact HC215_1.out);rintro e w' ⟨rfl,⟨nd,rfl⟩⟩)|(go_at_call 24;(with_reducible refine(r09_SameRows.calls k2 _ _ ((Zd l0_1 x5_2).f2) _ _ ((Zd l1_1 x5_2).f2) t219 _ ?side1 ?side2 ?side3 ?side4 A33.out).mono ?_);(case side1=>exact Kd.C_below HR214_2.out zz59);(case side2=>exact HC214_2.out);(case side3=>exact Kd.C_below HR215_2.out zz59);(case side4=>exact HC215_2.out);rintro e w' ⟨rfl,⟨nd,rfl⟩⟩))
           go_meet
           case rel=>exact⟨_,(!t219),zz152,H',⟨zz149⟩,⟨zz3⟩,⟨zz4⟩,⟨zz0⟩,⟨zz1⟩,⟨zz59⟩⟩
          replace c32:=Bool.eq_false_iff.mpr c32;subst c32;have H1:(r30_Same.j2 k2 x5_2 true a0_0 l0_1 a1_0 l1_1)=some r:=by rw[if_neg (show¬(false=true) by decide)] at H;exact H
          clear H;have H:=H1;clear H1;have H':=aM H;clear H;have hnb41:=NB216_212.out;have hnc41:=NB212_216.out;have hnb42:=NB216_213.out;have hnc42:=NB213_216.out;have hnb43:=NB216_217.out;have hnc43:=NB217_216.out;have hcz44_0:w23.cell? ⟨gb216,0,none⟩=some (.int .i64 0):=(Zb BK216.out 0).trans rfl;have hcz44_1:w23.cell? ⟨gb216,1,none⟩=some (.slice none 0 0):=(Zb BK216.out 1).trans rfl;have hcz44_2:w23.cell? ⟨gb216,2,none⟩=some (.slice none 0 0):=(Zb BK216.out 2).trans rfl;have hfz44_0:=Za BK216.out 0;have hfz44_1:=Za BK216.out 1;have hfz44_2:=Za BK216.out 2;have hnb45:=NB217_212.out;have hnc45:=NB212_217.out;have hnb46:=NB217_213.out;have hnc46:=NB213_217.out;have hcz47_0:w23.cell? ⟨gb217,0,none⟩=some (.int .i64 0):=(Zb BK217.out 0).trans rfl;have hcz47_1:w23.cell? ⟨gb217,1,none⟩=some (.slice none 0 0):=(Zb BK217.out 1).trans rfl;have hcz47_2:w23.cell? ⟨gb217,2,none⟩=some (.slice none 0 0):=(Zb BK217.out 2).trans rfl;have hfz47_0:=Za BK217.out 0;have hfz47_1:=Za BK217.out 1;have hfz47_2:=Za BK217.out 2
          go_wp2_with (first|(go_at_call 15;(with_reducible refine(r09_SameInts.calls k2 _ _ ((Zd l0_1 x5_2).f1) _ _ ((Zd l1_1 x5_2).f1) false _ ?side1 ?side2 ?side3 ?side4 A31.out).mono ?_);(case side1=>exact Kd.C_below HR214_1.out zz59);(case side2=>exact HC214_1.out);(case side3=>exact Kd.C_below HR215_1.out zz59);(case side4=>exact HC215_1.out);rintro e w' ⟨rfl,⟨nd,rfl⟩⟩))
          go_meet
          case rel=>exact⟨_,(true),zz152,H',⟨zz149⟩,⟨zz3⟩,⟨zz4⟩,⟨zz0⟩,⟨zz1⟩,⟨zz59⟩⟩
         rw[if_neg c30] at H;have c30b0:=beq_eq_false_iff_ne.mpr c30;have c30b1:=bne_iff_ne.mpr c30
         (first|rw[c30b0]|(simp only[Zt,Zu];rw[c30b0])|skip)
         have H':=aM H;clear H;have hnb48:=NB216_212.out;have hnc48:=NB212_216.out;have hnb49:=NB216_213.out;have hnc49:=NB213_216.out;have hnb50:=NB216_217.out;have hnc50:=NB217_216.out;have hcz51_0:w23.cell? ⟨gb216,0,none⟩=some (.int .i64 0):=(Zb BK216.out 0).trans rfl;have hcz51_1:w23.cell? ⟨gb216,1,none⟩=some (.slice none 0 0):=(Zb BK216.out 1).trans rfl;have hcz51_2:w23.cell? ⟨gb216,2,none⟩=some (.slice none 0 0):=(Zb BK216.out 2).trans rfl;have hfz51_0:=Za BK216.out 0;have hfz51_1:=Za BK216.out 1;have hfz51_2:=Za BK216.out 2;have hnb52:=NB217_212.out;have hnc52:=NB212_217.out;have hnb53:=NB217_213.out;have hnc53:=NB213_217.out;have hcz54_0:w23.cell? ⟨gb217,0,none⟩=some (.int .i64 0):=(Zb BK217.out 0).trans rfl;have hcz54_1:w23.cell? ⟨gb217,1,none⟩=some (.slice none 0 0):=(Zb BK217.out 1).trans rfl;have hcz54_2:w23.cell? ⟨gb217,2,none⟩=some (.slice none 0 0):=(Zb BK217.out 2).trans rfl;have hfz54_0:=Za BK217.out 0;have hfz54_1:=Za BK217.out 1;have hfz54_2:=Za BK217.out 2;go_wp2;go_meet
         case rel=>exact⟨_,(true),zz152,H',⟨zz149⟩,⟨zz3⟩,⟨zz4⟩,⟨zz0⟩,⟨zz1⟩,⟨zz59⟩⟩
        case rest=>
         clear HC17;(try clear c1);(try clear c2);(try clear p2);(try clear q2);(try clear hx2);(try clear c3);(try clear c4);(try clear c5);(try clear c6);(try clear c6b0);(try clear c6b1);(try clear c7);(try clear c10);(try clear c13);(try clear c14);(try clear c14b0);(try clear c15);(try clear c15b0);(try clear c16);(try clear c16b0);(try clear c18);(try clear c21);(try clear p21);(try clear q21);(try clear hx21);(try clear c30);(try clear c30b0);(try clear c30b1);(try clear c32);(try clear c34);(try clear c35);(try clear c36);(try clear c38);(try clear c39);(try clear c41);(try clear c42);(try clear c43);(try clear c45);(try clear c46);(try clear c48);(try clear c49);(try clear c50);(try clear c52);(try clear c53);(try clear hcz11_0);(try clear hcz11_1);(try clear hcz12_0);(try clear hcz12_1);(try clear hcz19_0);(try clear hcz19_1);(try clear hcz37_0);(try clear hcz37_1);(try clear hcz37_2);(try clear hcz40_0);(try clear hcz40_1);(try clear hcz40_2);(try clear hcz44_0);(try clear hcz44_1);(try clear hcz44_2);(try clear hcz47_0);(try clear hcz47_1);(try clear hcz47_2);(try clear hcz51_0);(try clear hcz51_1);(try clear hcz51_2);(try clear hcz54_0);(try clear hcz54_1);(try clear hcz54_2);(try clear hcz8_0);(try clear hcz8_1);(try clear hcz9_0);(try clear hcz9_1);(try clear hfz11_0);(try clear hfz11_1);(try clear hfz12_0);(try clear hfz12_1);(try clear hfz19_0);(try clear hfz19_1);(try clear hfz37_0);(try clear hfz37_1);(try clear hfz37_2);(try clear hfz40_0);(try clear hfz40_1);(try clear hfz40_2);(try clear hfz44_0);(try clear hfz44_1);(try clear hfz44_2);(try clear hfz47_0);(try clear hfz47_1);(try clear hfz47_2);(try clear hfz51_0);(try clear hfz51_1);(try clear hfz51_2);(try clear hfz54_0);(try clear hfz54_1);(try clear hfz54_2);(try clear hfz8_0);(try clear hfz8_1);(try clear hfz9_0);(try clear hfz9_1);(try clear hx214_0);(try clear hx214_1);(try clear hx214_2);(try clear hx215_0);(try clear hx215_1);(try clear hx215_2);(try clear p2);(try clear p214);(try clear p215);(try clear q214);(try clear q215);obtain⟨kq,x59_16,rfl,HA,HJ16,BK212,BK213,BK216,BK217,HB⟩:=hcut
         cases kq with
         |zero=>exact absurd HA.out (by simp[r30_Same.j2])
         | succ kj16=>
          have H:=HA.out;clear HA;simp only[r30_Same.j2] at H
          by_cases c55:x59_16=true
          ·subst c55;have H1:(some false)=some r:=by rw[if_pos rfl] at H;exact H
           clear H;have H:=H1;clear H1;obtain rfl:=oI H;go_wp2;go_ret
           exact⟨by first|rfl|(simp[Zj,Zi]<;>rfl)|(simp[*,Zj,Zi]<;>rfl),by repeat(first|(with_reducible first|exact HB.out|apply Zn|apply Zf|apply Zh|refine Zk ?_ GE212.out|refine Zk ?_ GE213.out|refine Zk ?_ GE216.out|refine Zk ?_ GE217.out)|exact HB.out)⟩
          replace c55:=Bool.eq_false_iff.mpr c55;subst c55;have H1:(r30_Same.l0 kj16 (wrap64 (x5_2+1)) a0_0 l0_1 a1_0 l1_1)=some r:=by rw[if_neg (show¬(false=true) by decide)] at H;exact H
          clear H;have H:=H1;clear H1;have H':=aM H;clear H;go_wp2
          go_roundg kj16
          case measure=>have:=HJ2.out;have:=HK2.out;have:=HJ16.out;omega
          case rel=>exact⟨(wrap64 (x5_2+1)),zz152,H',⟨(by have:=HJ2.out;have:=HK2.out;have:=HJ16.out;omega)⟩,⟨(zB BK212)⟩,⟨(zB BK213)⟩,⟨zz59⟩⟩
       rw[if_neg c16] at H
       exact absurd H (by simp)
      rw[if_neg c15] at H
      exact absurd H (by simp)
     rw[if_neg c14] at H;have c14b0:=dF c14;clear c14;obtain rfl:=oI H;have hnb56:=NB212_213.out;have hnc56:=NB213_212.out;have hcz57_0:wr.cell? ⟨gb212,0,none⟩=some (.int .i64 a0_0):=(Zb BK212.out 0).trans rfl;have hcz57_1:wr.cell? ⟨gb212,1,none⟩=some (.slice A0_1 l0_1.length c0_1):=(Zb BK212.out 1).trans rfl;have hfz57_0:=Za BK212.out 0;have hfz57_1:=Za BK212.out 1;go_wp2;go_ret
     exact⟨by first|rfl|(simp[Zj,Zi]<;>rfl)|(simp[*,Zj,Zi]<;>rfl),by repeat(first|(with_reducible first|exact HB.out|apply Zn|apply Zf|apply Zh|refine Zk ?_ GE212.out|refine Zk ?_ GE213.out)|exact HB.out)⟩
mutual
def r30_Check.j0:Nat→List Int→Int→Bool→Option (Int)
 |0,_,_,_=>none
 |k+1,x0,x3,x14=>if x14=true then(some 4) else(r30_Check.l0 k x0 x3 0)
def r30_Check.l0:Nat→List Int→Int→Int→Option (Int)
 |0,_,_,_=>none
 |k+1,x0,x3,x4=>if x4<x3 then(if 0≤x4 then(if x4<(x0.length:Int) then(if(rd x0 x4)<0 then(some 6) else(if(rd x0 x4)≥x3 then(some 6) else(r30_Check.l0 k x0 x3 (wrap64 (x4+1))))) else(none)) else(none)) else(r30_Check.l1 k x0 x3 0)
def r30_Check.l1:Nat→List Int→Int→Int→Option (Int)
 |0,_,_,_=>none
 |k+1,x0,x3,x5=>if x5<x3 then(r30_Check.l2 k x0 x3 x5 0) else(some 0)
def r30_Check.l2:Nat→List Int→Int→Int→Int→Option (Int)
 |0,_,_,_,_=>none
 |k+1,x0,x3,x5,x6=>if x6<x5 then(if 0≤x5 then(if x5<(x0.length:Int) then(if 0≤x6 then(if x6<(x0.length:Int) then(if(rd x0 x5)=(rd x0 x6) then(some 18) else(r30_Check.l2 k x0 x3 x5 (wrap64 (x6+1)))) else(none)) else(none)) else(none)) else(none)) else(r30_Check.l1 k x0 x3 (wrap64 (x5+1)))
end
def r30_Check.f (k:Nat) (l0:List Int):Option (Int):=if(l0.length:Int)<1 then(r30_Check.j0 k l0 (l0.length:Int) true) else(r30_Check.j0 k l0 (l0.length:Int) (decide ((l0.length:Int)>64)))
theorem r30_Check.calls (k : Nat) (A0:Option Addr) (c0:Nat) (l0:List Int) (r:Int) (w:World) (hr0:Kd.C (Kd.int .i64) w A0 l0.length l0) (hc0:l0.length≤c0) (h:r30_Check.f k l0=some r):
    Calls Try.prog 17 #[.slice A0 l0.length c0] w fun e w'=>e= .returned (.int .i64 r)∧Drawn0 w w':=by
 have HR0:=aM hr0
 have HC0:=aM hc0
 clear hr0 hc0
 have H:(if(l0.length:Int)<1 then(r30_Check.j0 k l0 (l0.length:Int) true) else(r30_Check.j0 k l0 (l0.length:Int) (decide ((l0.length:Int)>64))))=some r:=h
 clear h
 have HC2:=aM H
 clear H
 go_enter Try.func17,Try.ntmps17
 go_upto_region 2 with(fail)
 repeat(go_quiet (fail);go_upto_region 2 with(fail))
 go_cut [14] (fun v14 wc=>∃(kq:Nat) (x14_1:Bool),v14= .bool x14_1∧Aside0 (r30_Check.j0 kq l0 (l0.length:Int) x14_1=some r)∧Aside0 (kq≤k)∧Drawn0 w wc)
 case first=>
  have H:=HC2.out;clear HC2
  by_cases c3:(l0.length:Int)<1
  ·rw[if_pos c3] at H;have c3b0:=dT c3;have c3b1:decide (l0.length<1)=true:=dT (by omega);clear c3
   (first|rw[c3b0]|(simp only[Zt,Zu];rw[c3b0])|skip)
   have H':=aM H;clear H;go_wp2
   repeat(go_quiet (fail);try go_wp2)
   go_meet
   case rel=>exact⟨_,(true),zz152,H',⟨zz154⟩,by repeat(first|exact Drawn0.refl _|apply Drawn0.step)⟩
  rw[if_neg c3] at H;have c3b0:=dF c3;have c3b1:decide (l0.length<1)=false:=dF (by omega);clear c3
  (first|rw[c3b0]|(simp only[Zt,Zu];rw[c3b0])|skip)
  have H':=aM H;clear H;go_wp2
  repeat(go_quiet (fail);try go_wp2)
  go_meet
  case rel=>exact⟨_,(decide ((l0.length:Int)>64)),zz152,H',⟨zz154⟩,by repeat(first|exact Drawn0.refl _|apply Drawn0.step)⟩
 case rest=>
  clear HC2;(try clear c1);(try clear p2);(try clear c3);(try clear c3b0);(try clear c3b1);obtain⟨kq,x14_1,rfl,HA,HJ1,⟨mc1,rfl⟩⟩:=hcut
  cases kq with
  |zero=>exact absurd HA.out (by simp[r30_Check.j0])
  | succ kj1 =>
   have H:=HA.out;clear HA;simp only[r30_Check.j0] at H
   by_cases c4:x14_1=true
   ·subst c4;have H1:(some 4)=some r:=by rw[if_pos rfl] at H;exact H
    clear H;have H:=H1;clear H1;obtain rfl:=oI H;go_wp2
    repeat(go_quiet (fail);try go_wp2)
    go_ret
    exact⟨by first|rfl|(simp;done)|(simp[*];done),by repeat(first|exact Drawn0.refl _|apply Drawn0.step)⟩
   replace c4:=Bool.eq_false_iff.mpr c4;subst c4;have H1:(r30_Check.l0 kj1 l0 (l0.length:Int) 0)=some r:=by rw[if_neg (show¬(false=true) by decide)] at H;exact H
   clear H;have H:=H1;clear H1;have H':=aM H;clear H;go_wp2
   repeat(go_quiet (fail);try go_wp2)
   go_loopg [4] kj1 (fun kq v4 w'=>∃(x4_2:Int),v4= .int .i64 x4_2∧Aside0 (r30_Check.l0 kq l0 (l0.length:Int) x4_2=some r)∧Aside0 (kq≤kj1)∧Drawn0 w w')
   case atStart=>exact⟨(0),zz152,H',⟨Nat.le_refl _⟩,by repeat(first|exact Drawn0.refl _|apply Drawn0.step)⟩
   case round =>
    clear H';(try clear c1);(try clear p2);(try clear c3);(try clear c3b0);(try clear c3b1);(try clear c4);(try clear p2);obtain⟨x4_2,rfl,HA,HK2,⟨m2,rfl⟩⟩:=hrel
    cases gk with
    |zero=>exact absurd HA.out (by simp[r30_Check.l0])
    | succ k2=>
     have H:=HA.out;clear HA;simp only[r30_Check.l0] at H
     by_cases c5:x4_2<(l0.length:Int)
     ·rw [if_pos c5] at H;have c5b0:=dT c5;clear c5
      by_cases c6:0≤x4_2
      ·rw [if_pos c6] at H;have c6b0:=dT c6;clear c6
       by_cases c7:x4_2<(l0.length:Int)
       ·rw [if_pos c7] at H;have c7b0:=dT c7;clear c7
        by_cases c8:(rd l0 x4_2)<0
        ·rw[if_pos c8] at H;have c8b0:=dT c8;clear c8;obtain rfl:=oI H;have p311:0≤(x4_2:Int):=oD zz151;have q311:x4_2<(l0.length:Int):=oD zz151;obtain⟨ad311,e311,hx311_0⟩:=Kd.at_int HR0.out x4_2 p311 q311
         cases e311;replace p311:=eq_true p311;replace q311:=eq_true q311;go_wp2
         repeat(go_quiet (fail);try go_wp2)
         go_ret
         exact⟨by first|rfl|(simp;done)|(simp[*];done),by repeat(first|exact Drawn0.refl _|apply Drawn0.step)⟩
        rw[if_neg c8] at H;have c8b0:=dF c8;clear c8
        by_cases c9:(rd l0 x4_2)≥(l0.length:Int)
        ·rw[if_pos c9] at H;have c9b0:=dT c9;clear c9;obtain rfl:=oI H;have p311:0≤(x4_2:Int):=oD zz151;have q311:x4_2<(l0.length:Int):=oD zz151;obtain⟨ad311,e311,hx311_0⟩:=Kd.at_int HR0.out x4_2 p311 q311
         cases e311;replace p311:=eq_true p311;replace q311:=eq_true q311;have p312:0≤(x4_2:Int):=oD zz151;have q312:x4_2<(l0.length:Int):=oD zz151;obtain⟨ad312,e312,hx312_0⟩:=Kd.at_int HR0.out x4_2 p312 q312;obtain rfl:ad311=ad312:=(by injection e312);replace p312:=eq_true p312;replace q312:=eq_true q312;go_wp2
         repeat(go_quiet (fail);try go_wp2)
         go_ret
         exact⟨by first|rfl|(simp;done)|(simp[*];done),by repeat(first|exact Drawn0.refl _|apply Drawn0.step)⟩
        rw[if_neg c9] at H;have c9b0:=dF c9;clear c9;have H':=aM H;clear H;have p311:0≤(x4_2:Int):=oD zz151;have q311:x4_2<(l0.length:Int):=oD zz151;obtain⟨ad311,e311,hx311_0⟩:=Kd.at_int HR0.out x4_2 p311 q311
        cases e311;replace p311:=eq_true p311;replace q311:=eq_true q311;have p312:0≤(x4_2:Int):=oD zz151;have q312:x4_2<(l0.length:Int):=oD zz151;obtain⟨ad312,e312,hx312_0⟩:=Kd.at_int HR0.out x4_2 p312 q312;obtain rfl:ad311=ad312:=(by injection e312);replace p312:=eq_true p312;replace q312:=eq_true q312;go_wp2
        repeat(go_quiet (fail);try go_wp2)
        go_roundg k2
        case measure=>have:=HJ1.out;have:=HK2.out;omega
        case rel=>exact⟨(wrap64 (x4_2+1)),zz152,H',⟨(by have:=HJ1.out;have:=HK2.out;omega)⟩,by repeat(first|exact Drawn0.refl _|apply Drawn0.step)⟩
       rw[if_neg c7] at H
       exact absurd H (by simp)
      rw[if_neg c6] at H
      exact absurd H (by simp)
     rw[if_neg c5] at H;have c5b0:=dF c5;clear c5;have H':=aM H;clear H;go_wp2
     repeat(go_quiet (fail);try go_wp2)
     go_loopg [5] k2 (fun kq v5 w'=>∃(x5_3:Int),v5= .int .i64 x5_3∧Aside0 (r30_Check.l1 kq l0 (l0.length:Int) x5_3=some r)∧Aside0 (kq≤k2)∧Drawn0 w w')
     case atStart=>exact⟨(0),zz152,H',⟨Nat.le_refl _⟩,by repeat(first|exact Drawn0.refl _|apply Drawn0.step)⟩
     case round =>
      clear H';(try clear c1);(try clear p2);(try clear c3);(try clear c3b0);(try clear c3b1);(try clear p3);(try clear q3);(try clear hx3);(try clear c4);(try clear c5);(try clear c5b0);(try clear c6);(try clear c6b0);(try clear p6);(try clear c7);(try clear c7b0);(try clear c8);(try clear c8b0);(try clear c9);(try clear c9b0);(try clear hx311_0);(try clear hx312_0);(try clear p2);(try clear p311);(try clear p312);(try clear q311);(try clear q312);obtain⟨x5_3,rfl,HA,HK3,⟨m3,rfl⟩⟩:=hrel
      cases gk with
      |zero=>exact absurd HA.out (by simp[r30_Check.l1])
      | succ k3=>
       have H:=HA.out;clear HA;simp only[r30_Check.l1] at H
       by_cases c10:x5_3<(l0.length:Int)
       ·rw [if_pos c10] at H;have c10b0:=dT c10;clear c10;have H':=aM H;clear H;go_wp2
        repeat(go_quiet (fail);try go_wp2)
        go_loopg [6] k3 (fun kq v6 w'=>∃(x6_4:Int),v6= .int .i64 x6_4∧Aside0 (r30_Check.l2 kq l0 (l0.length:Int) x5_3 x6_4=some r)∧Aside0 (kq≤k3)∧Drawn0 w w')
        case atStart=>exact⟨(0),zz152,H',⟨Nat.le_refl _⟩,by repeat(first|exact Drawn0.refl _|apply Drawn0.step)⟩
        case round =>
         clear H';(try clear c1);(try clear p2);(try clear c3);(try clear c3b0);(try clear c3b1);(try clear p3);(try clear q3);(try clear hx3);(try clear c4);(try clear c5);(try clear c5b0);(try clear c6);(try clear c6b0);(try clear p6);(try clear c7);(try clear c7b0);(try clear c8);(try clear c8b0);(try clear c9);(try clear c9b0);(try clear c10);(try clear c10b0);(try clear hx311_0);(try clear hx312_0);(try clear p2);(try clear p3);(try clear p311);(try clear p312);(try clear p6);(try clear q3);(try clear q311);(try clear q312);obtain⟨x6_4,rfl,HA,HK4,⟨m4,rfl⟩⟩:=hrel
         cases gk with
         |zero=>exact absurd HA.out (by simp[r30_Check.l2])
         | succ k4=>
          have H:=HA.out;clear HA;simp only[r30_Check.l2] at H
          by_cases c11:x6_4<x5_3
          ·rw [if_pos c11] at H;have c11b0:=dT c11;clear c11
           by_cases c12:0≤x5_3
           ·rw [if_pos c12] at H;have c12b0:=dT c12;clear c12
            by_cases c13:x5_3<(l0.length:Int)
            ·rw [if_pos c13] at H;have c13b0:=dT c13;clear c13
             by_cases c14:0≤x6_4
             ·rw [if_pos c14] at H;have c14b0:=dT c14;clear c14
              by_cases c15:x6_4<(l0.length:Int)
              ·rw [if_pos c15] at H;have c15b0:=dT c15;clear c15
               by_cases c16:(rd l0 x5_3)=(rd l0 x6_4)
               ·rw[if_pos c16] at H;have c16b0:=beq_iff_eq.mpr c16;have c16b1:=bne_eq_false_iff_eq.mpr c16;clear c16;obtain rfl:=oI H;have p313:0≤(x5_3:Int):=oD zz151;have q313:x5_3<(l0.length:Int):=oD zz151;obtain⟨ad313,e313,hx313_0⟩:=Kd.at_int HR0.out x5_3 p313 q313
                cases e313;replace p313:=eq_true p313;replace q313:=eq_true q313;have p314:0≤(x6_4:Int):=oD zz151;have q314:x6_4<(l0.length:Int):=oD zz151;obtain⟨ad314,e314,hx314_0⟩:=Kd.at_int HR0.out x6_4 p314 q314;obtain rfl:ad313=ad314:=(by injection e314);replace p314:=eq_true p314;replace q314:=eq_true q314;go_wp2
                repeat(go_quiet (fail);try go_wp2)
                go_ret
                exact⟨by first|rfl|(simp;done)|(simp[*];done),by repeat(first|exact Drawn0.refl _|apply Drawn0.step)⟩
               rw[if_neg c16] at H;have c16b0:=beq_eq_false_iff_ne.mpr c16;have c16b1:=bne_iff_ne.mpr c16;have H':=aM H;clear H;have p313:0≤(x5_3:Int):=oD zz151;have q313:x5_3<(l0.length:Int):=oD zz151;obtain⟨ad313,e313,hx313_0⟩:=Kd.at_int HR0.out x5_3 p313 q313
               cases e313;replace p313:=eq_true p313;replace q313:=eq_true q313;have p314:0≤(x6_4:Int):=oD zz151;have q314:x6_4<(l0.length:Int):=oD zz151;obtain⟨ad314,e314,hx314_0⟩:=Kd.at_int HR0.out x6_4 p314 q314;obtain rfl:ad313=ad314:=(by injection e314);replace p314:=eq_true p314;replace q314:=eq_true q314;go_wp2
               repeat(go_quiet (fail);try go_wp2)
               go_roundg k4
               case measure=>have:=HJ1.out;have:=HK2.out;have:=HK3.out;have:=HK4.out;omega
               case rel=>exact⟨(wrap64 (x6_4+1)),zz152,H',⟨zz146⟩,by repeat(first|exact Drawn0.refl _|apply Drawn0.step)⟩
              rw[if_neg c15] at H
              exact absurd H (by simp)
             rw[if_neg c14] at H
             exact absurd H (by simp)
            rw[if_neg c13] at H
            exact absurd H (by simp)
           rw[if_neg c12] at H
           exact absurd H (by simp)
          rw[if_neg c11] at H;have c11b0:=dF c11;clear c11;have H':=aM H;clear H;go_wp2
          repeat(go_quiet (fail);try go_wp2)
          go_roundg k4
          case measure=>have:=HJ1.out;have:=HK2.out;have:=HK3.out;have:=HK4.out;omega
          case rel=>exact⟨(wrap64 (x5_3+1)),zz152,H',⟨zz146⟩,by repeat(first|exact Drawn0.refl _|apply Drawn0.step)⟩
       rw[if_neg c10] at H;have c10b0:=dF c10;clear c10;obtain rfl:=oI H;go_wp2
       repeat(go_quiet (fail);try go_wp2)
       go_ret
       exact⟨by first|rfl|(simp;done)|(simp[*];done),by repeat(first|exact Drawn0.refl _|apply Drawn0.step)⟩
mutual
def r30_all.l0:Nat→Int→List (List Int)→Int→Option (Int)
 |0,_,_,_=>none
 |k+1,x0,x1,x5=>if x5<(x1.length:Int) then(if 0≤x5 then((r30_Check.f k (Zp x1 x5)).bind fun t316=>(if t316=0 then(r30_all.l0 k x0 x1 (wrap64 (x5+1))) else(some t316))) else(none)) else(r30_all.l1 k x0 x1 0)
def r30_all.l1:Nat→Int→List (List Int)→Int→Option (Int)
 |0,_,_,_=>none
 |k+1,x0,x1,x7=>if x7<(x1.length:Int) then(if 0≤x7 then(if((Zp x1 x7).length:Int)=x0 then(r30_all.l1 k x0 x1 (wrap64 (x7+1))) else(some 10)) else(none)) else(some 0)
end
def r30_all.f (k:Nat) (a0:Int) (l1:List (List Int)):Option (Int):=r30_all.l0 k a0 l1 0
theorem r30_all.calls (k:Nat) (a0:Int) (A1:Option Addr) (c1:Nat) (l1:List (List Int)) (r:Int) (w:World) (hr1:Kd.C (Kd.slice 3 (Kd.int .i64)) w A1 l1.length l1) (hc1:l1.length≤c1) (h:r30_all.f k a0 l1=some r):
    Calls Try.prog 51 #[.int .i64 a0,.slice A1 l1.length c1] w fun e w'=>e= .returned (.int .i64 r)∧Drawn0 w w':=by
 have HR1:=aM hr1
 have HC1:=aM hc1
 clear hr1 hc1
 have H:(r30_all.l0 k a0 l1 0)=some r:=h
 clear h
 have H':=aM H
 clear H
 go_enter Try.func51,Try.ntmps51
 go_wp2
 go_loopg [5] k (fun kq v5 w'=>∃(x5_1:Int),v5= .int .i64 x5_1∧Aside0 (r30_all.l0 kq a0 l1 x5_1=some r)∧Aside0 (kq≤k)∧Drawn0 w w')
 case atStart=>exact⟨(0),zz152,H',⟨Nat.le_refl _⟩,by repeat(first|exact Drawn0.refl _|apply Drawn0.step)⟩
 case round =>
  clear H';(try clear c1);(try clear p2);obtain⟨x5_1,rfl,HA,HK1,⟨m1,rfl⟩⟩:=hrel
  cases gk with
  |zero=>exact absurd HA.out (by simp[r30_all.l0])
  | succ k1=>
   have H:=HA.out;clear HA;simp only[r30_all.l0] at H
   by_cases c3:x5_1<(l1.length:Int)
   ·rw [if_pos c3] at H;have c3b0:=dT c3;clear c3
    by_cases c4:0≤x5_1
    ·rw [if_pos c4] at H;have c4b0:=dT c4;clear c4;replace H:=oB H;obtain⟨t316,A50,H⟩:=H;replace H:(if t316=0 then(r30_all.l0 k1 a0 l1 (wrap64 (x5_1+1))) else(some t316))=some r:=H;have A5:=aM A50;clear A50
     by_cases c6:t316=0
     ·rw[if_pos c6] at H;have c6b0:=beq_iff_eq.mpr c6;have c6b1:=bne_eq_false_iff_eq.mpr c6;clear c6;have H':=aM H;clear H;have p315:0≤(x5_1:Int):=oD zz151;have q315:x5_1<(l1.length:Int):=oD zz151;obtain⟨ad315,A315_0,c315_0,e315,hx315_0,hl315_0,hi315_0⟩:=ZY HR1.out x5_1 p315 q315
      cases e315;have HR315_0:=aM hi315_0;have HC315_0:=aM hl315_0;clear hi315_0 hl315_0;replace p315:=eq_true p315;replace q315:=eq_true q315
      go_wp2_with (first|((with_reducible refine Zq (f:=17) rfl ?_);refine ZG (some 18) rfl rfl Try.func17 (by kernel_rfl) rfl #[.slice A315_0 (Zp l1 x5_1).length c315_0] rfl zz125 ?_;(with_reducible refine(r30_Check.calls k1 _ _ (Zp l1 x5_1) t316 _ ?side1 ?side2 A5.out).mono ?_);(case side1=>exact zC HR315_0.out);(case side2=>exact HC315_0.out);rintro e w' ⟨rfl,⟨nd,rfl⟩⟩;refine⟨_,rfl,?_⟩))
      go_roundg k1
      case measure=>have:=HK1.out;omega
      case rel=>exact⟨(wrap64 (x5_1+1)),zz152,H',⟨zz161⟩,by repeat(first|exact Drawn0.refl _|apply Drawn0.step)⟩
     rw[if_neg c6] at H;have c6b0:=beq_eq_false_iff_ne.mpr c6;have c6b1:=bne_iff_ne.mpr c6;obtain rfl:=oI H;have p315:0≤(x5_1:Int):=oD zz151;have q315:x5_1<(l1.length:Int):=oD zz151;obtain⟨ad315,A315_0,c315_0,e315,hx315_0,hl315_0,hi315_0⟩:=ZY HR1.out x5_1 p315 q315
     cases e315;have HR315_0:=aM hi315_0;have HC315_0:=aM hl315_0;clear hi315_0 hl315_0;replace p315:=eq_true p315;replace q315:=eq_true q315
     go_wp2_with (first|((with_reducible refine Zq (f:=17) rfl ?_);refine ZG (some 18) rfl rfl Try.func17 (by kernel_rfl) rfl #[.slice A315_0 (Zp l1 x5_1).length c315_0] rfl zz125 ?_;(with_reducible refine(r30_Check.calls k1 _ _ (Zp l1 x5_1) t316 _ ?side1 ?side2 A5.out).mono ?_);(case side1=>exact zC HR315_0.out);(case side2=>exact HC315_0.out);rintro e w' ⟨rfl,⟨nd,rfl⟩⟩;refine⟨_,rfl,?_⟩))
     go_ret
     exact⟨by first|rfl|(simp;done)|(simp[*];done),by repeat(first|exact Drawn0.refl _|apply Drawn0.step)⟩
    rw[if_neg c4] at H
    exact absurd H (by simp)
   rw[if_neg c3] at H;have c3b0:=dF c3;clear c3;have H':=aM H;clear H;go_wp2
   go_loopg [7] k1 (fun kq v7 w'=>∃(x7_2:Int),v7= .int .i64 x7_2∧Aside0 (r30_all.l1 kq a0 l1 x7_2=some r)∧Aside0 (kq≤k1)∧Drawn0 w w')
   case atStart=>exact⟨(0),zz152,H',⟨Nat.le_refl _⟩,by repeat(first|exact Drawn0.refl _|apply Drawn0.step)⟩
   case round =>
    clear H';(try clear c1);(try clear p2);(try clear c3);(try clear c3b0);(try clear p3);(try clear q3);(try clear hx3);(try clear c4);(try clear c4b0);(try clear c5);(try clear c6);(try clear c6b0);(try clear c6b1);(try clear p6);(try clear hx315_0);(try clear p2);(try clear p315);(try clear q315);obtain⟨x7_2,rfl,HA,HK2,⟨m2,rfl⟩⟩:=hrel
    cases gk with
    |zero=>exact absurd HA.out (by simp[r30_all.l1])
    | succ k2=>
     have H:=HA.out;clear HA;simp only[r30_all.l1] at H
     by_cases c7:x7_2<(l1.length:Int)
     ·rw [if_pos c7] at H;have c7b0:=dT c7;clear c7
      by_cases c8:0≤x7_2
      ·rw [if_pos c8] at H;have c8b0:=dT c8;clear c8
       by_cases c9:((Zp l1 x7_2).length:Int)=a0
       ·rw[if_pos c9] at H;have c9b0:=beq_iff_eq.mpr c9;have c9b1:=bne_eq_false_iff_eq.mpr c9;clear c9;have H':=aM H;clear H;have p317:0≤(x7_2:Int):=oD zz151;have q317:x7_2<(l1.length:Int):=oD zz151;obtain⟨ad317,A317_0,c317_0,e317,hx317_0,hl317_0,hi317_0⟩:=ZY HR1.out x7_2 p317 q317
        cases e317;have HR317_0:=aM hi317_0;have HC317_0:=aM hl317_0;clear hi317_0 hl317_0;replace p317:=eq_true p317;replace q317:=eq_true q317;go_wp2
        go_roundg k2
        case measure=>have:=HK1.out;have:=HK2.out;omega
        case rel=>exact⟨(wrap64 (x7_2+1)),zz152,H',⟨zz153⟩,by repeat(first|exact Drawn0.refl _|apply Drawn0.step)⟩
       rw[if_neg c9] at H;have c9b0:=beq_eq_false_iff_ne.mpr c9;have c9b1:=bne_iff_ne.mpr c9;obtain rfl:=oI H;have p317:0≤(x7_2:Int):=oD zz151;have q317:x7_2<(l1.length:Int):=oD zz151;obtain⟨ad317,A317_0,c317_0,e317,hx317_0,hl317_0,hi317_0⟩:=ZY HR1.out x7_2 p317 q317
       cases e317;have HR317_0:=aM hi317_0;have HC317_0:=aM hl317_0;clear hi317_0 hl317_0;replace p317:=eq_true p317;replace q317:=eq_true q317;go_wp2;go_ret
       exact⟨by first|rfl|(simp;done)|(simp[*];done),by repeat(first|exact Drawn0.refl _|apply Drawn0.step)⟩
      rw[if_neg c8] at H
      exact absurd H (by simp)
     rw[if_neg c7] at H;have c7b0:=dF c7;clear c7;obtain rfl:=oI H;go_wp2;go_ret
     exact⟨by first|rfl|(simp;done)|(simp[*];done),by repeat(first|exact Drawn0.refl _|apply Drawn0.step)⟩
def r30_group.f (k:Nat) (a0:Int) (l1:List (List Int)):Option (Int):=if a0<1 then(some 4) else(if a0>64 then(some 4) else((r30_all.f k a0 l1).bind fun t483=>(some t483)))
theorem r30_group.calls (k:Nat) (a0:Int) (A1:Option Addr) (c1:Nat) (l1:List (List Int)) (r:Int) (w:World) (hr1:Kd.C (Kd.slice 3 (Kd.int .i64)) w A1 l1.length l1) (hc1:l1.length≤c1) (h:r30_group.f k a0 l1=some r):
    Calls Try.prog 59 #[.int .i64 a0,.slice A1 l1.length c1] w fun e w'=>e= .returned (.int .i64 r)∧Drawn0 w w':=by
 have HR1:=aM hr1
 have HC1:=aM hc1
 clear hr1 hc1
 have H:(if a0<1 then(some 4) else(if a0>64 then(some 4) else((r30_all.f k a0 l1).bind fun t483=>(some t483))))=some r:=h
 clear h
 by_cases c3:a0<1
 ·rw[if_pos c3] at H
  have c3b0:=dT c3;clear c3;obtain rfl:=oI H
  go_enter Try.func59,Try.ntmps59
  go_wp2;go_ret
  exact⟨by first|rfl|(simp;done)|(simp[*];done),by repeat(first|exact Drawn0.refl _|apply Drawn0.step)⟩
 rw[if_neg c3] at H
 have c3b0:=dF c3
 clear c3
 by_cases c4:a0>64
 ·rw[if_pos c4] at H
  have c4b0:=dT c4;clear c4;obtain rfl:=oI H
  go_enter Try.func59,Try.ntmps59
  go_wp2;go_ret
  exact⟨by first|rfl|(simp;done)|(simp[*];done),by repeat(first|exact Drawn0.refl _|apply Drawn0.step)⟩
 rw[if_neg c4] at H
 have c4b0:=dF c4
 clear c4
 replace H:=oB H
 obtain⟨t483,A50,H⟩:=H
 replace H:(some t483)=some r:=H
 have A5:=aM A50
 clear A50
 obtain rfl:=oI H
 go_enter Try.func59,Try.ntmps59
 go_wp2_with (first|((with_reducible refine Zq (f:=51) rfl ?_);refine ZG (some 13) rfl rfl Try.func51 (by kernel_rfl) rfl #[.int .i64 a0,.slice A1 l1.length c1] rfl zz125 ?_;(with_reducible refine(r30_all.calls k a0 _ _ l1 t483 _ ?side1 ?side2 A5.out).mono ?_);(case side1=>exact zC HR1.out);(case side2=>exact HC1.out);rintro e w' ⟨rfl,⟨nd,rfl⟩⟩;refine⟨_,rfl,?_⟩))
 go_ret
 exact⟨by first|rfl|(simp;done)|(simp[*];done),by repeat(first|exact Drawn0.refl _|apply Drawn0.step)⟩
def r30_fixes.l0:Nat→List Int→Int→Int→Option (Bool)
 |0,_,_,_=>none
 |k+1,x0,x1,x5=>if x5<x1 then(if 0≤x5 then(if x5<(x0.length:Int) then(if(rd x0 x5)=x5 then(r30_fixes.l0 k x0 x1 (wrap64 (x5+1))) else(some false)) else(none)) else(none)) else(some true)
def r30_fixes.f (k:Nat) (l0:List Int) (a1:Int):Option (Bool):=r30_fixes.l0 k l0 a1 0
theorem r30_fixes.calls (k:Nat) (A0:Option Addr) (c0:Nat) (l0:List Int) (a1:Int) (r:Bool) (w:World) (hr0:Kd.C (Kd.int .i64) w A0 l0.length l0) (hc0:l0.length≤c0) (h:r30_fixes.f k l0 a1=some r):
    Calls Try.prog 87 #[.slice A0 l0.length c0,.int .i64 a1] w fun e w'=>e= .returned (.bool r)∧Drawn0 w w':=by
 have HR0:=aM hr0
 have HC0:=aM hc0
 clear hr0 hc0
 have H:(r30_fixes.l0 k l0 a1 0)=some r:=h
 clear h
 have H':=aM H
 clear H
 go_enter Try.func87,Try.ntmps87
 go_wp2
 go_loopg [5] k (fun kq v5 w'=>∃(x5_1:Int),v5= .int .i64 x5_1∧Aside0 (r30_fixes.l0 kq l0 a1 x5_1=some r)∧Aside0 (kq≤k)∧Drawn0 w w')
 case atStart=>exact⟨(0),zz152,H',⟨Nat.le_refl _⟩,by repeat(first|exact Drawn0.refl _|apply Drawn0.step)⟩
 case round =>
  clear H';(try clear p2);obtain⟨x5_1,rfl,HA,HK1,⟨m1,rfl⟩⟩:=hrel
  cases gk with
  |zero=>exact absurd HA.out (by simp[r30_fixes.l0])
  | succ k1=>
   have H:=HA.out;clear HA;simp only[r30_fixes.l0] at H
   by_cases c3:x5_1<a1
   ·rw [if_pos c3] at H;have c3b0:=dT c3;clear c3
    by_cases c4:0≤x5_1
    ·rw [if_pos c4] at H;have c4b0:=dT c4;clear c4
     by_cases c5:x5_1<(l0.length:Int)
     ·rw [if_pos c5] at H;have c5b0:=dT c5;clear c5
      by_cases c6:(rd l0 x5_1)=x5_1
      ·rw[if_pos c6] at H;have c6b0:=beq_iff_eq.mpr c6;have c6b1:=bne_eq_false_iff_eq.mpr c6;clear c6;have H':=aM H;clear H;have p515:0≤(x5_1:Int):=oD zz151;have q515:x5_1<(l0.length:Int):=oD zz151;obtain⟨ad515,e515,hx515_0⟩:=Kd.at_int HR0.out x5_1 p515 q515
       cases e515;replace p515:=eq_true p515;replace q515:=eq_true q515;go_wp2
       go_roundg k1
       case measure=>have:=HK1.out;omega
       case rel=>exact⟨(wrap64 (x5_1+1)),zz152,H',⟨zz161⟩,by repeat(first|exact Drawn0.refl _|apply Drawn0.step)⟩
      rw[if_neg c6] at H;have c6b0:=beq_eq_false_iff_ne.mpr c6;have c6b1:=bne_iff_ne.mpr c6;obtain rfl:=oI H;have p515:0≤(x5_1:Int):=oD zz151;have q515:x5_1<(l0.length:Int):=oD zz151;obtain⟨ad515,e515,hx515_0⟩:=Kd.at_int HR0.out x5_1 p515 q515
      cases e515;replace p515:=eq_true p515;replace q515:=eq_true q515;go_wp2;go_ret
      exact⟨by first|rfl|(simp;done)|(simp[*];done),by repeat(first|exact Drawn0.refl _|apply Drawn0.step)⟩
     rw[if_neg c5] at H
     exact absurd H (by simp)
    rw[if_neg c4] at H
    exact absurd H (by simp)
   rw[if_neg c3] at H;have c3b0:=dF c3;clear c3;obtain rfl:=oI H;go_wp2;go_ret
   exact⟨by first|rfl|(simp;done)|(simp[*];done),by repeat(first|exact Drawn0.refl _|apply Drawn0.step)⟩
end
end Go.Proofs.Ytjjlhbgpdncpcaa.P