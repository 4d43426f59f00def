/- What the claim's theorem is built on, part 3: words, walks of the code, and what they tell. -/
import Derived.Test.YtjjlhbgpdncpcaaNf1
import Derived.Test.YtjjlhbgpdncpcaaNf2
namespace Go.Proofs.Ytjjlhbgpdncpcaa.P
open Go.RowKit Go.Proofs.YtjjlhbgpdncpcaaW.PrintWords Go.Proofs.YtjjlhbgpdncpcaaW.PrintLast Go.Proofs.YtjjlhbgpdncpcaaW.PrintMore
set_option linter.unusedVariables false
set_option linter.unusedSimpArgs false
set_option maxHeartbeats 8000000
set_option maxRecDepth 100000
section
attribute [local go_sem] ZG ZE ZL ZK ZA Zz ZF ZD
mutual
def r30_all.l0:Nat→Int→List (List Int)→Int→Option (Int)
 |0,_,_,_=>none
 |k+1,x0,x1,x5=>if x5<(x1.length:Int) then(if 0≤x5 then((r30_Check.f k (Zp x1 x5)).bind fun t316=>(if t316=0 then(r30_all.l0 k x0 x1 (wrap64 (x5+1))) else(some t316))) else(none)) else(r30_all.l1 k x0 x1 0)
def r30_all.l1:Nat→Int→List (List Int)→Int→Option (Int)
 |0,_,_,_=>none
 |k+1,x0,x1,x7=>if x7<(x1.length:Int) then(if 0≤x7 then(if((Zp x1 x7).length:Int)=x0 then(r30_all.l1 k x0 x1 (wrap64 (x7+1))) else(some 10)) else(none)) else(some 0)
end
def r30_all.f (k:Nat) (a0:Int) (l1:List (List Int)):Option (Int):=r30_all.l0 k a0 l1 0
theorem r30_all.calls (k:Nat) (a0:Int) (A1:Option Addr) (c1:Nat) (l1:List (List Int)) (r:Int) (w:World) (hr1:Kd.C (Kd.slice 3 (Kd.int .i64)) w A1 l1.length l1) (hc1:l1.length≤c1) (h:r30_all.f k a0 l1=some r):
    Calls Try.prog 51 #[.int .i64 a0,.slice A1 l1.length c1] w fun e w'=>e= .returned (.int .i64 r)∧Drawn0 w w':=by
 have HR1:=aM hr1
 have HC1:=aM hc1
 clear hr1 hc1
 have H:(r30_all.l0 k a0 l1 0)=some r:=h
 clear h
 have H':=aM H
 clear H
 go_enter Try.func51,Try.ntmps51
 go_wp2
 go_loopg [5] k (fun kq v5 w'=>∃(x5_1:Int),v5= .int .i64 x5_1∧Aside0 (r30_all.l0 kq a0 l1 x5_1=some r)∧Aside0 (kq≤k)∧Drawn0 w w')
 case atStart=>exact⟨(0),zz154,H',⟨Nat.le_refl _⟩,by repeat(first|exact Drawn0.refl _|apply Drawn0.step)⟩
 case round =>
  clear H';(try clear c1);(try clear p2);obtain⟨x5_1,rfl,HA,HK1,⟨m1,rfl⟩⟩:=hrel
  cases gk with
  |zero=>exact absurd HA.out (by simp[r30_all.l0])
  | succ k1=>
   have H:=HA.out;clear HA;simp only[r30_all.l0] at H
   by_cases c3:x5_1<(l1.length:Int)
   ·rw [if_pos c3] at H;have c3b0:=dT c3;clear c3
    by_cases c4:0≤x5_1
    ·rw [if_pos c4] at H;have c4b0:=dT c4;clear c4;replace H:=oB H;obtain⟨t316,A50,H⟩:=H;replace H:(if t316=0 then(r30_all.l0 k1 a0 l1 (wrap64 (x5_1+1))) else(some t316))=some r:=H;have A5:=aM A50;clear A50
     by_cases c6:t316=0
     ·rw[if_pos c6] at H;have c6b0:=beq_iff_eq.mpr c6;have c6b1:=bne_eq_false_iff_eq.mpr c6;clear c6;have H':=aM H;clear H;have p315:0≤(x5_1:Int):=oD zz153;have q315:x5_1<(l1.length:Int):=oD zz153;obtain⟨ad315,A315_0,c315_0,e315,hx315_0,hl315_0,hi315_0⟩:=ZY HR1.out x5_1 p315 q315
      cases e315;have HR315_0:=aM hi315_0;have HC315_0:=aM hl315_0;clear hi315_0 hl315_0;replace p315:=eq_true p315;replace q315:=eq_true q315
      go_wp2_with (first|((with_reducible refine Zq (f:=17) rfl ?_);refine ZB (some 18) rfl rfl Try.func17 (by kernel_rfl) rfl #[.slice A315_0 (Zp l1 x5_1).length c315_0] rfl zz127 ?_;(with_reducible refine(r30_Check.calls k1 _ _ (Zp l1 x5_1) t316 _ ?side1 ?side2 A5.out).mono ?_);(case side1=>exact zC HR315_0.out);(case side2=>exact HC315_0.out);rintro e w' ⟨rfl,⟨nd,rfl⟩⟩;refine⟨_,rfl,?_⟩))
      go_roundg k1
      case measure=>have:=HK1.out;omega
      case rel=>exact⟨(wrap64 (x5_1+1)),zz154,H',⟨zz163⟩,by repeat(first|exact Drawn0.refl _|apply Drawn0.step)⟩
     rw[if_neg c6] at H;have c6b0:=beq_eq_false_iff_ne.mpr c6;have c6b1:=bne_iff_ne.mpr c6;obtain rfl:=oI H;have p315:0≤(x5_1:Int):=oD zz153;have q315:x5_1<(l1.length:Int):=oD zz153;obtain⟨ad315,A315_0,c315_0,e315,hx315_0,hl315_0,hi315_0⟩:=ZY HR1.out x5_1 p315 q315
     cases e315;have HR315_0:=aM hi315_0;have HC315_0:=aM hl315_0;clear hi315_0 hl315_0;replace p315:=eq_true p315;replace q315:=eq_true q315
     go_wp2_with (first|((with_reducible refine Zq (f:=17) rfl ?_);refine ZB (some 18) rfl rfl Try.func17 (by kernel_rfl) rfl #[.slice A315_0 (Zp l1 x5_1).length c315_0] rfl zz127 ?_;(with_reducible refine(r30_Check.calls k1 _ _ (Zp l1 x5_1) t316 _ ?side1 ?side2 A5.out).mono ?_);(case side1=>exact zC HR315_0.out);(case side2=>exact HC315_0.out);rintro e w' ⟨rfl,⟨nd,rfl⟩⟩;refine⟨_,rfl,?_⟩))
     go_ret
     exact⟨by first|rfl|(simp;done)|(simp[*];done),by repeat(first|exact Drawn0.refl _|apply Drawn0.step)⟩
    rw[if_neg c4] at H
    exact absurd H (by simp)
   rw[if_neg c3] at H;have c3b0:=dF c3;clear c3;have H':=aM H;clear H;go_wp2
   go_loopg [7] k1 (fun kq v7 w'=>∃(x7_2:Int),v7= .int .i64 x7_2∧Aside0 (r30_all.l1 kq a0 l1 x7_2=some r)∧Aside0 (kq≤k1)∧Drawn0 w w')
   case atStart=>exact⟨(0),zz154,H',⟨Nat.le_refl _⟩,by repeat(first|exact Drawn0.refl _|apply Drawn0.step)⟩
   case round =>
    clear H';(try clear c1);(try clear p2);(try clear c3);(try clear c3b0);(try clear p3);(try clear q3);(try clear hx3);(try clear c4);(try clear c4b0);(try clear c5);(try clear c6);(try clear c6b0);(try clear c6b1);(try clear p6);(try clear hx315_0);(try clear p2);(try clear p315);(try clear q315);obtain⟨x7_2,rfl,HA,HK2,⟨m2,rfl⟩⟩:=hrel
    cases gk with
    |zero=>exact absurd HA.out (by simp[r30_all.l1])
    | succ k2=>
     have H:=HA.out;clear HA;simp only[r30_all.l1] at H
     by_cases c7:x7_2<(l1.length:Int)
     ·rw [if_pos c7] at H;have c7b0:=dT c7;clear c7
      by_cases c8:0≤x7_2
      ·rw [if_pos c8] at H;have c8b0:=dT c8;clear c8
       by_cases c9:((Zp l1 x7_2).length:Int)=a0
       ·rw[if_pos c9] at H;have c9b0:=beq_iff_eq.mpr c9;have c9b1:=bne_eq_false_iff_eq.mpr c9;clear c9;have H':=aM H;clear H;have p317:0≤(x7_2:Int):=oD zz153;have q317:x7_2<(l1.length:Int):=oD zz153;obtain⟨ad317,A317_0,c317_0,e317,hx317_0,hl317_0,hi317_0⟩:=ZY HR1.out x7_2 p317 q317
        cases e317;have HR317_0:=aM hi317_0;have HC317_0:=aM hl317_0;clear hi317_0 hl317_0;replace p317:=eq_true p317;replace q317:=eq_true q317;go_wp2
        go_roundg k2
        case measure=>have:=HK1.out;have:=HK2.out;omega
        case rel=>exact⟨(wrap64 (x7_2+1)),zz154,H',⟨zz155⟩,by repeat(first|exact Drawn0.refl _|apply Drawn0.step)⟩
       rw[if_neg c9] at H;have c9b0:=beq_eq_false_iff_ne.mpr c9;have c9b1:=bne_iff_ne.mpr c9;obtain rfl:=oI H;have p317:0≤(x7_2:Int):=oD zz153;have q317:x7_2<(l1.length:Int):=oD zz153;obtain⟨ad317,A317_0,c317_0,e317,hx317_0,hl317_0,hi317_0⟩:=ZY HR1.out x7_2 p317 q317
       cases e317;have HR317_0:=aM hi317_0;have HC317_0:=aM hl317_0;clear hi317_0 hl317_0;replace p317:=eq_true p317;replace q317:=eq_true q317;go_wp2;go_ret
       exact⟨by first|rfl|(simp;done)|(simp[*];done),by repeat(first|exact Drawn0.refl _|apply Drawn0.step)⟩
      rw[if_neg c8] at H
      exact absurd H (by simp)
     rw[if_neg c7] at H;have c7b0:=dF c7;clear c7;obtain rfl:=oI H;go_wp2;go_ret
     exact⟨by first|rfl|(simp;done)|(simp[*];done),by repeat(first|exact Drawn0.refl _|apply Drawn0.step)⟩
def r30_group.f (k:Nat) (a0:Int) (l1:List (List Int)):Option (Int):=if a0<1 then(some 4) else(if a0>64 then(some 4) else((r30_all.f k a0 l1).bind fun t483=>(some t483)))
theorem r30_group.calls (k:Nat) (a0:Int) (A1:Option Addr) (c1:Nat) (l1:List (List Int)) (r:Int) (w:World) (hr1:Kd.C (Kd.slice 3 (Kd.int .i64)) w A1 l1.length l1) (hc1:l1.length≤c1) (h:r30_group.f k a0 l1=some r):
    Calls Try.prog 59 #[.int .i64 a0,.slice A1 l1.length c1] w fun e w'=>e= .returned (.int .i64 r)∧Drawn0 w w':=by
 have HR1:=aM hr1
 have HC1:=aM hc1
 clear hr1 hc1
 have H:(if a0<1 then(some 4) else(if a0>64 then(some 4) else((r30_all.f k a0 l1).bind fun t483=>(some t483))))=some r:=h
 clear h
 by_cases c3:a0<1
 ·rw[if_pos c3] at H
  have c3b0:=dT c3;clear c3;obtain rfl:=oI H
  go_enter Try.func59,Try.ntmps59
  go_wp2;go_ret
  exact⟨by first|rfl|(simp;done)|(simp[*];done),by repeat(first|exact Drawn0.refl _|apply Drawn0.step)⟩
 rw[if_neg c3] at H
 have c3b0:=dF c3
 clear c3
 by_cases c4:a0>64
 ·rw[if_pos c4] at H
  have c4b0:=dT c4;clear c4;obtain rfl:=oI H
  go_enter Try.func59,Try.ntmps59
  go_wp2;go_ret
  exact⟨by first|rfl|(simp;done)|(simp[*];done),by repeat(first|exact Drawn0.refl _|apply Drawn0.step)⟩
 rw[if_neg c4] at H
 have c4b0:=dF c4
 clear c4
 replace H:=oB H
 obtain⟨t483,A50,H⟩:=H
 replace H:(some t483)=some r:=H
 have A5:=aM A50
 clear A50
 obtain rfl:=oI H
 go_enter Try.func59,Try.ntmps59
 go_wp2_with (first|((with_reducible refine Zq (f:=51) rfl ?_);refine ZB (some 13) rfl rfl Try.func51 (by kernel_rfl) rfl #[.int .i64 a0,.slice A1 l1.length c1] rfl zz127 ?_;(with_reducible refine(r30_all.calls k a0 _ _ l1 t483 _ ?side1 ?side2 A5.out).mono ?_);(case side1=>exact zC HR1.out);(case side2=>exact HC1.out);rintro e w' ⟨rfl,⟨nd,rfl⟩⟩;refine⟨_,rfl,?_⟩))
 go_ret
 exact⟨by first|rfl|(simp;done)|(simp[*];done),by repeat(first|exact Drawn0.refl _|apply Drawn0.step)⟩
def r30_fixes.l0:Nat→List Int→Int→Int→Option (Bool)
 |0,_,_,_=>none
 |k+1,x0,x1,x5=>if x5<x1 then(if 0≤x5 then(if x5<(x0.length:Int) then(if(rd x0 x5)=x5 then(r30_fixes.l0 k x0 x1 (wrap64 (x5+1))) else(some false)) else(none)) else(none)) else(some true)
def r30_fixes.f (k:Nat) (l0:List Int) (a1:Int):Option (Bool):=r30_fixes.l0 k l0 a1 0
theorem r30_fixes.calls (k:Nat) (A0:Option Addr) (c0:Nat) (l0:List Int) (a1:Int) (r:Bool) (w:World) (hr0:Kd.C (Kd.int .i64) w A0 l0.length l0) (hc0:l0.length≤c0) (h:r30_fixes.f k l0 a1=some r):
    Calls Try.prog 87 #[.slice A0 l0.length c0,.int .i64 a1] w fun e w'=>e= .returned (.bool r)∧Drawn0 w w':=by
 have HR0:=aM hr0
 have HC0:=aM hc0
 clear hr0 hc0
 have H:(r30_fixes.l0 k l0 a1 0)=some r:=h
 clear h
 have H':=aM H
 clear H
 go_enter Try.func87,Try.ntmps87
 go_wp2
 go_loopg [5] k (fun kq v5 w'=>∃(x5_1:Int),v5= .int .i64 x5_1∧Aside0 (r30_fixes.l0 kq l0 a1 x5_1=some r)∧Aside0 (kq≤k)∧Drawn0 w w')
 case atStart=>exact⟨(0),zz154,H',⟨Nat.le_refl _⟩,by repeat(first|exact Drawn0.refl _|apply Drawn0.step)⟩
 case round =>
  clear H';(try clear p2);obtain⟨x5_1,rfl,HA,HK1,⟨m1,rfl⟩⟩:=hrel
  cases gk with
  |zero=>exact absurd HA.out (by simp[r30_fixes.l0])
  | succ k1=>
   have H:=HA.out;clear HA;simp only[r30_fixes.l0] at H
   by_cases c3:x5_1<a1
   ·rw [if_pos c3] at H;have c3b0:=dT c3;clear c3
    by_cases c4:0≤x5_1
    ·rw [if_pos c4] at H;have c4b0:=dT c4;clear c4
     by_cases c5:x5_1<(l0.length:Int)
     ·rw [if_pos c5] at H;have c5b0:=dT c5;clear c5
      by_cases c6:(rd l0 x5_1)=x5_1
      ·rw[if_pos c6] at H;have c6b0:=beq_iff_eq.mpr c6;have c6b1:=bne_eq_false_iff_eq.mpr c6;clear c6;have H':=aM H;clear H;have p515:0≤(x5_1:Int):=oD zz153;have q515:x5_1<(l0.length:Int):=oD zz153;obtain⟨ad515,e515,hx515_0⟩:=Kd.at_int HR0.out x5_1 p515 q515
       cases e515;replace p515:=eq_true p515;replace q515:=eq_true q515;go_wp2
       go_roundg k1
       case measure=>have:=HK1.out;omega
       case rel=>exact⟨(wrap64 (x5_1+1)),zz154,H',⟨zz163⟩,by repeat(first|exact Drawn0.refl _|apply Drawn0.step)⟩
      rw[if_neg c6] at H;have c6b0:=beq_eq_false_iff_ne.mpr c6;have c6b1:=bne_iff_ne.mpr c6;obtain rfl:=oI H;have p515:0≤(x5_1:Int):=oD zz153;have q515:x5_1<(l0.length:Int):=oD zz153;obtain⟨ad515,e515,hx515_0⟩:=Kd.at_int HR0.out x5_1 p515 q515
      cases e515;replace p515:=eq_true p515;replace q515:=eq_true q515;go_wp2;go_ret
      exact⟨by first|rfl|(simp;done)|(simp[*];done),by repeat(first|exact Drawn0.refl _|apply Drawn0.step)⟩
     rw[if_neg c5] at H
     exact absurd H (by simp)
    rw[if_neg c4] at H
    exact absurd H (by simp)
   rw[if_neg c3] at H;have c3b0:=dF c3;clear c3;obtain rfl:=oI H;go_wp2;go_ret
   exact⟨by first|rfl|(simp;done)|(simp[*];done),by repeat(first|exact Drawn0.refl _|apply Drawn0.step)⟩
mutual
def r30_Of.l0:Nat→Int→List (List Int)→Int→Int→List (S74)→Option (Int×(List (S74)))
 |0,_,_,_,_,_=>none
 |k+1,x0,x1,x6,x518000,x518001=>if x6<x0 then(r30_Of.l1 k x0 x1 x6 x6 x518000 x518001 x6 ([]:List Int) ([]:List (List Int))) else(some (x518000,x518001))
def r30_Of.l1:Nat→Int→List (List Int)→Int→Int→Int→List (S74)→Int→List Int→List (List Int)→Option (Int×(List (S74)))
 |0,_,_,_,_,_,_,_,_,_=>none
 |k+1,x0,x1,x6,x8,x518000,x518001,x519000,x519001,x519002=>if x8<x0 then(r30_Of.l2 k x0 x1 x6 x8 0 x518000 x518001 x519000 x519001 x519002) else(if(x519001.length:Int)>1 then(if x518001.length<2513169434916 then(r30_Of.l0 k x0 x1 (wrap64 (x6+1)) x518000 (x518001++ [(⟨x519000,x519001,x519002⟩:S74)])) else(none)) else(r30_Of.l0 k x0 x1 (wrap64 (x6+1)) x518000 x518001))
def r30_Of.l2:Nat→Int→List (List Int)→Int→Int→Int→Int→List (S74)→Int→List Int→List (List Int)→Option (Int×(List (S74)))
 |0,_,_,_,_,_,_,_,_,_,_=>none
 |k+1,x0,x1,x6,x8,x9,x518000,x518001,x519000,x519001,x519002=>if x9<(x1.length:Int) then(if 0≤x9 then((r30_fixes.f k (Zp x1 x9) x6).bind fun t523=>(if t523=true then(if 0≤x6 then(if x6<((Zp x1 x9).length:Int) then(if(rd (Zp x1 x9) x6)=x8 then(if x519001.length<17592186044416 then(if x519002.length<5864062014805 then(r30_Of.l1 k x0 x1 x6 (wrap64 (x8+1)) x518000 x518001 x519000 (x519001++ [x8]) (x519002++ [Zp x1 x9])) else(none)) else(none)) else(r30_Of.l2 k x0 x1 x6 x8 (wrap64 (x9+1)) x518000 x518001 x519000 x519001 x519002)) else(none)) else(none)) else(r30_Of.l2 k x0 x1 x6 x8 (wrap64 (x9+1)) x518000 x518001 x519000 x519001 x519002))) else(none)) else(r30_Of.l1 k x0 x1 x6 (wrap64 (x8+1)) x518000 x518001 x519000 x519001 x519002)
end
def r30_Of.f (k:Nat) (a0:Int) (l1:List (List Int)):Option (Int×(List (S74))):=r30_Of.l0 k a0 l1 0 a0 ([]:List (S74))
def r30_Of.T14:Bool×List (List Nat×List Nat):=(true,[([],[]),([0],[0]),([],[]),([],[]),([2,3],[2,3]),([4],[4]),([5],[5]),([1,6],[1,6]),([0,1,2,3,4,5,6,7],[]),([8,7,7,0,1,2,3,4,5,6,7],[7,8])])
def r30_Of.B14:List Nat:= [0,1,0,0,12,28,60,127,255,511]
theorem r30_Of.tab14:rtab .any (opsOf Try.f63 14)=r30_Of.T14:=by kernel_rfl
theorem r30_Of.bits14:waitsOk r30_Of.T14.2 r30_Of.B14=true:=by kernel_rfl
theorem r30_Of.calls (k : Nat) (a0 : Int) (P1_:Nat→Prop) (A1:Option Addr) (c1:Nat) (l1:List (List Int)) (r1:Int) (r2:List (S74)) (w:World) (hs1:Kd.V (Kd.slice 3 (Kd.int .i64)) 22 w w.heap.size (fun k_=>P1_ k_) (.slice A1 l1.length c1) l1) (h:r30_Of.f k a0 l1=some (r1,r2)):
    Calls Try.prog 63 #[.int .i64 a0,.slice A1 l1.length c1] w fun e w'=>∃v1_:Value,e= .returned (.agg #[.int .i64 r1,v1_])∧Kd.N k74 74 w' w.heap.size (fun k_=>(P1_ k_∨w.heap.size≤k_)) v1_ r2∧Below w.heap.size w w':=by
 have hu46:=Try.underlying46
 have hu74:=Try.underlying74
 have HO1:=aM (show Kd.V (Kd.slice 3 (Kd.int .i64)) 22 w w.heap.size (fun k_=>(P1_ k_∨w.heap.size≤k_)) (.slice A1 l1.length c1) l1 from Kd.V_mono hs1 (fun k_ hk=> .inl hk))
 have HB:=aM (Below.refl w.heap.size w)
 have H:(r30_Of.l0 k a0 l1 0 a0 ([]:List (S74)))=some (r1,r2):=h
 clear h
 have H':=aM H
 clear H
 go_enter Try.func63,Try.ntmps63
 go_wp2_with (first|((with_reducible refine Zr (N:=4) rfl ?_);refine Zx ?hg (N:=4) ?hd (cs:= #[.int .i64 0,.slice none 0 0]) (t:=46) ?hr ?_;(case hd=>rfl);(case hg=>rfl);(case hr=>first|(go_simp;done)|(go_simp;rfl));intro gb516 hg w3 hbox hb;replace HO1:=aM (Kd.V_below (Kd.V_elderB (zV HO1) gb516 (Nat.le_of_eq hg.symm)) hb);have BK516:=aM (hbox);have GW516:=aM ((by rw[hg];exact(Zc zz128):w.heap.size≤gb516));have GE516:=aM ((by rw[hg];exact(Zc zz128):w.heap.size≤gb516));replace HB:=aM (Ze zz128 hb);clear hb hbox hg)|((with_reducible refine Zr (N:=5) rfl ?_);refine Zx ?hg (N:=5) ?hd (cs:= #[.int .i64 0,.slice none 0 0]) (t:=46) ?hr ?_;(case hd=>rfl);(case hg=>rfl);(case hr=>first|(go_simp;done)|(go_simp;rfl));intro gb517 hg w4 hbox hb;replace HO1:=aM (Kd.V_below (Kd.V_elderB (zV HO1) gb517 (Nat.le_of_eq hg.symm)) hb);have BK517:=aM (hbox);have GW517:=aM ((by rw[hg];exact(Zc zz100):w.heap.size≤gb517));have GE517:=aM ((by rw[hg];exact(Zc zz100):w.heap.size≤gb517));replace HB:=aM (Ze zz100 hb);have NB516_517:=aM ((by rw[hg];exact Nat.ne_of_lt (Zw (g:=gb516) (o:= .cells #[.int .i64 0,.slice none 0 0] 46 (0,0)) (zB BK516)):gb516≠gb517));have NB517_516:=aM ((by rw[hg];exact Nat.ne_of_gt (Zw (g:=gb516) (o:= .cells #[.int .i64 0,.slice none 0 0] 46 (0,0)) (zB BK516)):gb517≠gb516));replace BK516:=aM (Zg (g:=gb516) (o:= .cells #[.int .i64 0,.slice none 0 0] 46 (0,0)) (zB BK516) hb);clear hb hbox hg;have hnb5:=NB517_516.out;have hnc5:=NB516_517.out;have hcz6_0:w4.cell? ⟨gb517,0,none⟩=some (.int .i64 0):=(Zb BK517.out 0).trans rfl;have hcz6_1:w4.cell? ⟨gb517,1,none⟩=some (.slice none 0 0):=(Zb BK517.out 1).trans rfl;have hfz6_0:=Za BK517.out 0;have hfz6_1:=Za BK517.out 1))
 go_loopg [6] k (fun kq v6 w'=>∃(x6_1:Int) (x518001_1:List (S74)) (u518001:Value),v6= .int .i64 x6_1∧Aside0 (r30_Of.l0 kq a0 l1 x6_1 a0 x518001_1=some (r1,r2))∧Aside0 (kq≤k)∧Aside0 (Kd.V (Kd.slice 3 (Kd.int .i64)) 22 w' w.heap.size (fun k_=>(P1_ k_∨w.heap.size≤k_)∧some k_≠(u518001:Value).ownBlock∧k_≠gb516∧k_≠gb517) (.slice A1 l1.length c1) l1)∧Aside0 (Kd.N k74 74 w' w.heap.size (fun k_=>(P1_ k_∨w.heap.size≤k_)∧k_≠gb516∧k_≠gb517) u518001 x518001_1)∧Aside0 (w'.heap[gb516]? =some (.cells #[.int .i64 0,(.slice none 0 0)] 46 (0,0)))∧Aside0 (w'.heap[gb517]? =some (.cells #[.int .i64 a0,u518001] 46 (0,0)))∧Aside0 (Below w.heap.size w w'))
 case atStart=>exact⟨(0),(([]:List (S74))),(.slice none 0 0),zz154,H',⟨Nat.le_refl _⟩,⟨by(with_reducible repeat(first|apply Kd.V_alloc|apply Kd.V_drewN|apply Kd.V_drew));exact Kd.V_mono (Kd.V_far (p:=⟨gb517,1,none⟩) (Kd.V_far (p:=⟨gb517,0,none⟩) (Kd.V_mono HO1.out (fun k_ hk=>(⟨hk,hk.2⟩:_∧k_≠gb517))) (fun _ hk=>by first|exact hk.2|exact zN0) (.int .i64 a0)) (fun _ hk=>by first|exact hk.2|exact zN0) (.slice none 0 0)) (fun _ hk=>⟨hk.1.1.1,⟨zz164,⟨hk.1.1.2,hk.1.2⟩⟩⟩)⟩,⟨zz126⟩,⟨(by(with_reducible repeat(first|refine Zm ?_ _|refine Zo ?_|refine Zl ?_ _));refine ZH ?_ NB516_517.out _;(with_reducible repeat(first|refine Zm ?_ _|refine Zo ?_|refine Zl ?_ _));refine ZH ?_ NB516_517.out _;(with_reducible repeat(first|refine Zm ?_ _|refine Zo ?_|refine Zl ?_ _));exact BK516.out)⟩,⟨(by(with_reducible repeat(first|refine Zm ?_ _|refine Zo ?_|refine Zl ?_ _));refine ZI (cs:= #[.int .i64 a0,.slice none 0 0]) ?_ 1 _ rfl;(with_reducible repeat(first|refine Zm ?_ _|refine Zo ?_|refine Zl ?_ _));refine ZI (cs:= #[.int .i64 0,.slice none 0 0]) ?_ 0 _ rfl;(with_reducible repeat(first|refine Zm ?_ _|refine Zo ?_|refine Zl ?_ _));exact BK517.out)⟩,⟨zz78⟩⟩
 case round =>
  clear H';(try clear c1);(try clear p2);(try clear c5);(try clear c6);(try clear hcz6_0);(try clear hcz6_1);(try clear hfz6_0);(try clear hfz6_1);obtain⟨x6_1,x518001_1,u518001,rfl,HA,HK1,HO_1,HO_518001,BK516,BK517,HB⟩:=hrel
  cases gk with
  |zero=>exact absurd HA.out (by simp[r30_Of.l0])
  | succ k1=>
   have H:=HA.out;clear HA;simp only[r30_Of.l0] at H
   by_cases c7:x6_1<a0
   ·rw [if_pos c7] at H; have c7b0:=dT c7;clear c7;have H':=aM H;clear H
    go_wp2_with (first|((with_reducible refine Zr (N:=7) rfl ?_);refine Zx ?hg (N:=7) ?hd (cs:= #[.int .i64 0,.slice none 0 0,.slice none 0 0]) (t:=74) ?hr ?_;(case hd=>rfl);(case hg=>rfl);(case hr=>first|(go_simp;done)|(go_simp;rfl));intro gb518 hg w8 hbox hb;replace HO_1:=aM (Kd.V_below (Kd.V_elderB (zV HO_1) gb518 (Nat.le_of_eq hg.symm)) hb);replace HO_518001:=aM (Kd.N_below (Kd.N_elderB (zN HO_518001) gb518 (Nat.le_of_eq hg.symm)) hb);have BK518:=aM (hbox);have GW518:=aM ((by rw[hg];exact(Zc zz78):w.heap.size≤gb518));have GE518:=aM ((by rw[hg];exact(Zc zz78):w.heap.size≤gb518));replace HB:=aM (Ze zz78 hb);have NB516_518:=aM ((by rw[hg];exact Nat.ne_of_lt (Zw (g:=gb516) (o:= .cells #[.int .i64 0,.slice none 0 0] 46 (0,0)) (zB BK516)):gb516≠gb518));have NB518_516:=aM ((by rw[hg];exact Nat.ne_of_gt (Zw (g:=gb516) (o:= .cells #[.int .i64 0,.slice none 0 0] 46 (0,0)) (zB BK516)):gb518≠gb516));replace BK516:=aM (Zg (g:=gb516) (o:= .cells #[.int .i64 0,.slice none 0 0] 46 (0,0)) (zB BK516) hb);have NB517_518:=aM ((by rw[hg];exact Nat.ne_of_lt (Zw (g:=gb517) (o:= .cells #[.int .i64 a0,u518001] 46 (0,0)) (zB BK517)):gb517≠gb518));have NB518_517:=aM ((by rw[hg];exact Nat.ne_of_gt (Zw (g:=gb517) (o:= .cells #[.int .i64 a0,u518001] 46 (0,0)) (zB BK517)):gb518≠gb517));replace BK517:=aM (Zg (g:=gb517) (o:= .cells #[.int .i64 a0,u518001] 46 (0,0)) (zB BK517) hb);clear hb hbox hg;have hnb9:=NB518_516.out;have hnc9:=NB516_518.out;have hnb10:=NB518_517.out;have hnc10:=NB517_518.out;have hcz11_0:w8.cell? ⟨gb518,0,none⟩=some (.int .i64 0):=(Zb BK518.out 0).trans rfl;have hcz11_1:w8.cell? ⟨gb518,1,none⟩=some (.slice none 0 0):=(Zb BK518.out 1).trans rfl;have hcz11_2:w8.cell? ⟨gb518,2,none⟩=some (.slice none 0 0):=(Zb BK518.out 2).trans rfl;have hfz11_0:=Za BK518.out 0;have hfz11_1:=Za BK518.out 1;have hfz11_2:=Za BK518.out 2))
    go_loopg [8] k1 (fun kq v8 w'=>∃(x8_2:Int) (x519001_2:List Int) (x519002_2:List (List Int)) (u519001:Value) (u519002:Value),v8= .int .i64 x8_2∧Aside0 (r30_Of.l1 kq a0 l1 x6_1 x8_2 a0 x518001_1 x6_1 x519001_2 x519002_2=some (r1,r2))∧Aside0 (kq≤k1)∧Aside0 (Kd.V (Kd.slice 3 (Kd.int .i64)) 22 w' w.heap.size (fun k_=>(P1_ k_∨w.heap.size≤k_)∧some k_≠(u518001:Value).ownBlock∧some k_≠(u519001:Value).ownBlock∧some k_≠(u519002:Value).ownBlock∧k_≠gb516∧k_≠gb517∧k_≠gb518) (.slice A1 l1.length c1) l1)∧Aside0 (Kd.N k74 74 w' w.heap.size (fun k_=>(P1_ k_∨w.heap.size≤k_)∧some k_≠(u519001:Value).ownBlock∧some k_≠(u519002:Value).ownBlock∧k_≠gb516∧k_≠gb517∧k_≠gb518) u518001 x518001_1)∧Aside0 (Kd.R (Kd.int .i64) 3 w' w.heap.size (fun k_=>(w.heap.size≤k_)) u519001 x519001_2)∧Aside0 (Kd.N (Kd.slice 3 (Kd.int .i64)) 22 w' w.heap.size (fun k_=>(P1_ k_∨w.heap.size≤k_)∧some k_≠(u518001:Value).ownBlock∧some k_≠(u519001:Value).ownBlock∧k_≠gb516∧k_≠gb517∧k_≠gb518) u519002 x519002_2)∧Aside0 (w'.heap[gb516]? =some (.cells #[.int .i64 0,(.slice none 0 0)] 46 (0,0)))∧Aside0 (w'.heap[gb517]? =some (.cells #[.int .i64 a0,u518001] 46 (0,0)))∧Aside0 (w'.heap[gb518]? =some (.cells #[.int .i64 x6_1,u519001,u519002] 74 (0,0)))∧Aside0 (Below w.heap.size w w'))
    case atStart=>exact⟨(x6_1),(([]:List Int)),(([]:List (List Int))),(.slice none 0 0),(.slice none 0 0),zz154,H',⟨Nat.le_refl _⟩,⟨by(with_reducible repeat(first|apply Kd.V_alloc|apply Kd.V_drewN|apply Kd.V_drew));exact Kd.V_mono (Kd.V_far (p:=⟨gb518,2,none⟩) (Kd.V_far (p:=⟨gb518,1,none⟩) (Kd.V_far (p:=⟨gb518,0,none⟩) (Kd.V_mono HO_1.out (fun k_ hk=>(⟨hk,hk.2⟩:_∧k_≠gb518))) (fun _ hk=>by first|exact hk.2|exact zN0) (.int .i64 x6_1)) (fun _ hk=>by first|exact hk.2|exact zN0) (.slice none 0 0)) (fun _ hk=>by first|exact hk.2|exact zN0) (.slice none 0 0)) (fun _ hk=>⟨hk.1.1.1,⟨hk.1.1.2.1,⟨zz164,⟨zz164,⟨hk.1.1.2.2.1,⟨hk.1.1.2.2.2,hk.1.2⟩⟩⟩⟩⟩⟩)⟩,⟨by(with_reducible repeat(first|apply Kd.N_alloc|apply Kd.N_drewN|apply Kd.N_drew));exact Kd.N_mono (Kd.N_far (p:=⟨gb518,2,none⟩) (Kd.N_far (p:=⟨gb518,1,none⟩) (Kd.N_far (p:=⟨gb518,0,none⟩) (Kd.N_mono HO_518001.out (fun k_ hk=>(⟨hk,hk.2⟩:_∧k_≠gb518))) (fun _ hk=>by first|exact hk.2|exact zN0) (.int .i64 x6_1)) (fun _ hk=>by first|exact hk.2|exact zN0) (.slice none 0 0)) (fun _ hk=>by first|exact hk.2|exact zN0) (.slice none 0 0)) (fun _ hk=>⟨hk.1.1.1,⟨zz164,⟨zz164,⟨hk.1.1.2.1,⟨hk.1.1.2.2,hk.1.2⟩⟩⟩⟩⟩)⟩,⟨zz126⟩,⟨zz125⟩,⟨(by(with_reducible repeat(first|refine Zm ?_ _|refine Zo ?_|refine Zl ?_ _));refine ZH ?_ NB516_518.out _;(with_reducible repeat(first|refine Zm ?_ _|refine Zo ?_|refine Zl ?_ _));refine ZH ?_ NB516_518.out _;(with_reducible repeat(first|refine Zm ?_ _|refine Zo ?_|refine Zl ?_ _));refine ZH ?_ NB516_518.out _;(with_reducible repeat(first|refine Zm ?_ _|refine Zo ?_|refine Zl ?_ _));exact BK516.out)⟩,⟨(by(with_reducible repeat(first|refine Zm ?_ _|refine Zo ?_|refine Zl ?_ _));refine ZH ?_ NB517_518.out _;(with_reducible repeat(first|refine Zm ?_ _|refine Zo ?_|refine Zl ?_ _));refine ZH ?_ NB517_518.out _;(with_reducible repeat(first|refine Zm ?_ _|refine Zo ?_|refine Zl ?_ _));refine ZH ?_ NB517_518.out _;(with_reducible repeat(first|refine Zm ?_ _|refine Zo ?_|refine Zl ?_ _));exact BK517.out)⟩,⟨(by(with_reducible repeat(first|refine Zm ?_ _|refine Zo ?_|refine Zl ?_ _));refine ZI (cs:= #[.int .i64 x6_1,.slice none 0 0,.slice none 0 0]) ?_ 2 _ rfl;(with_reducible repeat(first|refine Zm ?_ _|refine Zo ?_|refine Zl ?_ _));refine ZI (cs:= #[.int .i64 x6_1,.slice none 0 0,.slice none 0 0]) ?_ 1 _ rfl;(with_reducible repeat(first|refine Zm ?_ _|refine Zo ?_|refine Zl ?_ _));refine ZI (cs:= #[.int .i64 0,.slice none 0 0,.slice none 0 0]) ?_ 0 _ rfl;(with_reducible repeat(first|refine Zm ?_ _|refine Zo ?_|refine Zl ?_ _));exact BK518.out)⟩,⟨zz72⟩⟩
    case round =>
     clear H';(try clear c1);(try clear p2);(try clear c5);(try clear c6);(try clear c7);(try clear c7b0);(try clear c9);(try clear c10);(try clear hcz11_0);(try clear hcz11_1);(try clear hcz11_2);(try clear hcz6_0);(try clear hcz6_1);(try clear hfz11_0);(try clear hfz11_1);(try clear hfz11_2);(try clear hfz6_0);(try clear hfz6_1);(try clear p2);obtain⟨x8_2,x519001_2,x519002_2,u519001,u519002,rfl,HA,HK2,HO_1,HO_518001,HO_519001,HO_519002,BK516,BK517,BK518,HB⟩:=hrel
     cases gk with
     |zero=>exact absurd HA.out (by simp[r30_Of.l1])
     | succ k2=>
      have H:=HA.out;clear HA;simp only[r30_Of.l1] at H
      by_cases c12:x8_2<a0
      ·rw [if_pos c12] at H; have c12b0:=dT c12;clear c12;have H':=aM H;clear H;go_wp2
       go_loopg [9] k2 (fun kq v9 w'=>∃(x9_3:Int) (x519001_3:List Int) (x519002_3:List (List Int)) (u519001:Value) (u519002:Value),v9= .int .i64 x9_3∧Aside0 (r30_Of.l2 kq a0 l1 x6_1 x8_2 x9_3 a0 x518001_1 x6_1 x519001_3 x519002_3=some (r1,r2))∧Aside0 (kq≤k2)∧Aside0 (Kd.V (Kd.slice 3 (Kd.int .i64)) 22 w' w.heap.size (fun k_=>(P1_ k_∨w.heap.size≤k_)∧some k_≠(u518001:Value).ownBlock∧some k_≠(u519001:Value).ownBlock∧some k_≠(u519002:Value).ownBlock∧k_≠gb516∧k_≠gb517∧k_≠gb518) (.slice A1 l1.length c1) l1)∧Aside0 (Kd.N k74 74 w' w.heap.size (fun k_=>(P1_ k_∨w.heap.size≤k_)∧some k_≠(u519001:Value).ownBlock∧some k_≠(u519002:Value).ownBlock∧k_≠gb516∧k_≠gb517∧k_≠gb518) u518001 x518001_1)∧Aside0 (Kd.R (Kd.int .i64) 3 w' w.heap.size (fun k_=>(w.heap.size≤k_)) u519001 x519001_3)∧Aside0 (Kd.N (Kd.slice 3 (Kd.int .i64)) 22 w' w.heap.size (fun k_=>(P1_ k_∨w.heap.size≤k_)∧some k_≠(u518001:Value).ownBlock∧some k_≠(u519001:Value).ownBlock∧k_≠gb516∧k_≠gb517∧k_≠gb518) u519002 x519002_3)∧Aside0 (w'.heap[gb516]? =some (.cells #[.int .i64 0,(.slice none 0 0)] 46 (0,0)))∧Aside0 (w'.heap[gb517]? =some (.cells #[.int .i64 a0,u518001] 46 (0,0)))∧Aside0 (w'.heap[gb518]? =some (.cells #[.int .i64 x6_1,u519001,u519002] 74 (0,0)))∧Aside0 (Below w.heap.size w w'))
       case atStart=>exact⟨(0),(x519001_2),(x519002_2),(u519001),(u519002),zz154,H',⟨Nat.le_refl _⟩,⟨(zV HO_1)⟩,⟨(zN HO_518001)⟩,⟨(zR HO_519001)⟩,⟨(zN HO_519002)⟩,⟨(zB BK516)⟩,⟨(zB BK517)⟩,⟨(zB BK518)⟩,⟨zz72⟩⟩
       case round =>
        clear H';(try clear c1);(try clear p2);(try clear c5);(try clear c6);(try clear c7);(try clear c7b0);(try clear c9);(try clear c10);(try clear c12);(try clear c12b0);(try clear hcz11_0);(try clear hcz11_1);(try clear hcz11_2);(try clear hcz6_0);(try clear hcz6_1);(try clear hfz11_0);(try clear hfz11_1);(try clear hfz11_2);(try clear hfz6_0);(try clear hfz6_1);(try clear p2);obtain⟨x9_3,x519001_3,x519002_3,u519001,u519002,rfl,HA,HK3,HO_1,HO_518001,HO_519001,HO_519002,BK516,BK517,BK518,HB⟩:=hrel
        cases gk with
        |zero=>exact absurd HA.out (by simp[r30_Of.l2])
        | succ k3=>
         have H:=HA.out;clear HA;simp only[r30_Of.l2] at H
         by_cases c13:x9_3<(l1.length:Int)
         ·rw [if_pos c13] at H;have c13b0:=dT c13;clear c13
          by_cases c14:0≤x9_3
          ·rw [if_pos c14] at H;have c14b0:=dT c14;clear c14;replace H:=oB H;obtain⟨t523,A150,H⟩:=H;replace H:(if t523=true then(if 0≤x6_1 then(if x6_1<((Zp l1 x9_3).length:Int) then(if(rd (Zp l1 x9_3) x6_1)=x8_2 then(if x519001_3.length<17592186044416 then(if x519002_3.length<5864062014805 then(r30_Of.l1 k3 a0 l1 x6_1 (wrap64 (x8_2+1)) a0 x518001_1 x6_1 (x519001_3++ [x8_2]) (x519002_3++ [Zp l1 x9_3])) else(none)) else(none)) else(r30_Of.l2 k3 a0 l1 x6_1 x8_2 (wrap64 (x9_3+1)) a0 x518001_1 x6_1 x519001_3 x519002_3)) else(none)) else(none)) else(r30_Of.l2 k3 a0 l1 x6_1 x8_2 (wrap64 (x9_3+1)) a0 x518001_1 x6_1 x519001_3 x519002_3))=some (r1,r2):=H;have A15:=aM A150;clear A150
           by_cases c16:t523=true
           ·subst c16; have H1:(if 0≤x6_1 then(if x6_1<((Zp l1 x9_3).length:Int) then(if(rd (Zp l1 x9_3) x6_1)=x8_2 then(if x519001_3.length<17592186044416 then(if x519002_3.length<5864062014805 then(r30_Of.l1 k3 a0 l1 x6_1 (wrap64 (x8_2+1)) a0 x518001_1 x6_1 (x519001_3++ [x8_2]) (x519002_3++ [Zp l1 x9_3])) else(none)) else(none)) else(r30_Of.l2 k3 a0 l1 x6_1 x8_2 (wrap64 (x9_3+1)) a0 x518001_1 x6_1 x519001_3 x519002_3)) else(none)) else(none))=some (r1,r2):=by rw[if_pos rfl] at H;exact H
            clear H;have H:=H1;clear H1
            by_cases c17:0≤x6_1
            ·rw [if_pos c17] at H;have c17b0:=dT c17;clear c17
             by_cases c18:x6_1<((Zp l1 x9_3).length:Int)
             ·rw [if_pos c18] at H;have c18b0:=dT c18;clear c18
              by_cases c19:(rd (Zp l1 x9_3) x6_1)=x8_2
              ·rw [if_pos c19] at H;have c19b0:=beq_iff_eq.mpr c19;have c19b1:=bne_eq_false_iff_eq.mpr c19;clear c19
               by_cases c20:x519001_3.length<17592186044416
               ·rw [if_pos c20] at H;have LMc20:=aM c20;clear c20;obtain⟨y526,hy526⟩:∃y_:List Int,y_=(x519001_3++ [x8_2]):=⟨_,rfl⟩;replace H:(if x519002_3.length<5864062014805 then(r30_Of.l1 k3 a0 l1 x6_1 (wrap64 (x8_2+1)) a0 x518001_1 x6_1 y526 (x519002_3++ [Zp l1 x9_3])) else(none))=some (r1,r2):=by first|(rw[hy526];with_reducible exact H)|(have H2_:=(Option.bind_some _ _).symm.trans H;rw[hy526];with_reducible exact H2_)|(have H2_:=(Option.bind_some _ _).symm.trans H;with_reducible exact H2_)|with_reducible exact H|(rw[hy526];exact H)|exact H
                have Ny526:=aM hy526;clear hy526
                by_cases c21:x519002_3.length<5864062014805
                ·rw [if_pos c21] at H;have LMc21:=aM c21;clear c21;obtain⟨y530,hy530⟩:∃y_:List (List Int),y_=(x519002_3++ [Zp l1 x9_3]):=⟨_,rfl⟩;replace H:(r30_Of.l1 k3 a0 l1 x6_1 (wrap64 (x8_2+1)) a0 x518001_1 x6_1 y526 y530)=some (r1,r2):=by first|(rw[hy530];with_reducible exact H)|(have H2_:=(Option.bind_some _ _).symm.trans H;rw[hy530];with_reducible exact H2_)|(have H2_:=(Option.bind_some _ _).symm.trans H;with_reducible exact H2_)|with_reducible exact H|(rw[hy530];exact H)|exact H
                 have Ny530:=aM hy530;clear hy530;have H':=aM H;clear H;have p522:0≤(x9_3:Int):=oD zz153;have q522:x9_3<(l1.length:Int):=oD zz153;obtain⟨ad522,A522_0,c522_0,e522,hx522_0,hl522_0,hi522_0⟩:=ZY (Kd.V_reads' HO_1.out).2.2 x9_3 p522 q522
                 cases e522;obtain⟨ce522,hce522,hMe522,hcc522⟩:=Kd.V_get HO_1.out [] x9_3 p522 zz120;obtain⟨ua522_0,uc522_0,rfl,ul522_0,ge522_0⟩:=Kd.FK_slice_open hMe522;have hv522_0:=hcc522 0 _ rfl;rw[Nat.add_zero,show((Kd.slice 3 (Kd.int .i64))).sz=1 from rfl,Nat.mul_one] at hv522_0;replace hv522_0:=oI (hv522_0.symm.trans hx522_0);injection hv522_0 with hva_ hvn_ hvc_
                 rw[hva_] at ge522_0;rw[hvc_] at ul522_0;have HL522_0:=aM (show Kd.V (Kd.int .i64) 3 _ w.heap.size _ _ (Zp l1 x9_3) from Kd.V_mk ul522_0 ge522_0);clear hva_ hvn_ hvc_ ge522_0 ul522_0;clear hcc522 hce522;have HR522_0:=aM hi522_0;have HC522_0:=aM hl522_0;clear hi522_0 hl522_0;replace p522:=eq_true p522;replace q522:=eq_true q522
                 try go_wp2_with (first|((with_reducible refine Zq (f:=87) rfl ?_);refine ZB (some 36) rfl rfl Try.func87 (by kernel_rfl) rfl #[.slice A522_0 (Zp l1 x9_3).length c522_0,.int .i64 x6_1] rfl zz127 ?_;(with_reducible refine(r30_fixes.calls k3 _ _ (Zp l1 x9_3) x6_1 true _ ?side1 ?side2 A15.out).mono ?_);(case side1=>repeat(first|exact zz83|(with_reducible refine Kd.C_alloc ?_ _)|(with_reducible refine Kd.C_drewN ?_ _)|(with_reducible refine Kd.C_drew ?_)));(case side2=>exact HC522_0.out);rintro e w' ⟨rfl,⟨nd,rfl⟩⟩;refine⟨_,rfl,?_⟩;(try(rw[drewN_self wr];generalize hq_:World.drewN wr _=wr;have hx522_0:World.cell? wr (ad522.add (x9_3).toNat)=some (.slice A522_0 (Zp l1 x9_3).length c522_0):=(by rw[←hq_];first|exact hx522_0|(simp only[World.cell?_drewN];exact hx522_0)|(go_simp;exact hx522_0));have n0_:Aside0 (Kd.V (Kd.int .i64) 3 wr w.heap.size (fun k_=>(P1_ k_∨w.heap.size≤k_)∧some k_≠(u518001:Value).ownBlock∧some k_≠(u519001:Value).ownBlock∧some k_≠(u519002:Value).ownBlock∧k_≠gb516∧k_≠gb517∧k_≠gb518) (.slice A522_0 (Zp l1 x9_3).length c522_0) (Zp l1 x9_3)):=⟨(by rw[←hq_];exact(zV HL522_0))⟩;have n1_:Aside0 (Kd.V (Kd.slice 3 (Kd.int .i64)) 22 wr w.heap.size (fun k_=>(P1_ k_∨w.heap.size≤k_)∧some k_≠(u518001:Value).ownBlock∧some k_≠(u519001:Value).ownBlock∧some k_≠(u519002:Value).ownBlock∧k_≠gb516∧k_≠gb517∧k_≠gb518) (.slice (some ad522) l1.length c1) l1):=⟨(by rw[←hq_];exact(zV HO_1))⟩;have n2_:Aside0 (Kd.N k74 74 wr w.heap.size (fun k_=>(P1_ k_∨w.heap.size≤k_)∧some k_≠(u519001:Value).ownBlock∧some k_≠(u519002:Value).ownBlock∧k_≠gb516∧k_≠gb517∧k_≠gb518) u518001 x518001_1):=⟨(by rw[←hq_];exact(zN HO_518001))⟩;have n3_:Aside0 (Kd.R (Kd.int .i64) 3 wr w.heap.size (fun k_=>(w.heap.size≤k_)) u519001 x519001_3):=⟨(by rw[←hq_];exact(zR HO_519001))⟩;have n4_:Aside0 (Kd.N (Kd.slice 3 (Kd.int .i64)) 22 wr w.heap.size (fun k_=>(P1_ k_∨w.heap.size≤k_)∧some k_≠(u518001:Value).ownBlock∧some k_≠(u519001:Value).ownBlock∧k_≠gb516∧k_≠gb517∧k_≠gb518) u519002 x519002_3):=⟨(by rw[←hq_];exact(zN HO_519002))⟩;have n5_:Aside0 (wr.heap[gb516]? =some (.cells #[.int .i64 0,.slice none 0 0] 46 (0,0))):=⟨(by rw[←hq_];exact(zB BK516))⟩;have n6_:Aside0 (wr.heap[gb517]? =some (.cells #[.int .i64 a0,u518001] 46 (0,0))):=⟨(by rw[←hq_];exact(zB BK517))⟩;have n7_:Aside0 (wr.heap[gb518]? =some (.cells #[.int .i64 x6_1,u519001,u519002] 74 (0,0))):=⟨(by rw[←hq_];exact(zB BK518))⟩;have n8_:Aside0 (Below w.heap.size w wr):=⟨(by rw[←hq_];exact zz72)⟩;have n9_:Aside0 (Kd.C (Kd.int .i64) wr A522_0 (Zp l1 x9_3).length (Zp l1 x9_3)):=⟨(by rw[←hq_];exact zz83)⟩;clear HL522_0 HO_1 HO_518001 HO_519001 HO_519002 BK516 BK517 BK518 HB HR522_0 hq_;have HL522_0:=n0_;have HO_1:=n1_;have HO_518001:=n2_;have HO_519001:=n3_;have HO_519002:=n4_;have BK516:=n5_;have BK517:=n6_;have BK518:=n7_;have HB:=n8_;have HR522_0:=n9_;clear n0_ n1_ n2_ n3_ n4_ n5_ n6_ n7_ n8_ n9_));have p524:0≤(x9_3:Int):=oD zz153;have q524:x9_3<(l1.length:Int):=oD zz153;obtain⟨ad524,A524_0,c524_0,e524,hx524_0,hl524_0,hi524_0⟩:=ZY (Kd.V_reads' HO_1.out).2.2 x9_3 p524 q524;obtain rfl:ad522=ad524:=(by injection e524);obtain⟨ce524,hce524,hMe524,hcc524⟩:=Kd.V_get HO_1.out [] x9_3 p524 zz121;obtain⟨ua524_0,uc524_0,rfl,ul524_0,ge524_0⟩:=Kd.FK_slice_open hMe524;have hv524_0:=hcc524 0 _ rfl;rw[Nat.add_zero,show((Kd.slice 3 (Kd.int .i64))).sz=1 from rfl,Nat.mul_one] at hv524_0;replace hv524_0:=oI (hv524_0.symm.trans hx524_0);injection hv524_0 with hva_ hvn_ hvc_;rw[hva_] at ge524_0;rw[hvc_] at ul524_0;have HL524_0:=aM (show Kd.V (Kd.int .i64) 3 _ w.heap.size _ _ (Zp l1 x9_3) from Kd.V_mk ul524_0 ge524_0);clear hva_ hvn_ hvc_ ge524_0 ul524_0;clear hcc524 hce524;have HR524_0:=aM hi524_0;have HC524_0:=aM hl524_0;clear hi524_0 hl524_0;replace p524:=eq_true p524;replace q524:=eq_true q524;have ea_:=oI (hx522_0.symm.trans hx524_0);injection ea_ with ea_ en_ ec_;subst ea_;subst ec_;clear en_;have p525:0≤(x6_1:Int):=oD zz153;have q525:x6_1<((Zp l1 x9_3).length:Int):=oD zz153;obtain⟨ad525,e525,hx525_0⟩:=Kd.at_int zz84 x6_1 p525 q525;cases e525;replace p525:=eq_true p525;replace q525:=eq_true q525;have hnb22:=NB518_516.out;have hnc22:=NB516_518.out;have hnb23:=NB518_517.out;have hnc23:=NB517_518.out;have hcz24_0:wr.cell? ⟨gb518,0,none⟩=some (.int .i64 x6_1):=(Zb BK518.out 0).trans rfl;have hcz24_1:wr.cell? ⟨gb518,1,none⟩=some (u519001):=(Zb BK518.out 1).trans rfl;have hcz24_2:wr.cell? ⟨gb518,2,none⟩=some (u519002):=(Zb BK518.out 2).trans rfl;have hfz24_0:=Za BK518.out 0;have hfz24_1:=Za BK518.out 1;have hfz24_2:=Za BK518.out 2)|((with_reducible refine ZT (b:= .append) (xs:= #[.tmp 49,.tmp 51]) rfl ?_);at_builtin;refine Kd.R_append (Kd.int .i64) (w0:=w) w.heap.size rfl (.tmp 49) (.tmp 51) 22 3 (.int .i64 0) 8 rfl Try.underlying22 info3 rfl (by decide) (by omega) u519001 x519001_3 x8_2 [.int .i64 x8_2] (fun k_=>(w.heap.size≤k_)) (fun _=>False) rfl rfl ?aP (fun _ hk=>hk.elim) ?aF ?aO ?aB ?aS ?aL ?_;(case aP=>exact rfl);(case aB=>exact zz72);(case aF=>exact(fun k_ hk=>(Nat.le_trans (Zc zz72) hk)));(case aO=>exact(zR HO_519001));(case aS=>exact(Zc zz72));(case aL=>have:=LMc20.out;omega);intro v527 w25 ho hb hg hat;rw[←Ny526.out] at ho;replace HO_1:=aM (Kd.V_afterv (ok:=(fun k_=>(P1_ k_∨w.heap.size≤k_)∧some k_≠(u518001:Value).ownBlock∧some k_≠(u519002:Value).ownBlock∧k_≠gb516∧k_≠gb517∧k_≠gb518)) zz23 hg hat);replace HO_518001:=aM (Kd.N_afterv (ok:=(fun k_=>(P1_ k_∨w.heap.size≤k_)∧some k_≠(u519002:Value).ownBlock∧k_≠gb516∧k_≠gb517∧k_≠gb518)) zz28 hg hat);replace HO_519002:=aM (Kd.N_afterv (ok:=(fun k_=>(P1_ k_∨w.heap.size≤k_)∧some k_≠(u518001:Value).ownBlock∧k_≠gb516∧k_≠gb517∧k_≠gb518)) (by(with_reducible repeat(first|apply Kd.N_alloc|apply Kd.N_drewN|apply Kd.N_drew));exact Kd.N_mono HO_519002.out (fun _ hk=>by first|exact⟨⟨hk.1,⟨hk.2.1,⟨hk.2.2.2.1,⟨hk.2.2.2.2.1,hk.2.2.2.2.2⟩⟩⟩⟩,hk.2.2.1⟩|exact zN0)) hg hat);replace BK516:=aM (Z2 (g:=gb516) (o:= .cells #[.int .i64 0,.slice none 0 0] 46 (0,0)) (zB BK516) hg (Kd.R_ne HO_519001.out BK516.out (by decide)));replace BK517:=aM (Z2 (g:=gb517) (o:= .cells #[.int .i64 a0,u518001] 46 (0,0)) (zB BK517) hg (Kd.R_ne HO_519001.out BK517.out (by decide)));replace BK518:=aM (Z2 (g:=gb518) (o:= .cells #[.int .i64 x6_1,u519001,u519002] 74 (0,0)) (zB BK518) hg (Kd.R_ne HO_519001.out BK518.out (by decide)));replace HL522_0:=aM (Kd.V_afterv (ok:=(fun k_=>(P1_ k_∨w.heap.size≤k_)∧some k_≠(u518001:Value).ownBlock∧some k_≠(u519002:Value).ownBlock∧k_≠gb516∧k_≠gb517∧k_≠gb518)) zz21 hg hat);replace HL524_0:=aM (Kd.V_afterv (ok:=(fun k_=>(P1_ k_∨w.heap.size≤k_)∧some k_≠(u518001:Value).ownBlock∧some k_≠(u519002:Value).ownBlock∧k_≠gb516∧k_≠gb517∧k_≠gb518)) zz22 hg hat);replace HB:=aM (hb);have HO528:=aM (ho);clear HO_519001;clear ho hb hg hat;obtain⟨Ao26,co26,eo26⟩:=Kd.R_slice HO528.out;subst eo26;have hcz27_0:w25.cell? ⟨gb518,0,none⟩=some (.int .i64 x6_1):=(Zb BK518.out 0).trans rfl;have hcz27_1:w25.cell? ⟨gb518,1,none⟩=some (u519001):=(Zb BK518.out 1).trans rfl;have hcz27_2:w25.cell? ⟨gb518,2,none⟩=some (u519002):=(Zb BK518.out 2).trans rfl;have hfz27_0:=Za BK518.out 0;have hfz27_1:=Za BK518.out 1;have hfz27_2:=Za BK518.out 2))
                 have n0_:Aside0 (Kd.V (Kd.slice 3 (Kd.int .i64)) 22 (w25.setCell ⟨gb518,1,none⟩ (.slice Ao26 y526.length co26)) w.heap.size (fun k_=>(P1_ k_∨w.heap.size≤k_)∧some k_≠(u518001:Value).ownBlock∧some k_≠(u519002:Value).ownBlock∧some k_≠(.slice Ao26 y526.length co26:Value).ownBlock∧k_≠gb516∧k_≠gb517∧k_≠gb518) (.slice (some ad522) l1.length c1) l1):=⟨by(with_reducible repeat(first|apply Kd.V_alloc|apply Kd.V_drewN|apply Kd.V_drew));exact Kd.V_mono (Kd.V_far (p:=⟨gb518,1,none⟩) (Kd.V_mono HO_1.out (fun k_ hk=>(⟨hk,hk.1.2.2.2.2.2⟩:_∧k_≠gb518))) (fun _ hk=>by first|exact hk.2|exact zN0) (.slice Ao26 y526.length co26)) (fun _ hk=>by first|exact⟨hk.1.1.1,⟨hk.1.1.2.1,⟨hk.1.1.2.2.1,⟨hk.1.2,⟨hk.1.1.2.2.2.1,⟨hk.1.1.2.2.2.2.1,hk.1.1.2.2.2.2.2⟩⟩⟩⟩⟩⟩|exact zN0)⟩;have n1_:Aside0 (Kd.N k74 74 (w25.setCell ⟨gb518,1,none⟩ (.slice Ao26 y526.length co26)) w.heap.size (fun k_=>(P1_ k_∨w.heap.size≤k_)∧some k_≠(u519002:Value).ownBlock∧some k_≠(.slice Ao26 y526.length co26:Value).ownBlock∧k_≠gb516∧k_≠gb517∧k_≠gb518) u518001 x518001_1):=⟨by(with_reducible repeat(first|apply Kd.N_alloc|apply Kd.N_drewN|apply Kd.N_drew));exact Kd.N_mono (Kd.N_far (p:=⟨gb518,1,none⟩) (Kd.N_mono HO_518001.out (fun k_ hk=>(⟨hk,hk.1.2.2.2.2⟩:_∧k_≠gb518))) (fun _ hk=>by first|exact hk.2|exact zN0) (.slice Ao26 y526.length co26)) (fun _ hk=>by first|exact⟨hk.1.1.1,⟨hk.1.1.2.1,⟨hk.1.2,⟨hk.1.1.2.2.1,⟨hk.1.1.2.2.2.1,hk.1.1.2.2.2.2⟩⟩⟩⟩⟩|exact zN0)⟩;have n2_:Aside0 (Kd.N (Kd.slice 3 (Kd.int .i64)) 22 (w25.setCell ⟨gb518,1,none⟩ (.slice Ao26 y526.length co26)) w.heap.size (fun k_=>(P1_ k_∨w.heap.size≤k_)∧some k_≠(u518001:Value).ownBlock∧some k_≠(.slice Ao26 y526.length co26:Value).ownBlock∧k_≠gb516∧k_≠gb517∧k_≠gb518) u519002 x519002_3):=⟨by(with_reducible repeat(first|apply Kd.N_alloc|apply Kd.N_drewN|apply Kd.N_drew));exact Kd.N_mono (Kd.N_far (p:=⟨gb518,1,none⟩) (Kd.N_mono HO_519002.out (fun k_ hk=>(⟨hk,hk.1.2.2.2.2⟩:_∧k_≠gb518))) (fun _ hk=>by first|exact hk.2|exact zN0) (.slice Ao26 y526.length co26)) (fun _ hk=>by first|exact⟨hk.1.1.1,⟨hk.1.1.2.1,⟨hk.1.2,⟨hk.1.1.2.2.1,⟨hk.1.1.2.2.2.1,hk.1.1.2.2.2.2⟩⟩⟩⟩⟩|exact zN0)⟩;have n3_:Aside0 (Kd.V (Kd.int .i64) 3 (w25.setCell ⟨gb518,1,none⟩ (.slice Ao26 y526.length co26)) w.heap.size (fun k_=>(P1_ k_∨w.heap.size≤k_)∧some k_≠(u518001:Value).ownBlock∧some k_≠(u519002:Value).ownBlock∧some k_≠(.slice Ao26 y526.length co26:Value).ownBlock∧k_≠gb516∧k_≠gb517∧k_≠gb518) (.slice (some ad525) (Zp l1 x9_3).length c522_0) (Zp l1 x9_3)):=⟨by(with_reducible repeat(first|apply Kd.V_alloc|apply Kd.V_drewN|apply Kd.V_drew));exact Kd.V_mono (Kd.V_far (p:=⟨gb518,1,none⟩) (Kd.V_mono HL522_0.out (fun k_ hk=>(⟨hk,hk.1.2.2.2.2.2⟩:_∧k_≠gb518))) (fun _ hk=>by first|exact hk.2|exact zN0) (.slice Ao26 y526.length co26)) (fun _ hk=>by first|exact⟨hk.1.1.1,⟨hk.1.1.2.1,⟨hk.1.1.2.2.1,⟨hk.1.2,⟨hk.1.1.2.2.2.1,⟨hk.1.1.2.2.2.2.1,hk.1.1.2.2.2.2.2⟩⟩⟩⟩⟩⟩|exact zN0)⟩;have n4_:Aside0 (Kd.V (Kd.int .i64) 3 (w25.setCell ⟨gb518,1,none⟩ (.slice Ao26 y526.length co26)) w.heap.size (fun k_=>(P1_ k_∨w.heap.size≤k_)∧some k_≠(u518001:Value).ownBlock∧some k_≠(u519002:Value).ownBlock∧some k_≠(.slice Ao26 y526.length co26:Value).ownBlock∧k_≠gb516∧k_≠gb517∧k_≠gb518) (.slice (some ad525) (Zp l1 x9_3).length c522_0) (Zp l1 x9_3)):=⟨by(with_reducible repeat(first|apply Kd.V_alloc|apply Kd.V_drewN|apply Kd.V_drew));exact Kd.V_mono (Kd.V_far (p:=⟨gb518,1,none⟩) (Kd.V_mono HL524_0.out (fun k_ hk=>(⟨hk,hk.1.2.2.2.2.2⟩:_∧k_≠gb518))) (fun _ hk=>by first|exact hk.2|exact zN0) (.slice Ao26 y526.length co26)) (fun _ hk=>by first|exact⟨hk.1.1.1,⟨hk.1.1.2.1,⟨hk.1.1.2.2.1,⟨hk.1.2,⟨hk.1.1.2.2.2.1,⟨hk.1.1.2.2.2.2.1,hk.1.1.2.2.2.2.2⟩⟩⟩⟩⟩⟩|exact zN0)⟩;have n5_:Aside0 (Kd.R (Kd.int .i64) 3 (w25.setCell ⟨gb518,1,none⟩ (.slice Ao26 y526.length co26)) w.heap.size (fun k_=>(w.heap.size≤k_)) (.slice Ao26 y526.length co26) y526):=⟨(by(with_reducible repeat(first|apply Kd.R_alloc|apply Kd.R_drewN|apply Kd.R_drew));exact Kd.R_mono (Kd.R_far (p:=⟨gb518,1,none⟩) (Kd.R_types HO528.out BK518.out (by decide)) (fun _ hk=>by first|exact hk.2|exact zN0) (.slice Ao26 y526.length co26)) (fun _ hk=>by first|exact hk.1|exact zN0))⟩;have n6_:Aside0 ((w25.setCell ⟨gb518,1,none⟩ (.slice Ao26 y526.length co26)).heap[gb516]? =some (.cells #[.int .i64 0,.slice none 0 0] 46 (0,0))):=⟨zz60⟩;have n7_:Aside0 ((w25.setCell ⟨gb518,1,none⟩ (.slice Ao26 y526.length co26)).heap[gb517]? =some (.cells #[.int .i64 a0,u518001] 46 (0,0))):=⟨zz61⟩;have n8_:Aside0 ((w25.setCell ⟨gb518,1,none⟩ (.slice Ao26 y526.length co26)).heap[gb518]? =some (.cells #[.int .i64 x6_1,.slice Ao26 y526.length co26,u519002] 74 (0,0))):=⟨(by(with_reducible repeat(first|refine Zm ?_ _|refine Zo ?_|refine Zl ?_ _));refine ZI (cs:= #[.int .i64 x6_1,u519001,u519002]) ?_ 1 _ rfl;(with_reducible repeat(first|refine Zm ?_ _|refine Zo ?_|refine Zl ?_ _));exact BK518.out)⟩;have n9_:Aside0 (Below w.heap.size w (w25.setCell ⟨gb518,1,none⟩ (.slice Ao26 y526.length co26))):=⟨zz72⟩;(try clear HO_1);(try clear HO_518001);(try clear HO_519002);(try clear HL522_0);(try clear HL524_0);(try clear HO528);(try clear BK516);(try clear BK517);(try clear BK518);(try clear HB);generalize (w25.setCell ⟨gb518,1,none⟩ (.slice Ao26 y526.length co26))=w28 at n0_ n1_ n2_ n3_ n4_ n5_ n6_ n7_ n8_ n9_⊢;have HO_1:=n0_;have HO_518001:=n1_;have HO_519002:=n2_;have HL522_0:=n3_;have HL524_0:=n4_;have HO528:=n5_;have BK516:=n6_;have BK517:=n7_;have BK518:=n8_;have HB:=n9_;clear n0_ n1_ n2_ n3_ n4_ n5_ n6_ n7_ n8_ n9_;have n0_:=aM (Kd.V_drew HO_1.out);have n1_:=aM (Kd.N_drew HO_518001.out);have n2_:=aM (Kd.N_drew HO_519002.out);have n3_:=aM (Kd.V_drew HL522_0.out);have n4_:=aM (Kd.V_drew HL524_0.out);have n5_:=aM (Kd.R_drew HO528.out);have n6_:=aM (Zo BK516.out);have n7_:=aM (Zo BK517.out);have n8_:=aM (Zo BK518.out);have n9_:=aM (Zh HB.out);clear HO_1;clear HO_518001;clear HO_519002;clear HL522_0;clear HL524_0;clear HO528;clear BK516;clear BK517;clear BK518;clear HB;have HO_1:=n0_;have HO_518001:=n1_;have HO_519002:=n2_;have HL522_0:=n3_;have HL524_0:=n4_;have HO528:=n5_;have BK516:=n6_;have BK517:=n7_;have BK518:=n8_;have HB:=n9_;clear n0_ n1_ n2_ n3_ n4_ n5_ n6_ n7_ n8_ n9_;have p529:0≤(x9_3:Int):=oD zz153;have q529:x9_3<(l1.length:Int):=oD zz153;obtain⟨ad529,A529_0,c529_0,e529,hx529_0,hl529_0,hi529_0⟩:=ZY (Kd.V_reads' HO_1.out).2.2 x9_3 p529 q529;obtain rfl:ad522=ad529:=(by injection e529);obtain⟨ce529,hce529,hMe529,hcc529⟩:=Kd.V_get HO_1.out [] x9_3 p529 (by first|exact q529|exact oD zz153|(have e_:=(Kd.V_reads' HO_1.out).1;omega));obtain⟨ua529_0,uc529_0,rfl,ul529_0,ge529_0⟩:=Kd.FK_slice_open hMe529;have hv529_0:=hcc529 0 _ rfl;rw[Nat.add_zero,show((Kd.slice 3 (Kd.int .i64))).sz=1 from rfl,Nat.mul_one] at hv529_0;replace hv529_0:=oI (hv529_0.symm.trans hx529_0);injection hv529_0 with hva_ hvn_ hvc_
                 rw[hva_] at ge529_0;rw[hvc_] at ul529_0;have HL529_0:=aM (show Kd.V (Kd.int .i64) 3 _ w.heap.size _ _ (Zp l1 x9_3) from Kd.V_mk ul529_0 ge529_0);clear hva_ hvn_ hvc_ ge529_0 ul529_0;clear hcc529 hce529;have HR529_0:=aM hi529_0;have HC529_0:=aM hl529_0;clear hi529_0 hl529_0;replace p529:=eq_true p529;replace q529:=eq_true q529
                 refine start_ (n:=10) (S:=fun w'=>w'.cell? ⟨gb518,0,none⟩=some (.int .i64 x6_1)∧w'.cell? ⟨gb518,1,none⟩=some (.slice Ao26 y526.length co26)∧w'.cell? ⟨gb518,2,none⟩=some (u519002)∧w'.cell? (ad522.add (x9_3).toNat)=some (.slice A529_0 (Zp l1 x9_3).length c529_0)) (ds:= [7,9]) #[false,false,false,false,false,false,false,false,false,false] (by kernel_rfl) rfl rfl ⟨(Zb BK518.out 0).trans rfl,(Zb BK518.out 1).trans rfl,(Zb BK518.out 2).trans rfl,hx529_0⟩ (fun hHeld=> ?_);refine Z6 r30_Of.tab14 r30_Of.bits14 (fun HT_ HW_=> ?_);generalize w28.drew=w29 at HO_1 HO_518001 HO_519002 HL522_0 HL524_0 HO528 BK516 BK517 BK518 HB HL529_0 HR529_0 hx529_0 hHeld⊢
                 refine ZC (i:=0) (N:=some 54) (v:= ?_) (a':= ?_) #[true,false,false,false,false,false,false,false,false,false] rfl rfl (Zy HT_.out (by kernel_rfl)) (fun _ _ _ h=>h) (Or.inl ⟨by rfl,?_⟩) ?_ ?_;rotate_left
                 ·intro w';go_simp;with_reducible rfl
                 rotate_left
                 ·simp only[Act.put,sA,sB,sC,Zt,Zu];rfl
                 refine ZC (i:=2) (N:=some 56) (v:= ?_) (a':= ?_) #[true,false,true,false,false,false,false,false,false,false] rfl rfl (Zy HT_.out (by kernel_rfl)) (fun _ _ _ h=>h) (Or.inl ⟨by rfl,?_⟩) ?_ ?_;rotate_left
                 ·intro w';go_simp;with_reducible rfl
                 rotate_left
                 ·simp only[Act.put,sA,sB,sC,Zt,Zu];rfl
                 refine ZC (i:=3) (N:=some 57) (v:= ?_) (a':= ?_) #[true,false,true,true,false,false,false,false,false,false] rfl rfl (Zy HT_.out (by kernel_rfl)) (fun _ _ _ h=>h) (Or.inl ⟨by rfl,?_⟩) ?_ ?_;rotate_left
                 ·intro w';go_simp;with_reducible rfl
                 rotate_left
                 ·simp only[Act.put,sA,sB,sC,Zt,Zu];rfl
                 refine ZC (i:=4) (N:=some 58) (v:= ?_) (a':= ?_) #[true,false,true,true,true,false,false,false,false,false] rfl rfl (Zy HT_.out (by kernel_rfl)) (fun _ _ _ h=>h) (Or.inl ⟨by rfl,?_⟩) ?_ ?_;rotate_left
                 ·intro w';go_simp;with_reducible rfl
                 rotate_left
                 ·simp only[Act.put,sA,sB,sC,Zt,Zu];rfl
                 refine Yc (i:=1) (N:=some 55) (v:= ?_) (a':= ?_) #[true,true,true,true,true,false,false,false,false,false] rfl rfl (ZW HT_.out HW_.out (by kernel_rfl)) (fun _ _ _ h=>h) (Or.inl ⟨by rfl,?_⟩) hHeld ?_ ?_;rotate_left
                 ·rintro w' ⟨s0,s1,s2,s3⟩;go_simp;with_reducible rfl
                 rotate_left
                 ·simp only[Act.put,sA,sB,sC,Zt,Zu];rfl
                 refine Yc (i:=5) (N:=some 59) (v:= ?_) (a':= ?_) #[true,true,true,true,true,true,false,false,false,false] rfl rfl (ZW HT_.out HW_.out (by kernel_rfl)) (fun _ _ _ h=>h) (Or.inl ⟨by rfl,?_⟩) hHeld ?_ ?_;rotate_left
                 ·rintro w' ⟨s0,s1,s2,s3⟩;go_simp;with_reducible rfl
                 rotate_left
                 ·simp only[Act.put,sA,sB,sC,Zt,Zu];rfl
                 refine one_ (i:=6) (N:=some 60) #[true,true,true,true,true,true,true,false,false,false] rfl rfl (ZZ HT_.out (by kernel_rfl)) (by decide) (fun K hK=> ?_)
                 refine value_ (w1:= ?_) (v:= ?_) (by rfl) rfl ?_ ?_;rotate_left 2
                 ·go_simp
                  constructor
                  ·rfl
                  ·rfl
                 refine hK.out _ _ ⟨(Zb (Zl BK518.out _) 0).trans rfl,(Zb (Zl BK518.out _) 1).trans rfl,(Zb (Zl BK518.out _) 2).trans rfl,(World.cell?_alloc_lt _ _ _ (wB _ _ (hHeld.2.2.2))).trans (hHeld.2.2.2)⟩ (fun hHeld=> ?_);clear hK K
                 refine ZS (a':= ?_) ?_ ?_;rotate_left
                 ·show Act.put _ (some 60) _=_
                  simp only[Act.put,sA,sB,sC,Zt,Zu];rfl
                 refine last_ (i:=7) (N:=some 61) #[true,true,true,true,true,true,true,true,false,false] rfl rfl (ZZ HT_.out (by kernel_rfl)) (by decide) (fun K hK=> ?_)
                 refine Kd.N_append_step (Kd.slice 3 (Kd.int .i64)) (w0:=w) w.heap.size (by rfl) (.tmp 55) (.tmp 60) 28 22 (.slice none 0 0) 24 rfl Try.underlying28 info22 rfl (by decide) (by omega) u519002 x519002_3 (Zp l1 x9_3) [.slice A529_0 (Zp l1 x9_3).length c529_0] (fun k_=>(P1_ k_∨w.heap.size≤k_)∧some k_≠(u518001:Value).ownBlock∧some k_≠(.slice Ao26 y526.length co26:Value).ownBlock∧k_≠gb516∧k_≠gb517∧k_≠gb518) (fun k_=>((fun k_=>(P1_ k_∨w.heap.size≤k_)∧some k_≠(u518001:Value).ownBlock∧some k_≠(.slice Ao26 y526.length co26:Value).ownBlock∧k_≠gb516∧k_≠gb517∧k_≠gb518)) k_∧some k_≠(u519002:Value).ownBlock) rfl rfl ?aP (fun _ hk=>hk) ?aF ?aO ?aB ?aS ?aL ?_
                 (case aP=>exact(Kd.FK_slice_mk (Kd.V_reads' (Kd.V_mono (ok':=(fun k_=>((fun k_=>(P1_ k_∨w.heap.size≤k_)∧some k_≠(u518001:Value).ownBlock∧some k_≠(.slice Ao26 y526.length co26:Value).ownBlock∧k_≠gb516∧k_≠gb517∧k_≠gb518)) k_∧some k_≠(u519002:Value).ownBlock)) (HL529_0.out) (fun k_ hk=>by first|exact⟨⟨hk.1,⟨hk.2.1,⟨hk.2.2.2.1,⟨hk.2.2.2.2.1,⟨hk.2.2.2.2.2.1,hk.2.2.2.2.2.2⟩⟩⟩⟩⟩,hk.2.2.1⟩|exact zN0))).2.1 (Kd.V_F (Kd.V_mono (ok':=(fun k_=>((fun k_=>(P1_ k_∨w.heap.size≤k_)∧some k_≠(u518001:Value).ownBlock∧some k_≠(.slice Ao26 y526.length co26:Value).ownBlock∧k_≠gb516∧k_≠gb517∧k_≠gb518)) k_∧some k_≠(u519002:Value).ownBlock)) (HL529_0.out) (fun k_ hk=>by first|exact⟨⟨hk.1,⟨hk.2.1,⟨hk.2.2.2.1,⟨hk.2.2.2.2.1,⟨hk.2.2.2.2.2.1,hk.2.2.2.2.2.2⟩⟩⟩⟩⟩,hk.2.2.1⟩|exact zN0)))))
                 (case aB=>exact zz72)
                 (case aF=>exact(fun k_ hk=>⟨(.inr (Nat.le_trans (Zc zz72) hk)),Kd.fresh' (Kd.N_lt (zN HO_518001)) k_ hk,Kd.fresh' (Kd.R_lt (zR HO528)) k_ hk,Kd.freshB (g:=gb516) (o:= .cells #[.int .i64 0,.slice none 0 0] 46 (0,0)) (zB BK516) k_ hk,Kd.freshB (g:=gb517) (o:= .cells #[.int .i64 a0,u518001] 46 (0,0)) (zB BK517) k_ hk,Kd.freshB (g:=gb518) (o:= .cells #[.int .i64 x6_1,.slice Ao26 y526.length co26,u519002] 74 (0,0)) (zB BK518) k_ hk⟩))
                 (case aO=>exact(zN HO_519002))
                 (case aS=>exact(Zc zz72))
                 (case aL=>have:=LMc21.out;omega)
                 intro v531 w30 ho hb hg hat;rw[←Ny530.out] at ho;have n0_:=aM (Kd.V_afterv (ok:=(fun k_=>(P1_ k_∨w.heap.size≤k_)∧some k_≠(u518001:Value).ownBlock∧some k_≠(.slice Ao26 y526.length co26:Value).ownBlock∧k_≠gb516∧k_≠gb517∧k_≠gb518)) zz23 hg hat);have n1_:=aM (Kd.N_afterv (ok:=(fun k_=>(P1_ k_∨w.heap.size≤k_)∧some k_≠(.slice Ao26 y526.length co26:Value).ownBlock∧k_≠gb516∧k_≠gb517∧k_≠gb518)) zz28 hg hat);have n2_:=aM (Z2 (g:=gb516) (o:= .cells #[.int .i64 0,.slice none 0 0] 46 (0,0)) (zB BK516) hg (Kd.N_ne HO_519002.out BK516.out (by decide)));have n3_:=aM (Z2 (g:=gb517) (o:= .cells #[.int .i64 a0,u518001] 46 (0,0)) (zB BK517) hg (Kd.N_ne HO_519002.out BK517.out (by decide)));have n4_:=aM (Z2 (g:=gb518) (o:= .cells #[.int .i64 x6_1,.slice Ao26 y526.length co26,u519002] 74 (0,0)) (zB BK518) hg (Kd.N_ne HO_519002.out BK518.out (by decide)));have n5_:=aM (Kd.V_afterv (ok:=(fun k_=>(P1_ k_∨w.heap.size≤k_)∧some k_≠(u518001:Value).ownBlock∧some k_≠(.slice Ao26 y526.length co26:Value).ownBlock∧k_≠gb516∧k_≠gb517∧k_≠gb518)) zz21 hg hat);have n6_:=aM (Kd.V_afterv (ok:=(fun k_=>(P1_ k_∨w.heap.size≤k_)∧some k_≠(u518001:Value).ownBlock∧some k_≠(.slice Ao26 y526.length co26:Value).ownBlock∧k_≠gb516∧k_≠gb517∧k_≠gb518)) zz22 hg hat);have n7_:=aM (Kd.R_over' (zR HO528) (Kd.N_typed (zN HO_519002)) (by decide) hg);have n8_:=aM (Kd.V_afterv (ok:=(fun k_=>(P1_ k_∨w.heap.size≤k_)∧some k_≠(u518001:Value).ownBlock∧some k_≠(.slice Ao26 y526.length co26:Value).ownBlock∧k_≠gb516∧k_≠gb517∧k_≠gb518)) (by(with_reducible repeat(first|apply Kd.V_alloc|apply Kd.V_drewN|apply Kd.V_drew));exact Kd.V_mono HL529_0.out (fun _ hk=>by first|exact⟨⟨hk.1,⟨hk.2.1,⟨hk.2.2.2.1,⟨hk.2.2.2.2.1,⟨hk.2.2.2.2.2.1,hk.2.2.2.2.2.2⟩⟩⟩⟩⟩,hk.2.2.1⟩|exact zN0)) hg hat);have n9_:=aM (hb);have n10_:=aM (ho);clear HO_1;clear HO_518001;clear BK516;clear BK517;clear BK518;clear HL522_0;clear HL524_0;clear HO528;clear HL529_0;clear HB;clear HO_519002;have HO_1:=n0_;have HO_518001:=n1_;have BK516:=n2_;have BK517:=n3_;have BK518:=n4_;have HL522_0:=n5_;have HL524_0:=n6_;have HO528:=n7_;have HL529_0:=n8_;have HB:=n9_;have HO532:=n10_;clear n0_ n1_ n2_ n3_ n4_ n5_ n6_ n7_ n8_ n9_ n10_;clear ho hb hg hat;obtain⟨Ao31,co31,eo31⟩:=Kd.N_slice HO532.out
                 (first|subst eo31|(injection eo31 with f1_ f2_ f3_;have f4_:=f1_.symm;have f5_:=f3_.symm;clear f1_ f2_ f3_;subst f4_;subst f5_))
                 refine hK.out _ _ ?_;clear hK K
                 refine ZS (a':= ?_) ?_ ?_;rotate_left
                 ·show Act.put _ (some 61) _=_
                  simp only[Act.put,sA,sB,sC,Zt,Zu];rfl
                 refine ZC (i:=8) (N:=some 62) (v:= ?_) (a':= ?_) #[true,true,true,true,true,true,true,true,true,false] rfl rfl (Zy HT_.out (by kernel_rfl)) (fun _ _ _ h=>h) (Or.inl ⟨by rfl,?_⟩) ?_ ?_;rotate_left
                 ·intro w';go_simp;with_reducible rfl
                 rotate_left
                 ·simp only[Act.put,sA,sB,sC,Zt,Zu];rfl
                 refine last_ (i:=9) (N:=none) #[true,true,true,true,true,true,true,true,true,true] rfl rfl (ZZ HT_.out (by kernel_rfl)) (by decide) (fun K hK=> ?_);have hs32:w30.cell? ⟨gb518,2,none⟩=some (u519002):=(Zb BK518.out 2).trans rfl;have hfs32:=Za BK518.out 2;have hns32_0:=NB516_518.out;have hns32_1:=NB517_518.out;have hms32_0:=NB518_516.out;have hms32_1:=NB518_517.out
                 refine skip_ (w1:= ?_) (by rfl) rfl ?_ ?_;rotate_left
                 ·go_simp;rfl
                 refine hK.out _ _ ?_;clear hK K
                 refine done_ (done_of HT_.out (by kernel_rfl)) ?_
                 try go_wp2
                 go_roundg k3
                 case measure=>have:=HK1.out;have:=HK2.out;have:=HK3.out;omega
                 case rel=>exact⟨(wrap64 (x8_2+1)),(y526),(y530),(.slice Ao26 y526.length co26),(.slice Ao31 y530.length co31),zz154,H',⟨zz152⟩,⟨by(with_reducible repeat(first|apply Kd.V_alloc|apply Kd.V_drewN|apply Kd.V_drew));exact Kd.V_mono (Kd.V_far (p:=⟨gb518,2,none⟩) (Kd.V_mono HO_1.out (fun k_ hk=>(⟨hk,hk.1.2.2.2.2.2⟩:_∧k_≠gb518))) (fun _ hk=>by first|exact hk.2|exact zN0) (.slice Ao31 y530.length co31)) (fun _ hk=>by first|exact⟨hk.1.1.1,⟨hk.1.1.2.1,⟨hk.1.1.2.2.1,⟨hk.1.2,⟨hk.1.1.2.2.2.1,⟨hk.1.1.2.2.2.2.1,hk.1.1.2.2.2.2.2⟩⟩⟩⟩⟩⟩|exact zN0)⟩,⟨by(with_reducible repeat(first|apply Kd.N_alloc|apply Kd.N_drewN|apply Kd.N_drew));exact Kd.N_mono (Kd.N_far (p:=⟨gb518,2,none⟩) (Kd.N_mono HO_518001.out (fun k_ hk=>(⟨hk,hk.1.2.2.2.2⟩:_∧k_≠gb518))) (fun _ hk=>by first|exact hk.2|exact zN0) (.slice Ao31 y530.length co31)) (fun _ hk=>by first|exact⟨hk.1.1.1,⟨hk.1.1.2.1,⟨hk.1.2,⟨hk.1.1.2.2.1,⟨hk.1.1.2.2.2.1,hk.1.1.2.2.2.2⟩⟩⟩⟩⟩|exact zN0)⟩,⟨(by(with_reducible repeat(first|apply Kd.R_alloc|apply Kd.R_drewN|apply Kd.R_drew));exact Kd.R_mono (Kd.R_far (p:=⟨gb518,2,none⟩) (Kd.R_types HO528.out BK518.out (by decide)) (fun _ hk=>by first|exact hk.2|exact zN0) (.slice Ao31 y530.length co31)) (fun _ hk=>by first|exact hk.1|exact zN0))⟩,⟨by(with_reducible repeat(first|apply Kd.N_alloc|apply Kd.N_drewN|apply Kd.N_drew));exact Kd.N_mono (Kd.N_far (p:=⟨gb518,2,none⟩) (Kd.N_mono HO532.out (fun k_ hk=>(⟨hk,hk.2.2.2.2.2⟩:_∧k_≠gb518))) (fun _ hk=>by first|exact hk.2|exact zN0) (.slice Ao31 y530.length co31)) (fun _ hk=>by first|exact⟨hk.1.1,⟨hk.1.2.1,⟨hk.1.2.2.1,⟨hk.1.2.2.2.1,⟨hk.1.2.2.2.2.1,hk.1.2.2.2.2.2⟩⟩⟩⟩⟩|exact zN0)⟩,⟨zz60⟩,⟨zz61⟩,⟨(by(with_reducible repeat(first|refine Zm ?_ _|refine Zo ?_|refine Zl ?_ _));refine ZI (cs:= #[.int .i64 x6_1,.slice Ao26 y526.length co26,u519002]) ?_ 2 _ rfl;(with_reducible repeat(first|refine Zm ?_ _|refine Zo ?_|refine Zl ?_ _));exact BK518.out)⟩,⟨zz72⟩⟩
                rw[if_neg c21] at H
                exact absurd H (by simp)
               rw[if_neg c20] at H
               exact absurd H (by simp)
              rw[if_neg c19] at H;have c19b0:=beq_eq_false_iff_ne.mpr c19;have c19b1:=bne_iff_ne.mpr c19;have H':=aM H;clear H;have p522:0≤(x9_3:Int):=oD zz153;have q522:x9_3<(l1.length:Int):=oD zz153;obtain⟨ad522,A522_0,c522_0,e522,hx522_0,hl522_0,hi522_0⟩:=ZY (Kd.V_reads' HO_1.out).2.2 x9_3 p522 q522
              cases e522;obtain⟨ce522,hce522,hMe522,hcc522⟩:=Kd.V_get HO_1.out [] x9_3 p522 zz120;obtain⟨ua522_0,uc522_0,rfl,ul522_0,ge522_0⟩:=Kd.FK_slice_open hMe522;have hv522_0:=hcc522 0 _ rfl;rw[Nat.add_zero,show((Kd.slice 3 (Kd.int .i64))).sz=1 from rfl,Nat.mul_one] at hv522_0;replace hv522_0:=oI (hv522_0.symm.trans hx522_0);injection hv522_0 with hva_ hvn_ hvc_
              rw[hva_] at ge522_0;rw[hvc_] at ul522_0;have HL522_0:=aM (show Kd.V (Kd.int .i64) 3 _ w.heap.size _ _ (Zp l1 x9_3) from Kd.V_mk ul522_0 ge522_0);clear hva_ hvn_ hvc_ ge522_0 ul522_0;clear hcc522 hce522;have HR522_0:=aM hi522_0;have HC522_0:=aM hl522_0;clear hi522_0 hl522_0;replace p522:=eq_true p522;replace q522:=eq_true q522
              go_wp2_with (first|((with_reducible refine Zq (f:=87) rfl ?_);refine ZB (some 36) rfl rfl Try.func87 (by kernel_rfl) rfl #[.slice A522_0 (Zp l1 x9_3).length c522_0,.int .i64 x6_1] rfl zz127 ?_;(with_reducible refine(r30_fixes.calls k3 _ _ (Zp l1 x9_3) x6_1 true _ ?side1 ?side2 A15.out).mono ?_);(case side1=>repeat(first|exact zz83|(with_reducible refine Kd.C_alloc ?_ _)|(with_reducible refine Kd.C_drewN ?_ _)|(with_reducible refine Kd.C_drew ?_)));(case side2=>exact HC522_0.out);rintro e w' ⟨rfl,⟨nd,rfl⟩⟩;refine⟨_,rfl,?_⟩;have p524:0≤(x9_3:Int):=oD zz153;have q524:x9_3<(l1.length:Int):=oD zz153;obtain⟨ad524,A524_0,c524_0,e524,hx524_0,hl524_0,hi524_0⟩:=ZY (Kd.V_reads' HO_1.out).2.2 x9_3 p524 q524;obtain rfl:ad522=ad524:=(by injection e524);obtain⟨ce524,hce524,hMe524,hcc524⟩:=Kd.V_get HO_1.out [] x9_3 p524 zz121;obtain⟨ua524_0,uc524_0,rfl,ul524_0,ge524_0⟩:=Kd.FK_slice_open hMe524;have hv524_0:=hcc524 0 _ rfl;rw[Nat.add_zero,show((Kd.slice 3 (Kd.int .i64))).sz=1 from rfl,Nat.mul_one] at hv524_0;replace hv524_0:=oI (hv524_0.symm.trans hx524_0);injection hv524_0 with hva_ hvn_ hvc_;rw[hva_] at ge524_0;rw[hvc_] at ul524_0;have HL524_0:=aM (show Kd.V (Kd.int .i64) 3 _ w.heap.size _ _ (Zp l1 x9_3) from Kd.V_mk ul524_0 ge524_0);clear hva_ hvn_ hvc_ ge524_0 ul524_0;clear hcc524 hce524;have HR524_0:=aM hi524_0;have HC524_0:=aM hl524_0;clear hi524_0 hl524_0;replace p524:=eq_true p524;replace q524:=eq_true q524;have ea_:=oI (hx522_0.symm.trans hx524_0);injection ea_ with ea_ en_ ec_;subst ea_;subst ec_;clear en_;have p525:0≤(x6_1:Int):=oD zz153;have q525:x6_1<((Zp l1 x9_3).length:Int):=oD zz153;obtain⟨ad525,e525,hx525_0⟩:=Kd.at_int zz84 x6_1 p525 q525;cases e525;replace p525:=eq_true p525;replace q525:=eq_true q525))
              go_roundg k3
              case measure=>have:=HK1.out;have:=HK2.out;have:=HK3.out;omega
              case rel=>exact⟨(wrap64 (x9_3+1)),(x519001_3),(x519002_3),(u519001),(u519002),zz154,H',⟨zz152⟩,⟨(zV HO_1)⟩,⟨(zN HO_518001)⟩,⟨(zR HO_519001)⟩,⟨(zN HO_519002)⟩,⟨(zB BK516)⟩,⟨(zB BK517)⟩,⟨(zB BK518)⟩,⟨zz72⟩⟩
             rw[if_neg c18] at H
             exact absurd H (by simp)
            rw[if_neg c17] at H
            exact absurd H (by simp)
           replace c16:=Bool.eq_false_iff.mpr c16;subst c16;have H1:(r30_Of.l2 k3 a0 l1 x6_1 x8_2 (wrap64 (x9_3+1)) a0 x518001_1 x6_1 x519001_3 x519002_3)=some (r1,r2):=by rw[if_neg (show¬(false=true) by decide)] at H;exact H
           clear H;have H:=H1;clear H1;have H':=aM H;clear H;have p522:0≤(x9_3:Int):=oD zz153;have q522:x9_3<(l1.length:Int):=oD zz153;obtain⟨ad522,A522_0,c522_0,e522,hx522_0,hl522_0,hi522_0⟩:=ZY (Kd.V_reads' HO_1.out).2.2 x9_3 p522 q522
           cases e522;obtain⟨ce522,hce522,hMe522,hcc522⟩:=Kd.V_get HO_1.out [] x9_3 p522 zz120;obtain⟨ua522_0,uc522_0,rfl,ul522_0,ge522_0⟩:=Kd.FK_slice_open hMe522;have hv522_0:=hcc522 0 _ rfl;rw[Nat.add_zero,show((Kd.slice 3 (Kd.int .i64))).sz=1 from rfl,Nat.mul_one] at hv522_0;replace hv522_0:=oI (hv522_0.symm.trans hx522_0);injection hv522_0 with hva_ hvn_ hvc_
           rw[hva_] at ge522_0;rw[hvc_] at ul522_0;have HL522_0:=aM (show Kd.V (Kd.int .i64) 3 _ w.heap.size _ _ (Zp l1 x9_3) from Kd.V_mk ul522_0 ge522_0);clear hva_ hvn_ hvc_ ge522_0 ul522_0;clear hcc522 hce522;have HR522_0:=aM hi522_0;have HC522_0:=aM hl522_0;clear hi522_0 hl522_0;replace p522:=eq_true p522;replace q522:=eq_true q522
           go_wp2_with (first|((with_reducible refine Zq (f:=87) rfl ?_);refine ZB (some 36) rfl rfl Try.func87 (by kernel_rfl) rfl #[.slice A522_0 (Zp l1 x9_3).length c522_0,.int .i64 x6_1] rfl zz127 ?_;(with_reducible refine(r30_fixes.calls k3 _ _ (Zp l1 x9_3) x6_1 false _ ?side1 ?side2 A15.out).mono ?_);(case side1=>repeat(first|exact zz83|(with_reducible refine Kd.C_alloc ?_ _)|(with_reducible refine Kd.C_drewN ?_ _)|(with_reducible refine Kd.C_drew ?_)));(case side2=>exact HC522_0.out);rintro e w' ⟨rfl,⟨nd,rfl⟩⟩;refine⟨_,rfl,?_⟩))
           go_roundg k3
           case measure=>have:=HK1.out;have:=HK2.out;have:=HK3.out;omega
           case rel=>exact⟨(wrap64 (x9_3+1)),(x519001_3),(x519002_3),(u519001),(u519002),zz154,H',⟨zz152⟩,⟨(zV HO_1)⟩,⟨(zN HO_518001)⟩,⟨(zR HO_519001)⟩,⟨(zN HO_519002)⟩,⟨(zB BK516)⟩,⟨(zB BK517)⟩,⟨(zB BK518)⟩,⟨zz72⟩⟩
          rw[if_neg c14] at H
          exact absurd H (by simp)
         rw[if_neg c13] at H;have c13b0:=dF c13;clear c13;have H':=aM H;clear H;go_wp2
         go_roundg k3
         case measure=>have:=HK1.out;have:=HK2.out;have:=HK3.out;omega
         case rel=>exact⟨(wrap64 (x8_2+1)),(x519001_3),(x519002_3),(u519001),(u519002),zz154,H',⟨zz152⟩,⟨(zV HO_1)⟩,⟨(zN HO_518001)⟩,⟨(zR HO_519001)⟩,⟨(zN HO_519002)⟩,⟨(zB BK516)⟩,⟨(zB BK517)⟩,⟨(zB BK518)⟩,⟨zz72⟩⟩
      rw[if_neg c12] at H;have c12b0:=dF c12;clear c12
      by_cases c33:(x519001_2.length:Int)>1
      ·rw [if_pos c33] at H;have c33b0:=dT c33;have c33b1:decide (1<x519001_2.length)=true:=dT (by omega);clear c33
       by_cases c34:x518001_1.length<2513169434916
       ·rw[if_pos c34] at H;have LMc34:=aM c34;clear c34;obtain⟨y519,hy519⟩:∃y_:List (S74),y_=(x518001_1++ [(⟨x6_1,x519001_2,x519002_2⟩:S74)]):=⟨_,rfl⟩;replace H:(r30_Of.l0 k2 a0 l1 (wrap64 (x6_1+1)) a0 y519)=some (r1,r2):=by first|(rw[hy519];with_reducible exact H)|(have H2_:=(Option.bind_some _ _).symm.trans H;rw[hy519];with_reducible exact H2_)|(have H2_:=(Option.bind_some _ _).symm.trans H;with_reducible exact H2_)|with_reducible exact H|(rw[hy519];exact H)|exact H
        have Ny519:=aM hy519;clear hy519;have H':=aM H;clear H;have hnb35:=NB518_516.out;have hnc35:=NB516_518.out;have hnb36:=NB518_517.out;have hnc36:=NB517_518.out;have hcz37_0:wr.cell? ⟨gb518,0,none⟩=some (.int .i64 x6_1):=(Zb BK518.out 0).trans rfl;have hcz37_1:wr.cell? ⟨gb518,1,none⟩=some (u519001):=(Zb BK518.out 1).trans rfl;have hcz37_2:wr.cell? ⟨gb518,2,none⟩=some (u519002):=(Zb BK518.out 2).trans rfl;have hfz37_0:=Za BK518.out 0;have hfz37_1:=Za BK518.out 1;have hfz37_2:=Za BK518.out 2;obtain⟨Ao38,co38,eo38⟩:=Kd.R_slice HO_519001.out;subst eo38;have hnb39:=NB517_516.out;have hnc39:=NB516_517.out;have hcz40_0:wr.cell? ⟨gb517,0,none⟩=some (.int .i64 a0):=(Zb BK517.out 0).trans rfl;have hcz40_1:wr.cell? ⟨gb517,1,none⟩=some (u518001):=(Zb BK517.out 1).trans rfl;have hfz40_0:=Za BK517.out 0;have hfz40_1:=Za BK517.out 1;obtain⟨Ao42,co42,eo42⟩:=Kd.N_slice HO_519002.out;subst eo42
        go_wp2_with (first|((with_reducible refine ZT (b:= .append) (xs:= #[.tmp 68,.tmp 70]) rfl ?_);at_builtin;refine Kd.N_append k74 (w0:=w) w.heap.size rfl (.tmp 68) (.tmp 70) 44 74 (.agg #[(.int .i64 0),(.slice none 0 0),(.slice none 0 0)]) 56 rfl Try.underlying44 info74 rfl (by decide) (by omega) u518001 x518001_1 (⟨x6_1,x519001_2,x519002_2⟩:S74) [.int .i64 x6_1,.slice Ao38 x519001_2.length co38,.slice Ao42 x519002_2.length co42] (fun k_=>(P1_ k_∨w.heap.size≤k_)∧k_≠gb516∧k_≠gb517∧k_≠gb518) (fun k_=>((fun k_=>(P1_ k_∨w.heap.size≤k_)∧k_≠gb516∧k_≠gb517∧k_≠gb518)) k_∧some k_≠(u518001:Value).ownBlock) rfl rfl ?aP (fun _ hk=>hk) ?aF ?aO ?aB ?aS ?aL ?_;(case aP=>exact(k74_mkF _ _ (⟨x6_1,x519001_2,x519002_2⟩:S74) (Kd.R_reads' (Kd.R_mono (ok':=(fun k_=>((fun k_=>(P1_ k_∨w.heap.size≤k_)∧k_≠gb516∧k_≠gb517∧k_≠gb518)) k_∧some k_≠(u518001:Value).ownBlock)) (Kd.R_types (Kd.R_types (Kd.R_types (Kd.R_apart' (HO_519001.out) (Kd.N_typed HO_518001.out) (by decide)) BK516.out (by decide)) BK517.out (by decide)) BK518.out (by decide)) (fun k_ hk=>⟨⟨(.inr (hk.1.1.1.1)),⟨hk.1.1.2,⟨hk.1.2,hk.2⟩⟩⟩,hk.1.1.1.2⟩))).2.1 (Kd.R_F (Kd.R_mono (ok':=(fun k_=>((fun k_=>(P1_ k_∨w.heap.size≤k_)∧k_≠gb516∧k_≠gb517∧k_≠gb518)) k_∧some k_≠(u518001:Value).ownBlock)) (Kd.R_types (Kd.R_types (Kd.R_types (Kd.R_apart' (HO_519001.out) (Kd.N_typed HO_518001.out) (by decide)) BK516.out (by decide)) BK517.out (by decide)) BK518.out (by decide)) (fun k_ hk=>⟨⟨(.inr (hk.1.1.1.1)),⟨hk.1.1.2,⟨hk.1.2,hk.2⟩⟩⟩,hk.1.1.1.2⟩))) (Kd.N_reads' (Kd.N_mono (ok':=(fun k_=>((fun k_=>(P1_ k_∨w.heap.size≤k_)∧k_≠gb516∧k_≠gb517∧k_≠gb518)) k_∧some k_≠(u518001:Value).ownBlock)) (HO_519002.out) (fun k_ hk=>by first|exact⟨⟨hk.1,⟨hk.2.2.2.1,⟨hk.2.2.2.2.1,hk.2.2.2.2.2⟩⟩⟩,hk.2.1⟩|exact zN0))).2.1 (Kd.N_F (Kd.N_mono (ok':=(fun k_=>((fun k_=>(P1_ k_∨w.heap.size≤k_)∧k_≠gb516∧k_≠gb517∧k_≠gb518)) k_∧some k_≠(u518001:Value).ownBlock)) (HO_519002.out) (fun k_ hk=>by first|exact⟨⟨hk.1,⟨hk.2.2.2.1,⟨hk.2.2.2.2.1,hk.2.2.2.2.2⟩⟩⟩,hk.2.1⟩|exact zN0)))));(case aB=>exact zz72);(case aF=>exact(fun k_ hk=>⟨(.inr (Nat.le_trans (Zc zz72) hk)),Kd.freshB (g:=gb516) (o:= .cells #[.int .i64 0,.slice none 0 0] 46 (0,0)) (zB BK516) k_ hk,Kd.freshB (g:=gb517) (o:= .cells #[.int .i64 a0,u518001] 46 (0,0)) (zB BK517) k_ hk,Kd.freshB (g:=gb518) (o:= .cells #[.int .i64 x6_1,.slice Ao38 x519001_2.length co38,.slice Ao42 x519002_2.length co42] 74 (0,0)) (zB BK518) k_ hk⟩));(case aO=>exact(by(with_reducible repeat(first|apply Kd.N_alloc|apply Kd.N_drewN|apply Kd.N_drew));exact Kd.N_mono HO_518001.out (fun _ hk=>by first|exact⟨hk.1,⟨hk.2.2.2.1,⟨hk.2.2.2.2.1,hk.2.2.2.2.2⟩⟩⟩|exact zN0)));(case aS=>exact(Zc zz72));(case aL=>have:=LMc34.out;omega);intro v520 w41 ho hb hg hat;rw[←Ny519.out] at ho;replace HO_1:=aM (Kd.V_afterv (ok:=(fun k_=>(P1_ k_∨w.heap.size≤k_)∧some k_≠(.slice Ao38 x519001_2.length co38:Value).ownBlock∧some k_≠(.slice Ao42 x519002_2.length co42:Value).ownBlock∧k_≠gb516∧k_≠gb517∧k_≠gb518)) (by(with_reducible repeat(first|apply Kd.V_alloc|apply Kd.V_drewN|apply Kd.V_drew));exact Kd.V_mono HO_1.out (fun _ hk=>by first|exact⟨⟨hk.1,⟨hk.2.2.1,⟨hk.2.2.2.1,⟨hk.2.2.2.2.1,⟨hk.2.2.2.2.2.1,hk.2.2.2.2.2.2⟩⟩⟩⟩⟩,hk.2.1⟩|exact zN0)) hg hat);replace BK516:=aM (Z2 (g:=gb516) (o:= .cells #[.int .i64 0,.slice none 0 0] 46 (0,0)) (zB BK516) hg (Kd.N_ne HO_518001.out BK516.out (by decide)));replace BK517:=aM (Z2 (g:=gb517) (o:= .cells #[.int .i64 a0,u518001] 46 (0,0)) (zB BK517) hg (Kd.N_ne HO_518001.out BK517.out (by decide)));replace BK518:=aM (Z2 (g:=gb518) (o:= .cells #[.int .i64 x6_1,.slice Ao38 x519001_2.length co38,.slice Ao42 x519002_2.length co42] 74 (0,0)) (zB BK518) hg (Kd.N_away HO_518001.out (fun _ hk=>by first|exact hk.2.2.2.2.2|exact zN0)));replace HB:=aM (hb);have HO521:=aM (ho);clear HO_518001 HO_519001 HO_519002;clear ho hb hg hat;obtain⟨Ao43,co43,eo43⟩:=Kd.N_slice HO521.out;subst eo43;have hcz44_0:w41.cell? ⟨gb517,0,none⟩=some (.int .i64 a0):=(Zb BK517.out 0).trans rfl;have hcz44_1:w41.cell? ⟨gb517,1,none⟩=some (u518001):=(Zb BK517.out 1).trans rfl;have hfz44_0:=Za BK517.out 0;have hfz44_1:=Za BK517.out 1))
        go_roundg k2
        case measure=>have:=HK1.out;have:=HK2.out;omega
        case rel=>exact⟨(wrap64 (x6_1+1)),(y519),(.slice Ao43 y519.length co43),zz154,H',⟨zz155⟩,⟨by(with_reducible repeat(first|apply Kd.V_alloc|apply Kd.V_drewN|apply Kd.V_drew));exact Kd.V_mono (Kd.V_far (p:=⟨gb517,1,none⟩) (Kd.V_mono HO_1.out (fun k_ hk=>(⟨hk,hk.1.2.2.2.2.1⟩:_∧k_≠gb517))) (fun _ hk=>by first|exact hk.2|exact zN0) (.slice Ao43 y519.length co43)) (fun _ hk=>by first|exact⟨hk.1.1.1,⟨hk.1.2,⟨hk.1.1.2.2.2.1,hk.1.1.2.2.2.2.1⟩⟩⟩|exact zN0)⟩,⟨by(with_reducible repeat(first|apply Kd.N_alloc|apply Kd.N_drewN|apply Kd.N_drew));exact Kd.N_mono (Kd.N_far (p:=⟨gb517,1,none⟩) (Kd.N_mono HO521.out (fun k_ hk=>(⟨hk,hk.2.2.1⟩:_∧k_≠gb517))) (fun _ hk=>by first|exact hk.2|exact zN0) (.slice Ao43 y519.length co43)) (fun _ hk=>by first|exact⟨hk.1.1,⟨hk.1.2.1,hk.1.2.2.1⟩⟩|exact zN0)⟩,⟨(by(with_reducible repeat(first|refine Zm ?_ _|refine Zo ?_|refine Zl ?_ _));refine ZH ?_ NB516_517.out _;(with_reducible repeat(first|refine Zm ?_ _|refine Zo ?_|refine Zl ?_ _));exact BK516.out)⟩,⟨(by(with_reducible repeat(first|refine Zm ?_ _|refine Zo ?_|refine Zl ?_ _));refine ZI (cs:= #[.int .i64 a0,u518001]) ?_ 1 _ rfl;(with_reducible repeat(first|refine Zm ?_ _|refine Zo ?_|refine Zl ?_ _));exact BK517.out)⟩,⟨zz72⟩⟩
       rw[if_neg c34] at H
       exact absurd H (by simp)
      rw[if_neg c33] at H;have c33b0:=dF c33;have c33b1:decide (1<x519001_2.length)=false:=dF (by omega);clear c33;have H':=aM H;clear H;have hnb45:=NB518_516.out;have hnc45:=NB516_518.out;have hnb46:=NB518_517.out;have hnc46:=NB517_518.out;have hcz47_0:wr.cell? ⟨gb518,0,none⟩=some (.int .i64 x6_1):=(Zb BK518.out 0).trans rfl;have hcz47_1:wr.cell? ⟨gb518,1,none⟩=some (u519001):=(Zb BK518.out 1).trans rfl;have hcz47_2:wr.cell? ⟨gb518,2,none⟩=some (u519002):=(Zb BK518.out 2).trans rfl;have hfz47_0:=Za BK518.out 0;have hfz47_1:=Za BK518.out 1;have hfz47_2:=Za BK518.out 2;obtain⟨Ao48,co48,eo48⟩:=Kd.R_slice HO_519001.out;subst eo48;go_wp2
      go_roundg k2
      case measure=>have:=HK1.out;have:=HK2.out;omega
      case rel=>exact⟨(wrap64 (x6_1+1)),(x518001_1),(u518001),zz154,H',⟨zz155⟩,⟨(by(with_reducible repeat(first|apply Kd.V_alloc|apply Kd.V_drewN|apply Kd.V_drew));exact Kd.V_mono HO_1.out (fun _ hk=>by first|exact⟨hk.1,⟨hk.2.1,⟨hk.2.2.2.2.1,hk.2.2.2.2.2.1⟩⟩⟩|exact zN0))⟩,⟨(by(with_reducible repeat(first|apply Kd.N_alloc|apply Kd.N_drewN|apply Kd.N_drew));exact Kd.N_mono HO_518001.out (fun _ hk=>by first|exact⟨hk.1,⟨hk.2.2.2.1,hk.2.2.2.2.1⟩⟩|exact zN0))⟩,⟨(zB BK516)⟩,⟨(zB BK517)⟩,⟨zz72⟩⟩
   rw[if_neg c7] at H;have c7b0:=dF c7;clear c7;simp only[Option.some.injEq,Prod.mk.injEq] at H;obtain⟨rfl,rfl⟩:=H;have hnb49:=NB517_516.out;have hnc49:=NB516_517.out;have hcz50_0:wr.cell? ⟨gb517,0,none⟩=some (.int .i64 a0):=(Zb BK517.out 0).trans rfl;have hcz50_1:wr.cell? ⟨gb517,1,none⟩=some (u518001):=(Zb BK517.out 1).trans rfl;have hfz50_0:=Za BK517.out 0;have hfz50_1:=Za BK517.out 1;have hcz51_0:wr.cell? ⟨gb516,0,none⟩=some (.int .i64 0):=(Zb BK516.out 0).trans rfl;have hcz51_1:wr.cell? ⟨gb516,1,none⟩=some (.slice none 0 0):=(Zb BK516.out 1).trans rfl;have hfz51_0:=Za BK516.out 0;have hfz51_1:=Za BK516.out 1;obtain⟨Ao52,co52,eo52⟩:=Kd.N_slice HO_518001.out;subst eo52;go_wp2
   refine bodyPost_ret (results_cell_row rfl _ _ gb516 46 #[.int .i64 a0,.slice Ao52 x518001_1.length co52] (0,0) _ rfl (by(with_reducible repeat(first|refine Zm ?_ _|refine Zo ?_|refine Zl ?_ _));refine ZI (cs:= #[.int .i64 a0,.slice none 0 0]) ?_ 1 _ rfl;(with_reducible repeat(first|refine Zm ?_ _|refine Zo ?_|refine Zl ?_ _));refine ZI (cs:= #[.int .i64 0,.slice none 0 0]) ?_ 0 _ rfl;(with_reducible repeat(first|refine Zm ?_ _|refine Zo ?_|refine Zl ?_ _));exact BK516.out) Try.underlying46 rfl (by kernel_rfl)) rfl ?_
   exact⟨_,by first|rfl|(simp[Zj,Zi]<;>rfl)|(simp[*,Zj,Zi]<;>rfl),by(with_reducible repeat(first|apply Kd.N_alloc|apply Kd.N_drewN|apply Kd.N_drew));exact Kd.N_mono (Kd.N_far (p:=⟨gb516,1,none⟩) (Kd.N_far (p:=⟨gb516,0,none⟩) (Kd.N_mono HO_518001.out (fun k_ hk=>(⟨hk,hk.2.1⟩:_∧k_≠gb516))) (fun _ hk=>by first|exact hk.2|exact zN0) (.int .i64 a0)) (fun _ hk=>by first|exact hk.2|exact zN0) (.slice Ao52 x518001_1.length co52)) (fun _ hk=>by first|exact hk.1.1|exact zN0),by repeat(first|(with_reducible first|exact HB.out|apply Zn|apply Zf|apply Zh|refine Zk ?_ GE516.out|refine Zk ?_ GE517.out)|exact HB.out)⟩
end
section
def swapL1 (xs:List (List Int)) (i j:Int):List (List Int):=(xs.set i.toNat (Zp xs j)).set j.toNat (Zp xs i)
theorem N_cell1 {w:World} {base g n cap:Nat} {ok:Nat→Prop} {xs:List (List Int)} (h:Kd.N (Kd.slice 3 (Kd.int .i64)) 22 w base ok (.slice (some ⟨g,0,none⟩) n cap) xs) (i:Int) (h0:0≤i) (h1:i<n):
    ∃A c,(Zp xs i).length≤c∧Kd.F (Kd.int .i64) w (fun k=>ok k∧k≠g) A (Zp xs i).length (Zp xs i)∧w.cell? ⟨g,i.toNat,none⟩=some (.slice A (Zp xs i).length c)∧w.frozen? ⟨g,i.toNat,none⟩=false:=by
 obtain⟨c,hcl,hM,hcc,hfr⟩:=Kd.N_elem h ([]:List Int) i h0 h1
 obtain⟨A,c1,rfl,hl,hF⟩:=Kd.FK_slice_open hM
 have e1:=hcc 0 _ rfl
 have e2:=hfr 0
 rw[Nat.add_zero,show(Kd.slice 3 (Kd.int .i64)).sz=1 from rfl,Nat.mul_one] at e1 e2
 exact⟨A,c1,hl,hF,e1,e2⟩
theorem N_put1 {w:World} {base g n cap c:Nat} {A:Option Addr} {ok:Nat→Prop} {xs:List (List Int)} {x':List Int} (h:Kd.N (Kd.slice 3 (Kd.int .i64)) 22 w base ok (.slice (some ⟨g,0,none⟩) n cap) xs) (i:Int) (h0:0≤i) (h1:i<n)
    (hl:x'.length≤c) (hF:Kd.F (Kd.int .i64) w (fun k=>ok k∧k≠g) A x'.length x'):
    Kd.N (Kd.slice 3 (Kd.int .i64)) 22 (w.setCell ⟨g,i.toNat,none⟩ (.slice A x'.length c)) base ok (.slice (some ⟨g,0,none⟩) n cap) (xs.set i.toNat x'):=by
 obtain⟨c0,hcl,hM,hcc,hfr⟩:=Kd.N_elem h ([]:List Int) i h0 h1
 have hcl1:c0.length=1:=hcl
 obtain⟨A1,c1,rfl,hl1,hF1⟩:=Kd.FK_slice_open hM
 have:=(Kd.N_seg h i h0 h1 (c:= [.slice A1 ((xs.getD i.toNat []).length) c1]) (seg:= [.slice A x'.length c]) (j:=0) (okp:=fun k=>ok k∧k≠g) hcl hcc (Nat.le_refl 1) (x':=x') (Kd.FK_slice_mk hl hF) (fun _ hk=>hk)).1
 rw[Nat.add_zero,show(Kd.slice 3 (Kd.int .i64)).sz=1 from rfl,Nat.mul_one] at this
 exact this
theorem N_swap1 {w:World} {base g n cap:Nat} {ok:Nat→Prop} {xs:List (List Int)} (h:Kd.N (Kd.slice 3 (Kd.int .i64)) 22 w base ok (.slice (some ⟨g,0,none⟩) n cap) xs) (i j:Int) (h0:0≤i) (h1:i<n) (j0:0≤j) (j1:j<n) (hij:i≠j):
    ∃ A1 c1 A2 c2,w.cell? ⟨g,i.toNat,none⟩=some (.slice A1 (Zp xs i).length c1)∧w.cell? ⟨g,j.toNat,none⟩=some (.slice A2 (Zp xs j).length c2)∧w.frozen? ⟨g,i.toNat,none⟩=false∧
     (w.setCell ⟨g,i.toNat,none⟩ (.slice A2 (Zp xs j).length c2)).cell? ⟨g,j.toNat,none⟩=some (.slice A2 (Zp xs j).length c2)∧(w.setCell ⟨g,i.toNat,none⟩ (.slice A2 (Zp xs j).length c2)).frozen? ⟨g,j.toNat,none⟩=false∧
     Kd.N (Kd.slice 3 (Kd.int .i64)) 22 ((w.setCell ⟨g,i.toNat,none⟩ (.slice A2 (Zp xs j).length c2)).setCell ⟨g,j.toNat,none⟩ (.slice A1 (Zp xs i).length c1)) base ok (.slice (some ⟨g,0,none⟩) n cap) (swapL1 xs i j):=by
 obtain⟨A1,c1,l1,F1,e1,f1⟩:=N_cell1 h i h0 h1
 obtain⟨A2,c2,l2,F2,e2,f2⟩:=N_cell1 h j j0 j1
 have hn1:=N_put1 h i h0 h1 l2 F2
 have hne:i.toNat≠j.toNat:=by omega
 obtain⟨A3,c3,_,_,e3,f3⟩:=N_cell1 hn1 j j0 j1
 have e2':(w.setCell ⟨g,i.toNat,none⟩ (.slice A2 (Zp xs j).length c2)).cell? ⟨g,j.toNat,none⟩=some (.slice A2 (Zp xs j).length c2):=by
  have hne2:(⟨g,i.toNat,none⟩:Addr)≠⟨g,j.toNat,none⟩:=fun e=>hne (by injection e)
  exact(World.cell?_setCell_other (h:=hne2) ..).trans e2
 have hF1:Kd.F (Kd.int .i64) (w.setCell ⟨g,i.toNat,none⟩ (.slice A2 (Zp xs j).length c2)) (fun k=>ok k∧k≠g) A1 (Zp xs i).length (Zp xs i):=Kd.F_far F1 (fun k hk=>hk.2) _
 exact⟨A1,c1,A2,c2,e1,e2,f1,e2',f3,N_put1 hn1 j j0 j1 l1 hF1⟩
end
section
attribute [local go_sem] ZG ZE ZL ZK ZA Zz ZF ZD
def r30_Unit.l0:Nat→Int→List Int→Int→Option (List Int)
 |0,_,_,_=>none
 |k+1,x0,x3,x4=>if x4<x0 then(if 0≤x4 then(if x4<(x3.length:Int) then(r30_Unit.l0 k x0 (x3.set (x4:Int).toNat x4) (wrap64 (x4+1))) else(none)) else(none)) else(some x3)
def r30_Unit.f (k:Nat) (a0:Int):Option (List Int):=if 0≤a0 then(if(a0:Int).toNat≤35184372088832 then(r30_Unit.l0 k a0 (List.replicate (a0:Int).toNat 0) 0) else(none)) else(none)
theorem r30_Unit.calls (k:Nat) (a0:Int) (r:List Int) (w:World) (h:r30_Unit.f k a0=some r):
    Calls Try.prog 26 #[.int .i64 a0] w fun e w'=>∃v0_:Value,e= .returned (v0_)∧Kd.R (Kd.int .i64) 3 w' w.heap.size (fun _=>True) v0_ r∧Below w.heap.size w w':=by
 have HB:=aM (Below.refl w.heap.size w)
 have H:(if 0≤a0 then(if(a0:Int).toNat≤35184372088832 then(r30_Unit.l0 k a0 (List.replicate (a0:Int).toNat 0) 0) else(none)) else(none))=some r:=h
 clear h
 by_cases c2:0≤a0
 ·rw [if_pos c2] at H
  have c2b0:=eq_true c2;have c2b1:=dT c2;clear c2
  by_cases c3:(a0:Int).toNat≤35184372088832
  ·rw [if_pos c3] at H;have c3b0:=eq_true c3;have c3b1:=dT c3;clear c3;obtain⟨y301,hy301⟩:∃y_:List Int,y_=(List.replicate (a0:Int).toNat 0):=⟨_,rfl⟩;replace H:(r30_Unit.l0 k a0 y301 0)=some r:=by first|(rw[hy301];with_reducible exact H)|(have H2_:=(Option.bind_some _ _).symm.trans H;rw[hy301];with_reducible exact H2_)|(have H2_:=(Option.bind_some _ _).symm.trans H;with_reducible exact H2_)|with_reducible exact H|(rw[hy301];exact H)|exact H
   have Ny301:=aM hy301;clear hy301;have H':=aM H;clear H
   go_enter Try.func26,Try.ntmps26
   go_wp2_with (first|((with_reducible refine Zr (N:=6) rfl ?_);refine Kd.R_make (Kd.int .i64) _ 3 rfl (N:=6) rfl 22 _ _ rfl a0 rfl rfl Try.underlying22 (.int .i64 0) 8 info3 rfl (by decide) (by omega) 0 (ok:=fun _=>True) (okp:=fun _=>True) rfl (fun _ hk=>hk) trivial (oD zz153) (Nat.le_trans (Nat.mul_le_mul_right _ (oD zz153:a0.toNat≤35184372088832)) (by omega)) (Below.refl _ _) (Nat.le_refl _) ?_;intro v302 w4 ho5 hb hg_ hnew_;clear hg_ hnew_;(first|rw[←Ny301.out] at ho5|(simp only[Int.reduceToNat] at ho5;rw[←Ny301.out] at ho5));have HO303:=aM (Kd.R_lower ho5 (Zc zz128));replace HB:=aM (Ze zz128 hb);clear hb ho5))
   go_loopg [4] k (fun kq v4 w'=>∃(x3_1:List Int) (x4_1:Int),v4= .int .i64 x4_1∧Aside0 (r30_Unit.l0 kq a0 x3_1 x4_1=some r)∧Aside0 (kq≤k)∧Aside0 (Kd.R (Kd.int .i64) 3 w' w.heap.size (fun _=>True) v302 x3_1)∧Aside0 (Below w.heap.size w w'))
   case atStart=>exact⟨(y301),(0),zz154,H',⟨Nat.le_refl _⟩,⟨(zR HO303)⟩,⟨zz128⟩⟩
   case round =>
    clear H';(try clear c2);(try clear c2b0);(try clear c2b1);(try clear p2);(try clear c3);(try clear c3b0);(try clear c3b1);obtain⟨x3_1,x4_1,rfl,HA,HK1,HO_3,HB⟩:=hrel
    cases gk with
    |zero=>exact absurd HA.out (by simp[r30_Unit.l0])
    | succ k1=>
     have H:=HA.out;clear HA;simp only[r30_Unit.l0] at H
     by_cases c6:x4_1<a0
     ·rw [if_pos c6] at H;have c6b0:=dT c6;clear c6
      by_cases c7:0≤x4_1
      ·rw [if_pos c7] at H;have c7b0:=dT c7;clear c7
       by_cases c8:x4_1<(x3_1.length:Int)
       ·rw[if_pos c8] at H;have c8b0:=dT c8;clear c8;obtain⟨y304,hy304⟩:∃y_:List Int,y_=(x3_1.set (x4_1:Int).toNat x4_1):=⟨_,rfl⟩;replace H:(r30_Unit.l0 k1 a0 y304 (wrap64 (x4_1+1)))=some r:=by first|(rw[hy304];with_reducible exact H)|(have H2_:=(Option.bind_some _ _).symm.trans H;rw[hy304];with_reducible exact H2_)|(have H2_:=(Option.bind_some _ _).symm.trans H;with_reducible exact H2_)|with_reducible exact H|(rw[hy304];exact H)|exact H
        have Ny304:=aM hy304;clear hy304;have H':=aM H;clear H;have p9:0≤(x4_1:Int):=oD zz153;have q9:(x4_1:Int)<((x3_1.length:Int):Int):=oD zz153;obtain⟨go9,co9,eo9,gb9,gl9,cl9,HG9⟩:=Kd.R_form HO_3.out (by omega)
        (first|cases eo9|(injection eo9 with ea_ en_ ec_;(first|subst ea_|(injection ea_ with ea_;subst ea_));subst ec_;clear en_))
        have GB9:=aM gb9;have GG9:=aM HG9;clear gb9 gl9 HG9;obtain⟨hx9_0,hf9_0⟩:=Kd.R_celln 0 HO_3.out (x4_1:Int) p9 q9;replace p9:=eq_true p9;replace q9:=eq_true q9;have HP10:=Kd.R_putg HO_3.out (x4_1:Int) x4_1
        go_wp2_with (first|((with_reducible refine ZU (t:=3) (p:=15) rfl ?_);refine ZO (t:=3) (p:=15) (v:= ?vo_w11) (w1:=(wr.setCell ⟨go9,(x4_1:Int).toNat,none⟩ (.int .i64 x4_1))) ?hg ?ho ?hn ?hr ?_;(case ho=>rfl);(case hg=>rfl);(case hn=>rfl);(case hr=>first|(go_simp;done)|(go_simp;rfl));intro w11 hw;have hg:wr.grownBy w11 (some go9):=(by rw[hw];exact HP10.2);have hp_:Kd.R (Kd.int .i64) 3 w11 w.heap.size (fun _=>True) (.slice (some ⟨go9,0,none⟩) x3_1.length co9) y304:=(by rw[hw,Ny304.out];exact HP10.1);clear HP10;replace HO_3:=aM (hp_);replace HB:=aM ((by rw[hw];exact Zk (HB.out) GB9.out:Below w.heap.size w w11));clear hg hw hp_))
        go_roundg k1
        case measure=>have:=HK1.out;omega
        case rel=>exact⟨(y304),(wrap64 (x4_1+1)),zz154,H',⟨zz163⟩,⟨(zR HO_3)⟩,⟨zz128⟩⟩
       rw[if_neg c8] at H
       exact absurd H (by simp)
      rw[if_neg c7] at H
      exact absurd H (by simp)
     rw[if_neg c6] at H;have c6b0:=dF c6;clear c6;obtain rfl:=oI H;go_wp2;go_ret
     exact⟨_,by first|rfl|(simp[Zj,Zi]<;>rfl)|(simp[*,Zj,Zi]<;>rfl),by(with_reducible repeat(first|apply Kd.R_alloc|apply Kd.R_drewN|apply Kd.R_drew));exact HO_3.out,by repeat(first|(with_reducible first|exact HB.out|apply Zn|apply Zf|apply Zh)|exact HB.out)⟩
  rw[if_neg c3] at H
  exact absurd H (by simp)
 rw[if_neg c2] at H
 exact absurd H (by simp)
def r30_Then.l0:Nat→List Int→List Int→List Int→Int→Option (List Int)
 |0,_,_,_,_=>none
 |k+1,x0,x1,x5,x6=>if x6<(x0.length:Int) then(if 0≤x6 then(if 0≤(rd x0 x6) then(if(rd x0 x6)<(x1.length:Int) then(if x6<(x5.length:Int) then(r30_Then.l0 k x0 x1 (x5.set (x6:Int).toNat (rd x1 (rd x0 x6))) (wrap64 (x6+1))) else(none)) else(none)) else(none)) else(none)) else(some x5)
def r30_Then.f (k:Nat) (l0:List Int) (l1:List Int):Option (List Int):=if 0≤(l0.length:Int) then(if((l0.length:Int):Int).toNat≤35184372088832 then(r30_Then.l0 k l0 l1 (List.replicate ((l0.length:Int):Int).toNat 0) 0) else(none)) else(none)
theorem r30_Then.calls (k:Nat) (A0:Option Addr) (c0:Nat) (l0:List Int) (A1:Option Addr) (c1:Nat) (l1:List Int) (r:List Int) (w:World) (hr0:Kd.C (Kd.int .i64) w A0 l0.length l0) (hc0:l0.length≤c0) (hr1:Kd.C (Kd.int .i64) w A1 l1.length l1) (hc1:l1.length≤c1) (h:r30_Then.f k l0 l1=some r):
    Calls Try.prog 43 #[.slice A0 l0.length c0,.slice A1 l1.length c1] w fun e w'=>∃v0_:Value,e= .returned (v0_)∧Kd.R (Kd.int .i64) 3 w' w.heap.size (fun _=>True) v0_ r∧Below w.heap.size w w':=by
 have HR0:=aM hr0
 have HC0:=aM hc0
 clear hr0 hc0
 have HR1:=aM hr1
 have HC1:=aM hc1
 clear hr1 hc1
 have HB:=aM (Below.refl w.heap.size w)
 have H:(if 0≤(l0.length:Int) then(if((l0.length:Int):Int).toNat≤35184372088832 then(r30_Then.l0 k l0 l1 (List.replicate ((l0.length:Int):Int).toNat 0) 0) else(none)) else(none))=some r:=h
 clear h
 by_cases c3:0≤(l0.length:Int)
 ·rw [if_pos c3] at H
  have c3b0:=eq_true c3;have c3b1:=dT c3;clear c3
  by_cases c4:((l0.length:Int):Int).toNat≤35184372088832
  ·rw [if_pos c4] at H;have c4b0:=eq_true c4;have c4b1:=dT c4;clear c4;obtain⟨y305,hy305⟩:∃y_:List Int,y_=(List.replicate ((l0.length:Int):Int).toNat 0):=⟨_,rfl⟩;replace H:(r30_Then.l0 k l0 l1 y305 0)=some r:=by first|(rw[hy305];with_reducible exact H)|(have H2_:=(Option.bind_some _ _).symm.trans H;rw[hy305];with_reducible exact H2_)|(have H2_:=(Option.bind_some _ _).symm.trans H;with_reducible exact H2_)|with_reducible exact H|(rw[hy305];exact H)|exact H
   have Ny305:=aM hy305;clear hy305;have H':=aM H;clear H
   go_enter Try.func43,Try.ntmps43
   go_wp2_with (first|((with_reducible refine Zr (N:=9) rfl ?_);refine Kd.R_make (Kd.int .i64) _ 3 rfl (N:=9) rfl 22 _ _ rfl (l0.length:Int) rfl rfl Try.underlying22 (.int .i64 0) 8 info3 rfl (by decide) (by omega) 0 (ok:=fun _=>True) (okp:=fun _=>True) rfl (fun _ hk=>hk) trivial (oD zz153) (Nat.le_trans (Nat.mul_le_mul_right _ (oD zz153:(l0.length:Int).toNat≤35184372088832)) (by omega)) (Below.refl _ _) (Nat.le_refl _) ?_;intro v306 w5 ho6 hb hg_ hnew_;clear hg_ hnew_;(first|rw[←Ny305.out] at ho6|(simp only[Int.reduceToNat] at ho6;rw[←Ny305.out] at ho6));have HO307:=aM (Kd.R_lower ho6 (Zc zz128));replace HB:=aM (Ze zz128 hb);clear hb ho6))
   go_loopg [6] k (fun kq v6 w'=>∃(x5_1:List Int) (x6_1:Int),v6= .int .i64 x6_1∧Aside0 (r30_Then.l0 kq l0 l1 x5_1 x6_1=some r)∧Aside0 (kq≤k)∧Aside0 (Kd.R (Kd.int .i64) 3 w' w.heap.size (fun _=>True) v306 x5_1)∧Aside0 (Below w.heap.size w w'))
   case atStart=>exact⟨(y305),(0),zz154,H',⟨Nat.le_refl _⟩,⟨(zR HO307)⟩,⟨zz128⟩⟩
   case round =>
    clear H';(try clear c1);(try clear p2);(try clear c3);(try clear c3b0);(try clear c3b1);(try clear c4);(try clear c4b0);(try clear c4b1);obtain⟨x5_1,x6_1,rfl,HA,HK1,HO_5,HB⟩:=hrel
    cases gk with
    |zero=>exact absurd HA.out (by simp[r30_Then.l0])
    | succ k1=>
     have H:=HA.out;clear HA;simp only[r30_Then.l0] at H
     by_cases c7:x6_1<(l0.length:Int)
     ·rw [if_pos c7] at H;have c7b0:=dT c7;clear c7
      by_cases c8:0≤x6_1
      ·rw [if_pos c8] at H;have c8b0:=dT c8;clear c8
       by_cases c9:0≤(rd l0 x6_1)
       ·rw [if_pos c9] at H;have c9b0:=dT c9;clear c9
        by_cases c10:(rd l0 x6_1)<(l1.length:Int)
        ·rw [if_pos c10] at H;have c10b0:=dT c10;clear c10
         by_cases c11:x6_1<(x5_1.length:Int)
         ·rw[if_pos c11] at H;have c11b0:=dT c11;clear c11;obtain⟨y310,hy310⟩:∃y_:List Int,y_=(x5_1.set (x6_1:Int).toNat (rd l1 (rd l0 x6_1))):=⟨_,rfl⟩;replace H:(r30_Then.l0 k1 l0 l1 y310 (wrap64 (x6_1+1)))=some r:=by first|(rw[hy310];with_reducible exact H)|(have H2_:=(Option.bind_some _ _).symm.trans H;rw[hy310];with_reducible exact H2_)|(have H2_:=(Option.bind_some _ _).symm.trans H;with_reducible exact H2_)|with_reducible exact H|(rw[hy310];exact H)|exact H
          have Ny310:=aM hy310;clear hy310;have H':=aM H;clear H;have p308:0≤(x6_1:Int):=oD zz153;have q308:x6_1<(l0.length:Int):=oD zz153;obtain⟨ad308,e308,hx308_0⟩:=Kd.at_int HR0.out x6_1 p308 q308
          cases e308;replace hx308_0:=(HB.out.cell (wB w _ hx308_0)).trans hx308_0;replace p308:=eq_true p308;replace q308:=eq_true q308;have p309:0≤((rd l0 x6_1):Int):=oD zz153;have q309:(rd l0 x6_1)<(l1.length:Int):=oD zz153;obtain⟨ad309,e309,hx309_0⟩:=Kd.at_int HR1.out (rd l0 x6_1) p309 q309
          cases e309;replace hx309_0:=(HB.out.cell (wB w _ hx309_0)).trans hx309_0;replace p309:=eq_true p309;replace q309:=eq_true q309;have p12:0≤(x6_1:Int):=oD zz153;have q12:(x6_1:Int)<((x5_1.length:Int):Int):=oD zz153;obtain⟨go12,co12,eo12,gb12,gl12,cl12,HG12⟩:=Kd.R_form HO_5.out (by omega)
          (first|cases eo12|(injection eo12 with ea_ en_ ec_;(first|subst ea_|(injection ea_ with ea_;subst ea_));subst ec_;clear en_))
          have GB12:=aM gb12;have GG12:=aM HG12;clear gb12 gl12 HG12;obtain⟨hx12_0,hf12_0⟩:=Kd.R_celln 0 HO_5.out (x6_1:Int) p12 q12;replace p12:=eq_true p12;replace q12:=eq_true q12;have HP13:=Kd.R_putg HO_5.out (x6_1:Int) (rd l1 (rd l0 x6_1))
          go_wp2_with (first|((with_reducible refine ZU (t:=3) (p:=25) rfl ?_);refine ZO (t:=3) (p:=25) (v:= ?vo_w14) (w1:=(wr.setCell ⟨go12,(x6_1:Int).toNat,none⟩ (.int .i64 (rd l1 (rd l0 x6_1))))) ?hg ?ho ?hn ?hr ?_;(case ho=>rfl);(case hg=>rfl);(case hn=>rfl);(case hr=>first|(go_simp;done)|(go_simp;rfl));intro w14 hw;have hg:wr.grownBy w14 (some go12):=(by rw[hw];exact HP13.2);have hp_:Kd.R (Kd.int .i64) 3 w14 w.heap.size (fun _=>True) (.slice (some ⟨go12,0,none⟩) x5_1.length co12) y310:=(by rw[hw,Ny310.out];exact HP13.1);clear HP13;replace HO_5:=aM (hp_);replace HB:=aM ((by rw[hw];exact Zk (HB.out) GB12.out:Below w.heap.size w w14));clear hg hw hp_))
          go_roundg k1
          case measure=>have:=HK1.out;omega
          case rel=>exact⟨(y310),(wrap64 (x6_1+1)),zz154,H',⟨zz163⟩,⟨(zR HO_5)⟩,⟨zz128⟩⟩
         rw[if_neg c11] at H
         exact absurd H (by simp)
        rw[if_neg c10] at H
        exact absurd H (by simp)
       rw[if_neg c9] at H
       exact absurd H (by simp)
      rw[if_neg c8] at H
      exact absurd H (by simp)
     rw[if_neg c7] at H;have c7b0:=dF c7;clear c7;obtain rfl:=oI H;go_wp2;go_ret
     exact⟨_,by first|rfl|(simp[Zj,Zi]<;>rfl)|(simp[*,Zj,Zi]<;>rfl),by(with_reducible repeat(first|apply Kd.R_alloc|apply Kd.R_drewN|apply Kd.R_drew));exact HO_5.out,by repeat(first|(with_reducible first|exact HB.out|apply Zn|apply Zf|apply Zh)|exact HB.out)⟩
  rw[if_neg c4] at H
  exact absurd H (by simp)
 rw[if_neg c3] at H
 exact absurd H (by simp)
def r30_code.l0:Nat→List Int→Int→Int→Option (Int)
 |0,_,_,_=>none
 |k+1,x0,x3,x4=>if x4<(x0.length:Int) then(if 0≤x4 then(r30_code.l0 k x0 (wrap64 ((wrap64 (6*x3))+(rd x0 x4))) (wrap64 (x4+1))) else(none)) else(some x3)
def r30_code.f (k:Nat) (l0:List Int):Option (Int):=r30_code.l0 k l0 0 0
theorem r30_code.calls (k:Nat) (A0:Option Addr) (c0:Nat) (l0:List Int) (r:Int) (w:World) (hr0:Kd.C (Kd.int .i64) w A0 l0.length l0) (hc0:l0.length≤c0) (h:r30_code.f k l0=some r):
    Calls Try.prog 88 #[.slice A0 l0.length c0] w fun e w'=>e= .returned (.int .i64 r)∧Drawn0 w w':=by
 have HR0:=aM hr0
 have HC0:=aM hc0
 clear hr0 hc0
 have H:(r30_code.l0 k l0 0 0)=some r:=h
 clear h
 have H':=aM H
 clear H
 go_enter Try.func88,Try.ntmps88
 go_wp2
 go_loopg [3,4] k (fun kq v3 v4 w'=>∃(x3_1:Int) (x4_1:Int),v3= .int .i64 x3_1∧v4= .int .i64 x4_1∧Aside0 (r30_code.l0 kq l0 x3_1 x4_1=some r)∧Aside0 (kq≤k)∧Drawn0 w w')
 case atStart=>exact⟨(0),(0),zz154,zz154,H',⟨Nat.le_refl _⟩,by repeat(first|exact Drawn0.refl _|apply Drawn0.step)⟩
 case round=>
  clear H';obtain⟨x3_1,x4_1,rfl,rfl,HA,HK1,⟨m1,rfl⟩⟩:=hrel
  cases gk with
  |zero=>exact absurd HA.out (by simp[r30_code.l0])
  | succ k1=>
   have H:=HA.out;clear HA;simp only[r30_code.l0] at H
   by_cases c2:x4_1<(l0.length:Int)
   ·rw [if_pos c2] at H;have c2b0:=dT c2;clear c2
    by_cases c3:0≤x4_1
    ·rw[if_pos c3] at H;have c3b0:=dT c3;clear c3;have H':=aM H;clear H;have p533:0≤(x4_1:Int):=oD zz153;have q533:x4_1<(l0.length:Int):=oD zz153;obtain⟨ad533,e533,hx533_0⟩:=Kd.at_int HR0.out x4_1 p533 q533
     cases e533;replace p533:=eq_true p533;replace q533:=eq_true q533;go_wp2
     go_roundg k1
     case measure=>have:=HK1.out;omega
     case rel=>exact⟨(wrap64 ((wrap64 (6*x3_1))+(rd l0 x4_1))),(wrap64 (x4_1+1)),zz154,zz154,H',⟨zz163⟩,by repeat(first|exact Drawn0.refl _|apply Drawn0.step)⟩
    rw[if_neg c3] at H
    exact absurd H (by simp)
   rw[if_neg c2] at H;have c2b0:=dF c2;clear c2;obtain rfl:=oI H;go_wp2;go_ret
   exact⟨by first|rfl|(simp;done)|(simp[*];done),by repeat(first|exact Drawn0.refl _|apply Drawn0.step)⟩
def r30_Less.l0:Nat→List Int→List Int→Int→Option (Bool)
 |0,_,_,_=>none
 |k+1,x0,x1,x5=>if x5<(x0.length:Int) then(if 0≤x5 then(if x5<(x1.length:Int) then(if(rd x0 x5)=(rd x1 x5) then(r30_Less.l0 k x0 x1 (wrap64 (x5+1))) else(some (decide ((rd x0 x5)<(rd x1 x5))))) else(none)) else(none)) else(some false)
def r30_Less.f (k:Nat) (l0:List Int) (l1:List Int):Option (Bool):=r30_Less.l0 k l0 l1 0
theorem r30_Less.calls (k:Nat) (A0:Option Addr) (c0:Nat) (l0:List Int) (A1:Option Addr) (c1:Nat) (l1:List Int) (r:Bool) (w:World) (hr0:Kd.C (Kd.int .i64) w A0 l0.length l0) (hc0:l0.length≤c0) (hr1:Kd.C (Kd.int .i64) w A1 l1.length l1) (hc1:l1.length≤c1) (h:r30_Less.f k l0 l1=some r):
    Calls Try.prog 89 #[.slice A0 l0.length c0,.slice A1 l1.length c1] w fun e w'=>e= .returned (.bool r)∧Drawn0 w w':=by
 have HR0:=aM hr0
 have HC0:=aM hc0
 clear hr0 hc0
 have HR1:=aM hr1
 have HC1:=aM hc1
 clear hr1 hc1
 have H:(r30_Less.l0 k l0 l1 0)=some r:=h
 clear h
 have H':=aM H
 clear H
 go_enter Try.func89,Try.ntmps89
 go_wp2
 repeat(go_quiet (fail);try go_wp2)
 go_loopg [5] k (fun kq v5 w'=>∃(x5_1:Int),v5= .int .i64 x5_1∧Aside0 (r30_Less.l0 kq l0 l1 x5_1=some r)∧Aside0 (kq≤k)∧Drawn0 w w')
 case atStart=>exact⟨(0),zz154,H',⟨Nat.le_refl _⟩,by repeat(first|exact Drawn0.refl _|apply Drawn0.step)⟩
 case round =>
  clear H';(try clear c1);(try clear p2);obtain⟨x5_1,rfl,HA,HK1,⟨m1,rfl⟩⟩:=hrel
  cases gk with
  |zero=>exact absurd HA.out (by simp[r30_Less.l0])
  | succ k1=>
   have H:=HA.out;clear HA;simp only[r30_Less.l0] at H
   by_cases c3:x5_1<(l0.length:Int)
   ·rw [if_pos c3] at H;have c3b0:=dT c3;clear c3
    by_cases c4:0≤x5_1
    ·rw [if_pos c4] at H;have c4b0:=dT c4;clear c4
     by_cases c5:x5_1<(l1.length:Int)
     ·rw [if_pos c5] at H;have c5b0:=dT c5;clear c5
      by_cases c6:(rd l0 x5_1)=(rd l1 x5_1)
      ·rw[if_pos c6] at H;have c6b0:=beq_iff_eq.mpr c6;have c6b1:=bne_eq_false_iff_eq.mpr c6;clear c6;have H':=aM H;clear H;have p534:0≤(x5_1:Int):=oD zz153;have q534:x5_1<(l0.length:Int):=oD zz153;obtain⟨ad534,e534,hx534_0⟩:=Kd.at_int HR0.out x5_1 p534 q534
       cases e534;replace p534:=eq_true p534;replace q534:=eq_true q534;have p535:0≤(x5_1:Int):=oD zz153;have q535:x5_1<(l1.length:Int):=oD zz153;obtain⟨ad535,e535,hx535_0⟩:=Kd.at_int HR1.out x5_1 p535 q535
       cases e535;replace p535:=eq_true p535;replace q535:=eq_true q535;go_wp2
       repeat(go_quiet (fail);try go_wp2)
       go_roundg k1
       case measure=>have:=HK1.out;omega
       case rel=>exact⟨(wrap64 (x5_1+1)),zz154,H',⟨zz163⟩,by repeat(first|exact Drawn0.refl _|apply Drawn0.step)⟩
      rw[if_neg c6] at H;have c6b0:=beq_eq_false_iff_ne.mpr c6;have c6b1:=bne_iff_ne.mpr c6;obtain rfl:=oI H;have p534:0≤(x5_1:Int):=oD zz153;have q534:x5_1<(l0.length:Int):=oD zz153;obtain⟨ad534,e534,hx534_0⟩:=Kd.at_int HR0.out x5_1 p534 q534
      cases e534;replace p534:=eq_true p534;replace q534:=eq_true q534;have p535:0≤(x5_1:Int):=oD zz153;have q535:x5_1<(l1.length:Int):=oD zz153;obtain⟨ad535,e535,hx535_0⟩:=Kd.at_int HR1.out x5_1 p535 q535
      cases e535;replace p535:=eq_true p535;replace q535:=eq_true q535;have p536:0≤(x5_1:Int):=oD zz153;have q536:x5_1<(l0.length:Int):=oD zz153;obtain⟨ad536,e536,hx536_0⟩:=Kd.at_int HR0.out x5_1 p536 q536;obtain rfl:ad534=ad536:=(by injection e536);replace p536:=eq_true p536;replace q536:=eq_true q536;have p537:0≤(x5_1:Int):=oD zz153;have q537:x5_1<(l1.length:Int):=oD zz153;obtain⟨ad537,e537,hx537_0⟩:=Kd.at_int HR1.out x5_1 p537 q537;obtain rfl:ad535=ad537:=(by injection e537);replace p537:=eq_true p537;replace q537:=eq_true q537;go_wp2
      repeat(go_quiet (fail);try go_wp2)
      go_ret
      exact⟨by first|rfl|(simp;done)|(simp[*];done),by repeat(first|exact Drawn0.refl _|apply Drawn0.step)⟩
     rw[if_neg c5] at H
     exact absurd H (by simp)
    rw[if_neg c4] at H
    exact absurd H (by simp)
   rw[if_neg c3] at H;have c3b0:=dF c3;clear c3;obtain rfl:=oI H;go_wp2
   repeat(go_quiet (fail);try go_wp2)
   go_ret
   exact⟨by first|rfl|(simp;done)|(simp[*];done),by repeat(first|exact Drawn0.refl _|apply Drawn0.step)⟩
mutual
def r30_Group.l0:Nat→List (List Int)→List Bool→List (List Int)→Int→Option ((List (List Int)))
 |0,_,_,_,_=>none
 |k+1,x1,x5,x6,x7=>if x7<(x6.length:Int) then(r30_Group.l1 k x1 x5 x6 x7 0) else(r30_Group.l2 k x6 1)
def r30_Group.l1:Nat→List (List Int)→List Bool→List (List Int)→Int→Int→Option ((List (List Int)))
 |0,_,_,_,_,_=>none
 |k+1,x1,x5,x6,x7,x8=>if x8<(x1.length:Int) then(if 0≤x7 then(if x7<(x6.length:Int) then(if 0≤x8 then((r30_Then.f k (Zp x6 x7) (Zp x1 x8)).bind fun t552=>((r30_code.f k t552).bind fun t555=>(if 0≤t555 then(if t555<(x5.length:Int) then(if rdOf false x5 t555=true then(r30_Group.l1 k x1 x5 x6 x7 (wrap64 (x8+1))) else((r30_code.f k t552).bind fun t557=>(if 0≤t557 then(if t557<(x5.length:Int) then(if x6.length<5864062014805 then(r30_Group.l1 k x1 (x5.set (t557:Int).toNat true) (x6++ [t552]) x7 (wrap64 (x8+1))) else(none)) else(none)) else(none)))) else(none)) else(none)))) else(none)) else(none)) else(none)) else(r30_Group.l0 k x1 x5 x6 (wrap64 (x7+1)))
def r30_Group.l2:Nat→List (List Int)→Int→Option ((List (List Int)))
 |0,_,_=>none
 |k+1,x6,x10=>if x10<(x6.length:Int) then(r30_Group.l3 k x6 x10 x10) else(some x6)
def r30_Group.l3:Nat→List (List Int)→Int→Int→Option ((List (List Int)))
 |0,_,_,_=>none
 |k+1,x6,x10,x11=>if x11>0 then(if 0≤x11 then(if x11<(x6.length:Int) then(if 0≤(wrap64 (x11-1)) then(if(wrap64 (x11-1))<(x6.length:Int) then((r30_Less.f k (Zp x6 x11) (Zp x6 (wrap64 (x11-1)))).bind fun t564=>(if t564=true then(r30_Group.l3 k ((x6.set (x11:Int).toNat (Zp x6 (wrap64 (x11-1)))).set ((wrap64 (x11-1)):Int).toNat (Zp x6 x11)) x10 (wrap64 (x11-1))) else(r30_Group.l2 k x6 (wrap64 (x10+1))))) else(none)) else(none)) else(none)) else(none)) else(r30_Group.l2 k x6 (wrap64 (x10+1)))
end
def r30_Group.f (k:Nat) (a0:Int) (l1:List (List Int)):Option ((List (List Int))):=if 46656≤281474976710656 then((some (List.replicate 46656 false:List Bool)).bind fun y538=>((r30_Unit.f k a0).bind fun t541=>((some (([t541]:List (List Int)):List (List Int))).bind fun y544=>(if 0<(y544.length:Int) then((r30_code.f k (Zp y544 0)).bind fun t548=>(if 0≤t548 then(if t548<(y538.length:Int) then(r30_Group.l0 k l1 (y538.set (t548:Int).toNat true) y544 0) else(none)) else(none))) else(none))))) else(none)
def r30_Group.T20:Bool×List (List Nat×List Nat):=(true,[([],[]),([],[]),([],[]),([],[]),([3],[3]),([],[]),([],[]),([6],[6]),([5,7],[5,7]),([8],[8]),([],[]),([],[]),([10,11],[10,11]),([12],[12]),([0,1,0,1,5,6,7,8,9,13],[0,1]),([14,9,0,1,5,6,7,8,9,13],[9,14]),([2,4,0,1,2,3,4,5,6,7,8,9,10,11,12,13,14,15],[2,4]),([16,13,15,0,1,2,3,4,5,6,7,8,9,10,11,12,13,14,15],[13,16])])
def r30_Group.B20:List Nat:= [0,0,0,0,8,0,0,64,224,480,0,0,3072,7168,16355,32739,65535,131071]
theorem r30_Group.tab20:rtab .any (opsOf Try.f64 20)=r30_Group.T20:=by kernel_rfl
theorem r30_Group.bits20:waitsOk r30_Group.T20.2 r30_Group.B20=true:=by kernel_rfl
def r30_Group.T10:Bool×List (List Nat×List Nat):=(true,[([],[]),([],[]),([0,1],[0,1]),([2],[2]),([],[]),([],[]),([4,5],[4,5]),([6],[6]),([3,7],[3,7]),([8,8,0,1,2,3,4,5,6,7,8],[8])])
def r30_Group.B10:List Nat:= [0,0,3,7,0,0,48,112,255,511]
theorem r30_Group.tab10:rtab .any (opsOf Try.f64 10)=r30_Group.T10:=by kernel_rfl
theorem r30_Group.bits10:waitsOk r30_Group.T10.2 r30_Group.B10=true:=by kernel_rfl
def r30_Group.T18:Bool×List (List Nat×List Nat):=(true,[([],[]),([0],[0]),([1],[1]),([2],[2]),([2],[2]),([3,4,2],[2,3,4]),([5,2],[2,5]),([2],[2]),([2],[2]),([8,2],[2,8]),([7,9,2],[2,7,9]),([10,2],[2,10]),([6,11,2,2],[2,6,11]),([2,12],[2,12])])
def r30_Group.B18:List Nat:= [0,1,3,7,7,31,63,7,7,263,903,1927,4095,8191]
theorem r30_Group.tab18:rtab .any (opsOf Try.f64 18)=r30_Group.T18:=by kernel_rfl
theorem r30_Group.bits18:waitsOk r30_Group.T18.2 r30_Group.B18=true:=by kernel_rfl
theorem r30_Group.calls (k : Nat) (a0 : Int) (A1:Option Addr) (c1:Nat) (l1:List (List Int)) (r:List (List Int)) (w:World) (hr1:Kd.C (Kd.slice 3 (Kd.int .i64)) w A1 l1.length l1) (hc1:l1.length≤c1) (h:r30_Group.f k a0 l1=some r):
    Calls Try.prog 64 #[.int .i64 a0,.slice A1 l1.length c1] w fun e w'=>∃v0_:Value,e= .returned (v0_)∧Kd.N (Kd.slice 3 (Kd.int .i64)) 22 w' w.heap.size (fun k_=>(w.heap.size≤k_)) v0_ r∧Below w.heap.size w w':=by
 have HR1:=aM hr1
 have HC1:=aM hc1
 clear hr1 hc1
 have HB:=aM (Below.refl w.heap.size w)
 have H:(if 46656≤281474976710656 then((some (List.replicate 46656 false:List Bool)).bind fun y538=>((r30_Unit.f k a0).bind fun t541=>((some (([t541]:List (List Int)):List (List Int))).bind fun y544=>(if 0<(y544.length:Int) then((r30_code.f k (Zp y544 0)).bind fun t548=>(if 0≤t548 then(if t548<(y538.length:Int) then(r30_Group.l0 k l1 (y538.set (t548:Int).toNat true) y544 0) else(none)) else(none))) else(none))))) else(none))=some r:=h
 clear h
 by_cases c3:46656≤281474976710656
 ·rw [if_pos c3] at H
  have c3b0:=eq_true c3;have c3b1:=dT c3;clear c3;obtain⟨y538,hy538⟩:∃y_:List Bool,y_=(List.replicate 46656 false):=⟨_,rfl⟩;replace H:((r30_Unit.f k a0).bind fun t541=>((some (([t541]:List (List Int)):List (List Int))).bind fun y544=>(if 0<(y544.length:Int) then((r30_code.f k (Zp y544 0)).bind fun t548=>(if 0≤t548 then(if t548<(y538.length:Int) then(r30_Group.l0 k l1 (y538.set (t548:Int).toNat true) y544 0) else(none)) else(none))) else(none))))=some r:=by first|(rw[hy538];with_reducible exact H)|(have H2_:=(Option.bind_some _ _).symm.trans H;rw[hy538];with_reducible exact H2_)|(have H2_:=(Option.bind_some _ _).symm.trans H;with_reducible exact H2_)|with_reducible exact H|(rw[hy538];exact H)|exact H
  have Ny538:=aM hy538;clear hy538;replace H:=oB H;obtain⟨t541,A40,H⟩:=H;replace H:((some (([t541]:List (List Int)):List (List Int))).bind fun y544=>(if 0<(y544.length:Int) then((r30_code.f k (Zp y544 0)).bind fun t548=>(if 0≤t548 then(if t548<(y538.length:Int) then(r30_Group.l0 k l1 (y538.set (t548:Int).toNat true) y544 0) else(none)) else(none))) else(none)))=some r:=H;have A4:=aM A40;clear A40;obtain⟨y544,hy544⟩:∃y_:List (List Int),y_=(([t541]:List (List Int))):=⟨_,rfl⟩;replace H:(if 0<(y544.length:Int) then((r30_code.f k (Zp y544 0)).bind fun t548=>(if 0≤t548 then(if t548<(y538.length:Int) then(r30_Group.l0 k l1 (y538.set (t548:Int).toNat true) y544 0) else(none)) else(none))) else(none))=some r:=by first|(rw[hy544];with_reducible exact H)|(have H2_:=(Option.bind_some _ _).symm.trans H;rw[hy544];with_reducible exact H2_)|(have H2_:=(Option.bind_some _ _).symm.trans H;with_reducible exact H2_)|with_reducible exact H|(rw[hy544];exact H)|exact H
  have Ny544:=aM hy544;clear hy544
  by_cases c5:0<(y544.length:Int)
  ·rw [if_pos c5] at H; have c5b0 := dT c5;have c5b1:decide (0<y544.length)=true:=dT (by omega);clear c5;replace H:=oB H;obtain⟨t548,A60,H⟩:=H;replace H:(if 0≤t548 then(if t548<(y538.length:Int) then(r30_Group.l0 k l1 (y538.set (t548:Int).toNat true) y544 0) else(none)) else(none))=some r:=H;have A6:=aM A60;clear A60
   by_cases c7:0≤t548
   ·rw [if_pos c7] at H; have c7b0 :=dT c7;clear c7
    by_cases c8:t548<(y538.length:Int)
    ·rw [if_pos c8] at H; have c8b0 :=dT c8;clear c8;obtain⟨y549,hy549⟩:∃y_:List Bool,y_=(y538.set (t548:Int).toNat true):=⟨_,rfl⟩;replace H:(r30_Group.l0 k l1 y549 y544 0)=some r:=by first|(rw[hy549];with_reducible exact H)|(have H2_:=(Option.bind_some _ _).symm.trans H;rw[hy549];with_reducible exact H2_)|(have H2_:=(Option.bind_some _ _).symm.trans H;with_reducible exact H2_)|with_reducible exact H|(rw[hy549];exact H)|exact H
     have Ny549:=aM hy549;clear hy549;have H':=aM H;clear H
     go_enter Try.func64,Try.ntmps64
     go_wp2_with (first|((with_reducible refine Zr (N:=12) rfl ?_);refine Kd.R_make Kd.bool _ 4 rfl (N:=12) rfl 83 _ _ rfl 46656 rfl rfl Try.underlying83 (.bool false) 1 info4 rfl (by decide) (by omega) false (ok:=fun _=>True) (okp:=fun _=>True) rfl (fun _ hk=>hk) trivial (by omega) (by omega) (Below.refl _ _) (Nat.le_refl _) ?_;intro v539 w10 ho11 hb hg_ hnew_;clear hg_ hnew_;(first|rw[←Ny538.out] at ho11|(simp only[Int.reduceToNat] at ho11;rw[←Ny538.out] at ho11));have HO540:=aM (Kd.R_lower (Kd.R_newM (M:=fun k_=>(w.heap.size≤k_)) ho11 (Zc zz128) (fun k_ h_=>h_)) (Zc zz128));replace HB:=aM (Ze zz128 hb);clear hb ho11)|((with_reducible refine Zq (f:=26) rfl ?_);refine ZB (some 14) rfl rfl Try.func26 (by kernel_rfl) rfl #[.int .i64 a0] rfl zz127 ?_;(with_reducible refine(r30_Unit.calls k a0 t541 _ A4.out).mono ?_);rintro e w12 ⟨v542,rfl,ho0,hb⟩;refine⟨_,rfl,?_⟩;replace HO540:=aM (Kd.R_below (zR HO540) hb);have HO543:=aM (Kd.R_lower (Kd.R_newM (M:=fun k_=>(w.heap.size≤k_)) ho0 (Zc zz128) (fun k_ h_=>h_)) (Zc zz128));replace HB:=aM (Ze zz128 hb);(try clear hb);(try clear hb2);(try clear hk);(try clear hi);(try clear ho0);obtain⟨Ao13,co13,eo13⟩:=Kd.R_slice HO543.out;subst eo13)|((with_reducible refine Zr (N:=15) rfl ?_);refine Kd.N_lit (Kd.slice 3 (Kd.int .i64)) _ 22 ?hg (N':=15) ?hd (xs:=([t541]:List (List Int))) (inner:= [.slice Ao13 t541.length co13]) (ok:=(fun k_=>(w.heap.size≤k_)∧some k_≠(v539:Value).ownBlock)) (okp:=(fun k_=>(w.heap.size≤k_)∧some k_≠(v539:Value).ownBlock)) ?hr ?hp (fun _ hk=>hk) ((show∀k_,w12.heap.size≤k_→(fun k_=>(w.heap.size≤k_)∧some k_≠(v539:Value).ownBlock) k_ from fun k_ hk=>⟨(Nat.le_trans (Zc zz128) hk),Kd.fresh' (Kd.R_lt (zR HO540)) k_ hk⟩) _ (Nat.le_refl _)) (Below.refl _ _) (Nat.le_refl _) (by simp) ?_;(case hd=>rfl);(case hg=>rfl);(case hr=>first|(go_simp;done)|(go_simp;rfl));(case hp=>exact(Reps.one (show Kd.FK (Kd.slice 3 (Kd.int .i64)) _ _ t541 [.slice Ao13 t541.length co13] from(Kd.FK_slice_mk (Kd.R_reads' (Kd.R_mono (ok':=(fun k_=>(w.heap.size≤k_)∧some k_≠(v539:Value).ownBlock)) (Kd.R_apart' (HO543.out) (Kd.R_typed HO540.out) (by decide)) (fun k_ hk=>by first|exact⟨hk.1.1,hk.2⟩|exact zN0))).2.1 (Kd.R_F (Kd.R_mono (ok':=(fun k_=>(w.heap.size≤k_)∧some k_≠(v539:Value).ownBlock)) (Kd.R_apart' (HO543.out) (Kd.R_typed HO540.out) (by decide)) (fun k_ hk=>by first|exact⟨hk.1.1,hk.2⟩|exact zN0))))) (Reps.none _ _)));intro v545 w14 ho15 hb hg_ hnew_;clear hg_ hnew_;(first|rw[←Ny544.out] at ho15|(simp only[Int.reduceToNat] at ho15;rw[←Ny544.out] at ho15));replace HO540:=aM (Kd.R_below (zR HO540) hb);have HO546:=aM (Kd.N_lower ho15 (Zc zz128));replace HB:=aM (Ze zz128 hb);clear HO543;clear hb ho15;obtain⟨Ao16,co16,eo16⟩:=Kd.N_slice HO546.out;subst eo16;have p547:0≤(0:Int):=(by omega);have q547:0<(y544.length:Int):=oD zz153;obtain⟨ad547,A547_0,c547_0,e547,hx547_0,hl547_0,hi547_0⟩:=ZY (Kd.N_reads' HO546.out).2.2 0 p547 q547;cases e547;obtain⟨ce547,hce547,hMe547,hcc547⟩:=Kd.N_get HO546.out [] 0 p547 (by first|exact q547|exact oD zz153|(have e_:=(Kd.N_reads' HO546.out).1;omega));obtain⟨ua547_0,uc547_0,rfl,ul547_0,ge547_0⟩:=Kd.FK_slice_open hMe547;have hv547_0:=hcc547 0 _ rfl;rw[Nat.add_zero,show((Kd.slice 3 (Kd.int .i64))).sz=1 from rfl,Nat.mul_one] at hv547_0;replace hv547_0:=oI (hv547_0.symm.trans hx547_0);injection hv547_0 with hva_ hvn_ hvc_;rw[hva_] at ge547_0;rw[hvc_] at ul547_0;have HL547_0:=aM (show Kd.V (Kd.int .i64) 3 _ w.heap.size _ _ (Zp y544 0) from Kd.V_mk ul547_0 ge547_0);clear hva_ hvn_ hvc_ ge547_0 ul547_0;clear hcc547 hce547;have qi547:(0<y544.length)=True:=eq_true (by omega);(try rw[show((0:Int)).toNat=0 from rfl] at hx547_0);(try rw[Addr.add_zero'] at hx547_0);have HR547_0:=aM hi547_0;have HC547_0:=aM hl547_0;clear hi547_0 hl547_0;replace p547:=eq_true p547;replace q547:=eq_true q547)|((with_reducible refine Zq (f:=88) rfl ?_);refine ZB (some 20) rfl rfl Try.func88 (by kernel_rfl) rfl #[.slice A547_0 (Zp y544 0).length c547_0] rfl zz127 ?_;(with_reducible refine(r30_code.calls k _ _ (Zp y544 0) t548 _ ?side1 ?side2 A6.out).mono ?_);(case side1=>repeat(first|exact zz85|(with_reducible refine Kd.C_alloc ?_ _)|(with_reducible refine Kd.C_drewN ?_ _)|(with_reducible refine Kd.C_drew ?_)));(case side2=>exact HC547_0.out);rintro e w' ⟨rfl,⟨nd,rfl⟩⟩;refine⟨_,rfl,?_⟩;(try(rw[drewN_self w14];generalize hq_:World.drewN w14 _=w14;have n0_:Aside0 (Kd.V (Kd.int .i64) 3 w14 w.heap.size (fun k_=>(w.heap.size≤k_)∧some k_≠(v539:Value).ownBlock∧some k_≠(.slice (some ad547) y544.length co16:Value).ownBlock) (.slice A547_0 (Zp y544 0).length c547_0) (Zp y544 0)):=⟨(by rw[←hq_];exact(by(with_reducible repeat(first|apply Kd.V_alloc|apply Kd.V_drewN|apply Kd.V_drew));exact Kd.V_mono HL547_0.out (fun _ hk=>by first|exact⟨hk.1.1,⟨hk.1.2,hk.2⟩⟩|exact zN0)))⟩;have n1_:Aside0 (Kd.R Kd.bool 4 w14 w.heap.size (fun k_=>(w.heap.size≤k_)) v539 y538):=⟨(by rw[←hq_];exact(by(with_reducible repeat(first|apply Kd.R_alloc|apply Kd.R_drewN|apply Kd.R_drew));exact Kd.R_mono HO540.out (fun _ hk=>by first|exact hk.1|exact zN0)))⟩;have n2_:Aside0 (Kd.N (Kd.slice 3 (Kd.int .i64)) 22 w14 w.heap.size (fun k_=>(w.heap.size≤k_)∧some k_≠(v539:Value).ownBlock) (.slice (some ad547) y544.length co16) y544):=⟨(by rw[←hq_];exact(zN HO546))⟩;have n3_:Aside0 (Below w.heap.size w w14):=⟨zz109⟩;have n4_:Aside0 (Kd.C (Kd.int .i64) w14 A547_0 (Zp y544 0).length (Zp y544 0)):=⟨(by rw[←hq_];exact zz85)⟩;clear HL547_0 HO540 HO546 HB HR547_0 hq_;have HL547_0:=n0_;have HO540:=n1_;have HO546:=n2_;have HB:=n3_;have HR547_0:=n4_;clear n0_ n1_ n2_ n3_ n4_));have p9:0≤(t548:Int):=oD zz153;have q9:(t548:Int)<((y538.length:Int):Int):=oD zz153;obtain⟨go9,co9,eo9,gb9,gl9,cl9,HG9⟩:=Kd.R_form HO540.out (by omega);(first|cases eo9|(injection eo9 with ea_ en_ ec_;(first|subst ea_|(injection ea_ with ea_;subst ea_));subst ec_;clear en_));have GB9:=aM gb9;have GG9:=aM HG9;clear gb9 gl9 HG9;obtain⟨hx9_0,hf9_0⟩:=Kd.R_celln false HO540.out (t548:Int) p9 q9;replace p9:=eq_true p9;replace q9:=eq_true q9;have n_:=aM (Kd.R_mono (ok':=(fun k_=>(w.heap.size≤k_))) HO540.out (fun k_ hk=>by first|exact hk.1|exact zN0));clear HO540;have HO540:=n_;clear n_;obtain⟨hy17_,hz17_⟩:=Kd.R_celln false HO540.out (t548:Int) (oD zz153) (oD zz153);have HP17:=Kd.R_putg HO540.out (t548:Int) true)|((with_reducible refine ZU (t:=4) (p:=21) rfl ?_);refine ZO (t:=4) (p:=21) (v:= ?vo_w18) (w1:=(w14.setCell ⟨go9,(t548:Int).toNat,none⟩ (.bool true))) ?hg ?ho ?hn ?hr ?_;(case ho=>rfl);(case hg=>rfl);(case hn=>rfl);(case hr=>first|(go_simp;done)|(go_simp;rfl));intro w18 hw;have hg:w14.grownBy w18 (some go9):=(by rw[hw];exact HP17.2);have hp_:Kd.R Kd.bool 4 w18 w.heap.size (fun k_=>(w.heap.size≤k_)) (.slice (some ⟨go9,0,none⟩) y538.length co9) y549:=(by rw[hw,Ny549.out];exact HP17.1);clear HP17;replace HO540:=aM (hp_);replace HO546:=aM (Kd.N_afterv (v:=(.slice (some ⟨go9,0,none⟩) y538.length co9)) (v1:=(.slice (some ⟨go9,0,none⟩) y538.length co9)) (ok:=(fun k_=>(w.heap.size≤k_))) (zN HO546) hg (.inl rfl));replace HL547_0:=aM (Kd.V_afterv (v:=(.slice (some ⟨go9,0,none⟩) y538.length co9)) (v1:=(.slice (some ⟨go9,0,none⟩) y538.length co9)) (ok:=(fun k_=>(w.heap.size≤k_)∧some k_≠(.slice (some ad547) y544.length co16:Value).ownBlock)) (by(with_reducible repeat(first|apply Kd.V_alloc|apply Kd.V_drewN|apply Kd.V_drew));exact Kd.V_mono HL547_0.out (fun _ hk=>by first|exact⟨⟨hk.1.1,hk.2⟩,hk.1.2⟩|exact zN0)) hg (.inl rfl));replace HB:=aM ((by rw[hw];exact Zk (HB.out) GB9.out:Below w.heap.size w w18));clear hg hw hp_))
     go_loopg [6,7] k (fun kq v6 v7 w'=>∃(x5_1:List Bool) (x6_1:List (List Int)) (x7_1:Int),v7= .int .i64 x7_1∧Aside0 (r30_Group.l0 kq l1 x5_1 x6_1 x7_1=some r)∧Aside0 (kq≤k)∧Aside0 (Kd.R Kd.bool 4 w' w.heap.size (fun k_=>(w.heap.size≤k_)) (.slice (some ⟨go9,0,none⟩) y538.length co9) x5_1)∧Aside0 (Kd.N (Kd.slice 3 (Kd.int .i64)) 22 w' w.heap.size (fun k_=>(w.heap.size≤k_)∧some k_≠((.slice (some ⟨go9,0,none⟩) y538.length co9):Value).ownBlock) v6 x6_1)∧Aside0 (Below w.heap.size w w'))
     case atStart=>exact⟨(y549),(y544),(0),zz154,H',⟨Nat.le_refl _⟩,⟨(zR HO540)⟩,⟨(zN HO546)⟩,⟨zz128⟩⟩
     case round =>
      clear H';(try clear c1);(try clear c2);(try clear p2);(try clear c3);(try clear c3b0);(try clear c3b1);(try clear c5);(try clear c5b0);(try clear c5b1);(try clear p5);(try clear q5);(try clear hx5);(try clear qi5);(try clear c6);(try clear c7);(try clear c7b0);(try clear c8);(try clear c8b0);(try clear p9);(try clear q9);(try clear hx9);(try clear hf9);(try clear hx547_0);(try clear hx9_0);(try clear p547);(try clear p9);(try clear q547);(try clear q9);obtain⟨x5_1,x6_1,x7_1,rfl,HA,HK1,HO_5,HO_6,HB⟩:=hrel;have hl5_1:=(Kd.R_reads' HO_5.out).1;rw[hl5_1] at HO_5
      (try simp only[hl5_1])
      (try simp only[hl5_1] at HO_6)
      cases gk with
      |zero=>exact absurd HA.out (by simp[r30_Group.l0])
      | succ k1=>
       have H:=HA.out;clear HA;simp only[r30_Group.l0] at H
       by_cases c19:x7_1<(x6_1.length:Int)
       ·rw [if_pos c19] at H; have c19b0:=dT c19;clear c19;have H':=aM H;clear H;obtain⟨Ao20,co20,eo20⟩:=Kd.N_slice HO_6.out;subst eo20;go_wp2
        go_loopg [6,8] k1 (fun kq v6 v8 w'=>∃(x5_2:List Bool) (x6_2:List (List Int)) (x8_2:Int),v8= .int .i64 x8_2∧Aside0 (r30_Group.l1 kq l1 x5_2 x6_2 x7_1 x8_2=some r)∧Aside0 (kq≤k1)∧Aside0 (Kd.R Kd.bool 4 w' w.heap.size (fun k_=>(w.heap.size≤k_)) (.slice (some ⟨go9,0,none⟩) x5_1.length co9) x5_2)∧Aside0 (Kd.N (Kd.slice 3 (Kd.int .i64)) 22 w' w.heap.size (fun k_=>(w.heap.size≤k_)∧some k_≠((.slice (some ⟨go9,0,none⟩) x5_1.length co9):Value).ownBlock) v6 x6_2)∧Aside0 (Below w.heap.size w w'))
        case atStart=>exact⟨(x5_1),(x6_1),(0),zz154,H',⟨Nat.le_refl _⟩,⟨(by(try simp only[hl5_1]);(with_reducible repeat(first|apply Kd.R_alloc|apply Kd.R_drewN|apply Kd.R_drew));exact HO_5.out)⟩,⟨(by(try simp only[hl5_1]);(with_reducible repeat(first|apply Kd.N_alloc|apply Kd.N_drewN|apply Kd.N_drew));exact HO_6.out)⟩,⟨zz128⟩⟩
        case round =>
         clear H';(try clear c1);(try clear c2);(try clear p2);(try clear c3);(try clear c3b0);(try clear c3b1);(try clear c5);(try clear c5b0);(try clear c5b1);(try clear p5);(try clear q5);(try clear hx5);(try clear qi5);(try clear c6);(try clear c7);(try clear c7b0);(try clear c8);(try clear c8b0);(try clear p9);(try clear q9);(try clear hx9);(try clear hf9);(try clear c19);(try clear c19b0);(try clear hx547_0);(try clear hx9_0);(try clear p2);(try clear p5);(try clear p547);(try clear p9);(try clear q5);(try clear q547);(try clear q9);obtain⟨x5_2,x6_2,x8_2,rfl,HA,HK2,HO_5,HO_6,HB⟩:=hrel;have hl5_2:=(Kd.R_reads' HO_5.out).1;rw[hl5_2] at HO_5
         (try simp only[hl5_2])
         (try simp only[hl5_2] at HO_6)
         cases gk with
         |zero=>exact absurd HA.out (by simp[r30_Group.l1])
         | succ k2=>
          have H:=HA.out;clear HA;simp only[r30_Group.l1] at H
          by_cases c21:x8_2<(l1.length:Int)
          ·rw [if_pos c21] at H;have c21b0:=dT c21;clear c21
           by_cases c22:0≤x7_1
           ·rw [if_pos c22] at H;have c22b0:=dT c22;clear c22
            by_cases c23:x7_1<(x6_2.length:Int)
            ·rw [if_pos c23] at H;have c23b0:=dT c23;clear c23
             by_cases c24:0≤x8_2
             ·rw [if_pos c24] at H;have c24b0:=dT c24;clear c24;replace H:=oB H;obtain⟨t552,A250,H⟩:=H;replace H:((r30_code.f k2 t552).bind fun t555=>(if 0≤t555 then(if t555<(x5_2.length:Int) then(if rdOf false x5_2 t555=true then(r30_Group.l1 k2 l1 x5_2 x6_2 x7_1 (wrap64 (x8_2+1))) else((r30_code.f k2 t552).bind fun t557=>(if 0≤t557 then(if t557<(x5_2.length:Int) then(if x6_2.length<5864062014805 then(r30_Group.l1 k2 l1 (x5_2.set (t557:Int).toNat true) (x6_2++ [t552]) x7_1 (wrap64 (x8_2+1))) else(none)) else(none)) else(none)))) else(none)) else(none)))=some r:=H;have A25:=aM A250;clear A250;replace H:=oB H;obtain⟨t555,A260,H⟩:=H;replace H:(if 0≤t555 then(if t555<(x5_2.length:Int) then(if rdOf false x5_2 t555=true then(r30_Group.l1 k2 l1 x5_2 x6_2 x7_1 (wrap64 (x8_2+1))) else((r30_code.f k2 t552).bind fun t557=>(if 0≤t557 then(if t557<(x5_2.length:Int) then(if x6_2.length<5864062014805 then(r30_Group.l1 k2 l1 (x5_2.set (t557:Int).toNat true) (x6_2++ [t552]) x7_1 (wrap64 (x8_2+1))) else(none)) else(none)) else(none)))) else(none)) else(none))=some r:=H;have A26:=aM A260;clear A260
              by_cases c27:0≤t555
              ·rw [if_pos c27] at H;have c27b0:=dT c27;clear c27
               by_cases c28:t555<(x5_2.length:Int)
               ·rw [if_pos c28] at H;have c28b0:=dT c28;clear c28;obtain⟨bq29,hbq29⟩:∃b_:Bool,b_=(rdOf false x5_2 t555):=⟨_,rfl⟩;replace H:(if bq29=true then(r30_Group.l1 k2 l1 x5_2 x6_2 x7_1 (wrap64 (x8_2+1))) else((r30_code.f k2 t552).bind fun t557=>(if 0≤t557 then(if t557<(x5_2.length:Int) then(if x6_2.length<5864062014805 then(r30_Group.l1 k2 l1 (x5_2.set (t557:Int).toNat true) (x6_2++ [t552]) x7_1 (wrap64 (x8_2+1))) else(none)) else(none)) else(none))))=some r:=by rw[←hbq29] at H;exact H
                have Nbq29:=aM hbq29;clear hbq29
                by_cases c30:bq29=true
                ·subst c30;have H1:(r30_Group.l1 k2 l1 x5_2 x6_2 x7_1 (wrap64 (x8_2+1)))=some r:=by rw[if_pos rfl] at H;exact H
                 clear H;have H:=H1;clear H1;have H':=aM H;clear H
                 try go_wp2
                 have n0_:=aM (Kd.R_drew HO_5.out);have n1_:=aM (Kd.N_drew HO_6.out);have n2_:=aM (Zh HB.out);clear HO_5;clear HO_6;clear HB;have HO_5:=n0_;have HO_6:=n1_;have HB:=n2_;clear n0_ n1_ n2_;obtain⟨Ao32,co32,eo32⟩:=Kd.N_slice HO_6.out
                 (first|subst eo32|(injection eo32 with f1_ f2_ f3_;have f4_:=f1_.symm;have f5_:=f3_.symm;clear f1_ f2_ f3_;subst f4_;subst f5_))
                 have p550:0≤(x7_1:Int):=oD zz153;have q550:x7_1<(x6_2.length:Int):=oD zz153;obtain⟨ad550,A550_0,c550_0,e550,hx550_0,hl550_0,hi550_0⟩:=ZY (Kd.N_reads' HO_6.out).2.2 x7_1 p550 q550
                 cases e550;obtain⟨ce550,hce550,hMe550,hcc550⟩:=Kd.N_get HO_6.out [] x7_1 p550 zz122;obtain⟨ua550_0,uc550_0,rfl,ul550_0,ge550_0⟩:=Kd.FK_slice_open hMe550;have hv550_0:=hcc550 0 _ rfl;rw[Nat.add_zero,show((Kd.slice 3 (Kd.int .i64))).sz=1 from rfl,Nat.mul_one] at hv550_0;replace hv550_0:=oI (hv550_0.symm.trans hx550_0);injection hv550_0 with hva_ hvn_ hvc_
                 rw[hva_] at ge550_0;rw[hvc_] at ul550_0;have HL550_0:=aM (show Kd.V (Kd.int .i64) 3 _ w.heap.size _ _ (Zp x6_2 x7_1) from Kd.V_mk ul550_0 ge550_0);clear hva_ hvn_ hvc_ ge550_0 ul550_0;clear hcc550 hce550;have HR550_0:=aM hi550_0;have HC550_0:=aM hl550_0;clear hi550_0 hl550_0;replace p550:=eq_true p550;replace q550:=eq_true q550;have p551:0≤(x8_2:Int):=oD zz153;have q551:x8_2<(l1.length:Int):=oD zz153;obtain⟨ad551,A551_0,c551_0,e551,hx551_0,hl551_0,hi551_0⟩:=ZY HR1.out x8_2 p551 q551;have hw551_0:=hx551_0
                 cases e551;replace hx551_0:=(HB.out.cell (wB w _ hx551_0)).trans hx551_0;have HR551_0:=aM hi551_0;have HC551_0:=aM hl551_0;clear hi551_0 hl551_0;replace p551:=eq_true p551;replace q551:=eq_true q551
                 refine start_ (n:=10) (S:=fun w'=>w'.cell? (ad550.add (x7_1).toNat)=some (.slice A550_0 (Zp x6_2 x7_1).length c550_0)∧w'.cell? (ad551.add (x8_2).toNat)=some (.slice A551_0 (Zp l1 x8_2).length c551_0)) (ds:= []) #[false,false,false,false,false,false,false,false,false,false] (by kernel_rfl) rfl rfl ⟨hx550_0,((HB.out.cell (wB w _ hw551_0)).trans hw551_0)⟩ (fun hHeld=> ?_);refine Z6 r30_Group.tab10 r30_Group.bits10 (fun HT_ HW_=> ?_);generalize wr.drew=w31 at HO_5 HO_6 HB HL550_0 HR550_0 HR551_0 hx550_0 hx551_0 hHeld⊢
                 refine ZC (i:=0) (N:=some 34) (v:= ?_) (a':= ?_) #[true,false,false,false,false,false,false,false,false,false] rfl rfl (Zy HT_.out (by kernel_rfl)) (fun _ _ _ h=>h) (Or.inl ⟨by rfl,?_⟩) ?_ ?_;rotate_left
                 ·intro w';go_simp;with_reducible rfl
                 rotate_left
                 ·simp only[Act.put,sA,sB,sC,Zt,Zu];rfl
                 refine ZC (i:=1) (N:=some 35) (v:= ?_) (a':= ?_) #[true,true,false,false,false,false,false,false,false,false] rfl rfl (Zy HT_.out (by kernel_rfl)) (fun _ _ _ h=>h) (Or.inl ⟨by rfl,?_⟩) ?_ ?_;rotate_left
                 ·intro w';go_simp;with_reducible rfl
                 rotate_left
                 ·simp only[Act.put,sA,sB,sC,Zt,Zu];rfl
                 refine ZC (i:=2) (N:=some 36) (v:= ?_) (a':= ?_) #[true,true,true,false,false,false,false,false,false,false] rfl rfl (Zy HT_.out (by kernel_rfl)) (fun _ _ _ h=>h) (Or.inl ⟨by rfl,?_⟩) ?_ ?_;rotate_left
                 ·intro w';go_simp;with_reducible rfl
                 rotate_left
                 ·simp only[Act.put,sA,sB,sC,Zt,Zu];rfl
                 refine ZC (i:=4) (N:=some 38) (v:= ?_) (a':= ?_) #[true,true,true,false,true,false,false,false,false,false] rfl rfl (Zy HT_.out (by kernel_rfl)) (fun _ _ _ h=>h) (Or.inl ⟨by rfl,?_⟩) ?_ ?_;rotate_left
                 ·intro w';go_simp;with_reducible rfl
                 rotate_left
                 ·simp only[Act.put,sA,sB,sC,Zt,Zu];rfl
                 refine ZC (i:=5) (N:=some 39) (v:= ?_) (a':= ?_) #[true,true,true,false,true,true,false,false,false,false] rfl rfl (Zy HT_.out (by kernel_rfl)) (fun _ _ _ h=>h) (Or.inl ⟨by rfl,?_⟩) ?_ ?_;rotate_left
                 ·intro w';go_simp;with_reducible rfl
                 rotate_left
                 ·simp only[Act.put,sA,sB,sC,Zt,Zu];rfl
                 refine ZC (i:=6) (N:=some 40) (v:= ?_) (a':= ?_) #[true,true,true,false,true,true,true,false,false,false] rfl rfl (Zy HT_.out (by kernel_rfl)) (fun _ _ _ h=>h) (Or.inl ⟨by rfl,?_⟩) ?_ ?_;rotate_left
                 ·intro w';go_simp;with_reducible rfl
                 rotate_left
                 ·simp only[Act.put,sA,sB,sC,Zt,Zu];rfl
                 refine Yc (i:=3) (N:=some 37) (v:= ?_) (a':= ?_) #[true,true,true,true,true,true,true,false,false,false] rfl rfl (ZW HT_.out HW_.out (by kernel_rfl)) (fun _ _ _ h=>h) (Or.inl ⟨by rfl,?_⟩) hHeld ?_ ?_;rotate_left
                 ·rintro w' ⟨s0,s1⟩;go_simp;with_reducible rfl
                 rotate_left
                 ·simp only[Act.put,sA,sB,sC,Zt,Zu];rfl
                 refine Yc (i:=7) (N:=some 41) (v:= ?_) (a':= ?_) #[true,true,true,true,true,true,true,true,false,false] rfl rfl (ZW HT_.out HW_.out (by kernel_rfl)) (fun _ _ _ h=>h) (Or.inl ⟨by rfl,?_⟩) hHeld ?_ ?_;rotate_left
                 ·rintro w' ⟨s0,s1⟩;go_simp;with_reducible rfl
                 rotate_left
                 ·simp only[Act.put,sA,sB,sC,Zt,Zu];rfl
                 refine one_ (i:=8) (N:=some 42) #[true,true,true,true,true,true,true,true,true,false] rfl rfl (ZZ HT_.out (by kernel_rfl)) (by decide) (fun K hK=> ?_)
                 refine Yh Try.func43 (by kernel_rfl) rfl #[.slice A550_0 (Zp x6_2 x7_1).length c550_0,.slice A551_0 (Zp l1 x8_2).length c551_0] (by rfl) rfl rfl zz127 ?_;with_reducible refine(r30_Then.calls k2 _ _ (Zp x6_2 x7_1) _ _ (Zp l1 x8_2) t552 _ ?side1 ?side2 ?side3 ?side4 A25.out).mono ?_
                 (case side1=>repeat(first|exact zz86|(with_reducible refine Kd.C_alloc ?_ _)|(with_reducible refine Kd.C_drewN ?_ _)|(with_reducible refine Kd.C_drew ?_)))
                 (case side2=>exact HC550_0.out)
                 (case side3=>exact zC (Kd.C_below HR551_0.out HB.out))
                 (case side4=>exact HC551_0.out)
                 rintro e w33 ⟨v553,rfl,ho0,hb⟩;have HS0_:=(hb.cell (wB _ _ (hHeld.1))).trans (hHeld.1)
                 refine⟨_,rfl,?_⟩;have n0_:=aM (Kd.R_below (zR HO_5) hb);have n1_:=aM (Kd.N_elder' (zN HO_6) (Kd.R_base ho0) hb);have n2_:=aM (Kd.V_elder' (zV HL550_0) (Kd.R_base ho0) hb);have n3_:=aM (Kd.R_lower (Kd.R_newM (M:=fun k_=>(w.heap.size≤k_)) ho0 (Zc zz128) (fun k_ h_=>h_)) (Zc zz128));have n4_:=aM (Kd.C_below zz86 hb);have n5_:=aM (Ze zz128 hb);clear HO_5;clear HO_6;clear HL550_0;clear HR550_0;clear HB;have HO_5:=n0_;have HO_6:=n1_;have HL550_0:=n2_;have HO554:=n3_;have HR550_0:=n4_;have HB:=n5_;clear n0_ n1_ n2_ n3_ n4_ n5_;(try clear hb);(try clear hb2);(try clear hk);(try clear hi);(try clear ho0)
                 refine hK.out _ _ ⟨HS0_,((HB.out.cell (wB w _ hw551_0)).trans hw551_0)⟩ (fun hHeld=> ?_);clear hK K
                 refine ZS (a':= ?_) ?_ ?_;rotate_left
                 ·show Act.put _ (some 42) _=_
                  simp only[Act.put,sA,sB,sC,Zt,Zu];rfl
                 refine ZC (i:=9) (N:=some 9) (v:= ?_) (a':= ?_) #[true,true,true,true,true,true,true,true,true,true] rfl rfl (Zy HT_.out (by kernel_rfl)) (fun _ _ _ h=>h) (Or.inl ⟨by rfl,?_⟩) ?_ ?_;rotate_left
                 ·intro w';go_simp;with_reducible rfl
                 rotate_left
                 ·simp only[Act.put,sA,sB,sC,Zt,Zu];rfl
                 refine done_ (done_of HT_.out (by kernel_rfl)) ?_;obtain⟨Ao34,co34,eo34⟩:=Kd.R_slice HO554.out;subst eo34
                 try go_wp2_with (first|((with_reducible refine Zq (f:=88) rfl ?_);refine ZB (some 45) rfl rfl Try.func88 (by kernel_rfl) rfl #[.slice Ao34 t552.length co34] rfl zz127 ?_;(with_reducible refine(r30_code.calls k2 _ _ t552 t555 _ ?side1 ?side2 A26.out).mono ?_);(case side1=>exact zC ((Kd.R_reads' HO554.out).2.2));(case side2=>exact(Kd.R_reads' HO554.out).2.1);rintro e w' ⟨rfl,⟨nd,rfl⟩⟩;refine⟨_,rfl,?_⟩;have p556:0≤(t555:Int):=oD zz153;have q556:t555<(x5_2.length:Int):=oD zz153;obtain⟨ad556,e556,hx556_0⟩:=Kd.at_bool (Kd.R_reads' HO_5.out).2.2 t555 p556 q556;(try rw[←Nbq29.out] at hx556_0);obtain rfl:(⟨go9,0,none⟩:Addr)=ad556:=(by injection e556);(first|simp only[Z3] at hx556_0|simp only[add_at] at hx556_0|simp only[Addr.add,Nat.zero_add] at hx556_0|skip);replace p556:=eq_true p556;replace q556:=eq_true q556))
                 (try simp only[←hl5_2])
                 go_roundg k2
                 case measure=>have:=HK1.out;have:=HK2.out;omega
                 case rel=>exact⟨(x5_2),(x6_2),(wrap64 (x8_2+1)),zz154,H',⟨zz155⟩,⟨zz111⟩,⟨(by(try simp only[hl5_1]);(try simp only[hl5_2]);(with_reducible repeat(first|apply Kd.N_alloc|apply Kd.N_drewN|apply Kd.N_drew));exact Kd.N_mono HO_6.out (fun _ hk=>by first|exact⟨hk.1.1,hk.1.2⟩|exact zN0))⟩,⟨zz128⟩⟩
                replace c30:=Bool.eq_false_iff.mpr c30;subst c30;have H1:((r30_code.f k2 t552).bind fun t557=>(if 0≤t557 then(if t557<(x5_2.length:Int) then(if x6_2.length<5864062014805 then(r30_Group.l1 k2 l1 (x5_2.set (t557:Int).toNat true) (x6_2++ [t552]) x7_1 (wrap64 (x8_2+1))) else(none)) else(none)) else(none)))=some r:=by rw[if_neg (show¬(false=true) by decide)] at H;exact H
                clear H;have H:=H1;clear H1;replace H:=oB H;obtain⟨t557,A350,H⟩:=H;replace H:(if 0≤t557 then(if t557<(x5_2.length:Int) then(if x6_2.length<5864062014805 then(r30_Group.l1 k2 l1 (x5_2.set (t557:Int).toNat true) (x6_2++ [t552]) x7_1 (wrap64 (x8_2+1))) else(none)) else(none)) else(none))=some r:=H;have A35:=aM A350;clear A350
                by_cases c36:0≤t557
                ·rw [if_pos c36] at H;have c36b0:=dT c36;clear c36
                 by_cases c37:t557<(x5_2.length:Int)
                 ·rw [if_pos c37] at H;have c37b0:=dT c37;clear c37;obtain⟨y558,hy558⟩:∃y_:List Bool,y_=(x5_2.set (t557:Int).toNat true):=⟨_,rfl⟩;replace H:(if x6_2.length<5864062014805 then(r30_Group.l1 k2 l1 y558 (x6_2++ [t552]) x7_1 (wrap64 (x8_2+1))) else(none))=some r:=by first|(rw[hy558];with_reducible exact H)|(have H2_:=(Option.bind_some _ _).symm.trans H;rw[hy558];with_reducible exact H2_)|(have H2_:=(Option.bind_some _ _).symm.trans H;with_reducible exact H2_)|with_reducible exact H|(rw[hy558];exact H)|exact H
                  have Ny558:=aM hy558;clear hy558
                  by_cases c39:x6_2.length<5864062014805
                  ·rw [if_pos c39] at H;have LMc39:=aM c39;clear c39;obtain⟨y559,hy559⟩:∃y_:List (List Int),y_=(x6_2++ [t552]):=⟨_,rfl⟩;replace H:(r30_Group.l1 k2 l1 y558 y559 x7_1 (wrap64 (x8_2+1)))=some r:=by first|(rw[hy559];with_reducible exact H)|(have H2_:=(Option.bind_some _ _).symm.trans H;rw[hy559];with_reducible exact H2_)|(have H2_:=(Option.bind_some _ _).symm.trans H;with_reducible exact H2_)|with_reducible exact H|(rw[hy559];exact H)|exact H
                   have Ny559:=aM hy559;clear hy559;have H':=aM H;clear H
                   try go_wp2
                   have n0_:=aM (Kd.R_drew HO_5.out);have n1_:=aM (Kd.N_drew HO_6.out);have n2_:=aM (Zh HB.out);clear HO_5;clear HO_6;clear HB;have HO_5:=n0_;have HO_6:=n1_;have HB:=n2_;clear n0_ n1_ n2_;obtain⟨Ao41,co41,eo41⟩:=Kd.N_slice HO_6.out
                   (first|subst eo41|(injection eo41 with f1_ f2_ f3_;have f4_:=f1_.symm;have f5_:=f3_.symm;clear f1_ f2_ f3_;subst f4_;subst f5_))
                   have p550:0≤(x7_1:Int):=oD zz153;have q550:x7_1<(x6_2.length:Int):=oD zz153;obtain⟨ad550,A550_0,c550_0,e550,hx550_0,hl550_0,hi550_0⟩:=ZY (Kd.N_reads' HO_6.out).2.2 x7_1 p550 q550
                   cases e550;obtain⟨ce550,hce550,hMe550,hcc550⟩:=Kd.N_get HO_6.out [] x7_1 p550 zz122;obtain⟨ua550_0,uc550_0,rfl,ul550_0,ge550_0⟩:=Kd.FK_slice_open hMe550;have hv550_0:=hcc550 0 _ rfl;rw[Nat.add_zero,show((Kd.slice 3 (Kd.int .i64))).sz=1 from rfl,Nat.mul_one] at hv550_0;replace hv550_0:=oI (hv550_0.symm.trans hx550_0);injection hv550_0 with hva_ hvn_ hvc_
                   rw[hva_] at ge550_0;rw[hvc_] at ul550_0;have HL550_0:=aM (show Kd.V (Kd.int .i64) 3 _ w.heap.size _ _ (Zp x6_2 x7_1) from Kd.V_mk ul550_0 ge550_0);clear hva_ hvn_ hvc_ ge550_0 ul550_0;clear hcc550 hce550;have HR550_0:=aM hi550_0;have HC550_0:=aM hl550_0;clear hi550_0 hl550_0;replace p550:=eq_true p550;replace q550:=eq_true q550;have p551:0≤(x8_2:Int):=oD zz153;have q551:x8_2<(l1.length:Int):=oD zz153;obtain⟨ad551,A551_0,c551_0,e551,hx551_0,hl551_0,hi551_0⟩:=ZY HR1.out x8_2 p551 q551;have hw551_0:=hx551_0
                   cases e551;replace hx551_0:=(HB.out.cell (wB w _ hx551_0)).trans hx551_0;have HR551_0:=aM hi551_0;have HC551_0:=aM hl551_0;clear hi551_0 hl551_0;replace p551:=eq_true p551;replace q551:=eq_true q551
                   refine start_ (n:=10) (S:=fun w'=>w'.cell? (ad550.add (x7_1).toNat)=some (.slice A550_0 (Zp x6_2 x7_1).length c550_0)∧w'.cell? (ad551.add (x8_2).toNat)=some (.slice A551_0 (Zp l1 x8_2).length c551_0)) (ds:= []) #[false,false,false,false,false,false,false,false,false,false] (by kernel_rfl) rfl rfl ⟨hx550_0,((HB.out.cell (wB w _ hw551_0)).trans hw551_0)⟩ (fun hHeld=> ?_);refine Z6 r30_Group.tab10 r30_Group.bits10 (fun HT_ HW_=> ?_);generalize wr.drew=w40 at HO_5 HO_6 HB HL550_0 HR550_0 HR551_0 hx550_0 hx551_0 hHeld⊢
                   refine ZC (i:=0) (N:=some 34) (v:= ?_) (a':= ?_) #[true,false,false,false,false,false,false,false,false,false] rfl rfl (Zy HT_.out (by kernel_rfl)) (fun _ _ _ h=>h) (Or.inl ⟨by rfl,?_⟩) ?_ ?_;rotate_left
                   ·intro w';go_simp;with_reducible rfl
                   rotate_left
                   ·simp only[Act.put,sA,sB,sC,Zt,Zu];rfl
                   refine ZC (i:=1) (N:=some 35) (v:= ?_) (a':= ?_) #[true,true,false,false,false,false,false,false,false,false] rfl rfl (Zy HT_.out (by kernel_rfl)) (fun _ _ _ h=>h) (Or.inl ⟨by rfl,?_⟩) ?_ ?_;rotate_left
                   ·intro w';go_simp;with_reducible rfl
                   rotate_left
                   ·simp only[Act.put,sA,sB,sC,Zt,Zu];rfl
                   refine ZC (i:=2) (N:=some 36) (v:= ?_) (a':= ?_) #[true,true,true,false,false,false,false,false,false,false] rfl rfl (Zy HT_.out (by kernel_rfl)) (fun _ _ _ h=>h) (Or.inl ⟨by rfl,?_⟩) ?_ ?_;rotate_left
                   ·intro w';go_simp;with_reducible rfl
                   rotate_left
                   ·simp only[Act.put,sA,sB,sC,Zt,Zu];rfl
                   refine ZC (i:=4) (N:=some 38) (v:= ?_) (a':= ?_) #[true,true,true,false,true,false,false,false,false,false] rfl rfl (Zy HT_.out (by kernel_rfl)) (fun _ _ _ h=>h) (Or.inl ⟨by rfl,?_⟩) ?_ ?_;rotate_left
                   ·intro w';go_simp;with_reducible rfl
                   rotate_left
                   ·simp only[Act.put,sA,sB,sC,Zt,Zu];rfl
                   refine ZC (i:=5) (N:=some 39) (v:= ?_) (a':= ?_) #[true,true,true,false,true,true,false,false,false,false] rfl rfl (Zy HT_.out (by kernel_rfl)) (fun _ _ _ h=>h) (Or.inl ⟨by rfl,?_⟩) ?_ ?_;rotate_left
                   ·intro w';go_simp;with_reducible rfl
                   rotate_left
                   ·simp only[Act.put,sA,sB,sC,Zt,Zu];rfl
                   refine ZC (i:=6) (N:=some 40) (v:= ?_) (a':= ?_) #[true,true,true,false,true,true,true,false,false,false] rfl rfl (Zy HT_.out (by kernel_rfl)) (fun _ _ _ h=>h) (Or.inl ⟨by rfl,?_⟩) ?_ ?_;rotate_left
                   ·intro w';go_simp;with_reducible rfl
                   rotate_left
                   ·simp only[Act.put,sA,sB,sC,Zt,Zu];rfl
                   refine Yc (i:=3) (N:=some 37) (v:= ?_) (a':= ?_) #[true,true,true,true,true,true,true,false,false,false] rfl rfl (ZW HT_.out HW_.out (by kernel_rfl)) (fun _ _ _ h=>h) (Or.inl ⟨by rfl,?_⟩) hHeld ?_ ?_;rotate_left
                   ·rintro w' ⟨s0,s1⟩;go_simp;with_reducible rfl
                   rotate_left
                   ·simp only[Act.put,sA,sB,sC,Zt,Zu];rfl
                   refine Yc (i:=7) (N:=some 41) (v:= ?_) (a':= ?_) #[true,true,true,true,true,true,true,true,false,false] rfl rfl (ZW HT_.out HW_.out (by kernel_rfl)) (fun _ _ _ h=>h) (Or.inl ⟨by rfl,?_⟩) hHeld ?_ ?_;rotate_left
                   ·rintro w' ⟨s0,s1⟩;go_simp;with_reducible rfl
                   rotate_left
                   ·simp only[Act.put,sA,sB,sC,Zt,Zu];rfl
                   refine one_ (i:=8) (N:=some 42) #[true,true,true,true,true,true,true,true,true,false] rfl rfl (ZZ HT_.out (by kernel_rfl)) (by decide) (fun K hK=> ?_)
                   refine Yh Try.func43 (by kernel_rfl) rfl #[.slice A550_0 (Zp x6_2 x7_1).length c550_0,.slice A551_0 (Zp l1 x8_2).length c551_0] (by rfl) rfl rfl zz127 ?_;with_reducible refine(r30_Then.calls k2 _ _ (Zp x6_2 x7_1) _ _ (Zp l1 x8_2) t552 _ ?side1 ?side2 ?side3 ?side4 A25.out).mono ?_
                   (case side1=>repeat(first|exact zz86|(with_reducible refine Kd.C_alloc ?_ _)|(with_reducible refine Kd.C_drewN ?_ _)|(with_reducible refine Kd.C_drew ?_)))
                   (case side2=>exact HC550_0.out)
                   (case side3=>exact zC (Kd.C_below HR551_0.out HB.out))
                   (case side4=>exact HC551_0.out)
                   rintro e w42 ⟨v553,rfl,ho0,hb⟩;have HS0_:=(hb.cell (wB _ _ (hHeld.1))).trans (hHeld.1)
                   refine⟨_,rfl,?_⟩;have n0_:=aM (Kd.R_below (zR HO_5) hb);have n1_:=aM (Kd.N_elder' (zN HO_6) (Kd.R_base ho0) hb);have n2_:=aM (Kd.V_elder' (zV HL550_0) (Kd.R_base ho0) hb);have n3_:=aM (Kd.R_lower (Kd.R_newM (M:=fun k_=>(w.heap.size≤k_)) ho0 (Zc zz128) (fun k_ h_=>h_)) (Zc zz128));have n4_:=aM (Kd.C_below zz86 hb);have n5_:=aM (Ze zz128 hb);clear HO_5;clear HO_6;clear HL550_0;clear HR550_0;clear HB;have HO_5:=n0_;have HO_6:=n1_;have HL550_0:=n2_;have HO554:=n3_;have HR550_0:=n4_;have HB:=n5_;clear n0_ n1_ n2_ n3_ n4_ n5_;(try clear hb);(try clear hb2);(try clear hk);(try clear hi);(try clear ho0)
                   refine hK.out _ _ ⟨HS0_,((HB.out.cell (wB w _ hw551_0)).trans hw551_0)⟩ (fun hHeld=> ?_);clear hK K
                   refine ZS (a':= ?_) ?_ ?_;rotate_left
                   ·show Act.put _ (some 42) _=_
                    simp only[Act.put,sA,sB,sC,Zt,Zu];rfl
                   refine ZC (i:=9) (N:=some 9) (v:= ?_) (a':= ?_) #[true,true,true,true,true,true,true,true,true,true] rfl rfl (Zy HT_.out (by kernel_rfl)) (fun _ _ _ h=>h) (Or.inl ⟨by rfl,?_⟩) ?_ ?_;rotate_left
                   ·intro w';go_simp;with_reducible rfl
                   rotate_left
                   ·simp only[Act.put,sA,sB,sC,Zt,Zu];rfl
                   refine done_ (done_of HT_.out (by kernel_rfl)) ?_;obtain⟨Ao43,co43,eo43⟩:=Kd.R_slice HO554.out;subst eo43
                   try go_wp2_with (first|((with_reducible refine Zq (f:=88) rfl ?_);refine ZB (some 45) rfl rfl Try.func88 (by kernel_rfl) rfl #[.slice Ao43 t552.length co43] rfl zz127 ?_;(with_reducible refine(r30_code.calls k2 _ _ t552 t555 _ ?side1 ?side2 A26.out).mono ?_);(case side1=>exact zC ((Kd.R_reads' HO554.out).2.2));(case side2=>exact(Kd.R_reads' HO554.out).2.1);rintro e w' ⟨rfl,⟨nd,rfl⟩⟩;refine⟨_,rfl,?_⟩;(try(rw[drewN_self w42];generalize hq_:World.drewN w42 _=w42;have n0_:Aside0 (Kd.V (Kd.int .i64) 3 w42 w.heap.size (fun k_=>(w.heap.size≤k_)∧some k_≠(.slice Ao43 t552.length co43:Value).ownBlock∧some k_≠(.slice (some ⟨go9,0,none⟩) x5_2.length co9:Value).ownBlock∧some k_≠(.slice (some ad550) x6_2.length co41:Value).ownBlock) (.slice A550_0 (Zp x6_2 x7_1).length c550_0) (Zp x6_2 x7_1)):=⟨zz33⟩;have n1_:Aside0 (Kd.R (Kd.int .i64) 3 w42 w.heap.size (fun k_=>(w.heap.size≤k_)) (.slice Ao43 t552.length co43) t552):=⟨zz44⟩;have n2_:Aside0 (Kd.R Kd.bool 4 w42 w.heap.size (fun k_=>(w.heap.size≤k_)) (.slice (some ⟨go9,0,none⟩) x5_2.length co9) x5_2):=⟨(by rw[←hq_];exact(zR HO_5))⟩;have n3_:Aside0 (Kd.N (Kd.slice 3 (Kd.int .i64)) 22 w42 w.heap.size (fun k_=>(w.heap.size≤k_)∧some k_≠(.slice Ao43 t552.length co43:Value).ownBlock∧some k_≠(.slice (some ⟨go9,0,none⟩) x5_2.length co9:Value).ownBlock) (.slice (some ad550) x6_2.length co41) x6_2):=⟨zz38⟩;have n4_:Aside0 (Below w.heap.size w w42):=⟨zz109⟩;have n5_:Aside0 (Kd.C (Kd.int .i64) w42 A550_0 (Zp x6_2 x7_1).length (Zp x6_2 x7_1)):=⟨zz73⟩;clear HL550_0 HO554 HO_5 HO_6 HB HR550_0 hq_;have HL550_0:=n0_;have HO554:=n1_;have HO_5:=n2_;have HO_6:=n3_;have HB:=n4_;have HR550_0:=n5_;clear n0_ n1_ n2_ n3_ n4_ n5_));have p556:0≤(t555:Int):=oD zz153;have q556:t555<(x5_2.length:Int):=oD zz153;obtain⟨ad556,e556,hx556_0⟩:=Kd.at_bool (Kd.R_reads' HO_5.out).2.2 t555 p556 q556;(try rw[←Nbq29.out] at hx556_0);obtain rfl:(⟨go9,0,none⟩:Addr)=ad556:=(by injection e556);(first|simp only[Z3] at hx556_0|simp only[add_at] at hx556_0|simp only[Addr.add,Nat.zero_add] at hx556_0|skip);replace p556:=eq_true p556;replace q556:=eq_true q556)|((with_reducible refine Zq (f:=88) rfl ?_);refine ZB (some 51) rfl rfl Try.func88 (by kernel_rfl) rfl #[.slice Ao43 t552.length co43] rfl zz127 ?_;(with_reducible refine(r30_code.calls k2 _ _ t552 t557 _ ?side1 ?side2 A35.out).mono ?_);(case side1=>exact zC ((Kd.R_reads' HO554.out).2.2));(case side2=>exact(Kd.R_reads' HO554.out).2.1);rintro e w' ⟨rfl,⟨nd,rfl⟩⟩;refine⟨_,rfl,?_⟩;(try(rw[drewN_self w42];generalize hq_:World.drewN w42 _=w42;have n0_:Aside0 (Kd.V (Kd.int .i64) 3 w42 w.heap.size (fun k_=>(w.heap.size≤k_)∧some k_≠(.slice Ao43 t552.length co43:Value).ownBlock∧some k_≠(.slice (some ⟨go9,0,none⟩) x5_2.length co9:Value).ownBlock∧some k_≠(.slice (some ad550) x6_2.length co41:Value).ownBlock) (.slice A550_0 (Zp x6_2 x7_1).length c550_0) (Zp x6_2 x7_1)):=⟨zz33⟩;have n1_:Aside0 (Kd.R (Kd.int .i64) 3 w42 w.heap.size (fun k_=>(w.heap.size≤k_)) (.slice Ao43 t552.length co43) t552):=⟨zz44⟩;have n2_:Aside0 (Kd.R Kd.bool 4 w42 w.heap.size (fun k_=>(w.heap.size≤k_)) (.slice (some ⟨go9,0,none⟩) x5_2.length co9) x5_2):=⟨(by rw[←hq_];exact(zR HO_5))⟩;have n3_:Aside0 (Kd.N (Kd.slice 3 (Kd.int .i64)) 22 w42 w.heap.size (fun k_=>(w.heap.size≤k_)∧some k_≠(.slice Ao43 t552.length co43:Value).ownBlock∧some k_≠(.slice (some ⟨go9,0,none⟩) x5_2.length co9:Value).ownBlock) (.slice (some ad550) x6_2.length co41) x6_2):=⟨zz38⟩;have n4_:Aside0 (Below w.heap.size w w42):=⟨zz109⟩;have n5_:Aside0 (Kd.C (Kd.int .i64) w42 A550_0 (Zp x6_2 x7_1).length (Zp x6_2 x7_1)):=⟨zz73⟩;clear HL550_0 HO554 HO_5 HO_6 HB HR550_0 hq_;have HL550_0:=n0_;have HO554:=n1_;have HO_5:=n2_;have HO_6:=n3_;have HB:=n4_;have HR550_0:=n5_;clear n0_ n1_ n2_ n3_ n4_ n5_));have p38:0≤(t557:Int):=oD zz153;have q38:(t557:Int)<((x5_2.length:Int):Int):=oD zz153;obtain⟨hx38_0,hf38_0⟩:=Kd.R_celln false HO_5.out (t557:Int) p38 q38;replace p38:=eq_true p38;replace q38:=eq_true q38;obtain⟨hy44_,hz44_⟩:=Kd.R_celln false HO_5.out (t557:Int) (oD zz153) (oD zz153);have HP44:=Kd.R_putg HO_5.out (t557:Int) true)|((with_reducible refine ZU (t:=4) (p:=52) rfl ?_);refine ZO (t:=4) (p:=52) (v:= ?vo_w45) (w1:=(w42.setCell ⟨go9,(t557:Int).toNat,none⟩ (.bool true))) ?hg ?ho ?hn ?hr ?_;(case ho=>rfl);(case hg=>rfl);(case hn=>rfl);(case hr=>first|(go_simp;done)|(go_simp;rfl));intro w45 hw;have hg:w42.grownBy w45 (some go9):=(by rw[hw];exact HP44.2);have hp_:Kd.R Kd.bool 4 w45 w.heap.size (fun k_=>(w.heap.size≤k_)) (.slice (some ⟨go9,0,none⟩) x5_2.length co9) y558:=(by rw[hw,Ny558.out];exact HP44.1);clear HP44;replace HO_6:=aM (Kd.N_afterv (v:=(.slice (some ⟨go9,0,none⟩) x5_2.length co9)) (v1:=(.slice (some ⟨go9,0,none⟩) x5_2.length co9)) (ok:=(fun k_=>(w.heap.size≤k_)∧some k_≠(.slice Ao43 t552.length co43:Value).ownBlock)) (by(with_reducible repeat(first|apply Kd.N_alloc|apply Kd.N_drewN|apply Kd.N_drew));exact Kd.N_mono HO_6.out (fun _ hk=>by first|exact⟨⟨hk.1.1,hk.2⟩,hk.1.2⟩|exact zN0)) hg (.inl rfl));replace HL550_0:=aM (Kd.V_afterv (v:=(.slice (some ⟨go9,0,none⟩) x5_2.length co9)) (v1:=(.slice (some ⟨go9,0,none⟩) x5_2.length co9)) (ok:=(fun k_=>(w.heap.size≤k_)∧some k_≠(.slice (some ad550) x6_2.length co41:Value).ownBlock∧some k_≠(.slice Ao43 t552.length co43:Value).ownBlock)) (by(with_reducible repeat(first|apply Kd.V_alloc|apply Kd.V_drewN|apply Kd.V_drew));exact Kd.V_mono HL550_0.out (fun _ hk=>by first|exact⟨⟨hk.1.1.1,⟨hk.1.2,hk.2⟩⟩,hk.1.1.2⟩|exact zN0)) hg (.inl rfl));replace HO554:=aM (Kd.R_over' (v:=(.slice (some ⟨go9,0,none⟩) x5_2.length co9)) (zR HO554) (Kd.R_typed HO_5.out) (by decide) hg);replace HO_5:=aM (hp_);replace HB:=aM ((by rw[hw];exact Zk (HB.out) GB9.out:Below w.heap.size w w45));clear hg hw hp_)|((with_reducible refine ZT (b:= .append) (xs:= #[.tmp 53,.tmp 55]) rfl ?_);at_builtin;refine Kd.N_append (Kd.slice 3 (Kd.int .i64)) (w0:=w) w.heap.size rfl (.tmp 53) (.tmp 55) 28 22 (.slice none 0 0) 24 rfl Try.underlying28 info22 rfl (by decide) (by omega) (.slice (some ad550) x6_2.length co41) x6_2 t552 [.slice Ao43 t552.length co43] (fun k_=>(w.heap.size≤k_)∧some k_≠(.slice (some ⟨go9,0,none⟩) x5_2.length co9:Value).ownBlock) (fun k_=>((fun k_=>(w.heap.size≤k_)∧some k_≠(.slice (some ⟨go9,0,none⟩) x5_2.length co9:Value).ownBlock)) k_∧some k_≠(.slice (some ad550) x6_2.length co41:Value).ownBlock) rfl rfl ?aP (fun _ hk=>hk) ?aF ?aO ?aB ?aS ?aL ?_;(case aP=>exact(Kd.FK_slice_mk (Kd.R_reads' (Kd.R_mono (ok':=(fun k_=>((fun k_=>(w.heap.size≤k_)∧some k_≠(.slice (some ⟨go9,0,none⟩) x5_2.length co9:Value).ownBlock)) k_∧some k_≠(.slice (some ad550) x6_2.length co41:Value).ownBlock)) (Kd.R_apart' (Kd.R_apart' (HO554.out) (Kd.R_typed HO_5.out) (by decide)) (Kd.N_typed HO_6.out) (by decide)) (fun k_ hk=>by first|exact⟨⟨hk.1.1.1,hk.1.2⟩,hk.2⟩|exact zN0))).2.1 (Kd.R_F (Kd.R_mono (ok':=(fun k_=>((fun k_=>(w.heap.size≤k_)∧some k_≠(.slice (some ⟨go9,0,none⟩) x5_2.length co9:Value).ownBlock)) k_∧some k_≠(.slice (some ad550) x6_2.length co41:Value).ownBlock)) (Kd.R_apart' (Kd.R_apart' (HO554.out) (Kd.R_typed HO_5.out) (by decide)) (Kd.N_typed HO_6.out) (by decide)) (fun k_ hk=>by first|exact⟨⟨hk.1.1.1,hk.1.2⟩,hk.2⟩|exact zN0)))));(case aB=>exact zz128);(case aF=>exact(fun k_ hk=>⟨(Nat.le_trans (Zc zz128) hk),Kd.fresh' (Kd.R_lt (zR HO_5)) k_ hk⟩));(case aO=>exact(by(with_reducible repeat(first|apply Kd.N_alloc|apply Kd.N_drewN|apply Kd.N_drew));exact Kd.N_mono HO_6.out (fun _ hk=>by first|exact⟨hk.1.1,hk.2⟩|exact zN0)));(case aS=>exact(Zc zz128));(case aL=>have:=LMc39.out;omega);intro v560 w46 ho hb hg hat;rw[←Ny559.out] at ho;replace HO_5:=aM (Kd.R_over' (zR HO_5) (Kd.N_typed (zN HO_6)) (by decide) hg);replace HL550_0:=aM (Kd.V_afterv (ok:=(fun k_=>(w.heap.size≤k_)∧some k_≠(.slice (some ⟨go9,0,none⟩) x5_2.length co9:Value).ownBlock∧some k_≠(.slice Ao43 t552.length co43:Value).ownBlock)) (by(with_reducible repeat(first|apply Kd.V_alloc|apply Kd.V_drewN|apply Kd.V_drew));exact Kd.V_mono HL550_0.out (fun _ hk=>by first|exact⟨⟨hk.1.1,⟨hk.2,hk.1.2.2⟩⟩,hk.1.2.1⟩|exact zN0)) hg hat);replace HB:=aM (hb);have HO561:=aM (ho);clear HO_6 HO554;clear ho hb hg hat))
                   (try simp only[←hl5_2])
                   go_roundg k2
                   case measure=>have:=HK1.out;have:=HK2.out;omega
                   case rel=>exact⟨(y558),(y559),(wrap64 (x8_2+1)),zz154,H',⟨zz155⟩,⟨zz111⟩,⟨(by(try simp only[hl5_1]);(try simp only[hl5_2]);(with_reducible repeat(first|apply Kd.N_alloc|apply Kd.N_drewN|apply Kd.N_drew));exact HO561.out)⟩,⟨zz128⟩⟩
                  rw[if_neg c39] at H
                  exact absurd H (by simp)
                 rw[if_neg c37] at H
                 exact absurd H (by simp)
                rw[if_neg c36] at H
                exact absurd H (by simp)
               rw[if_neg c28] at H
               exact absurd H (by simp)
              rw[if_neg c27] at H
              exact absurd H (by simp)
             rw[if_neg c24] at H
             exact absurd H (by simp)
            rw[if_neg c23] at H
            exact absurd H (by simp)
           rw[if_neg c22] at H
           exact absurd H (by simp)
          rw[if_neg c21] at H;have c21b0:=dF c21;clear c21;have H':=aM H;clear H;go_wp2
          (try simp only[←hl5_1,←hl5_2])
          go_roundg k2
          case measure=>have:=HK1.out;have:=HK2.out;omega
          case rel=>exact⟨(x5_2),(x6_2),(wrap64 (x7_1+1)),zz154,H',⟨zz155⟩,⟨zz111⟩,⟨(by(try simp only[hl5_1]);(try simp only[hl5_2]);(with_reducible repeat(first|apply Kd.N_alloc|apply Kd.N_drewN|apply Kd.N_drew));exact HO_6.out)⟩,⟨zz128⟩⟩
       rw[if_neg c19] at H;have c19b0:=dF c19;clear c19;have H':=aM H;clear H;obtain⟨Ao47,co47,eo47⟩:=Kd.N_slice HO_6.out;subst eo47;go_wp2
       go_loopg [10] k1 (fun kq v10 w'=>∃(x6_2:List (List Int)) (x10_2:Int),v10= .int .i64 x10_2∧Aside0 (r30_Group.l2 kq x6_2 x10_2=some r)∧Aside0 (kq≤k1)∧Aside0 (Kd.N (Kd.slice 3 (Kd.int .i64)) 22 w' w.heap.size (fun k_=>(w.heap.size≤k_)) (.slice Ao47 x6_1.length co47) x6_2)∧Aside0 (Below w.heap.size w w'))
       case atStart=>exact⟨(x6_1),(1),zz154,H',⟨Nat.le_refl _⟩,⟨(by(try simp only[hl5_1]);(with_reducible repeat(first|apply Kd.N_alloc|apply Kd.N_drewN|apply Kd.N_drew));exact Kd.N_mono HO_6.out (fun _ hk=>by first|exact hk.1|exact zN0))⟩,⟨zz128⟩⟩
       case round =>
        clear H';(try clear c1);(try clear c2);(try clear p2);(try clear q2);(try clear c3);(try clear c3b0);(try clear c3b1);(try clear p3);(try clear q3);(try clear hx3);(try clear hf3);(try clear c4);(try clear c5);(try clear c5b0);(try clear c5b1);(try clear p5);(try clear q5);(try clear hx5);(try clear qi5);(try clear c6);(try clear p6);(try clear c7);(try clear c7b0);(try clear c8);(try clear c8b0);(try clear p9);(try clear q9);(try clear hx9);(try clear hf9);(try clear c19);(try clear c19b0);(try clear c21);(try clear c21b0);(try clear c22);(try clear c22b0);(try clear c23);(try clear c23b0);(try clear c24);(try clear c24b0);(try clear c26);(try clear c27);(try clear c27b0);(try clear c28);(try clear c28b0);(try clear q29);(try clear c30);(try clear c36);(try clear c36b0);(try clear c37);(try clear c37b0);(try clear p38);(try clear q38);(try clear hx38);(try clear hf38);(try clear c39);(try clear c43);(try clear hx38_0);(try clear hx547_0);(try clear hx550_0);(try clear hx551_0);(try clear hx556_0);(try clear hx9_0);(try clear p2);(try clear p38);(try clear p5);(try clear p547);(try clear p550);(try clear p551);(try clear p556);(try clear p9);(try clear q38);(try clear q5);(try clear q547);(try clear q550);(try clear q551);(try clear q556);(try clear q9);obtain⟨x6_2,x10_2,rfl,HA,HK2,HO_6,HB⟩:=hrel;have hl6_2:=(Kd.N_reads' HO_6.out).1;rw[hl6_2] at HO_6
        (try simp only[hl6_2])
        cases gk with
        |zero=>exact absurd HA.out (by simp[r30_Group.l2])
        | succ k2=>
         have H:=HA.out;clear HA;simp only[r30_Group.l2] at H
         by_cases c48:x10_2<(x6_2.length:Int)
         ·rw [if_pos c48] at H;have c48b0:=dT c48;clear c48;have H':=aM H;clear H;go_wp2
          go_loopg [11] k2 (fun kq v11 w'=>∃(x6_3:List (List Int)) (x11_3:Int),v11= .int .i64 x11_3∧Aside0 (r30_Group.l3 kq x6_3 x10_2 x11_3=some r)∧Aside0 (kq≤k2)∧Aside0 (Kd.N (Kd.slice 3 (Kd.int .i64)) 22 w' w.heap.size (fun k_=>(w.heap.size≤k_)) (.slice Ao47 x6_2.length co47) x6_3)∧Aside0 (Below w.heap.size w w'))
          case atStart=>exact⟨(x6_2),(x10_2),zz154,H',⟨Nat.le_refl _⟩,⟨(by(try simp only[hl5_1]);(try simp only[hl6_2]);(with_reducible repeat(first|apply Kd.N_alloc|apply Kd.N_drewN|apply Kd.N_drew));exact HO_6.out)⟩,⟨zz128⟩⟩
          case round =>
           clear H';(try clear c1);(try clear c2);(try clear p2);(try clear q2);(try clear c3);(try clear c3b0);(try clear c3b1);(try clear p3);(try clear q3);(try clear hx3);(try clear hf3);(try clear c4);(try clear c5);(try clear c5b0);(try clear c5b1);(try clear p5);(try clear q5);(try clear hx5);(try clear qi5);(try clear c6);(try clear p6);(try clear c7);(try clear c7b0);(try clear c8);(try clear c8b0);(try clear p9);(try clear q9);(try clear hx9);(try clear hf9);(try clear c19);(try clear c19b0);(try clear c21);(try clear c21b0);(try clear c22);(try clear c22b0);(try clear c23);(try clear c23b0);(try clear c24);(try clear c24b0);(try clear c26);(try clear c27);(try clear c27b0);(try clear c28);(try clear c28b0);(try clear q29);(try clear c30);(try clear c36);(try clear c36b0);(try clear c37);(try clear c37b0);(try clear p38);(try clear q38);(try clear hx38);(try clear hf38);(try clear c39);(try clear c43);(try clear c48);(try clear c48b0);(try clear hx38_0);(try clear hx547_0);(try clear hx550_0);(try clear hx551_0);(try clear hx556_0);(try clear hx9_0);(try clear p2);(try clear p3);(try clear p38);(try clear p5);(try clear p547);(try clear p550);(try clear p551);(try clear p556);(try clear p6);(try clear p9);(try clear q2);(try clear q29);(try clear q3);(try clear q38);(try clear q5);(try clear q547);(try clear q550);(try clear q551);(try clear q556);(try clear q9);obtain⟨x6_3,x11_3,rfl,HA,HK3,HO_6,HB⟩:=hrel;have hl6_3:=(Kd.N_reads' HO_6.out).1;rw[hl6_3] at HO_6
           (try simp only[hl6_3])
           cases gk with
           |zero=>exact absurd HA.out (by simp[r30_Group.l3])
           | succ k3=>
            have H:=HA.out;clear HA;simp only[r30_Group.l3] at H
            by_cases c49:x11_3>0
            ·rw [if_pos c49] at H;have c49b0:=dT c49;clear c49
             by_cases c50:0≤x11_3
             ·rw [if_pos c50] at H;have c50b0:=dT c50;clear c50
              by_cases c51:x11_3<(x6_3.length:Int)
              ·rw [if_pos c51] at H;have c51b0:=dT c51;clear c51;obtain⟨ji52,hji52⟩:∃j_:Int,(wrap64 (x11_3-1))=j_:=⟨_,rfl⟩;replace H:(if 0≤(ji52) then(if(ji52)<(x6_3.length:Int) then((r30_Less.f k3 (Zp x6_3 x11_3) (Zp x6_3 (ji52))).bind fun t564=>(if t564=true then(r30_Group.l3 k3 ((x6_3.set (x11_3:Int).toNat (Zp x6_3 (ji52))).set ((ji52):Int).toNat (Zp x6_3 x11_3)) x10_2 ji52) else(r30_Group.l2 k3 x6_3 (wrap64 (x10_2+1))))) else(none)) else(none))=some r:=by first|(rw[hji52] at H;exact H)|(simp only[hji52] at H⊢;exact H)
               have hji52w:(IntKind.i64.wrap (x11_3-1))=ji52:=(Zt _).trans hji52
               by_cases c53:0≤(ji52)
               ·rw [if_pos c53] at H;have c53b0:=dT c53;clear c53
                by_cases c54:(ji52)<(x6_3.length:Int)
                ·rw [if_pos c54] at H;have c54b0:=dT c54;clear c54;replace H:=oB H;obtain⟨t564,A550,H⟩:=H;replace H:(if t564=true then(r30_Group.l3 k3 ((x6_3.set (x11_3:Int).toNat (Zp x6_3 (ji52))).set ((ji52):Int).toNat (Zp x6_3 x11_3)) x10_2 ji52) else(r30_Group.l2 k3 x6_3 (wrap64 (x10_2+1))))=some r:=H;have A55:=aM A550;clear A550
                 by_cases c56:t564=true
                 ·subst c56;have H1:(r30_Group.l3 k3 ((x6_3.set (x11_3:Int).toNat (Zp x6_3 (ji52))).set ((ji52):Int).toNat (Zp x6_3 x11_3)) x10_2 ji52)=some r:=by rw[if_pos rfl] at H;exact H
                  clear H;have H:=H1;clear H1;obtain⟨y567,hy567⟩:∃y_:List (List Int),y_=(x6_3.set (x11_3:Int).toNat (Zp x6_3 (ji52))):=⟨_,rfl⟩;replace H:(r30_Group.l3 k3 (y567.set ((ji52):Int).toNat (Zp x6_3 x11_3)) x10_2 ji52)=some r:=by first|(rw[hy567];with_reducible exact H)|(have H2_:=(Option.bind_some _ _).symm.trans H;rw[hy567];with_reducible exact H2_)|(have H2_:=(Option.bind_some _ _).symm.trans H;with_reducible exact H2_)|with_reducible exact H|(rw[hy567];exact H)|exact H
                  have Ny567:=aM hy567;clear hy567;obtain⟨y568,hy568⟩:∃y_:List (List Int),y_=(y567.set ((ji52):Int).toNat (Zp x6_3 x11_3)):=⟨_,rfl⟩;replace H:(r30_Group.l3 k3 y568 x10_2 ji52)=some r:=by first|(rw[hy568];with_reducible exact H)|(have H2_:=(Option.bind_some _ _).symm.trans H;rw[hy568];with_reducible exact H2_)|(have H2_:=(Option.bind_some _ _).symm.trans H;with_reducible exact H2_)|with_reducible exact H|(rw[hy568];exact H)|exact H
                  have Ny568:=aM hy568;clear hy568;have H':=aM H;clear H
                  try go_wp2
                  have n0_:=aM (Kd.N_drew HO_6.out);have n1_:=aM (Zh HB.out);clear HO_6;clear HB;have HO_6:=n0_;have HB:=n1_;clear n0_ n1_;have p562:0≤(x11_3:Int):=oD zz153;have q562:x11_3<(x6_3.length:Int):=oD zz153;obtain⟨ad562,A562_0,c562_0,e562,hx562_0,hl562_0,hi562_0⟩:=ZY (Kd.N_reads' HO_6.out).2.2 x11_3 p562 q562
                  cases e562;obtain⟨ce562,hce562,hMe562,hcc562⟩:=Kd.N_get HO_6.out [] x11_3 p562 zz123;obtain⟨ua562_0,uc562_0,rfl,ul562_0,ge562_0⟩:=Kd.FK_slice_open hMe562;have hv562_0:=hcc562 0 _ rfl;rw[Nat.add_zero,show((Kd.slice 3 (Kd.int .i64))).sz=1 from rfl,Nat.mul_one] at hv562_0;replace hv562_0:=oI (hv562_0.symm.trans hx562_0);injection hv562_0 with hva_ hvn_ hvc_
                  rw[hva_] at ge562_0;rw[hvc_] at ul562_0;have HL562_0:=aM (show Kd.V (Kd.int .i64) 3 _ w.heap.size _ _ (Zp x6_3 x11_3) from Kd.V_mk ul562_0 ge562_0);clear hva_ hvn_ hvc_ ge562_0 ul562_0;clear hcc562 hce562;have HR562_0:=aM hi562_0;have HC562_0:=aM hl562_0;clear hi562_0 hl562_0;replace p562:=eq_true p562;replace q562:=eq_true q562;have p563:0≤((ji52):Int):=oD zz153;have q563:(ji52)<(x6_3.length:Int):=oD zz153;obtain⟨ad563,A563_0,c563_0,e563,hx563_0,hl563_0,hi563_0⟩:=ZY (Kd.N_reads' HO_6.out).2.2 (ji52) p563 q563;obtain rfl:ad562=ad563:=(by injection e563);obtain⟨ce563,hce563,hMe563,hcc563⟩:=Kd.N_get HO_6.out [] (ji52) p563 zz124;obtain⟨ua563_0,uc563_0,rfl,ul563_0,ge563_0⟩:=Kd.FK_slice_open hMe563;have hv563_0:=hcc563 0 _ rfl;rw[Nat.add_zero,show((Kd.slice 3 (Kd.int .i64))).sz=1 from rfl,Nat.mul_one] at hv563_0;replace hv563_0:=oI (hv563_0.symm.trans hx563_0);injection hv563_0 with hva_ hvn_ hvc_
                  rw[hva_] at ge563_0;rw[hvc_] at ul563_0;have HL563_0:=aM (show Kd.V (Kd.int .i64) 3 _ w.heap.size _ _ (Zp x6_3 (ji52)) from Kd.V_mk ul563_0 ge563_0);clear hva_ hvn_ hvc_ ge563_0 ul563_0;clear hcc563 hce563;have HR563_0:=aM hi563_0;have HC563_0:=aM hl563_0;clear hi563_0 hl563_0;replace p563:=eq_true p563;replace q563:=eq_true q563
                  refine start_ (n:=14) (S:=fun w'=>w'.cell? (ad562.add (x11_3).toNat)=some (.slice A562_0 (Zp x6_3 x11_3).length c562_0)∧w'.cell? (ad562.add ((ji52)).toNat)=some (.slice A563_0 (Zp x6_3 (ji52)).length c563_0)) (ds:= []) #[false,false,false,false,false,false,false,false,false,false,false,false,false,false] (by kernel_rfl) rfl rfl ⟨hx562_0,hx563_0⟩ (fun hHeld=> ?_);refine Z6 r30_Group.tab18 r30_Group.bits18 (fun HT_ HW_=> ?_);generalize wr.drew=w59 at HO_6 HB HL562_0 HL563_0 HR562_0 HR563_0 hx562_0 hx563_0 hHeld⊢
                  refine ZC (i:=0) (N:=some 64) (v:= ?_) (a':= ?_) #[true,false,false,false,false,false,false,false,false,false,false,false,false,false] rfl rfl (Zy HT_.out (by kernel_rfl)) (fun _ _ _ h=>h) (Or.inl ⟨by rfl,?_⟩) ?_ ?_;rotate_left
                  ·intro w';go_simp;with_reducible rfl
                  rotate_left
                  ·simp only[Act.put,sA,sB,sC,Zt,Zu];rfl
                  refine ZC (i:=1) (N:=some 65) (v:= ?_) (a':= ?_) #[true,true,false,false,false,false,false,false,false,false,false,false,false,false] rfl rfl (Zy HT_.out (by kernel_rfl)) (fun _ _ _ h=>h) (Or.inl ⟨by rfl,?_⟩) ?_ ?_;rotate_left
                  ·intro w';go_simp;with_reducible rfl
                  rotate_left
                  ·simp only[Act.put,sA,sB,sC,Zt,Zu];rfl
                  refine ZC (i:=2) (N:=some 66) (v:= ?_) (a':= ?_) #[true,true,true,false,false,false,false,false,false,false,false,false,false,false] rfl rfl (Zy HT_.out (by kernel_rfl)) (fun _ _ _ h=>h) (Or.inl ⟨by rfl,?_⟩) ?_ ?_;rotate_left
                  ·intro w';go_simp;with_reducible rfl
                  rotate_left
                  ·simp only[Act.put,sA,sB,sC,Zt,Zu];rfl
                  refine ZC (i:=3) (N:=some 67) (v:= ?_) (a':= ?_) #[true,true,true,true,false,false,false,false,false,false,false,false,false,false] rfl rfl (Zy HT_.out (by kernel_rfl)) (fun _ _ _ h=>h) (Or.inl ⟨by rfl,?_⟩) ?_ ?_;rotate_left
                  ·intro w';go_simp;with_reducible rfl
                  rotate_left
                  ·simp only[Act.put,sA,sB,sC,Zt,Zu];rfl
                  refine ZC (i:=4) (N:=some 68) (v:= ?_) (a':= ?_) #[true,true,true,true,true,false,false,false,false,false,false,false,false,false] rfl rfl (Zy HT_.out (by kernel_rfl)) (fun _ _ _ h=>h) (Or.inl ⟨by rfl,?_⟩) ?_ ?_;rotate_left
                  ·intro w';go_simp;with_reducible rfl
                  rotate_left
                  ·simp only[Act.put,sA,sB,sC,Zt,Zu];rfl
                  refine ZC (i:=5) (N:=some 69) (v:= ?_) (a':= ?_) #[true,true,true,true,true,true,false,false,false,false,false,false,false,false] rfl rfl (Zy HT_.out (by kernel_rfl)) (fun _ _ _ h=>h) (Or.inl ⟨by rfl,?_⟩) ?_ ?_;rotate_left
                  ·intro w';go_simp;with_reducible rfl
                  rotate_left
                  ·simp only[Act.put,sA,sB,sC,Zt,Zu];rfl
                  refine ZC (i:=7) (N:=some 71) (v:= ?_) (a':= ?_) #[true,true,true,true,true,true,false,true,false,false,false,false,false,false] rfl rfl (Zy HT_.out (by kernel_rfl)) (fun _ _ _ h=>h) (Or.inl ⟨by rfl,?_⟩) ?_ ?_;rotate_left
                  ·intro w';go_simp;with_reducible rfl
                  rotate_left
                  ·simp only[Act.put,sA,sB,sC,Zt,Zu];rfl
                  refine ZC (i:=8) (N:=some 72) (v:= ?_) (a':= ?_) #[true,true,true,true,true,true,false,true,true,false,false,false,false,false] rfl rfl (Zy HT_.out (by kernel_rfl)) (fun _ _ _ h=>h) (Or.inl ⟨by rfl,?_⟩) ?_ ?_;rotate_left
                  ·intro w';go_simp;with_reducible rfl
                  rotate_left
                  ·simp only[Act.put,sA,sB,sC,Zt,Zu];rfl
                  refine ZC (i:=9) (N:=some 73) (v:= ?_) (a':= ?_) #[true,true,true,true,true,true,false,true,true,true,false,false,false,false] rfl rfl (Zy HT_.out (by kernel_rfl)) (fun _ _ _ h=>h) (Or.inl ⟨by rfl,?_⟩) ?_ ?_;rotate_left
                  ·intro w';go_simp;with_reducible rfl
                  rotate_left
                  ·simp only[Act.put,sA,sB,sC,Zt,Zu];rfl
                  refine ZC (i:=10) (N:=some 74) (v:= ?_) (a':= ?_) #[true,true,true,true,true,true,false,true,true,true,true,false,false,false] rfl rfl (Zy HT_.out (by kernel_rfl)) (fun _ _ _ h=>h) (Or.inl ⟨by rfl,?_⟩) ?_ ?_;rotate_left
                  ·intro w';go_simp;with_reducible rfl
                  rotate_left
                  ·simp only[Act.put,sA,sB,sC,Zt,Zu];rfl
                  refine Yc (i:=6) (N:=some 70) (v:= ?_) (a':= ?_) #[true,true,true,true,true,true,true,true,true,true,true,false,false,false] rfl rfl (ZW HT_.out HW_.out (by kernel_rfl)) (fun _ _ _ h=>h) (Or.inl ⟨by rfl,?_⟩) hHeld ?_ ?_;rotate_left
                  ·rintro w' ⟨s0,s1⟩;go_simp;with_reducible rfl
                  rotate_left
                  ·simp only[Act.put,sA,sB,sC,Zt,Zu];rfl
                  refine Yc (i:=11) (N:=some 75) (v:= ?_) (a':= ?_) #[true,true,true,true,true,true,true,true,true,true,true,true,false,false] rfl rfl (ZW HT_.out HW_.out (by kernel_rfl)) (fun _ _ _ h=>h) (Or.inl ⟨by rfl,?_⟩) hHeld ?_ ?_;rotate_left
                  ·rintro w' ⟨s0,s1⟩;go_simp;with_reducible rfl
                  rotate_left
                  ·simp only[Act.put,sA,sB,sC,Zt,Zu];rfl
                  refine one_ (i:=12) (N:=some 76) #[true,true,true,true,true,true,true,true,true,true,true,true,true,false] rfl rfl (ZZ HT_.out (by kernel_rfl)) (by decide) (fun K hK=> ?_)
                  refine Yh Try.func89 (by kernel_rfl) rfl #[.slice A562_0 (Zp x6_3 x11_3).length c562_0,.slice A563_0 (Zp x6_3 (ji52)).length c563_0] (by rfl) rfl rfl zz93 ?_;with_reducible refine(r30_Less.calls k3 _ _ (Zp x6_3 x11_3) _ _ (Zp x6_3 (ji52)) true _ ?side1 ?side2 ?side3 ?side4 A55.out).mono ?_
                  (case side1=>repeat(first|exact zz87|(with_reducible refine Kd.C_alloc ?_ _)|(with_reducible refine Kd.C_drewN ?_ _)|(with_reducible refine Kd.C_drew ?_)))
                  (case side2=>exact HC562_0.out)
                  (case side3=>repeat(first|exact zz88|(with_reducible refine Kd.C_alloc ?_ _)|(with_reducible refine Kd.C_drewN ?_ _)|(with_reducible refine Kd.C_drew ?_)))
                  (case side4=>exact HC563_0.out)
                  rintro e w' ⟨rfl,⟨nd,rfl⟩⟩
                  refine⟨_,rfl,?_⟩
                  refine hK.out _ _ ⟨hHeld.1,hHeld.2⟩ (fun hHeld=> ?_);clear hK K
                  refine ZS (a':= ?_) ?_ ?_;rotate_left
                  ·show Act.put _ (some 76) _=_
                   simp only[Act.put,sA,sB,sC,Zt,Zu];rfl
                  refine ZC (i:=13) (N:=some 77) (v:= ?_) (a':= ?_) #[true,true,true,true,true,true,true,true,true,true,true,true,true,true] rfl rfl (Zy HT_.out (by kernel_rfl)) (fun _ _ _ h=>h) (Or.inl ⟨by rfl,?_⟩) ?_ ?_;rotate_left
                  ·intro w';go_simp;with_reducible rfl
                  rotate_left
                  ·simp only[Act.put,sA,sB,sC,Zt,Zu];rfl
                  refine done_ (done_of HT_.out (by kernel_rfl)) ?_;have p1_:0≤(x11_3:Int):=oD zz153;have q1_:x11_3<(x6_3.length:Int):=oD zz153;have p2_:0≤(ji52:Int):=oD zz153;have q2_:ji52<(x6_3.length:Int):=oD zz153;have hne_:x11_3≠ji52:=by intro e_;have:=hji52;unfold wrap64 at this;omega
                  try go_wp2
                  have HOx:=aM (Kd.N_drew (Kd.N_drewN HO_6.out nd));have HBx:=aM (Zh (Zf HB.out nd));clear HO_6 HB HL562_0 HL563_0 HR562_0 HR563_0 hHeld HT_ HW_;obtain⟨go57,co57,eo57,gb57,gl57,cl57,HG57⟩:=Kd.N_form HOx.out (by omega)
                  (first|cases eo57|(injection eo57 with ea_ en_ ec_;(first|subst ea_|(injection ea_ with ea_;subst ea_));subst ec_;clear en_))
                  have GB57:=aM gb57;clear gb57 gl57 HG57;obtain⟨A1_,c1_,A2_,c2_,e1_,e2_,f1_,e2b_,f2_,HN_⟩:=N_swap1 HOx.out x11_3 ji52 p1_ q1_ p2_ q2_ hne_;have HQ:Aside0 (Kd.N (Kd.slice 3 (Kd.int .i64)) 22 ((((w59.drewN nd).drew).setCell ⟨go57,x11_3.toNat,none⟩ (.slice A2_ (Zp x6_3 ji52).length c2_)).setCell ⟨go57,ji52.toNat,none⟩ (.slice A1_ (Zp x6_3 x11_3).length c1_)) w.heap.size (fun k_=>(w.heap.size≤k_)) (.slice (some ⟨go57,0,none⟩) x6_3.length co47) y568):=⟨(by rw[Ny568.out,Ny567.out];exact HN_)⟩;clear HN_ HOx;replace p1_:=eq_true p1_;replace q1_:=eq_true q1_;replace p2_:=eq_true p2_;replace q2_:=eq_true q2_
                  refine start_ (n:=18) (S:=fun w'=>w'.cell? ⟨go57,(ji52).toNat,none⟩=some (.slice A2_ (Zp x6_3 ji52).length c2_)∧w'.cell? ⟨go57,(x11_3).toNat,none⟩=some (.slice A1_ (Zp x6_3 x11_3).length c1_)) (ds:= [15,17]) #[false,false,false,false,false,false,false,false,false,false,false,false,false,false,false,false,false,false] (by kernel_rfl) rfl rfl ⟨e2_,e1_⟩ (fun hHeld=> ?_);refine Z6 r30_Group.tab20 r30_Group.bits20 (fun HT_ HW_=> ?_);generalize (w59.drewN nd).drew=w17 at HBx HQ e1_ e2_ f1_ e2b_ f2_ hHeld⊢
                  refine ZC (i:=0) (N:=some 80) (v:= ?_) (a':= ?_) #[true,false,false,false,false,false,false,false,false,false,false,false,false,false,false,false,false,false] rfl rfl (Zy HT_.out (by kernel_rfl)) (fun _ _ _ h=>h) (Or.inl ⟨by rfl,?_⟩) ?_ ?_;rotate_left
                  ·intro w';go_simp;with_reducible rfl
                  rotate_left
                  ·simp only[Act.put,sA,sB,sC,Zt,Zu];rfl
                  refine ZC (i:=1) (N:=some 81) (v:= ?_) (a':= ?_) #[true,true,false,false,false,false,false,false,false,false,false,false,false,false,false,false,false,false] rfl rfl (Zy HT_.out (by kernel_rfl)) (fun _ _ _ h=>h) (Or.inl ⟨by rfl,?_⟩) ?_ ?_;rotate_left
                  ·intro w';go_simp;with_reducible rfl
                  rotate_left
                  ·simp only[Act.put,sA,sB,sC,Zt,Zu];rfl
                  refine ZC (i:=2) (N:=some 82) (v:= ?_) (a':= ?_) #[true,true,true,false,false,false,false,false,false,false,false,false,false,false,false,false,false,false] rfl rfl (Zy HT_.out (by kernel_rfl)) (fun _ _ _ h=>h) (Or.inl ⟨by rfl,?_⟩) ?_ ?_;rotate_left
                  ·intro w';go_simp;with_reducible rfl
                  rotate_left
                  ·simp only[Act.put,sA,sB,sC,Zt,Zu];rfl
                  refine ZC (i:=3) (N:=some 83) (v:= ?_) (a':= ?_) #[true,true,true,true,false,false,false,false,false,false,false,false,false,false,false,false,false,false] rfl rfl (Zy HT_.out (by kernel_rfl)) (fun _ _ _ h=>h) (Or.inl ⟨by rfl,?_⟩) ?_ ?_;rotate_left
                  ·intro w';go_simp;with_reducible rfl
                  rotate_left
                  ·simp only[Act.put,sA,sB,sC,Zt,Zu];rfl
                  refine ZC (i:=4) (N:=some 84) (v:= ?_) (a':= ?_) #[true,true,true,true,true,false,false,false,false,false,false,false,false,false,false,false,false,false] rfl rfl (Zy HT_.out (by kernel_rfl)) (fun _ _ _ h=>h) (Or.inl ⟨by rfl,?_⟩) ?_ ?_;rotate_left
                  ·intro w';go_simp;with_reducible rfl
                  rotate_left
                  ·simp only[Act.put,sA,sB,sC,Zt,Zu];rfl
                  refine ZC (i:=5) (N:=some 85) (v:= ?_) (a':= ?_) #[true,true,true,true,true,true,false,false,false,false,false,false,false,false,false,false,false,false] rfl rfl (Zy HT_.out (by kernel_rfl)) (fun _ _ _ h=>h) (Or.inl ⟨by rfl,?_⟩) ?_ ?_;rotate_left
                  ·intro w';go_simp;with_reducible rfl
                  rotate_left
                  ·simp only[Act.put,sA,sB,sC,Zt,Zu];rfl
                  refine ZC (i:=6) (N:=some 86) (v:= ?_) (a':= ?_) #[true,true,true,true,true,true,true,false,false,false,false,false,false,false,false,false,false,false] rfl rfl (Zy HT_.out (by kernel_rfl)) (fun _ _ _ h=>h) (Or.inl ⟨by rfl,?_⟩) ?_ ?_;rotate_left
                  ·intro w';go_simp;with_reducible rfl
                  rotate_left
                  ·simp only[Act.put,sA,sB,sC,Zt,Zu];rfl
                  refine ZC (i:=7) (N:=some 87) (v:= ?_) (a':= ?_) #[true,true,true,true,true,true,true,true,false,false,false,false,false,false,false,false,false,false] rfl rfl (Zy HT_.out (by kernel_rfl)) (fun _ _ _ h=>h) (Or.inl ⟨by rfl,?_⟩) ?_ ?_;rotate_left
                  ·intro w';go_simp;with_reducible rfl
                  rotate_left
                  ·simp only[Act.put,sA,sB,sC,Zt,Zu];rfl
                  refine ZC (i:=8) (N:=some 88) (v:= ?_) (a':= ?_) #[true,true,true,true,true,true,true,true,true,false,false,false,false,false,false,false,false,false] rfl rfl (Zy HT_.out (by kernel_rfl)) (fun _ _ _ h=>h) (Or.inl ⟨by rfl,?_⟩) ?_ ?_;rotate_left
                  ·intro w';go_simp;with_reducible rfl
                  rotate_left
                  ·simp only[Act.put,sA,sB,sC,Zt,Zu];rfl
                  refine ZC (i:=10) (N:=some 90) (v:= ?_) (a':= ?_) #[true,true,true,true,true,true,true,true,true,false,true,false,false,false,false,false,false,false] rfl rfl (Zy HT_.out (by kernel_rfl)) (fun _ _ _ h=>h) (Or.inl ⟨by rfl,?_⟩) ?_ ?_;rotate_left
                  ·intro w';go_simp;with_reducible rfl
                  rotate_left
                  ·simp only[Act.put,sA,sB,sC,Zt,Zu];rfl
                  refine ZC (i:=11) (N:=some 91) (v:= ?_) (a':= ?_) #[true,true,true,true,true,true,true,true,true,false,true,true,false,false,false,false,false,false] rfl rfl (Zy HT_.out (by kernel_rfl)) (fun _ _ _ h=>h) (Or.inl ⟨by rfl,?_⟩) ?_ ?_;rotate_left
                  ·intro w';go_simp;with_reducible rfl
                  rotate_left
                  ·simp only[Act.put,sA,sB,sC,Zt,Zu];rfl
                  refine ZC (i:=12) (N:=some 92) (v:= ?_) (a':= ?_) #[true,true,true,true,true,true,true,true,true,false,true,true,true,false,false,false,false,false] rfl rfl (Zy HT_.out (by kernel_rfl)) (fun _ _ _ h=>h) (Or.inl ⟨by rfl,?_⟩) ?_ ?_;rotate_left
                  ·intro w';go_simp;with_reducible rfl
                  rotate_left
                  ·simp only[Act.put,sA,sB,sC,Zt,Zu];rfl
                  refine Yc (i:=9) (N:=some 89) (v:= ?_) (a':= ?_) #[true,true,true,true,true,true,true,true,true,true,true,true,true,false,false,false,false,false] rfl rfl (ZW HT_.out HW_.out (by kernel_rfl)) (fun _ _ _ h=>h) (Or.inl ⟨by rfl,?_⟩) hHeld ?_ ?_;rotate_left
                  ·rintro w' ⟨s0,s1⟩;go_simp;with_reducible rfl
                  rotate_left
                  ·simp only[Act.put,sA,sB,sC,Zt,Zu];rfl
                  refine Yc (i:=13) (N:=some 93) (v:= ?_) (a':= ?_) #[true,true,true,true,true,true,true,true,true,true,true,true,true,true,false,false,false,false] rfl rfl (ZW HT_.out HW_.out (by kernel_rfl)) (fun _ _ _ h=>h) (Or.inl ⟨by rfl,?_⟩) hHeld ?_ ?_;rotate_left
                  ·rintro w' ⟨s0,s1⟩;go_simp;with_reducible rfl
                  rotate_left
                  ·simp only[Act.put,sA,sB,sC,Zt,Zu];rfl
                  refine ZC (i:=14) (N:=some 94) (v:= ?_) (a':= ?_) #[true,true,true,true,true,true,true,true,true,true,true,true,true,true,true,false,false,false] rfl rfl (Zy HT_.out (by kernel_rfl)) (fun _ _ _ h=>h) (Or.inl ⟨by rfl,?_⟩) ?_ ?_;rotate_left
                  ·intro w';go_simp;with_reducible rfl
                  rotate_left
                  ·simp only[Act.put,sA,sB,sC,Zt,Zu];rfl
                  refine last_ (i:=15) (N:=none) #[true,true,true,true,true,true,true,true,true,true,true,true,true,true,true,true,false,false] rfl rfl (ZZ HT_.out (by kernel_rfl)) (by decide) (fun K hK=> ?_)
                  refine skip_ (w1:= ?_) (by rfl) rfl ?_ ?_;rotate_left
                  ·go_simp;rfl
                  refine hK.out _ _ ?_;clear hK K
                  refine ZC (i:=16) (N:=some 95) (v:= ?_) (a':= ?_) #[true,true,true,true,true,true,true,true,true,true,true,true,true,true,true,true,true,false] rfl rfl (Zy HT_.out (by kernel_rfl)) (fun _ _ _ h=>h) (Or.inl ⟨by rfl,?_⟩) ?_ ?_;rotate_left
                  ·intro w';go_simp;with_reducible rfl
                  rotate_left
                  ·simp only[Act.put,sA,sB,sC,Zt,Zu];rfl
                  refine last_ (i:=17) (N:=none) #[true,true,true,true,true,true,true,true,true,true,true,true,true,true,true,true,true,true] rfl rfl (ZZ HT_.out (by kernel_rfl)) (by decide) (fun K hK=> ?_)
                  refine skip_ (w1:= ?_) (by rfl) rfl ?_ ?_;rotate_left
                  ·go_simp;rfl
                  refine hK.out _ _ ?_;clear hK K
                  refine done_ (done_of HT_.out (by kernel_rfl)) ?_
                  try go_wp2
                  (try simp only[←hl6_3])
                  go_roundg k3
                  case measure=>have:=HK1.out;have:=HK2.out;have:=HK3.out;omega
                  case rel=>exact⟨(y568),(ji52),(by first|rfl|(simp;done)|(simp only[←hji52]<;>(first|rfl|simp))|(simp[*];done)),H',⟨zz152⟩,⟨(by(try simp only[hl5_1]);(try simp only[hl6_2]);(try simp only[hl6_3]);exact HQ.out)⟩,⟨Zk (Zk HBx.out GB57.out) GB57.out⟩⟩
                 replace c56:=Bool.eq_false_iff.mpr c56;subst c56;have H1:(r30_Group.l2 k3 x6_3 (wrap64 (x10_2+1)))=some r:=by rw[if_neg (show¬(false=true) by decide)] at H;exact H
                 clear H;have H:=H1;clear H1;have H':=aM H;clear H
                 try go_wp2
                 have n0_:=aM (Kd.N_drew HO_6.out);have n1_:=aM (Zh HB.out);clear HO_6;clear HB;have HO_6:=n0_;have HB:=n1_;clear n0_ n1_;have p562:0≤(x11_3:Int):=oD zz153;have q562:x11_3<(x6_3.length:Int):=oD zz153;obtain⟨ad562,A562_0,c562_0,e562,hx562_0,hl562_0,hi562_0⟩:=ZY (Kd.N_reads' HO_6.out).2.2 x11_3 p562 q562
                 cases e562;obtain⟨ce562,hce562,hMe562,hcc562⟩:=Kd.N_get HO_6.out [] x11_3 p562 zz123;obtain⟨ua562_0,uc562_0,rfl,ul562_0,ge562_0⟩:=Kd.FK_slice_open hMe562;have hv562_0:=hcc562 0 _ rfl;rw[Nat.add_zero,show((Kd.slice 3 (Kd.int .i64))).sz=1 from rfl,Nat.mul_one] at hv562_0;replace hv562_0:=oI (hv562_0.symm.trans hx562_0);injection hv562_0 with hva_ hvn_ hvc_
                 rw[hva_] at ge562_0;rw[hvc_] at ul562_0;have HL562_0:=aM (show Kd.V (Kd.int .i64) 3 _ w.heap.size _ _ (Zp x6_3 x11_3) from Kd.V_mk ul562_0 ge562_0);clear hva_ hvn_ hvc_ ge562_0 ul562_0;clear hcc562 hce562;have HR562_0:=aM hi562_0;have HC562_0:=aM hl562_0;clear hi562_0 hl562_0;replace p562:=eq_true p562;replace q562:=eq_true q562;have p563:0≤((ji52):Int):=oD zz153;have q563:(ji52)<(x6_3.length:Int):=oD zz153;obtain⟨ad563,A563_0,c563_0,e563,hx563_0,hl563_0,hi563_0⟩:=ZY (Kd.N_reads' HO_6.out).2.2 (ji52) p563 q563;obtain rfl:ad562=ad563:=(by injection e563);obtain⟨ce563,hce563,hMe563,hcc563⟩:=Kd.N_get HO_6.out [] (ji52) p563 zz124;obtain⟨ua563_0,uc563_0,rfl,ul563_0,ge563_0⟩:=Kd.FK_slice_open hMe563;have hv563_0:=hcc563 0 _ rfl;rw[Nat.add_zero,show((Kd.slice 3 (Kd.int .i64))).sz=1 from rfl,Nat.mul_one] at hv563_0;replace hv563_0:=oI (hv563_0.symm.trans hx563_0);injection hv563_0 with hva_ hvn_ hvc_
                 rw[hva_] at ge563_0;rw[hvc_] at ul563_0;have HL563_0:=aM (show Kd.V (Kd.int .i64) 3 _ w.heap.size _ _ (Zp x6_3 (ji52)) from Kd.V_mk ul563_0 ge563_0);clear hva_ hvn_ hvc_ ge563_0 ul563_0;clear hcc563 hce563;have HR563_0:=aM hi563_0;have HC563_0:=aM hl563_0;clear hi563_0 hl563_0;replace p563:=eq_true p563;replace q563:=eq_true q563
                 refine start_ (n:=14) (S:=fun w'=>w'.cell? (ad562.add (x11_3).toNat)=some (.slice A562_0 (Zp x6_3 x11_3).length c562_0)∧w'.cell? (ad562.add ((ji52)).toNat)=some (.slice A563_0 (Zp x6_3 (ji52)).length c563_0)) (ds:= []) #[false,false,false,false,false,false,false,false,false,false,false,false,false,false] (by kernel_rfl) rfl rfl ⟨hx562_0,hx563_0⟩ (fun hHeld=> ?_);refine Z6 r30_Group.tab18 r30_Group.bits18 (fun HT_ HW_=> ?_);generalize wr.drew=w64 at HO_6 HB HL562_0 HL563_0 HR562_0 HR563_0 hx562_0 hx563_0 hHeld⊢
                 refine ZC (i:=0) (N:=some 64) (v:= ?_) (a':= ?_) #[true,false,false,false,false,false,false,false,false,false,false,false,false,false] rfl rfl (Zy HT_.out (by kernel_rfl)) (fun _ _ _ h=>h) (Or.inl ⟨by rfl,?_⟩) ?_ ?_;rotate_left
                 ·intro w';go_simp;with_reducible rfl
                 rotate_left
                 ·simp only[Act.put,sA,sB,sC,Zt,Zu];rfl
                 refine ZC (i:=1) (N:=some 65) (v:= ?_) (a':= ?_) #[true,true,false,false,false,false,false,false,false,false,false,false,false,false] rfl rfl (Zy HT_.out (by kernel_rfl)) (fun _ _ _ h=>h) (Or.inl ⟨by rfl,?_⟩) ?_ ?_;rotate_left
                 ·intro w';go_simp;with_reducible rfl
                 rotate_left
                 ·simp only[Act.put,sA,sB,sC,Zt,Zu];rfl
                 refine ZC (i:=2) (N:=some 66) (v:= ?_) (a':= ?_) #[true,true,true,false,false,false,false,false,false,false,false,false,false,false] rfl rfl (Zy HT_.out (by kernel_rfl)) (fun _ _ _ h=>h) (Or.inl ⟨by rfl,?_⟩) ?_ ?_;rotate_left
                 ·intro w';go_simp;with_reducible rfl
                 rotate_left
                 ·simp only[Act.put,sA,sB,sC,Zt,Zu];rfl
                 refine ZC (i:=3) (N:=some 67) (v:= ?_) (a':= ?_) #[true,true,true,true,false,false,false,false,false,false,false,false,false,false] rfl rfl (Zy HT_.out (by kernel_rfl)) (fun _ _ _ h=>h) (Or.inl ⟨by rfl,?_⟩) ?_ ?_;rotate_left
                 ·intro w';go_simp;with_reducible rfl
                 rotate_left
                 ·simp only[Act.put,sA,sB,sC,Zt,Zu];rfl
                 refine ZC (i:=4) (N:=some 68) (v:= ?_) (a':= ?_) #[true,true,true,true,true,false,false,false,false,false,false,false,false,false] rfl rfl (Zy HT_.out (by kernel_rfl)) (fun _ _ _ h=>h) (Or.inl ⟨by rfl,?_⟩) ?_ ?_;rotate_left
                 ·intro w';go_simp;with_reducible rfl
                 rotate_left
                 ·simp only[Act.put,sA,sB,sC,Zt,Zu];rfl
                 refine ZC (i:=5) (N:=some 69) (v:= ?_) (a':= ?_) #[true,true,true,true,true,true,false,false,false,false,false,false,false,false] rfl rfl (Zy HT_.out (by kernel_rfl)) (fun _ _ _ h=>h) (Or.inl ⟨by rfl,?_⟩) ?_ ?_;rotate_left
                 ·intro w';go_simp;with_reducible rfl
                 rotate_left
                 ·simp only[Act.put,sA,sB,sC,Zt,Zu];rfl
                 refine ZC (i:=7) (N:=some 71) (v:= ?_) (a':= ?_) #[true,true,true,true,true,true,false,true,false,false,false,false,false,false] rfl rfl (Zy HT_.out (by kernel_rfl)) (fun _ _ _ h=>h) (Or.inl ⟨by rfl,?_⟩) ?_ ?_;rotate_left
                 ·intro w';go_simp;with_reducible rfl
                 rotate_left
                 ·simp only[Act.put,sA,sB,sC,Zt,Zu];rfl
                 refine ZC (i:=8) (N:=some 72) (v:= ?_) (a':= ?_) #[true,true,true,true,true,true,false,true,true,false,false,false,false,false] rfl rfl (Zy HT_.out (by kernel_rfl)) (fun _ _ _ h=>h) (Or.inl ⟨by rfl,?_⟩) ?_ ?_;rotate_left
                 ·intro w';go_simp;with_reducible rfl
                 rotate_left
                 ·simp only[Act.put,sA,sB,sC,Zt,Zu];rfl
                 refine ZC (i:=9) (N:=some 73) (v:= ?_) (a':= ?_) #[true,true,true,true,true,true,false,true,true,true,false,false,false,false] rfl rfl (Zy HT_.out (by kernel_rfl)) (fun _ _ _ h=>h) (Or.inl ⟨by rfl,?_⟩) ?_ ?_;rotate_left
                 ·intro w';go_simp;with_reducible rfl
                 rotate_left
                 ·simp only[Act.put,sA,sB,sC,Zt,Zu];rfl
                 refine ZC (i:=10) (N:=some 74) (v:= ?_) (a':= ?_) #[true,true,true,true,true,true,false,true,true,true,true,false,false,false] rfl rfl (Zy HT_.out (by kernel_rfl)) (fun _ _ _ h=>h) (Or.inl ⟨by rfl,?_⟩) ?_ ?_;rotate_left
                 ·intro w';go_simp;with_reducible rfl
                 rotate_left
                 ·simp only[Act.put,sA,sB,sC,Zt,Zu];rfl
                 refine Yc (i:=6) (N:=some 70) (v:= ?_) (a':= ?_) #[true,true,true,true,true,true,true,true,true,true,true,false,false,false] rfl rfl (ZW HT_.out HW_.out (by kernel_rfl)) (fun _ _ _ h=>h) (Or.inl ⟨by rfl,?_⟩) hHeld ?_ ?_;rotate_left
                 ·rintro w' ⟨s0,s1⟩;go_simp;with_reducible rfl
                 rotate_left
                 ·simp only[Act.put,sA,sB,sC,Zt,Zu];rfl
                 refine Yc (i:=11) (N:=some 75) (v:= ?_) (a':= ?_) #[true,true,true,true,true,true,true,true,true,true,true,true,false,false] rfl rfl (ZW HT_.out HW_.out (by kernel_rfl)) (fun _ _ _ h=>h) (Or.inl ⟨by rfl,?_⟩) hHeld ?_ ?_;rotate_left
                 ·rintro w' ⟨s0,s1⟩;go_simp;with_reducible rfl
                 rotate_left
                 ·simp only[Act.put,sA,sB,sC,Zt,Zu];rfl
                 refine one_ (i:=12) (N:=some 76) #[true,true,true,true,true,true,true,true,true,true,true,true,true,false] rfl rfl (ZZ HT_.out (by kernel_rfl)) (by decide) (fun K hK=> ?_)
                 refine Yh Try.func89 (by kernel_rfl) rfl #[.slice A562_0 (Zp x6_3 x11_3).length c562_0,.slice A563_0 (Zp x6_3 (ji52)).length c563_0] (by rfl) rfl rfl zz93 ?_;with_reducible refine(r30_Less.calls k3 _ _ (Zp x6_3 x11_3) _ _ (Zp x6_3 (ji52)) false _ ?side1 ?side2 ?side3 ?side4 A55.out).mono ?_
                 (case side1=>repeat(first|exact zz87|(with_reducible refine Kd.C_alloc ?_ _)|(with_reducible refine Kd.C_drewN ?_ _)|(with_reducible refine Kd.C_drew ?_)))
                 (case side2=>exact HC562_0.out)
                 (case side3=>repeat(first|exact zz88|(with_reducible refine Kd.C_alloc ?_ _)|(with_reducible refine Kd.C_drewN ?_ _)|(with_reducible refine Kd.C_drew ?_)))
                 (case side4=>exact HC563_0.out)
                 rintro e w' ⟨rfl,⟨nd,rfl⟩⟩
                 refine⟨_,rfl,?_⟩
                 refine hK.out _ _ ⟨hHeld.1,hHeld.2⟩ (fun hHeld=> ?_);clear hK K
                 refine ZS (a':= ?_) ?_ ?_;rotate_left
                 ·show Act.put _ (some 76) _=_
                  simp only[Act.put,sA,sB,sC,Zt,Zu];rfl
                 refine ZC (i:=13) (N:=some 77) (v:= ?_) (a':= ?_) #[true,true,true,true,true,true,true,true,true,true,true,true,true,true] rfl rfl (Zy HT_.out (by kernel_rfl)) (fun _ _ _ h=>h) (Or.inl ⟨by rfl,?_⟩) ?_ ?_;rotate_left
                 ·intro w';go_simp;with_reducible rfl
                 rotate_left
                 ·simp only[Act.put,sA,sB,sC,Zt,Zu];rfl
                 refine done_ (done_of HT_.out (by kernel_rfl)) ?_
                 try go_wp2
                 (try simp only[←hl6_2,←hl6_3])
                 go_roundg k3
                 case measure=>have:=HK1.out;have:=HK2.out;have:=HK3.out;omega
                 case rel=>exact⟨(x6_3),(wrap64 (x10_2+1)),zz154,H',⟨zz152⟩,⟨zz91⟩,⟨zz128⟩⟩
                rw[if_neg c54] at H
                exact absurd H (by simp)
               rw[if_neg c53] at H
               exact absurd H (by simp)
              rw[if_neg c51] at H
              exact absurd H (by simp)
             rw[if_neg c50] at H
             exact absurd H (by simp)
            rw[if_neg c49] at H;have c49b0:=dF c49;clear c49;have H':=aM H;clear H
            try go_wp2
            have n0_:=aM (Kd.N_drew HO_6.out);have n1_:=aM (Zh HB.out);clear HO_6;clear HB;have HO_6:=n0_;have HB:=n1_;clear n0_ n1_
            refine start_ (n:=14) (S:=fun w'=>True) (ds:= []) #[false,false,false,false,false,false,false,false,false,false,false,false,false,false] (by kernel_rfl) rfl rfl trivial (fun hHeld=> ?_);refine Z6 r30_Group.tab18 r30_Group.bits18 (fun HT_ HW_=> ?_);generalize wr.drew=w65 at HO_6 HB hHeld⊢
            refine ZC (i:=0) (N:=some 64) (v:= ?_) (a':= ?_) #[true,false,false,false,false,false,false,false,false,false,false,false,false,false] rfl rfl (Zy HT_.out (by kernel_rfl)) (fun _ _ _ h=>h) (Or.inl ⟨by rfl,?_⟩) ?_ ?_;rotate_left
            ·intro w';go_simp;with_reducible rfl
            rotate_left
            ·simp only[Act.put,sA,sB,sC,Zt,Zu];rfl
            refine ZC (i:=1) (N:=some 65) (v:= ?_) (a':= ?_) #[true,true,false,false,false,false,false,false,false,false,false,false,false,false] rfl rfl (Zy HT_.out (by kernel_rfl)) (fun _ _ _ h=>h) (Or.inl ⟨by rfl,?_⟩) ?_ ?_;rotate_left
            ·intro w';go_simp;with_reducible rfl
            rotate_left
            ·simp only[Act.put,sA,sB,sC,Zt,Zu];rfl
            refine ZC (i:=2) (N:=some 66) (v:= ?_) (a':= ?_) #[true,true,true,false,false,false,false,false,false,false,false,false,false,false] rfl rfl (Zy HT_.out (by kernel_rfl)) (fun _ _ _ h=>h) (Or.inl ⟨by rfl,?_⟩) ?_ ?_;rotate_left
            ·intro w';go_simp;with_reducible rfl
            rotate_left
            ·simp only[Act.put,sA,sB,sC,Zt,Zu];rfl
            refine ZC (i:=3) (N:=some 67) (v:=undef) (a':= ?_) #[true,true,true,true,false,false,false,false,false,false,false,false,false,false] rfl rfl (Zy HT_.out (by kernel_rfl)) (fun _ _ _ h=>h) (Or.inr ⟨by rfl,rfl⟩) ?_ ?_;rotate_left
            ·simp only[Act.put,sA,sB,sC,Zt,Zu];rfl
            refine ZC (i:=4) (N:=some 68) (v:=undef) (a':= ?_) #[true,true,true,true,true,false,false,false,false,false,false,false,false,false] rfl rfl (Zy HT_.out (by kernel_rfl)) (fun _ _ _ h=>h) (Or.inr ⟨by rfl,rfl⟩) ?_ ?_;rotate_left
            ·simp only[Act.put,sA,sB,sC,Zt,Zu];rfl
            refine ZC (i:=5) (N:=some 69) (v:=undef) (a':= ?_) #[true,true,true,true,true,true,false,false,false,false,false,false,false,false] rfl rfl (Zy HT_.out (by kernel_rfl)) (fun _ _ _ h=>h) (Or.inr ⟨by rfl,rfl⟩) ?_ ?_;rotate_left
            ·simp only[Act.put,sA,sB,sC,Zt,Zu];rfl
            refine ZC (i:=6) (N:=some 70) (v:=undef) (a':= ?_) #[true,true,true,true,true,true,true,false,false,false,false,false,false,false] rfl rfl (Zy HT_.out (by kernel_rfl)) (fun _ _ _ h=>h) (Or.inr ⟨by rfl,rfl⟩) ?_ ?_;rotate_left
            ·simp only[Act.put,sA,sB,sC,Zt,Zu];rfl
            refine ZC (i:=7) (N:=some 71) (v:=undef) (a':= ?_) #[true,true,true,true,true,true,true,true,false,false,false,false,false,false] rfl rfl (Zy HT_.out (by kernel_rfl)) (fun _ _ _ h=>h) (Or.inr ⟨by rfl,rfl⟩) ?_ ?_;rotate_left
            ·simp only[Act.put,sA,sB,sC,Zt,Zu];rfl
            refine ZC (i:=8) (N:=some 72) (v:=undef) (a':= ?_) #[true,true,true,true,true,true,true,true,true,false,false,false,false,false] rfl rfl (Zy HT_.out (by kernel_rfl)) (fun _ _ _ h=>h) (Or.inr ⟨by rfl,rfl⟩) ?_ ?_;rotate_left
            ·simp only[Act.put,sA,sB,sC,Zt,Zu];rfl
            refine ZC (i:=9) (N:=some 73) (v:=undef) (a':= ?_) #[true,true,true,true,true,true,true,true,true,true,false,false,false,false] rfl rfl (Zy HT_.out (by kernel_rfl)) (fun _ _ _ h=>h) (Or.inr ⟨by rfl,rfl⟩) ?_ ?_;rotate_left
            ·simp only[Act.put,sA,sB,sC,Zt,Zu];rfl
            refine ZC (i:=10) (N:=some 74) (v:=undef) (a':= ?_) #[true,true,true,true,true,true,true,true,true,true,true,false,false,false] rfl rfl (Zy HT_.out (by kernel_rfl)) (fun _ _ _ h=>h) (Or.inr ⟨by rfl,rfl⟩) ?_ ?_;rotate_left
            ·simp only[Act.put,sA,sB,sC,Zt,Zu];rfl
            refine ZC (i:=11) (N:=some 75) (v:=undef) (a':= ?_) #[true,true,true,true,true,true,true,true,true,true,true,true,false,false] rfl rfl (Zy HT_.out (by kernel_rfl)) (fun _ _ _ h=>h) (Or.inr ⟨by rfl,rfl⟩) ?_ ?_;rotate_left
            ·simp only[Act.put,sA,sB,sC,Zt,Zu];rfl
            refine ZC (i:=12) (N:=some 76) (v:=undef) (a':= ?_) #[true,true,true,true,true,true,true,true,true,true,true,true,true,false] rfl rfl (Zy HT_.out (by kernel_rfl)) (fun _ _ _ h=>h) (Or.inr ⟨by rfl,rfl⟩) ?_ ?_;rotate_left
            ·simp only[Act.put,sA,sB,sC,Zt,Zu];rfl
            refine ZC (i:=13) (N:=some 77) (v:= ?_) (a':= ?_) #[true,true,true,true,true,true,true,true,true,true,true,true,true,true] rfl rfl (Zy HT_.out (by kernel_rfl)) (fun _ _ _ h=>h) (Or.inl ⟨by rfl,?_⟩) ?_ ?_;rotate_left
            ·intro w';go_simp;with_reducible rfl
            rotate_left
            ·simp only[Act.put,sA,sB,sC,Zt,Zu];rfl
            refine done_ (done_of HT_.out (by kernel_rfl)) ?_
            try go_wp2
            (try simp only[←hl6_2,←hl6_3])
            go_roundg k3
            case measure=>have:=HK1.out;have:=HK2.out;have:=HK3.out;omega
            case rel=>exact⟨(x6_3),(wrap64 (x10_2+1)),zz154,H',⟨zz152⟩,⟨zz91⟩,⟨zz128⟩⟩
         rw[if_neg c48] at H;have c48b0:=dF c48;clear c48;obtain rfl:=oI H;go_wp2;go_ret
         exact⟨_,by first|rfl|(simp[Zj,Zi]<;>rfl)|(simp[*,Zj,Zi]<;>rfl),by(with_reducible repeat(first|apply Kd.N_alloc|apply Kd.N_drewN|apply Kd.N_drew));exact HO_6.out,by repeat(first|(with_reducible first|exact HB.out|apply Zn|apply Zf|apply Zh)|exact HB.out)⟩
    rw[if_neg c8] at H
    exact absurd H (by simp)
   rw[if_neg c7] at H
   exact absurd H (by simp)
  rw[if_neg c5] at H
  exact absurd H (by simp)
 rw[if_neg c3] at H
 exact absurd H (by simp)
def r30_Build.f (k:Nat) (a0:Int) (l1:List (List Int)):Option (Int×(List (S74))×Int):=(r30_group.f k a0 l1).bind fun t539=>(if t539=0 then((r30_Group.f k a0 l1).bind fun t540=>((r30_Of.f k a0 t540).bind fun bt543=>(some (bt543.1,bt543.2,0)))) else(some (0,([]:List (S74)),t539)))
theorem r30_Build.calls (k:Nat) (a0:Int) (A1:Option Addr) (c1:Nat) (l1:List (List Int)) (r1:Int) (r2:List (S74)) (r3:Int) (w:World) (hr1:Kd.C (Kd.slice 3 (Kd.int .i64)) w A1 l1.length l1) (hc1:l1.length≤c1) (h:r30_Build.f k a0 l1=some (r1,r2,r3)):
    Calls Try.prog 31 #[.int .i64 a0,.slice A1 l1.length c1] w fun e w'=>∃v1_:Value,e= .returned (.tuple #[.agg #[.int .i64 r1,v1_],.int .i64 r3])∧Kd.N k74 74 w' w.heap.size (fun k_=>(w.heap.size≤k_)) v1_ r2∧Below w.heap.size w w':=by
 have hu46:=Try.underlying46
 have HR1:=aM hr1
 have HC1:=aM hc1
 clear hr1 hc1
 have HB:=aM (Below.refl w.heap.size w)
 have H:((r30_group.f k a0 l1).bind fun t539=>(if t539=0 then((r30_Group.f k a0 l1).bind fun t540=>((r30_Of.f k a0 t540).bind fun bt543=>(some (bt543.1,bt543.2,0)))) else(some (0,([]:List (S74)),t539))))=some (r1,r2,r3):=h
 clear h
 replace H:=oB H
 obtain⟨t539,A30,H⟩:=H
 replace H:(if t539=0 then((r30_Group.f k a0 l1).bind fun t540=>((r30_Of.f k a0 t540).bind fun bt543=>(some (bt543.1,bt543.2,0)))) else(some (0,([]:List (S74)),t539)))=some (r1,r2,r3):=H
 have A3:=aM A30
 clear A30
 by_cases c4:t539=0
 ·rw[if_pos c4] at H
  have c4b0:=beq_iff_eq.mpr c4;have c4b1:=bne_eq_false_iff_eq.mpr c4;clear c4;replace H:=oB H;obtain⟨t540,A50,H⟩:=H;replace H:((r30_Of.f k a0 t540).bind fun bt543=>(some (bt543.1,bt543.2,0)))=some (r1,r2,r3):=H;have A5:=aM A50;clear A50;replace H:=oB H;obtain⟨⟨t543,t544⟩,A60,H⟩:=H;replace H:(some (t543,t544,0))=some (r1,r2,r3):=H;have A6:=aM A60;clear A60;simp only[Option.some.injEq,Prod.mk.injEq] at H;obtain⟨rfl,rfl,rfl⟩:=H
  go_enter Try.func31,Try.ntmps31
  go_wp2_with (first|((with_reducible refine Zr (N:=4) rfl ?_);refine Zx ?hg (N:=4) ?hd (cs:= #[.int .i64 0,.slice none 0 0]) (t:=46) ?hr ?_;(case hd=>rfl);(case hg=>rfl);(case hr=>first|(go_simp;done)|(go_simp;rfl));intro gb538 hg w7 hbox hb;have BK538:=aM (hbox);have GW538:=aM ((by rw[hg];exact(Zc zz128):w.heap.size≤gb538));have GE538:=aM ((by rw[hg];exact(Zc zz128):w.heap.size≤gb538));replace HB:=aM (Ze zz128 hb);clear hb hbox hg)|((with_reducible refine Zq (f:=59) rfl ?_);refine ZB (some 9) rfl rfl Try.func59 (by kernel_rfl) rfl #[.int .i64 a0,.slice A1 l1.length c1] rfl zz127 ?_;(with_reducible refine(r30_group.calls k a0 _ _ l1 t539 _ ?side1 ?side2 A3.out).mono ?_);(case side1=>exact zC (Kd.C_below HR1.out HB.out));(case side2=>exact HC1.out);rintro e w' ⟨rfl,⟨nd,rfl⟩⟩;refine⟨_,rfl,?_⟩;(try(rw[drewN_self w7];generalize hq_:World.drewN w7 _=w7;have n0_:Aside0 (w7.heap[gb538]? =some (.cells #[.int .i64 0,.slice none 0 0] 46 (0,0))):=⟨(by rw[←hq_];exact(zB BK538))⟩;have n1_:Aside0 (Below w.heap.size w w7):=⟨zz90⟩;clear BK538 HB hq_;have BK538:=n0_;have HB:=n1_;clear n0_ n1_)))|((with_reducible refine Zq (f:=64) rfl ?_);refine ZB (some 17) rfl rfl Try.func64 (by kernel_rfl) rfl #[.int .i64 a0,.slice A1 l1.length c1] rfl zz127 ?_;(with_reducible refine(r30_Group.calls k a0 _ _ l1 t540 _ ?side1 ?side2 A5.out).mono ?_);(case side1=>exact zC (Kd.C_below HR1.out HB.out));(case side2=>exact HC1.out);rintro e w8 ⟨v541,rfl,ho0,hb⟩;refine⟨_,rfl,?_⟩;have HO542:=aM (Kd.N_lower (Kd.N_mono (ok':=fun k_=>(w.heap.size≤k_)∧k_≠gb538) ho0 (fun k_ hk_=>⟨(Nat.le_trans (Zc zz101) hk_),(Kd.freshB (g:=gb538) (o:= .cells #[.int .i64 0,.slice none 0 0] 46 (0,0)) (zB BK538) k_ hk_)⟩)) (Zc zz101));replace BK538:=aM (Zg (g:=gb538) (o:= .cells #[.int .i64 0,.slice none 0 0] 46 (0,0)) (zB BK538) hb);replace HB:=aM (Ze zz101 hb);(try clear hb);(try clear hb2);(try clear hk);(try clear hi);(try clear ho0);obtain⟨Ao9,co9,eo9⟩:=Kd.N_slice HO542.out;subst eo9)|((with_reducible refine Zq (f:=63) rfl ?_);refine ZB (some 18) rfl rfl Try.func63 (by kernel_rfl) rfl #[.int .i64 a0,.slice Ao9 t540.length co9] rfl zz127 ?_;(with_reducible refine(r30_Of.calls k a0 (fun k_=>((w.heap.size≤k_)∧k_≠gb538)) _ _ t540 t543 t544 _ ?side1 A6.out).mono ?_);(case side1=>exact Kd.N_V (HO542.out));rintro e w10 ⟨v545,rfl,ho0,hb⟩;refine⟨_,rfl,?_⟩;replace HO542:=aM (Kd.N_elder' (zN HO542) (Kd.N_base ho0) hb);have HO546:=aM (Kd.N_lower (Kd.N_mono (ok':=fun k_=>(w.heap.size≤k_)∧k_≠gb538) ho0 (fun k_ hk_=>⟨Or.elim hk_ (fun hs_=>hs_.1) (fun hn_=>(Nat.le_trans (Zc zz101) hn_)),Or.elim hk_ (fun hs_=>hs_.2) (fun hn_=>(Kd.freshB (g:=gb538) (o:= .cells #[.int .i64 0,.slice none 0 0] 46 (0,0)) (zB BK538) k_ hn_))⟩)) (Zc zz101));replace BK538:=aM (Zg (g:=gb538) (o:= .cells #[.int .i64 0,.slice none 0 0] 46 (0,0)) (zB BK538) hb);replace HB:=aM (Ze zz101 hb);(try clear hb);(try clear hb2);(try clear hk);(try clear hi);(try clear ho0);have hcz11_0:w10.cell? ⟨gb538,0,none⟩=some (.int .i64 0):=(Zb BK538.out 0).trans rfl;have hcz11_1:w10.cell? ⟨gb538,1,none⟩=some (.slice none 0 0):=(Zb BK538.out 1).trans rfl;have hfz11_0:=Za BK538.out 0;have hfz11_1:=Za BK538.out 1;obtain⟨Ao12,co12,eo12⟩:=Kd.N_slice HO546.out;subst eo12))
  refine bodyPost_ret (results_ct rfl _ _ gb538 46 #[.int .i64 t543,.slice Ao12 t544.length co12] (0,0) _ rfl (by(with_reducible repeat(first|refine Zm ?_ _|refine Zo ?_|refine Zl ?_ _));refine ZI (cs:= #[.int .i64 t543,.slice none 0 0]) ?_ 1 _ rfl;(with_reducible repeat(first|refine Zm ?_ _|refine Zo ?_|refine Zl ?_ _));refine ZI (cs:= #[.int .i64 0,.slice none 0 0]) ?_ 0 _ rfl;(with_reducible repeat(first|refine Zm ?_ _|refine Zo ?_|refine Zl ?_ _));exact BK538.out) Try.underlying46 rfl (by kernel_rfl)) rfl ?_
  exact⟨_,by first|rfl|(simp[Zj,Zi]<;>rfl)|(simp[*,Zj,Zi]<;>rfl),by(with_reducible repeat(first|apply Kd.N_alloc|apply Kd.N_drewN|apply Kd.N_drew));exact Kd.N_mono (Kd.N_far (p:=⟨gb538,1,none⟩) (Kd.N_far (p:=⟨gb538,0,none⟩) (Kd.N_mono HO546.out (fun k_ hk=>(⟨hk,hk.2⟩:_∧k_≠gb538))) (fun _ hk=>hk.2) (.int .i64 t543)) (fun _ hk=>hk.2) (.slice Ao12 t544.length co12)) (fun _ hk=>hk.1.1),by repeat(first|(with_reducible first|exact HB.out|apply Zn|apply Zf|apply Zh|refine Zk ?_ GE538.out)|exact HB.out)⟩
 rw[if_neg c4] at H
 have c4b0:=beq_eq_false_iff_ne.mpr c4
 have c4b1:=bne_iff_ne.mpr c4
 simp only[Option.some.injEq,Prod.mk.injEq] at H
 obtain⟨rfl,rfl,rfl⟩:=H
 go_enter Try.func31,Try.ntmps31
 go_wp2_with (first|((with_reducible refine Zr (N:=4) rfl ?_);refine Zx ?hg (N:=4) ?hd (cs:= #[.int .i64 0,.slice none 0 0]) (t:=46) ?hr ?_;(case hd=>rfl);(case hg=>rfl);(case hr=>first|(go_simp;done)|(go_simp;rfl));intro gb538 hg w13 hbox hb;have BK538:=aM (hbox);have GW538:=aM ((by rw[hg];exact(Zc zz128):w.heap.size≤gb538));have GE538:=aM ((by rw[hg];exact(Zc zz128):w.heap.size≤gb538));replace HB:=aM (Ze zz128 hb);clear hb hbox hg)|((with_reducible refine Zq (f:=59) rfl ?_);refine ZB (some 9) rfl rfl Try.func59 (by kernel_rfl) rfl #[.int .i64 a0,.slice A1 l1.length c1] rfl zz127 ?_;(with_reducible refine(r30_group.calls k a0 _ _ l1 t539 _ ?side1 ?side2 A3.out).mono ?_);(case side1=>exact zC (Kd.C_below HR1.out HB.out));(case side2=>exact HC1.out);rintro e w' ⟨rfl,⟨nd,rfl⟩⟩;refine⟨_,rfl,?_⟩;(try(rw[drewN_self w13];generalize hq_:World.drewN w13 _=w13;have n0_:Aside0 (w13.heap[gb538]? =some (.cells #[.int .i64 0,.slice none 0 0] 46 (0,0))):=⟨(by rw[←hq_];exact(zB BK538))⟩;have n1_:Aside0 (Below w.heap.size w w13):=⟨zz90⟩;clear BK538 HB hq_;have BK538:=n0_;have HB:=n1_;clear n0_ n1_));have hcz14_0:w13.cell? ⟨gb538,0,none⟩=some (.int .i64 0):=(Zb BK538.out 0).trans rfl;have hcz14_1:w13.cell? ⟨gb538,1,none⟩=some (.slice none 0 0):=(Zb BK538.out 1).trans rfl;have hfz14_0:=Za BK538.out 0;have hfz14_1:=Za BK538.out 1))
 refine bodyPost_ret (results_ct rfl _ _ gb538 46 #[.int .i64 0,.slice none 0 0] (0,0) _ rfl (by(with_reducible repeat(first|refine Zm ?_ _|refine Zo ?_|refine Zl ?_ _));refine ZI (cs:= #[.int .i64 0,.slice none 0 0]) ?_ 1 _ rfl;(with_reducible repeat(first|refine Zm ?_ _|refine Zo ?_|refine Zl ?_ _));refine ZI (cs:= #[.int .i64 0,.slice none 0 0]) ?_ 0 _ rfl;(with_reducible repeat(first|refine Zm ?_ _|refine Zo ?_|refine Zl ?_ _));exact BK538.out) Try.underlying46 rfl (by kernel_rfl)) rfl ?_
 exact⟨_,by first|rfl|(simp[Zj,Zi]<;>rfl)|(simp[*,Zj,Zi]<;>rfl),by first|exact Kd.R_nil _ _ _ _ _|exact Kd.N_nil _ _ _ _ _|exact Kd.V_nil _ _ _ _ _|exact Kd.Q_nil _ _ _ _ _|exact Kd.S_nil _ _ _ _ _,by repeat(first|(with_reducible first|exact HB.out|apply Zn|apply Zf|apply Zh|refine Zk ?_ GE538.out)|exact HB.out)⟩
def r30_Gens.l0:Nat→List (List Int)→Int→Int→List (S74)→Option ((List (List Int)))
 |0,_,_,_,_=>none
 |k+1,x3,x4,x569000,x569001=>if x4<(x569001.length:Int) then(if 0≤x4 then(if x3.length+((Zd x569001 x4).f2).length<5864062014805 then(r30_Gens.l0 k (x3++((Zd x569001 x4).f2)) (wrap64 (x4+1)) x569000 x569001) else(none)) else(none)) else(some x3)
def r30_Gens.f (k:Nat) (a0_0:Int) (l0_1:List (S74)):Option ((List (List Int))):=r30_Gens.l0 k ([]:List (List Int)) 0 a0_0 l0_1
theorem r30_Gens.calls (k:Nat) (a0_0:Int) (P0_1_:Nat→Prop) (A0_1:Option Addr) (c0_1:Nat) (l0_1:List (S74)) (r:List (List Int)) (w:World) (hs0_1:Kd.V k74 74 w w.heap.size (fun k_=>P0_1_ k_) (.slice A0_1 l0_1.length c0_1) l0_1) (h:r30_Gens.f k a0_0 l0_1=some r):
    Calls Try.prog 45 #[.agg #[.int .i64 a0_0,.slice A0_1 l0_1.length c0_1]] w fun e w'=>∃v0_:Value,e= .returned (v0_)∧Kd.N (Kd.slice 3 (Kd.int .i64)) 22 w' w.heap.size (fun k_=>(P0_1_ k_∨w.heap.size≤k_)) v0_ r∧Below w.heap.size w w':=by
 have hu46:=Try.underlying46
 have HO0_1:=aM (show Kd.V k74 74 w w.heap.size (fun k_=>(P0_1_ k_∨w.heap.size≤k_)) (.slice A0_1 l0_1.length c0_1) l0_1 from Kd.V_mono hs0_1 (fun k_ hk=> .inl hk))
 have HB:=aM (Below.refl w.heap.size w)
 have H:(r30_Gens.l0 k ([]:List (List Int)) 0 a0_0 l0_1)=some r:=h
 clear h
 have H':=aM H
 clear H
 go_enter Try.func45,Try.ntmps45
 go_wp2_with (first|((with_reducible refine Zr (N:=1) rfl ?_);refine Zx ?hg (N:=1) ?hd (cs:= #[.int .i64 a0_0,.slice A0_1 l0_1.length c0_1]) (t:=46) ?hr ?_;(case hd=>rfl);(case hg=>rfl);(case hr=>first|(go_simp;done)|(go_simp;rfl));intro gb568 hg w2 hbox hb;replace HO0_1:=aM (Kd.V_below (Kd.V_elderB (zV HO0_1) gb568 (Nat.le_of_eq hg.symm)) hb);have BK568:=aM (hbox);have GW568:=aM ((by rw[hg];exact(Zc zz128):w.heap.size≤gb568));have GE568:=aM ((by rw[hg];exact(Zc zz128):w.heap.size≤gb568));replace HB:=aM (Ze zz128 hb);clear hb hbox hg))
 go_loopg [3,4] k (fun kq v3 v4 w'=>∃(x3_1:List (List Int)) (x4_1:Int),v4= .int .i64 x4_1∧Aside0 (r30_Gens.l0 kq x3_1 x4_1 a0_0 l0_1=some r)∧Aside0 (kq≤k)∧Aside0 (Kd.N (Kd.slice 3 (Kd.int .i64)) 22 w' w.heap.size (fun k_=>(P0_1_ k_∨w.heap.size≤k_)∧k_≠gb568) v3 x3_1)∧Aside0 (Kd.V k74 74 w' w.heap.size (fun k_=>(P0_1_ k_∨w.heap.size≤k_)∧some k_≠(v3:Value).ownBlock∧k_≠gb568) (.slice A0_1 l0_1.length c0_1) l0_1)∧Aside0 (w'.heap[gb568]? =some (.cells #[.int .i64 a0_0,(.slice A0_1 l0_1.length c0_1)] 46 (0,0)))∧Aside0 (Below w.heap.size w w'))
 case atStart=>exact⟨(([]:List (List Int))),(0),zz154,H',⟨Nat.le_refl _⟩,⟨zz125⟩,⟨zz92⟩,⟨(zB BK568)⟩,⟨zz102⟩⟩
 case round =>
  clear H';(try clear p2);obtain⟨x3_1,x4_1,rfl,HA,HK1,HO_3,HO_569001,BK568,HB⟩:=hrel
  cases gk with
  |zero=>exact absurd HA.out (by simp[r30_Gens.l0])
  | succ k1=>
   have H:=HA.out;clear HA;simp only[r30_Gens.l0] at H
   by_cases c3:x4_1<(l0_1.length:Int)
   ·rw [if_pos c3] at H;have c3b0:=dT c3;clear c3
    by_cases c4:0≤x4_1
    ·rw [if_pos c4] at H;have c4b0:=dT c4;clear c4
     by_cases c5:x3_1.length+((Zd l0_1 x4_1).f2).length<5864062014805
     ·rw[if_pos c5] at H;have LMc5:=aM c5;clear c5;obtain⟨y570,hy570⟩:∃y_:List (List Int),y_=(x3_1++((Zd l0_1 x4_1).f2)):=⟨_,rfl⟩;replace H:(r30_Gens.l0 k1 y570 (wrap64 (x4_1+1)) a0_0 l0_1)=some r:=by first|(rw[hy570];with_reducible exact H)|(have H2_:=(Option.bind_some _ _).symm.trans H;rw[hy570];with_reducible exact H2_)|(have H2_:=(Option.bind_some _ _).symm.trans H;with_reducible exact H2_)|with_reducible exact H|(rw[hy570];exact H)|exact H
      have Ny570:=aM hy570;clear hy570;have H':=aM H;clear H;have hcz6_0:wr.cell? ⟨gb568,0,none⟩=some (.int .i64 a0_0):=(Zb BK568.out 0).trans rfl;have hcz6_1:wr.cell? ⟨gb568,1,none⟩=some (.slice A0_1 l0_1.length c0_1):=(Zb BK568.out 1).trans rfl;have hfz6_0:=Za BK568.out 0;have hfz6_1:=Za BK568.out 1;have p569:0≤(x4_1:Int):=oD zz153;have q569:x4_1<(l0_1.length:Int):=oD zz153;obtain⟨ad569,A569_1,c569_1,A569_2,c569_2,e569,hx569_0,hx569_1,hx569_2,hl569_1,hi569_1,hl569_2,hi569_2⟩:=Z0 (Kd.V_reads' HO_569001.out).2.2 x4_1 p569 q569
      cases e569;obtain⟨ce569,hce569,hMe569,hcc569⟩:=Kd.V_get HO_569001.out z74 x4_1 p569 (by first|exact q569|exact oD zz153|(have e_:=(Kd.V_reads' HO_569001.out).1;omega));obtain⟨ua569_1,uc569_1,ua569_2,uc569_2,rfl,ul569_1,ge569_1,ul569_2,ge569_2⟩:=Z1 hMe569;have hv569_1:=hcc569 1 _ rfl;rw[ZM _ _ 1 (by omega)] at hv569_1;replace hv569_1:=oI (hv569_1.symm.trans hx569_1);injection hv569_1 with hva_ hvn_ hvc_
      rw[hva_] at ge569_1;rw[hvc_] at ul569_1;have HL569_1:=aM (show Kd.V (Kd.int .i64) 3 _ w.heap.size _ _ ((Zd l0_1 x4_1).f1) from Kd.V_mk ul569_1 ge569_1);clear hva_ hvn_ hvc_ ge569_1 ul569_1;have hv569_2:=hcc569 2 _ rfl;rw[ZM _ _ 2 (by omega)] at hv569_2;replace hv569_2:=oI (hv569_2.symm.trans hx569_2);injection hv569_2 with hva_ hvn_ hvc_
      rw[hva_] at ge569_2;rw[hvc_] at ul569_2;have HL569_2:=aM (show Kd.V (Kd.slice 3 (Kd.int .i64)) 22 _ w.heap.size _ _ ((Zd l0_1 x4_1).f2) from Kd.V_mk ul569_2 ge569_2);clear hva_ hvn_ hvc_ ge569_2 ul569_2;clear hcc569 hce569;have HR569_1:=aM hi569_1;have HC569_1:=aM hl569_1;clear hi569_1 hl569_1;have HR569_2:=aM hi569_2;have HC569_2:=aM hl569_2;clear hi569_2 hl569_2;replace p569:=eq_true p569;replace q569:=eq_true q569
      go_wp2_with (first|((with_reducible refine ZT (b:= .append) (xs:= #[.tmp 12,.tmp 18]) rfl ?_);at_builtin;refine Kd.N_append_rows (Kd.slice 3 (Kd.int .i64)) (w0:=w) w.heap.size rfl (.tmp 12) (.tmp 18) 28 22 (.slice none 0 0) 24 rfl Try.underlying28 info22 rfl (by decide) (by omega) u3 x3_1 ((Zd l0_1 x4_1).f2) _ _ _ (fun k_=>(P0_1_ k_∨w.heap.size≤k_)∧k_≠gb568) (fun k_=>((fun k_=>(P0_1_ k_∨w.heap.size≤k_)∧k_≠gb568)) k_∧some k_≠(u3:Value).ownBlock) rfl rfl ?aO ?aR (fun _ hk=>hk) ?aF ?aB ?aS ?aL ?_;(case aR=>exact(by skip;exact Kd.V_F (Kd.V_mono (ok':=(fun k_=>((fun k_=>(P0_1_ k_∨w.heap.size≤k_)∧k_≠gb568)) k_∧some k_≠(u3:Value).ownBlock)) (HL569_2.out) (fun k_ hk=>⟨⟨hk.1,hk.2.2⟩,hk.2.1⟩))));(case aB=>exact zz102);(case aF=>exact(fun k_ hk=>⟨(.inr (Nat.le_trans (Zc zz102) hk)),Kd.freshB (g:=gb568) (o:= .cells #[.int .i64 a0_0,.slice (some ad569) l0_1.length c0_1] 46 (0,0)) (zB BK568) k_ hk⟩));(case aO=>exact(zN HO_3));(case aS=>exact(Zc zz102));(case aL=>have:=LMc5.out;omega);intro v571 w7 ho hb hg hat;rw[←Ny570.out] at ho;replace HO_569001:=aM (Kd.V_afterv (ok:=(fun k_=>(P0_1_ k_∨w.heap.size≤k_)∧k_≠gb568)) (by(with_reducible repeat(first|apply Kd.V_alloc|apply Kd.V_drewN|apply Kd.V_drew));exact Kd.V_mono HO_569001.out (fun _ hk=>⟨⟨hk.1,hk.2.2⟩,hk.2.1⟩)) hg hat);replace BK568:=aM (Z2 (g:=gb568) (o:= .cells #[.int .i64 a0_0,.slice (some ad569) l0_1.length c0_1] 46 (0,0)) (zB BK568) hg (Kd.N_ne HO_3.out BK568.out (by decide)));replace HL569_1:=aM (Kd.V_afterv (ok:=(fun k_=>(P0_1_ k_∨w.heap.size≤k_)∧k_≠gb568)) (by(with_reducible repeat(first|apply Kd.V_alloc|apply Kd.V_drewN|apply Kd.V_drew));exact Kd.V_mono HL569_1.out (fun _ hk=>⟨⟨hk.1,hk.2.2⟩,hk.2.1⟩)) hg hat);replace HL569_2:=aM (Kd.V_afterv (ok:=(fun k_=>(P0_1_ k_∨w.heap.size≤k_)∧k_≠gb568)) (by(with_reducible repeat(first|apply Kd.V_alloc|apply Kd.V_drewN|apply Kd.V_drew));exact Kd.V_mono HL569_2.out (fun _ hk=>⟨⟨hk.1,hk.2.2⟩,hk.2.1⟩)) hg hat);replace HB:=aM (hb);have HO572:=aM (ho);clear HO_3;clear ho hb hg hat))
      go_roundg k1
      case measure=>have:=HK1.out;omega
      case rel=>exact⟨(y570),(wrap64 (x4_1+1)),zz154,H',⟨zz163⟩,⟨(zN HO572)⟩,⟨(by(with_reducible repeat(first|apply Kd.V_alloc|apply Kd.V_drewN|apply Kd.V_drew));exact Kd.V_mono HO_569001.out (fun _ hk=>⟨hk.1.1,⟨hk.2,hk.1.2⟩⟩))⟩,⟨(zB BK568)⟩,⟨zz102⟩⟩
     rw[if_neg c5] at H
     exact absurd H (by simp)
    rw[if_neg c4] at H
    exact absurd H (by simp)
   rw[if_neg c3] at H;have c3b0:=dF c3;clear c3;obtain rfl:=oI H;have hcz8_0:wr.cell? ⟨gb568,0,none⟩=some (.int .i64 a0_0):=(Zb BK568.out 0).trans rfl;have hcz8_1:wr.cell? ⟨gb568,1,none⟩=some (.slice A0_1 l0_1.length c0_1):=(Zb BK568.out 1).trans rfl;have hfz8_0:=Za BK568.out 0;have hfz8_1:=Za BK568.out 1;go_wp2;go_ret
   exact⟨_,by first|rfl|(simp[Zj,Zi]<;>rfl)|(simp[*,Zj,Zi]<;>rfl),by(with_reducible repeat(first|apply Kd.N_alloc|apply Kd.N_drewN|apply Kd.N_drew));exact Kd.N_mono HO_3.out (fun _ hk=>hk.1),by repeat(first|(with_reducible first|exact HB.out|apply Zn|apply Zf|apply Zh|refine Zk ?_ GE568.out)|exact HB.out)⟩
end
end Go.Proofs.Ytjjlhbgpdncpcaa.P