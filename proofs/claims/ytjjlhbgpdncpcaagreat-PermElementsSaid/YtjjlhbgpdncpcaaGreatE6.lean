/- What the claim's theorem is built on, part 6: words, walks of the code, and what they tell. -/
import Derived.Shelf.SlSortCmp.Small
import Derived.Test.YtjjlhbgpdncpcaaGreatProg
import Derived.Shelf.Sort.Plain
import Derived.Sort.OwnSortedInts
import Derived.Shelf.Small.Bits
import Derived.Test.YtjjlhbgpdncpcaaGreatE2
import Derived.Test.YtjjlhbgpdncpcaaGreatE5
set_option linter.unusedVariables false
set_option linter.unusedSimpArgs false
set_option maxHeartbeats 8000000
set_option maxRecDepth 100000
open Go.RowKit Go.Proofs.YtjjlhbgpdncpcaaGreatW.PrintWords Go.Proofs.YtjjlhbgpdncpcaaGreatW.PrintLast Go.Proofs.YtjjlhbgpdncpcaaGreatW.PrintMore
namespace Go.Proofs.YtjjlhbgpdncpcaaGreat.P
section
attribute [local go_sem] ZH ZF ZL ZK ZB ZA ZG ZE
mutual
def perm_Sift.j0:Nat→List Int→Int→Int→List (S56)→Option (List Int×Int×Int)
 |0,_,_,_,_=>none
 |k+1,x1,x7,x262000,x262001=>if x7=0 then(perm_Sift.j1 k x1 x7 ((x1.length:Int) !=x262000) x262000 x262001) else(perm_Sift.j1 k x1 x7 false x262000 x262001)
def perm_Sift.j1:Nat→List Int→Int→Bool→Int→List (S56)→Option (List Int×Int×Int)
 |0,_,_,_,_,_=>none
 |k+1,x1,x7,x26,x262000,x262001=>if x26=true then(perm_Sift.j2 k x1 10 x262000 x262001) else(perm_Sift.j2 k x1 x7 x262000 x262001)
def perm_Sift.j2:Nat→List Int→Int→Int→List (S56)→Option (List Int×Int×Int)
 |0,_,_,_,_=>none
 |k+1,x1,x7,x262000,x262001=>if x7=0 then((slices_Clone_int_int_32.f x1).bind fun t264=>(perm_Sift.l0 k t264 x262001 (x262001.length:Int) 0 x262000 x262001)) else(some (([]:List Int),0,x7))
def perm_Sift.l0:Nat→List Int→List (S56)→Int→Int→Int→List (S56)→Option (List Int×Int×Int)
 |0,_,_,_,_,_,_=>none
 |k+1,x8,x33,x34,x35,x262000,x262001=>if x35<x34 then(if 0≤x35 then(if x35<(x33.length:Int) then(if 0≤((Ze x33 x35).f0) then(if((Ze x33 x35).f0)<(x8.length:Int) then((slIx.f k ((Ze x33 x35).f1) (rd x8 ((Ze x33 x35).f0))).bind fun t270=>(if t270<0 then(some (x8,x35,0)) else(if 0≤t270 then(if t270<(((Ze x33 x35).f2).length:Int) then((perm_inverse.f k (Zo ((Ze x33 x35).f2) t270)).bind fun t272=>((perm_then.f k x8 t272).bind fun t275=>(perm_Sift.l0 k t275 x33 x34 (wrap64 (x35+1)) x262000 x262001))) else(none)) else(none)))) else(none)) else(none)) else(none)) else(none)) else(some (x8,(x262001.length:Int),0))
end
def perm_Sift.f (k:Nat) (a0_0:Int) (l0_1:List (S56)) (l1:List Int):Option (List Int×Int×Int):=(perm_CheckChain.f k a0_0 l0_1).bind fun t262=>(if t262=0 then((perm_Check.f l1).bind fun t263=>(perm_Sift.j0 k l1 t263 a0_0 l0_1)) else(perm_Sift.j0 k l1 t262 a0_0 l0_1))
theorem perm_Sift.calls (k : Nat) (B:Int) (P:Option Addr) (D:Nat) (l0_1:List (S56)) (A1:Option Addr) (c1:Nat) (l1:List Int) (r1:List Int) (r2:Int) (r3:Int) (w:World) (bQ:Kd.C k56 w P l0_1.length l0_1) (bL:l0_1.length≤D) (cu:Kd.C (Kd.int .i64) w A1 l1.length l1) (co:l1.length≤c1) (h:perm_Sift.f k B l0_1 l1=some (r1,r2,r3)):
    Calls Tryz.prog 23 #[.agg #[.int .i64 B,.slice P l0_1.length D],.slice A1 l1.length c1] w fun e w'=>∃cv:Value,e= .returned (.tuple #[cv,.int .i64 r2,.int .i64 r3])∧Kd.R (Kd.int .i64) 3 w' w.heap.size (fun _=>True) cv r1∧Below w.heap.size w w':=by
 have cI:=Tryz.underlying24
 have cJ:=Tryz.underlying56
 have aL:=aM bQ
 have bq:=aM bL
 clear bQ bL
 have bz:=aM cu
 have bx:=aM co
 clear cu co
 have HB:=aM (Below.refl w.heap.size w)
 have H:((perm_CheckChain.f k B l0_1).bind fun aC=>(if aC=0 then((perm_Check.f l1).bind fun aG=>(perm_Sift.j0 k l1 aG B l0_1)) else(perm_Sift.j0 k l1 aC B l0_1)))=some (r1,r2,r3):=h
 clear h
 replace H:=oB H
 obtain⟨aC,cl,H⟩:=H
 replace H:(if aC=0 then((perm_Check.f l1).bind fun aG=>(perm_Sift.j0 k l1 aG B l0_1)) else(perm_Sift.j0 k l1 aC B l0_1))=some (r1,r2,r3):=H
 have A3:=aM cl
 clear cl
 have ci:=aM H
 clear H
 go_enter Tryz.func23,Tryz.ntmps23
 go_upto_if 15 with(first|((with_reducible refine Zq (N:=2) rfl ?_);(try(refine Zv (by rfl) ?_;dsimp only));refine Zx ?hg (N:=2) ?hd (cs:= #[.int .i64 B,.slice P l0_1.length D]) (t:=24) ?hr ?_;(case hd=>rfl);(case hg=>rfl);(case hr=>first|(go_simp;done)|(go_simp;rfl));intro m hg w5 hbox hb;have BK261:=aM (hbox);have bD:=aM ((by rw[hg];exact(Zc zz128):w.heap.size≤m));have GE261:=aM ((by rw[hg];exact(Zc zz128):w.heap.size≤m));replace HB:=aM (Zd zz128 hb);clear hb hbox hg;have ay:w5.cell? ⟨m,0,none⟩=some (.int .i64 B):=(Za BK261.out 0).trans rfl;have az:w5.cell? ⟨m,1,none⟩=some (.slice P l0_1.length D):=(Za BK261.out 1).trans rfl;have aA:=Zb BK261.out 0;have aB:=Zb BK261.out 1)|(go_at_call 27;(with_reducible refine(perm_CheckChain.calls k B _ _ l0_1 aC _ ?sa ?sb A3.out).mono ?_);(case sa=>exact zC (Kd.C_below aL.out HB.out));(case sb=>exact bq.out);rintro e w7 ⟨rfl,hb⟩;replace BK261:=aM (Zf (g:=m) (o:= .cells #[.int .i64 B,.slice P l0_1.length D] 24 (0,0)) (zB BK261) hb);replace HB:=aM (Zd zz102 hb);(try clear hb);(try clear aF);(try clear hk);(try clear hi)))
 repeat(go_quiet (first|((with_reducible refine Zq (N:=2) rfl ?_);(try(refine Zv (by rfl) ?_;dsimp only));refine Zx ?hg (N:=2) ?hd (cs:= #[.int .i64 B,.slice P l0_1.length D]) (t:=24) ?hr ?_;(case hd=>rfl);(case hg=>rfl);(case hr=>first|(go_simp;done)|(go_simp;rfl));intro m hg w5 hbox hb;have BK261:=aM (hbox);have bD:=aM ((by rw[hg];exact(Zc zz128):w.heap.size≤m));have GE261:=aM ((by rw[hg];exact(Zc zz128):w.heap.size≤m));replace HB:=aM (Zd zz128 hb);clear hb hbox hg;have ay:w5.cell? ⟨m,0,none⟩=some (.int .i64 B):=(Za BK261.out 0).trans rfl;have az:w5.cell? ⟨m,1,none⟩=some (.slice P l0_1.length D):=(Za BK261.out 1).trans rfl;have aA:=Zb BK261.out 0;have aB:=Zb BK261.out 1)|(go_at_call 27;(with_reducible refine(perm_CheckChain.calls k B _ _ l0_1 aC _ ?sa ?sb A3.out).mono ?_);(case sa=>exact zC (Kd.C_below aL.out HB.out));(case sb=>exact bq.out);rintro e w7 ⟨rfl,hb⟩;replace BK261:=aM (Zf (g:=m) (o:= .cells #[.int .i64 B,.slice P l0_1.length D] 24 (0,0)) (zB BK261) hb);replace HB:=aM (Zd zz102 hb);(try clear hb);(try clear aF);(try clear hk);(try clear hi)));go_upto_if 15 with(first|((with_reducible refine Zq (N:=2) rfl ?_);(try(refine Zv (by rfl) ?_;dsimp only));refine Zx ?hg (N:=2) ?hd (cs:= #[.int .i64 B,.slice P l0_1.length D]) (t:=24) ?hr ?_;(case hd=>rfl);(case hg=>rfl);(case hr=>first|(go_simp;done)|(go_simp;rfl));intro m hg w5 hbox hb;have BK261:=aM (hbox);have bD:=aM ((by rw[hg];exact(Zc zz128):w.heap.size≤m));have GE261:=aM ((by rw[hg];exact(Zc zz128):w.heap.size≤m));replace HB:=aM (Zd zz128 hb);clear hb hbox hg;have ay:w5.cell? ⟨m,0,none⟩=some (.int .i64 B):=(Za BK261.out 0).trans rfl;have az:w5.cell? ⟨m,1,none⟩=some (.slice P l0_1.length D):=(Za BK261.out 1).trans rfl;have aA:=Zb BK261.out 0;have aB:=Zb BK261.out 1)|(go_at_call 27;(with_reducible refine(perm_CheckChain.calls k B _ _ l0_1 aC _ ?sa ?sb A3.out).mono ?_);(case sa=>exact zC (Kd.C_below aL.out HB.out));(case sb=>exact bq.out);rintro e w7 ⟨rfl,hb⟩;replace BK261:=aM (Zf (g:=m) (o:= .cells #[.int .i64 B,.slice P l0_1.length D] 24 (0,0)) (zB BK261) hb);replace HB:=aM (Zd zz102 hb);(try clear hb);(try clear aF);(try clear hk);(try clear hi))))
 (try simp only[Act.put,sA,sB,sC])
 go_cut [7] (fun v7 wc=>∃(kq:Nat) (aX:Int),v7= .int .i64 aX∧Aside0 (perm_Sift.j0 kq l1 aX B l0_1=some (r1,r2,r3))∧Aside0 (kq≤k)∧Aside0 (wc.heap[m]? =some (.cells #[.int .i64 B,(.slice P l0_1.length D)] 24 (0,0)))∧Aside0 (Below w.heap.size w wc))
 case first=>
  have H:=ci.out;clear ci
  by_cases c8:aC=0
  ·rw[if_pos c8] at H;have aE:=beq_iff_eq.mpr c8;have a2:=bne_eq_false_iff_eq.mpr c8;clear c8
   (first|rw[aE]|(simp only[Zt,Zu];rw[aE])|skip)
   replace H:=oB H;obtain⟨aG,cm,H⟩:=H;replace H:(perm_Sift.j0 k l1 aG B l0_1)=some (r1,r2,r3):=H;have A9:=aM cm;clear cm;have H':=aM H;clear H
   go_wp2_with (first|(go_at_call 28;(with_reducible refine(perm_Check.calls _ _ l1 aG _ ?sa ?sb A9.out).mono ?_);(case sa=>exact zC (Kd.C_below bz.out HB.out));(case sb=>exact bx.out);rintro e cw ⟨rfl,hb⟩;replace BK261:=aM (Zf (g:=m) (o:= .cells #[.int .i64 B,.slice P l0_1.length D] 24 (0,0)) (zB BK261) hb);replace HB:=aM (Zd zz102 hb);(try clear hb);(try clear aF);(try clear hk);(try clear hi)))
   repeat(go_quiet (first|(go_at_call 28;(with_reducible refine(perm_Check.calls _ _ l1 aG _ ?sa ?sb A9.out).mono ?_);(case sa=>exact zC (Kd.C_below bz.out HB.out));(case sb=>exact bx.out);rintro e cw ⟨rfl,hb⟩;replace BK261:=aM (Zf (g:=m) (o:= .cells #[.int .i64 B,.slice P l0_1.length D] 24 (0,0)) (zB BK261) hb);replace HB:=aM (Zd zz102 hb);(try clear hb);(try clear aF);(try clear hk);(try clear hi)));try go_wp2_with (first|(go_at_call 28;(with_reducible refine(perm_Check.calls _ _ l1 aG _ ?sa ?sb A9.out).mono ?_);(case sa=>exact zC (Kd.C_below bz.out HB.out));(case sb=>exact bx.out);rintro e cw ⟨rfl,hb⟩;replace BK261:=aM (Zf (g:=m) (o:= .cells #[.int .i64 B,.slice P l0_1.length D] 24 (0,0)) (zB BK261) hb);replace HB:=aM (Zd zz102 hb);(try clear hb);(try clear aF);(try clear hk);(try clear hi))))
   go_meet
   case rel=>exact⟨_,(aG),zz157,H',⟨zz160⟩,⟨(zB BK261)⟩,⟨zz102⟩⟩
  rw[if_neg c8] at H;have aE:=beq_eq_false_iff_ne.mpr c8;have a2:=bne_iff_ne.mpr c8
  (first|rw[aE]|(simp only[Zt,Zu];rw[aE])|skip)
  have H':=aM H;clear H;go_wp2
  repeat(go_quiet (fail);try go_wp2)
  go_meet
  case rel=>exact⟨_,(aC),zz157,H',⟨zz160⟩,⟨(zB BK261)⟩,⟨zz102⟩⟩
 case rest=>
  clear ci;(try clear c1);(try clear c2);(try clear p2);(try clear c8);(try clear aE);(try clear a2);(try clear ay);(try clear az);(try clear aA);(try clear aB);obtain⟨kq,aX,rfl,HA,HJ3,BK261,HB⟩:=hcut
  cases kq with
  |zero=>exact absurd HA.out (by simp[perm_Sift.j0])
  | succ cF =>
   have H:=HA.out;clear HA;simp only[perm_Sift.j0] at H;have bE:=aM H;clear H
   go_upto_region 4 with(fail)
   repeat(go_quiet (fail);go_upto_region 4 with(fail))
   go_cut [26] (fun cG wc=>∃(kq:Nat) (aK:Bool),cG= .bool aK∧Aside0 (perm_Sift.j1 kq l1 aX aK B l0_1=some (r1,r2,r3))∧Aside0 (kq≤cF)∧Aside0 (wc.heap[m]? =some (.cells #[.int .i64 B,(.slice P l0_1.length D)] 24 (0,0)))∧Aside0 (Below w.heap.size w wc))
   case first=>
    have H:=bE.out;clear bE
    by_cases aY:aX=0
    ·rw[if_pos aY] at H;have al:=beq_iff_eq.mpr aY;have aZ:=bne_eq_false_iff_eq.mpr aY;clear aY
     (first|rw[al]|(simp only[Zt,Zu];rw[al])|skip)
     have H':=aM H;clear H;have aN:wc.cell? ⟨m,0,none⟩=some (.int .i64 B):=(Za BK261.out 0).trans rfl;have aO:wc.cell? ⟨m,1,none⟩=some (.slice P l0_1.length D):=(Za BK261.out 1).trans rfl;have aR:=Zb BK261.out 0;have aS:=Zb BK261.out 1;go_wp2
     repeat(go_quiet (fail);try go_wp2)
     go_meet
     case rel=>exact⟨_,(((l1.length:Int) !=B)),zz157,H',⟨(by have:=HJ3.out;first|omega|exact Nat.le_refl _)⟩,⟨(zB BK261)⟩,⟨zz102⟩⟩
    rw[if_neg aY] at H;have al:=beq_eq_false_iff_ne.mpr aY;have aZ:=bne_iff_ne.mpr aY
    (first|rw[al]|(simp only[Zt,Zu];rw[al])|skip)
    have H':=aM H;clear H;go_wp2
    repeat(go_quiet (fail);try go_wp2)
    go_meet
    case rel=>exact⟨_,(false),zz157,H',⟨(by have:=HJ3.out;first|omega|exact Nat.le_refl _)⟩,⟨(zB BK261)⟩,⟨zz102⟩⟩
   case rest=>
    clear bE;(try clear c1);(try clear c2);(try clear p2);(try clear c8);(try clear aE);(try clear a2);(try clear aY);(try clear al);(try clear aZ);(try clear aN);(try clear aO);(try clear ay);(try clear az);(try clear aR);(try clear aS);(try clear aA);(try clear aB);(try clear p2);obtain⟨kq,aK,rfl,HA,HJ10,BK261,HB⟩:=hcut
    cases kq with
    |zero=>exact absurd HA.out (by simp[perm_Sift.j1])
    | succ bS=>
     have H:=HA.out;clear HA;simp only[perm_Sift.j1] at H;have bF:=aM H;clear H
     go_upto_if 26 with(fail)
     repeat(go_quiet (fail);go_upto_if 26 with(fail))
     go_cut [7] (fun v7 wc=>∃(kq:Nat) (a0:Int),v7= .int .i64 a0∧Aside0 (perm_Sift.j2 kq l1 a0 B l0_1=some (r1,r2,r3))∧Aside0 (kq≤bS)∧Aside0 (wc.heap[m]? =some (.cells #[.int .i64 B,(.slice P l0_1.length D)] 24 (0,0)))∧Aside0 (Below w.heap.size w wc))
     case first=>
      have H:=bF.out;clear bF
      by_cases bA:aK=true
      ·subst bA;have H1:(perm_Sift.j2 bS l1 10 B l0_1)=some (r1,r2,r3):=by rw[if_pos rfl] at H;exact H
       clear H;have H:=H1;clear H1;have H':=aM H;clear H;go_wp2
       repeat(go_quiet (fail);try go_wp2)
       go_meet
       case rel=>exact⟨_,(10),zz157,H',⟨zz151⟩,⟨(zB BK261)⟩,⟨zz102⟩⟩
      replace bA:=Bool.eq_false_iff.mpr bA;subst bA;have H1:(perm_Sift.j2 bS l1 aX B l0_1)=some (r1,r2,r3):=by rw[if_neg (show¬(false=true) by decide)] at H;exact H
      clear H;have H:=H1;clear H1;have H':=aM H;clear H;go_wp2
      repeat(go_quiet (fail);try go_wp2)
      go_meet
      case rel=>exact⟨_,(aX),zz157,H',⟨zz151⟩,⟨(zB BK261)⟩,⟨zz102⟩⟩
     case rest=>
      clear bF;(try clear c1);(try clear c2);(try clear p2);(try clear c8);(try clear aE);(try clear a2);(try clear aY);(try clear al);(try clear aZ);(try clear bA);(try clear aN);(try clear aO);(try clear ay);(try clear az);(try clear aR);(try clear aS);(try clear aA);(try clear aB);(try clear p2);obtain⟨kq,a0,rfl,HA,b7,BK261,HB⟩:=hcut
      cases kq with
      |zero=>exact absurd HA.out (by simp[perm_Sift.j2])
      | succ bT=>
       have H:=HA.out;clear HA;simp only[perm_Sift.j2] at H
       by_cases a1:a0=0
       ·rw [if_pos a1] at H;have bI:=beq_iff_eq.mpr a1;have bJ:=bne_eq_false_iff_eq.mpr a1;clear a1;replace H:=oB H;obtain⟨bo,b0,H⟩:=H;replace H:(perm_Sift.l0 bT bo l0_1 (l0_1.length:Int) 0 B l0_1)=some (r1,r2,r3):=H;have ce:=aM b0;clear b0;have H':=aM H;clear H
        go_wp2_with (first|(go_at_call 32;(with_reducible refine(slices_Clone_int_int_32.calls _ _ l1 bo _ ?sa ?sb ce.out).mono ?_);(case sa=>exact zC (Kd.C_below bz.out HB.out));(case sb=>exact bx.out);rintro e bp ⟨cb,rfl,ho0,hb⟩;have br:=aM (Kd.R_lower ho0 (Zc zz102));replace BK261:=aM (Zf (g:=m) (o:= .cells #[.int .i64 B,.slice P l0_1.length D] 24 (0,0)) (zB BK261) hb);replace HB:=aM (Zd zz102 hb);(try clear hb);(try clear aF);(try clear hk);(try clear hi);(try clear ho0);have aP:bp.cell? ⟨m,0,none⟩=some (.int .i64 B):=(Za BK261.out 0).trans rfl;have aQ:bp.cell? ⟨m,1,none⟩=some (.slice P l0_1.length D):=(Za BK261.out 1).trans rfl;have aT:=Zb BK261.out 0;have aU:=Zb BK261.out 1))
        repeat(go_quiet (first|(go_at_call 32;(with_reducible refine(slices_Clone_int_int_32.calls _ _ l1 bo _ ?sa ?sb ce.out).mono ?_);(case sa=>exact zC (Kd.C_below bz.out HB.out));(case sb=>exact bx.out);rintro e bp ⟨cb,rfl,ho0,hb⟩;have br:=aM (Kd.R_lower ho0 (Zc zz102));replace BK261:=aM (Zf (g:=m) (o:= .cells #[.int .i64 B,.slice P l0_1.length D] 24 (0,0)) (zB BK261) hb);replace HB:=aM (Zd zz102 hb);(try clear hb);(try clear aF);(try clear hk);(try clear hi);(try clear ho0);have aP:bp.cell? ⟨m,0,none⟩=some (.int .i64 B):=(Za BK261.out 0).trans rfl;have aQ:bp.cell? ⟨m,1,none⟩=some (.slice P l0_1.length D):=(Za BK261.out 1).trans rfl;have aT:=Zb BK261.out 0;have aU:=Zb BK261.out 1));try go_wp2_with (first|(go_at_call 32;(with_reducible refine(slices_Clone_int_int_32.calls _ _ l1 bo _ ?sa ?sb ce.out).mono ?_);(case sa=>exact zC (Kd.C_below bz.out HB.out));(case sb=>exact bx.out);rintro e bp ⟨cb,rfl,ho0,hb⟩;have br:=aM (Kd.R_lower ho0 (Zc zz102));replace BK261:=aM (Zf (g:=m) (o:= .cells #[.int .i64 B,.slice P l0_1.length D] 24 (0,0)) (zB BK261) hb);replace HB:=aM (Zd zz102 hb);(try clear hb);(try clear aF);(try clear hk);(try clear hi);(try clear ho0);have aP:bp.cell? ⟨m,0,none⟩=some (.int .i64 B):=(Za BK261.out 0).trans rfl;have aQ:bp.cell? ⟨m,1,none⟩=some (.slice P l0_1.length D):=(Za BK261.out 1).trans rfl;have aT:=Zb BK261.out 0;have aU:=Zb BK261.out 1)))
        go_loopg [8,35] bT (fun kq v8 cH w'=>∃(aa:List Int) (x35_4:Int),cH= .int .i64 x35_4∧Aside0 (perm_Sift.l0 kq aa l0_1 (l0_1.length:Int) x35_4 B l0_1=some (r1,r2,r3))∧Aside0 (kq≤bT)∧Aside0 (Kd.R (Kd.int .i64) 3 w' w.heap.size (fun _=>True) v8 aa)∧Aside0 (w'.heap[m]? =some (.cells #[.int .i64 B,(.slice P l0_1.length D)] 24 (0,0)))∧Aside0 (Below w.heap.size w w'))
        case atStart=>exact⟨(bo),(0),zz157,H',⟨Nat.le_refl _⟩,⟨(zR br)⟩,⟨(zB BK261)⟩,⟨zz102⟩⟩
        case round =>
         clear H';(try clear c1);(try clear c2);(try clear p2);(try clear c8);(try clear aE);(try clear a2);(try clear aY);(try clear al);(try clear aZ);(try clear bA);(try clear a1);(try clear bI);(try clear bJ);(try clear aN);(try clear aO);(try clear aP);(try clear aQ);(try clear ay);(try clear az);(try clear aR);(try clear aS);(try clear aT);(try clear aU);(try clear aA);(try clear aB);(try clear p2);obtain⟨aa,x35_4,rfl,HA,HK4,HO_8,BK261,HB⟩:=hrel
         cases gk with
         |zero=>exact absurd HA.out (by simp[perm_Sift.l0])
         | succ k4=>
          have H:=HA.out;clear HA;simp only[perm_Sift.l0] at H
          by_cases bB:x35_4<(l0_1.length:Int)
          ·rw [if_pos bB] at H;have cj:=dT bB;clear bB
           by_cases bU:0≤x35_4
           ·rw [if_pos bU] at H;have cz:=dT bU;clear bU
            by_cases bV:x35_4<(l0_1.length:Int)
            ·rw [if_pos bV] at H;have cA:=dT bV;clear bV
             by_cases bW:0≤((Ze l0_1 x35_4).f0)
             ·rw [if_pos bW] at H;have cB:=dT bW;clear bW
              by_cases bX:((Ze l0_1 x35_4).f0)<(aa.length:Int)
              ·rw [if_pos bX] at H;have cC:=dT bX;clear bX;replace H:=oB H;obtain⟨U,b1,H⟩:=H;replace H:(if U<0 then(some (aa,x35_4,0)) else(if 0≤U then(if U<(((Ze l0_1 x35_4).f2).length:Int) then((perm_inverse.f k4 (Zo ((Ze l0_1 x35_4).f2) U)).bind fun aH=>((perm_then.f k4 aa aH).bind fun aI=>(perm_Sift.l0 k4 aI l0_1 (l0_1.length:Int) (wrap64 (x35_4+1)) B l0_1))) else(none)) else(none)))=some (r1,r2,r3):=H;have bw:=aM b1;clear b1
               by_cases bC:U<0
               ·rw[if_pos bC] at H;have ck:=dT bC;clear bC;simp only[Option.some.injEq,Prod.mk.injEq] at H;obtain⟨rfl,rfl,rfl⟩:=H;have aV:0≤(x35_4:Int):=oD zz156;have aW:x35_4<(l0_1.length:Int):=oD zz156;obtain⟨I,A267_1,c267_1,X,c267_2,bK,ag,ah,ai,aq,an,ar,ao⟩:=Z4 aL.out x35_4 aV aW
                cases bK;replace ag:=(HB.out.cell (wB w _ ag)).trans ag;replace ah:=(HB.out.cell (wB w _ ah)).trans ah;replace ai:=(HB.out.cell (wB w _ ai)).trans ai;have af:=aM an;have ae:=aM aq;clear an aq;have aD:=aM ao;have bH:=aM ar;clear ao ar;replace aV:=eq_true aV;replace aW:=eq_true aW
                go_wp2_with (first|((with_reducible refine Zq (N:=10) rfl ?_);(try(refine Zv (by rfl) ?_;dsimp only));refine Zx ?hg (N:=10) ?hd (cs:= #[.int .i64 0,.slice none 0 0,.slice none 0 0]) (t:=56) ?hr ?_;(case hd=>rfl);(case hg=>rfl);(case hr=>first|(go_simp;done)|(go_simp;rfl));intro gb268 hg aJ hbox hb;replace HO_8:=aM (Kd.R_below (zR HO_8) hb);have BK268:=aM (hbox);have ab:=aM ((by rw[hg];exact(Zc zz102):w.heap.size≤gb268));have GE268:=aM ((by rw[hg];exact(Zc zz102):w.heap.size≤gb268));replace HB:=aM (Zd zz102 hb);have NB261_268:=aM ((by rw[hg];exact Nat.ne_of_lt (Zw (g:=m) (o:= .cells #[.int .i64 B,.slice (some I) l0_1.length D] 24 (0,0)) (zB BK261)):m≠gb268));have J:=aM ((by rw[hg];exact Nat.ne_of_gt (Zw (g:=m) (o:= .cells #[.int .i64 B,.slice (some I) l0_1.length D] 24 (0,0)) (zB BK261)):gb268≠m));replace BK261:=aM (Zf (g:=m) (o:= .cells #[.int .i64 B,.slice (some I) l0_1.length D] 24 (0,0)) (zB BK261) hb);clear hb hbox hg;have bM:=J.out;have bO:=NB261_268.out;have a7:aJ.cell? ⟨gb268,0,none⟩=some (.int .i64 0):=(Za BK268.out 0).trans rfl;have a8:aJ.cell? ⟨gb268,1,none⟩=some (.slice none 0 0):=(Za BK268.out 1).trans rfl;have a9:aJ.cell? ⟨gb268,2,none⟩=some (.slice none 0 0):=(Za BK268.out 2).trans rfl;have bg:=Zb BK268.out 0;have bh:=Zb BK268.out 1;have bi:=Zb BK268.out 2;obtain⟨b4,b8,a4⟩:=Kd.R_slice HO_8.out;subst a4;have Y:0≤(((Ze l0_1 x35_4).f0):Int):=oD zz156;have Z:((Ze l0_1 x35_4).f0)<(aa.length:Int):=oD zz156;obtain⟨L,am,z⟩:=Kd.at_int (Kd.R_reads' HO_8.out).2.2 ((Ze l0_1 x35_4).f0) Y Z;cases am;have hn269_0:L.block≠gb268:=Kd.own_blk (Kd.R_ne HO_8.out BK268.out (by decide));have hn269_1:L.block≠gb268:=Kd.own_blk (Kd.R_ne HO_8.out BK268.out (by decide));have hn269_2:L.block≠gb268:=Kd.own_blk (Kd.R_ne HO_8.out BK268.out (by decide));replace z:=(cell_far (p:=⟨gb268,0,none⟩) zz130 (.int .i64 ((Ze l0_1 x35_4).f0))).trans z;replace z:=(cell_far (p:=⟨gb268,1,none⟩) zz131 (.slice A267_1 ((Ze l0_1 x35_4).f1).length c267_1)).trans z;replace z:=(cell_far (p:=⟨gb268,2,none⟩) zz132 (.slice X ((Ze l0_1 x35_4).f2).length c267_2)).trans z;(try have au:=fun(n_:Nat)=>(show(((((aJ.drewN n_).setCell ⟨gb268,0,none⟩ (.int .i64 ((Ze l0_1 x35_4).f0))).setCell ⟨gb268,1,none⟩ (.slice A267_1 ((Ze l0_1 x35_4).f1).length c267_1)).setCell ⟨gb268,2,none⟩ (.slice X ((Ze l0_1 x35_4).f2).length c267_2))).cell? _=some _ from z));clear hn269_0;clear hn269_1;clear hn269_2;replace Y:=eq_true Y;replace Z:=eq_true Z)|(go_at_call 51;(with_reducible refine(slIx.calls k4 _ _ ((Ze l0_1 x35_4).f1) (rd aa ((Ze l0_1 x35_4).f0)) U _ ?sa ?sb bw.out).mono ?_);(case sa=>exact Kd.C_below af.out zz79);(case sb=>exact ae.out);rintro e w' ⟨rfl,⟨nd,rfl⟩⟩;(try first|exact⟨rfl,_,World.drewN_drewN _ _ _⟩|exact⟨rfl,_,Eq.trans (World.drewN_drewN _ _ _) (congrArg (World.drewN _) (Nat.add_assoc _ _ _))⟩)))
                repeat(go_quiet (first|((with_reducible refine Zq (N:=10) rfl ?_);(try(refine Zv (by rfl) ?_;dsimp only));refine Zx ?hg (N:=10) ?hd (cs:= #[.int .i64 0,.slice none 0 0,.slice none 0 0]) (t:=56) ?hr ?_;(case hd=>rfl);(case hg=>rfl);(case hr=>first|(go_simp;done)|(go_simp;rfl));intro gb268 hg aJ hbox hb;replace HO_8:=aM (Kd.R_below (zR HO_8) hb);have BK268:=aM (hbox);have ab:=aM ((by rw[hg];exact(Zc zz102):w.heap.size≤gb268));have GE268:=aM ((by rw[hg];exact(Zc zz102):w.heap.size≤gb268));replace HB:=aM (Zd zz102 hb);have NB261_268:=aM ((by rw[hg];exact Nat.ne_of_lt (Zw (g:=m) (o:= .cells #[.int .i64 B,.slice (some I) l0_1.length D] 24 (0,0)) (zB BK261)):m≠gb268));have J:=aM ((by rw[hg];exact Nat.ne_of_gt (Zw (g:=m) (o:= .cells #[.int .i64 B,.slice (some I) l0_1.length D] 24 (0,0)) (zB BK261)):gb268≠m));replace BK261:=aM (Zf (g:=m) (o:= .cells #[.int .i64 B,.slice (some I) l0_1.length D] 24 (0,0)) (zB BK261) hb);clear hb hbox hg;have bM:=J.out;have bO:=NB261_268.out;have a7:aJ.cell? ⟨gb268,0,none⟩=some (.int .i64 0):=(Za BK268.out 0).trans rfl;have a8:aJ.cell? ⟨gb268,1,none⟩=some (.slice none 0 0):=(Za BK268.out 1).trans rfl;have a9:aJ.cell? ⟨gb268,2,none⟩=some (.slice none 0 0):=(Za BK268.out 2).trans rfl;have bg:=Zb BK268.out 0;have bh:=Zb BK268.out 1;have bi:=Zb BK268.out 2;obtain⟨b4,b8,a4⟩:=Kd.R_slice HO_8.out;subst a4;have Y:0≤(((Ze l0_1 x35_4).f0):Int):=oD zz156;have Z:((Ze l0_1 x35_4).f0)<(aa.length:Int):=oD zz156;obtain⟨L,am,z⟩:=Kd.at_int (Kd.R_reads' HO_8.out).2.2 ((Ze l0_1 x35_4).f0) Y Z;cases am;have hn269_0:L.block≠gb268:=Kd.own_blk (Kd.R_ne HO_8.out BK268.out (by decide));have hn269_1:L.block≠gb268:=Kd.own_blk (Kd.R_ne HO_8.out BK268.out (by decide));have hn269_2:L.block≠gb268:=Kd.own_blk (Kd.R_ne HO_8.out BK268.out (by decide));replace z:=(cell_far (p:=⟨gb268,0,none⟩) zz130 (.int .i64 ((Ze l0_1 x35_4).f0))).trans z;replace z:=(cell_far (p:=⟨gb268,1,none⟩) zz131 (.slice A267_1 ((Ze l0_1 x35_4).f1).length c267_1)).trans z;replace z:=(cell_far (p:=⟨gb268,2,none⟩) zz132 (.slice X ((Ze l0_1 x35_4).f2).length c267_2)).trans z;(try have au:=fun(n_:Nat)=>(show(((((aJ.drewN n_).setCell ⟨gb268,0,none⟩ (.int .i64 ((Ze l0_1 x35_4).f0))).setCell ⟨gb268,1,none⟩ (.slice A267_1 ((Ze l0_1 x35_4).f1).length c267_1)).setCell ⟨gb268,2,none⟩ (.slice X ((Ze l0_1 x35_4).f2).length c267_2))).cell? _=some _ from z));clear hn269_0;clear hn269_1;clear hn269_2;replace Y:=eq_true Y;replace Z:=eq_true Z)|(go_at_call 51;(with_reducible refine(slIx.calls k4 _ _ ((Ze l0_1 x35_4).f1) (rd aa ((Ze l0_1 x35_4).f0)) U _ ?sa ?sb bw.out).mono ?_);(case sa=>exact Kd.C_below af.out zz79);(case sb=>exact ae.out);rintro e w' ⟨rfl,⟨nd,rfl⟩⟩;(try first|exact⟨rfl,_,World.drewN_drewN _ _ _⟩|exact⟨rfl,_,Eq.trans (World.drewN_drewN _ _ _) (congrArg (World.drewN _) (Nat.add_assoc _ _ _))⟩)));try go_wp2_with (first|((with_reducible refine Zq (N:=10) rfl ?_);(try(refine Zv (by rfl) ?_;dsimp only));refine Zx ?hg (N:=10) ?hd (cs:= #[.int .i64 0,.slice none 0 0,.slice none 0 0]) (t:=56) ?hr ?_;(case hd=>rfl);(case hg=>rfl);(case hr=>first|(go_simp;done)|(go_simp;rfl));intro gb268 hg aJ hbox hb;replace HO_8:=aM (Kd.R_below (zR HO_8) hb);have BK268:=aM (hbox);have ab:=aM ((by rw[hg];exact(Zc zz102):w.heap.size≤gb268));have GE268:=aM ((by rw[hg];exact(Zc zz102):w.heap.size≤gb268));replace HB:=aM (Zd zz102 hb);have NB261_268:=aM ((by rw[hg];exact Nat.ne_of_lt (Zw (g:=m) (o:= .cells #[.int .i64 B,.slice (some I) l0_1.length D] 24 (0,0)) (zB BK261)):m≠gb268));have J:=aM ((by rw[hg];exact Nat.ne_of_gt (Zw (g:=m) (o:= .cells #[.int .i64 B,.slice (some I) l0_1.length D] 24 (0,0)) (zB BK261)):gb268≠m));replace BK261:=aM (Zf (g:=m) (o:= .cells #[.int .i64 B,.slice (some I) l0_1.length D] 24 (0,0)) (zB BK261) hb);clear hb hbox hg;have bM:=J.out;have bO:=NB261_268.out;have a7:aJ.cell? ⟨gb268,0,none⟩=some (.int .i64 0):=(Za BK268.out 0).trans rfl;have a8:aJ.cell? ⟨gb268,1,none⟩=some (.slice none 0 0):=(Za BK268.out 1).trans rfl;have a9:aJ.cell? ⟨gb268,2,none⟩=some (.slice none 0 0):=(Za BK268.out 2).trans rfl;have bg:=Zb BK268.out 0;have bh:=Zb BK268.out 1;have bi:=Zb BK268.out 2;obtain⟨b4,b8,a4⟩:=Kd.R_slice HO_8.out;subst a4;have Y:0≤(((Ze l0_1 x35_4).f0):Int):=oD zz156;have Z:((Ze l0_1 x35_4).f0)<(aa.length:Int):=oD zz156;obtain⟨L,am,z⟩:=Kd.at_int (Kd.R_reads' HO_8.out).2.2 ((Ze l0_1 x35_4).f0) Y Z;cases am;have hn269_0:L.block≠gb268:=Kd.own_blk (Kd.R_ne HO_8.out BK268.out (by decide));have hn269_1:L.block≠gb268:=Kd.own_blk (Kd.R_ne HO_8.out BK268.out (by decide));have hn269_2:L.block≠gb268:=Kd.own_blk (Kd.R_ne HO_8.out BK268.out (by decide));replace z:=(cell_far (p:=⟨gb268,0,none⟩) zz130 (.int .i64 ((Ze l0_1 x35_4).f0))).trans z;replace z:=(cell_far (p:=⟨gb268,1,none⟩) zz131 (.slice A267_1 ((Ze l0_1 x35_4).f1).length c267_1)).trans z;replace z:=(cell_far (p:=⟨gb268,2,none⟩) zz132 (.slice X ((Ze l0_1 x35_4).f2).length c267_2)).trans z;(try have au:=fun(n_:Nat)=>(show(((((aJ.drewN n_).setCell ⟨gb268,0,none⟩ (.int .i64 ((Ze l0_1 x35_4).f0))).setCell ⟨gb268,1,none⟩ (.slice A267_1 ((Ze l0_1 x35_4).f1).length c267_1)).setCell ⟨gb268,2,none⟩ (.slice X ((Ze l0_1 x35_4).f2).length c267_2))).cell? _=some _ from z));clear hn269_0;clear hn269_1;clear hn269_2;replace Y:=eq_true Y;replace Z:=eq_true Z)|(go_at_call 51;(with_reducible refine(slIx.calls k4 _ _ ((Ze l0_1 x35_4).f1) (rd aa ((Ze l0_1 x35_4).f0)) U _ ?sa ?sb bw.out).mono ?_);(case sa=>exact Kd.C_below af.out zz79);(case sb=>exact ae.out);rintro e w' ⟨rfl,⟨nd,rfl⟩⟩;(try first|exact⟨rfl,_,World.drewN_drewN _ _ _⟩|exact⟨rfl,_,Eq.trans (World.drewN_drewN _ _ _) (congrArg (World.drewN _) (Nat.add_assoc _ _ _))⟩))))
                go_ret3
                exact⟨_,by first|rfl|(simp[Zm,Zl]<;>rfl)|(simp[*,Zm,Zl]<;>rfl),by(with_reducible repeat(first|apply Kd.R_alloc|apply Kd.R_drewN|apply Kd.R_drew));exact Kd.R_mono (Kd.R_far (p:=⟨gb268,2,none⟩) (Kd.R_far (p:=⟨gb268,1,none⟩) (Kd.R_far (p:=⟨gb268,0,none⟩) (Kd.R_types HO_8.out BK268.out (by decide)) (fun _ hk=>hk.2) (.int .i64 ((Ze l0_1 x35_4).f0))) (fun _ hk=>hk.2) (.slice A267_1 ((Ze l0_1 x35_4).f1).length c267_1)) (fun _ hk=>hk.2) (.slice X ((Ze l0_1 x35_4).f2).length c267_2)) (fun _ hk=>trivial),by repeat(first|(with_reducible first|exact HB.out|apply Zh|apply Zg|apply Zj|refine Zi ?_ GE261.out|refine Zi ?_ GE268.out)|exact HB.out)⟩
               rw[if_neg bC] at H;have ck:=dF bC;clear bC
               by_cases bY:0≤U
               ·rw [if_pos bY] at H;have cD:=dT bY;clear bY
                by_cases bZ:U<(((Ze l0_1 x35_4).f2).length:Int)
                ·rw[if_pos bZ] at H;have cE:=dT bZ;clear bZ;replace H:=oB H;obtain⟨aH,b2,H⟩:=H;replace H:((perm_then.f k4 aa aH).bind fun aI=>(perm_Sift.l0 k4 aI l0_1 (l0_1.length:Int) (wrap64 (x35_4+1)) B l0_1))=some (r1,r2,r3):=H;have cf:=aM b2;clear b2;replace H:=oB H;obtain⟨aI,b3,H⟩:=H;replace H:(perm_Sift.l0 k4 aI l0_1 (l0_1.length:Int) (wrap64 (x35_4+1)) B l0_1)=some (r1,r2,r3):=H;have cg:=aM b3;clear b3;have H':=aM H;clear H;have aV:0≤(x35_4:Int):=oD zz156;have aW:x35_4<(l0_1.length:Int):=oD zz156;obtain⟨I,A267_1,c267_1,X,c267_2,bK,ag,ah,ai,aq,an,ar,ao⟩:=Z4 aL.out x35_4 aV aW
                 cases bK;replace ag:=(HB.out.cell (wB w _ ag)).trans ag;replace ah:=(HB.out.cell (wB w _ ah)).trans ah;replace ai:=(HB.out.cell (wB w _ ai)).trans ai;have af:=aM an;have ae:=aM aq;clear an aq;have aD:=aM ao;have bH:=aM ar;clear ao ar;replace aV:=eq_true aV;replace aW:=eq_true aW
                 go_wp2_with (first|((with_reducible refine Zq (N:=10) rfl ?_);(try(refine Zv (by rfl) ?_;dsimp only));refine Zx ?hg (N:=10) ?hd (cs:= #[.int .i64 0,.slice none 0 0,.slice none 0 0]) (t:=56) ?hr ?_;(case hd=>rfl);(case hg=>rfl);(case hr=>first|(go_simp;done)|(go_simp;rfl));intro gb268 hg ax hbox hb;replace HO_8:=aM (Kd.R_below (zR HO_8) hb);have BK268:=aM (hbox);have ab:=aM ((by rw[hg];exact(Zc zz102):w.heap.size≤gb268));have GE268:=aM ((by rw[hg];exact(Zc zz102):w.heap.size≤gb268));replace HB:=aM (Zd zz102 hb);have NB261_268:=aM ((by rw[hg];exact Nat.ne_of_lt (Zw (g:=m) (o:= .cells #[.int .i64 B,.slice (some I) l0_1.length D] 24 (0,0)) (zB BK261)):m≠gb268));have J:=aM ((by rw[hg];exact Nat.ne_of_gt (Zw (g:=m) (o:= .cells #[.int .i64 B,.slice (some I) l0_1.length D] 24 (0,0)) (zB BK261)):gb268≠m));replace BK261:=aM (Zf (g:=m) (o:= .cells #[.int .i64 B,.slice (some I) l0_1.length D] 24 (0,0)) (zB BK261) hb);clear hb hbox hg;have bN:=J.out;have bP:=NB261_268.out;have ba:ax.cell? ⟨gb268,0,none⟩=some (.int .i64 0):=(Za BK268.out 0).trans rfl;have bb:ax.cell? ⟨gb268,1,none⟩=some (.slice none 0 0):=(Za BK268.out 1).trans rfl;have bc:ax.cell? ⟨gb268,2,none⟩=some (.slice none 0 0):=(Za BK268.out 2).trans rfl;have bj:=Zb BK268.out 0;have bk:=Zb BK268.out 1;have bm:=Zb BK268.out 2;obtain⟨b5,b9,a5⟩:=Kd.R_slice HO_8.out;subst a5;have Y:0≤(((Ze l0_1 x35_4).f0):Int):=oD zz156;have Z:((Ze l0_1 x35_4).f0)<(aa.length:Int):=oD zz156;obtain⟨L,am,z⟩:=Kd.at_int (Kd.R_reads' HO_8.out).2.2 ((Ze l0_1 x35_4).f0) Y Z;cases am;have hn269_0:L.block≠gb268:=Kd.own_blk (Kd.R_ne HO_8.out BK268.out (by decide));have hn269_1:L.block≠gb268:=Kd.own_blk (Kd.R_ne HO_8.out BK268.out (by decide));have hn269_2:L.block≠gb268:=Kd.own_blk (Kd.R_ne HO_8.out BK268.out (by decide));replace z:=(cell_far (p:=⟨gb268,0,none⟩) zz130 (.int .i64 ((Ze l0_1 x35_4).f0))).trans z;replace z:=(cell_far (p:=⟨gb268,1,none⟩) zz131 (.slice A267_1 ((Ze l0_1 x35_4).f1).length c267_1)).trans z;replace z:=(cell_far (p:=⟨gb268,2,none⟩) zz132 (.slice X ((Ze l0_1 x35_4).f2).length c267_2)).trans z;(try have au:=fun(n_:Nat)=>(show(((((ax.drewN n_).setCell ⟨gb268,0,none⟩ (.int .i64 ((Ze l0_1 x35_4).f0))).setCell ⟨gb268,1,none⟩ (.slice A267_1 ((Ze l0_1 x35_4).f1).length c267_1)).setCell ⟨gb268,2,none⟩ (.slice X ((Ze l0_1 x35_4).f2).length c267_2))).cell? _=some _ from z));clear hn269_0;clear hn269_1;clear hn269_2;replace Y:=eq_true Y;replace Z:=eq_true Z)|(go_at_call 51;(with_reducible refine(slIx.calls k4 _ _ ((Ze l0_1 x35_4).f1) (rd aa ((Ze l0_1 x35_4).f0)) U _ ?sa ?sb bw.out).mono ?_);(case sa=>exact Kd.C_below af.out zz79);(case sb=>exact ae.out);rintro e w' ⟨rfl,⟨nd,rfl⟩⟩;(try first|exact⟨rfl,_,World.drewN_drewN _ _ _⟩|exact⟨rfl,_,Eq.trans (World.drewN_drewN _ _ _) (congrArg (World.drewN _) (Nat.add_assoc _ _ _))⟩);have av:0≤(U:Int):=oD zz156;have aw:U<(((Ze l0_1 x35_4).f2).length:Int):=oD zz156;obtain⟨ad271,bu,bv,a3,hx271_0,ad,ac⟩:=ZY aD.out U av aw;cases a3;have hn271_0:ad271.block≠gb268:=Nat.ne_of_lt (Nat.lt_of_lt_of_le zz146 ab.out);have hn271_1:ad271.block≠gb268:=Nat.ne_of_lt (Nat.lt_of_lt_of_le zz146 ab.out);have hn271_2:ad271.block≠gb268:=Nat.ne_of_lt (Nat.lt_of_lt_of_le zz146 ab.out);replace hx271_0:=(HB.out.cell (wB w _ hx271_0)).trans hx271_0;have ak:=aM ac;have aj:=aM ad;clear ac ad;replace hx271_0:=(cell_far (p:=⟨gb268,0,none⟩) zz133 (.int .i64 ((Ze l0_1 x35_4).f0))).trans hx271_0;replace hx271_0:=(cell_far (p:=⟨gb268,1,none⟩) zz134 (.slice A267_1 ((Ze l0_1 x35_4).f1).length c267_1)).trans hx271_0;replace hx271_0:=(cell_far (p:=⟨gb268,2,none⟩) zz135 (.slice (some ad271) ((Ze l0_1 x35_4).f2).length c267_2)).trans hx271_0;(try have bn:=fun(n_:Nat)=>(show(((((ax.drewN n_).setCell ⟨gb268,0,none⟩ (.int .i64 ((Ze l0_1 x35_4).f0))).setCell ⟨gb268,1,none⟩ (.slice A267_1 ((Ze l0_1 x35_4).f1).length c267_1)).setCell ⟨gb268,2,none⟩ (.slice (some ad271) ((Ze l0_1 x35_4).f2).length c267_2))).cell? _=some _ from hx271_0));clear hn271_0;clear hn271_1;clear hn271_2;replace av:=eq_true av;replace aw:=eq_true aw)|(go_at_call 43;(with_reducible refine(perm_inverse.calls k4 _ _ (Zo ((Ze l0_1 x35_4).f2) U) aH _ ?sa ?sb cf.out).mono ?_);(case sa=>exact Kd.C_below ak.out zz79);(case sb=>exact aj.out);rintro e cx ⟨cc,rfl,ho0,hb⟩;have O:=aM (Kd.R_lower (Kd.R_new' ho0 (Kd.R_lt zz51)) (Zc zz79));replace HO_8:=aM (Kd.R_elder' zz51 (Kd.R_base ho0) hb);replace BK261:=aM (Zf (g:=m) (o:= .cells #[.int .i64 B,.slice (some I) l0_1.length D] 24 (0,0)) zz43 hb);replace BK268:=aM (Zf (g:=gb268) (o:= .cells #[.int .i64 ((Ze l0_1 x35_4).f0),.slice A267_1 ((Ze l0_1 x35_4).f1).length c267_1,.slice (some ad271) ((Ze l0_1 x35_4).f2).length c267_2] 56 (0,0)) zz8 hb);replace HB:=aM (Zd zz79 hb);(try clear hb);(try clear aF);(try clear hk);(try clear hi);(try clear ho0);obtain⟨b6,ca,a6⟩:=Kd.R_slice O.out;subst a6)|(go_at_call 35;(with_reducible refine(perm_then.calls k4 _ _ aa _ _ aH aI _ ?sa ?sb ?sc ?sd cg.out).mono ?_);(case sa=>exact zC ((Kd.R_reads' HO_8.out).2.2));(case sb=>exact(Kd.R_reads' HO_8.out).2.1);(case sc=>exact zC ((Kd.R_reads' O.out).2.2));(case sd=>exact(Kd.R_reads' O.out).2.1);rintro e cy ⟨cd,rfl,ho0,hb⟩;have bs:=aM (Kd.R_lower (Kd.R_new' (Kd.R_new' ho0 (Kd.R_lt (zR HO_8))) (Kd.R_lt (zR O))) (Zc zz79));replace HO_8:=aM (Kd.R_elder' (zR HO_8) (Kd.R_base ho0) hb);replace O:=aM (Kd.R_elder' (zR O) (Kd.R_base ho0) hb);replace BK261:=aM (Zf (g:=m) (o:= .cells #[.int .i64 B,.slice (some I) l0_1.length D] 24 (0,0)) (zB BK261) hb);replace BK268:=aM (Zf (g:=gb268) (o:= .cells #[.int .i64 ((Ze l0_1 x35_4).f0),.slice A267_1 ((Ze l0_1 x35_4).f1).length c267_1,.slice (some ad271) ((Ze l0_1 x35_4).f2).length c267_2] 56 (0,0)) (zB BK268) hb);replace HB:=aM (Zd zz79 hb);(try clear hb);(try clear aF);(try clear hk);(try clear hi);(try clear ho0)))
                 repeat(go_quiet (first|((with_reducible refine Zq (N:=10) rfl ?_);(try(refine Zv (by rfl) ?_;dsimp only));refine Zx ?hg (N:=10) ?hd (cs:= #[.int .i64 0,.slice none 0 0,.slice none 0 0]) (t:=56) ?hr ?_;(case hd=>rfl);(case hg=>rfl);(case hr=>first|(go_simp;done)|(go_simp;rfl));intro gb268 hg ax hbox hb;replace HO_8:=aM (Kd.R_below (zR HO_8) hb);have BK268:=aM (hbox);have ab:=aM ((by rw[hg];exact(Zc zz102):w.heap.size≤gb268));have GE268:=aM ((by rw[hg];exact(Zc zz102):w.heap.size≤gb268));replace HB:=aM (Zd zz102 hb);have NB261_268:=aM ((by rw[hg];exact Nat.ne_of_lt (Zw (g:=m) (o:= .cells #[.int .i64 B,.slice (some I) l0_1.length D] 24 (0,0)) (zB BK261)):m≠gb268));have J:=aM ((by rw[hg];exact Nat.ne_of_gt (Zw (g:=m) (o:= .cells #[.int .i64 B,.slice (some I) l0_1.length D] 24 (0,0)) (zB BK261)):gb268≠m));replace BK261:=aM (Zf (g:=m) (o:= .cells #[.int .i64 B,.slice (some I) l0_1.length D] 24 (0,0)) (zB BK261) hb);clear hb hbox hg;have bN:=J.out;have bP:=NB261_268.out;have ba:ax.cell? ⟨gb268,0,none⟩=some (.int .i64 0):=(Za BK268.out 0).trans rfl;have bb:ax.cell? ⟨gb268,1,none⟩=some (.slice none 0 0):=(Za BK268.out 1).trans rfl;have bc:ax.cell? ⟨gb268,2,none⟩=some (.slice none 0 0):=(Za BK268.out 2).trans rfl;have bj:=Zb BK268.out 0;have bk:=Zb BK268.out 1;have bm:=Zb BK268.out 2;obtain⟨b5,b9,a5⟩:=Kd.R_slice HO_8.out;subst a5;have Y:0≤(((Ze l0_1 x35_4).f0):Int):=oD zz156;have Z:((Ze l0_1 x35_4).f0)<(aa.length:Int):=oD zz156;obtain⟨L,am,z⟩:=Kd.at_int (Kd.R_reads' HO_8.out).2.2 ((Ze l0_1 x35_4).f0) Y Z;cases am;have hn269_0:L.block≠gb268:=Kd.own_blk (Kd.R_ne HO_8.out BK268.out (by decide));have hn269_1:L.block≠gb268:=Kd.own_blk (Kd.R_ne HO_8.out BK268.out (by decide));have hn269_2:L.block≠gb268:=Kd.own_blk (Kd.R_ne HO_8.out BK268.out (by decide));replace z:=(cell_far (p:=⟨gb268,0,none⟩) zz130 (.int .i64 ((Ze l0_1 x35_4).f0))).trans z;replace z:=(cell_far (p:=⟨gb268,1,none⟩) zz131 (.slice A267_1 ((Ze l0_1 x35_4).f1).length c267_1)).trans z;replace z:=(cell_far (p:=⟨gb268,2,none⟩) zz132 (.slice X ((Ze l0_1 x35_4).f2).length c267_2)).trans z;(try have au:=fun(n_:Nat)=>(show(((((ax.drewN n_).setCell ⟨gb268,0,none⟩ (.int .i64 ((Ze l0_1 x35_4).f0))).setCell ⟨gb268,1,none⟩ (.slice A267_1 ((Ze l0_1 x35_4).f1).length c267_1)).setCell ⟨gb268,2,none⟩ (.slice X ((Ze l0_1 x35_4).f2).length c267_2))).cell? _=some _ from z));clear hn269_0;clear hn269_1;clear hn269_2;replace Y:=eq_true Y;replace Z:=eq_true Z)|(go_at_call 51;(with_reducible refine(slIx.calls k4 _ _ ((Ze l0_1 x35_4).f1) (rd aa ((Ze l0_1 x35_4).f0)) U _ ?sa ?sb bw.out).mono ?_);(case sa=>exact Kd.C_below af.out zz79);(case sb=>exact ae.out);rintro e w' ⟨rfl,⟨nd,rfl⟩⟩;(try first|exact⟨rfl,_,World.drewN_drewN _ _ _⟩|exact⟨rfl,_,Eq.trans (World.drewN_drewN _ _ _) (congrArg (World.drewN _) (Nat.add_assoc _ _ _))⟩);have av:0≤(U:Int):=oD zz156;have aw:U<(((Ze l0_1 x35_4).f2).length:Int):=oD zz156;obtain⟨ad271,bu,bv,a3,hx271_0,ad,ac⟩:=ZY aD.out U av aw;cases a3;have hn271_0:ad271.block≠gb268:=Nat.ne_of_lt (Nat.lt_of_lt_of_le zz146 ab.out);have hn271_1:ad271.block≠gb268:=Nat.ne_of_lt (Nat.lt_of_lt_of_le zz146 ab.out);have hn271_2:ad271.block≠gb268:=Nat.ne_of_lt (Nat.lt_of_lt_of_le zz146 ab.out);replace hx271_0:=(HB.out.cell (wB w _ hx271_0)).trans hx271_0;have ak:=aM ac;have aj:=aM ad;clear ac ad;replace hx271_0:=(cell_far (p:=⟨gb268,0,none⟩) zz133 (.int .i64 ((Ze l0_1 x35_4).f0))).trans hx271_0;replace hx271_0:=(cell_far (p:=⟨gb268,1,none⟩) zz134 (.slice A267_1 ((Ze l0_1 x35_4).f1).length c267_1)).trans hx271_0;replace hx271_0:=(cell_far (p:=⟨gb268,2,none⟩) zz135 (.slice (some ad271) ((Ze l0_1 x35_4).f2).length c267_2)).trans hx271_0;(try have bn:=fun(n_:Nat)=>(show(((((ax.drewN n_).setCell ⟨gb268,0,none⟩ (.int .i64 ((Ze l0_1 x35_4).f0))).setCell ⟨gb268,1,none⟩ (.slice A267_1 ((Ze l0_1 x35_4).f1).length c267_1)).setCell ⟨gb268,2,none⟩ (.slice (some ad271) ((Ze l0_1 x35_4).f2).length c267_2))).cell? _=some _ from hx271_0));clear hn271_0;clear hn271_1;clear hn271_2;replace av:=eq_true av;replace aw:=eq_true aw)|(go_at_call 43;(with_reducible refine(perm_inverse.calls k4 _ _ (Zo ((Ze l0_1 x35_4).f2) U) aH _ ?sa ?sb cf.out).mono ?_);(case sa=>exact Kd.C_below ak.out zz79);(case sb=>exact aj.out);rintro e cx ⟨cc,rfl,ho0,hb⟩;have O:=aM (Kd.R_lower (Kd.R_new' ho0 (Kd.R_lt zz51)) (Zc zz79));replace HO_8:=aM (Kd.R_elder' zz51 (Kd.R_base ho0) hb);replace BK261:=aM (Zf (g:=m) (o:= .cells #[.int .i64 B,.slice (some I) l0_1.length D] 24 (0,0)) zz43 hb);replace BK268:=aM (Zf (g:=gb268) (o:= .cells #[.int .i64 ((Ze l0_1 x35_4).f0),.slice A267_1 ((Ze l0_1 x35_4).f1).length c267_1,.slice (some ad271) ((Ze l0_1 x35_4).f2).length c267_2] 56 (0,0)) zz8 hb);replace HB:=aM (Zd zz79 hb);(try clear hb);(try clear aF);(try clear hk);(try clear hi);(try clear ho0);obtain⟨b6,ca,a6⟩:=Kd.R_slice O.out;subst a6)|(go_at_call 35;(with_reducible refine(perm_then.calls k4 _ _ aa _ _ aH aI _ ?sa ?sb ?sc ?sd cg.out).mono ?_);(case sa=>exact zC ((Kd.R_reads' HO_8.out).2.2));(case sb=>exact(Kd.R_reads' HO_8.out).2.1);(case sc=>exact zC ((Kd.R_reads' O.out).2.2));(case sd=>exact(Kd.R_reads' O.out).2.1);rintro e cy ⟨cd,rfl,ho0,hb⟩;have bs:=aM (Kd.R_lower (Kd.R_new' (Kd.R_new' ho0 (Kd.R_lt (zR HO_8))) (Kd.R_lt (zR O))) (Zc zz79));replace HO_8:=aM (Kd.R_elder' (zR HO_8) (Kd.R_base ho0) hb);replace O:=aM (Kd.R_elder' (zR O) (Kd.R_base ho0) hb);replace BK261:=aM (Zf (g:=m) (o:= .cells #[.int .i64 B,.slice (some I) l0_1.length D] 24 (0,0)) (zB BK261) hb);replace BK268:=aM (Zf (g:=gb268) (o:= .cells #[.int .i64 ((Ze l0_1 x35_4).f0),.slice A267_1 ((Ze l0_1 x35_4).f1).length c267_1,.slice (some ad271) ((Ze l0_1 x35_4).f2).length c267_2] 56 (0,0)) (zB BK268) hb);replace HB:=aM (Zd zz79 hb);(try clear hb);(try clear aF);(try clear hk);(try clear hi);(try clear ho0)));try go_wp2_with (first|((with_reducible refine Zq (N:=10) rfl ?_);(try(refine Zv (by rfl) ?_;dsimp only));refine Zx ?hg (N:=10) ?hd (cs:= #[.int .i64 0,.slice none 0 0,.slice none 0 0]) (t:=56) ?hr ?_;(case hd=>rfl);(case hg=>rfl);(case hr=>first|(go_simp;done)|(go_simp;rfl));intro gb268 hg ax hbox hb;replace HO_8:=aM (Kd.R_below (zR HO_8) hb);have BK268:=aM (hbox);have ab:=aM ((by rw[hg];exact(Zc zz102):w.heap.size≤gb268));have GE268:=aM ((by rw[hg];exact(Zc zz102):w.heap.size≤gb268));replace HB:=aM (Zd zz102 hb);have NB261_268:=aM ((by rw[hg];exact Nat.ne_of_lt (Zw (g:=m) (o:= .cells #[.int .i64 B,.slice (some I) l0_1.length D] 24 (0,0)) (zB BK261)):m≠gb268));have J:=aM ((by rw[hg];exact Nat.ne_of_gt (Zw (g:=m) (o:= .cells #[.int .i64 B,.slice (some I) l0_1.length D] 24 (0,0)) (zB BK261)):gb268≠m));replace BK261:=aM (Zf (g:=m) (o:= .cells #[.int .i64 B,.slice (some I) l0_1.length D] 24 (0,0)) (zB BK261) hb);clear hb hbox hg;have bN:=J.out;have bP:=NB261_268.out;have ba:ax.cell? ⟨gb268,0,none⟩=some (.int .i64 0):=(Za BK268.out 0).trans rfl;have bb:ax.cell? ⟨gb268,1,none⟩=some (.slice none 0 0):=(Za BK268.out 1).trans rfl;have bc:ax.cell? ⟨gb268,2,none⟩=some (.slice none 0 0):=(Za BK268.out 2).trans rfl;have bj:=Zb BK268.out 0;have bk:=Zb BK268.out 1;have bm:=Zb BK268.out 2;obtain⟨b5,b9,a5⟩:=Kd.R_slice HO_8.out;subst a5;have Y:0≤(((Ze l0_1 x35_4).f0):Int):=oD zz156;have Z:((Ze l0_1 x35_4).f0)<(aa.length:Int):=oD zz156;obtain⟨L,am,z⟩:=Kd.at_int (Kd.R_reads' HO_8.out).2.2 ((Ze l0_1 x35_4).f0) Y Z;cases am;have hn269_0:L.block≠gb268:=Kd.own_blk (Kd.R_ne HO_8.out BK268.out (by decide));have hn269_1:L.block≠gb268:=Kd.own_blk (Kd.R_ne HO_8.out BK268.out (by decide));have hn269_2:L.block≠gb268:=Kd.own_blk (Kd.R_ne HO_8.out BK268.out (by decide));replace z:=(cell_far (p:=⟨gb268,0,none⟩) zz130 (.int .i64 ((Ze l0_1 x35_4).f0))).trans z;replace z:=(cell_far (p:=⟨gb268,1,none⟩) zz131 (.slice A267_1 ((Ze l0_1 x35_4).f1).length c267_1)).trans z;replace z:=(cell_far (p:=⟨gb268,2,none⟩) zz132 (.slice X ((Ze l0_1 x35_4).f2).length c267_2)).trans z;(try have au:=fun(n_:Nat)=>(show(((((ax.drewN n_).setCell ⟨gb268,0,none⟩ (.int .i64 ((Ze l0_1 x35_4).f0))).setCell ⟨gb268,1,none⟩ (.slice A267_1 ((Ze l0_1 x35_4).f1).length c267_1)).setCell ⟨gb268,2,none⟩ (.slice X ((Ze l0_1 x35_4).f2).length c267_2))).cell? _=some _ from z));clear hn269_0;clear hn269_1;clear hn269_2;replace Y:=eq_true Y;replace Z:=eq_true Z)|(go_at_call 51;(with_reducible refine(slIx.calls k4 _ _ ((Ze l0_1 x35_4).f1) (rd aa ((Ze l0_1 x35_4).f0)) U _ ?sa ?sb bw.out).mono ?_);(case sa=>exact Kd.C_below af.out zz79);(case sb=>exact ae.out);rintro e w' ⟨rfl,⟨nd,rfl⟩⟩;(try first|exact⟨rfl,_,World.drewN_drewN _ _ _⟩|exact⟨rfl,_,Eq.trans (World.drewN_drewN _ _ _) (congrArg (World.drewN _) (Nat.add_assoc _ _ _))⟩);have av:0≤(U:Int):=oD zz156;have aw:U<(((Ze l0_1 x35_4).f2).length:Int):=oD zz156;obtain⟨ad271,bu,bv,a3,hx271_0,ad,ac⟩:=ZY aD.out U av aw;cases a3;have hn271_0:ad271.block≠gb268:=Nat.ne_of_lt (Nat.lt_of_lt_of_le zz146 ab.out);have hn271_1:ad271.block≠gb268:=Nat.ne_of_lt (Nat.lt_of_lt_of_le zz146 ab.out);have hn271_2:ad271.block≠gb268:=Nat.ne_of_lt (Nat.lt_of_lt_of_le zz146 ab.out);replace hx271_0:=(HB.out.cell (wB w _ hx271_0)).trans hx271_0;have ak:=aM ac;have aj:=aM ad;clear ac ad;replace hx271_0:=(cell_far (p:=⟨gb268,0,none⟩) zz133 (.int .i64 ((Ze l0_1 x35_4).f0))).trans hx271_0;replace hx271_0:=(cell_far (p:=⟨gb268,1,none⟩) zz134 (.slice A267_1 ((Ze l0_1 x35_4).f1).length c267_1)).trans hx271_0;replace hx271_0:=(cell_far (p:=⟨gb268,2,none⟩) zz135 (.slice (some ad271) ((Ze l0_1 x35_4).f2).length c267_2)).trans hx271_0;(try have bn:=fun(n_:Nat)=>(show(((((ax.drewN n_).setCell ⟨gb268,0,none⟩ (.int .i64 ((Ze l0_1 x35_4).f0))).setCell ⟨gb268,1,none⟩ (.slice A267_1 ((Ze l0_1 x35_4).f1).length c267_1)).setCell ⟨gb268,2,none⟩ (.slice (some ad271) ((Ze l0_1 x35_4).f2).length c267_2))).cell? _=some _ from hx271_0));clear hn271_0;clear hn271_1;clear hn271_2;replace av:=eq_true av;replace aw:=eq_true aw)|(go_at_call 43;(with_reducible refine(perm_inverse.calls k4 _ _ (Zo ((Ze l0_1 x35_4).f2) U) aH _ ?sa ?sb cf.out).mono ?_);(case sa=>exact Kd.C_below ak.out zz79);(case sb=>exact aj.out);rintro e cx ⟨cc,rfl,ho0,hb⟩;have O:=aM (Kd.R_lower (Kd.R_new' ho0 (Kd.R_lt zz51)) (Zc zz79));replace HO_8:=aM (Kd.R_elder' zz51 (Kd.R_base ho0) hb);replace BK261:=aM (Zf (g:=m) (o:= .cells #[.int .i64 B,.slice (some I) l0_1.length D] 24 (0,0)) zz43 hb);replace BK268:=aM (Zf (g:=gb268) (o:= .cells #[.int .i64 ((Ze l0_1 x35_4).f0),.slice A267_1 ((Ze l0_1 x35_4).f1).length c267_1,.slice (some ad271) ((Ze l0_1 x35_4).f2).length c267_2] 56 (0,0)) zz8 hb);replace HB:=aM (Zd zz79 hb);(try clear hb);(try clear aF);(try clear hk);(try clear hi);(try clear ho0);obtain⟨b6,ca,a6⟩:=Kd.R_slice O.out;subst a6)|(go_at_call 35;(with_reducible refine(perm_then.calls k4 _ _ aa _ _ aH aI _ ?sa ?sb ?sc ?sd cg.out).mono ?_);(case sa=>exact zC ((Kd.R_reads' HO_8.out).2.2));(case sb=>exact(Kd.R_reads' HO_8.out).2.1);(case sc=>exact zC ((Kd.R_reads' O.out).2.2));(case sd=>exact(Kd.R_reads' O.out).2.1);rintro e cy ⟨cd,rfl,ho0,hb⟩;have bs:=aM (Kd.R_lower (Kd.R_new' (Kd.R_new' ho0 (Kd.R_lt (zR HO_8))) (Kd.R_lt (zR O))) (Zc zz79));replace HO_8:=aM (Kd.R_elder' (zR HO_8) (Kd.R_base ho0) hb);replace O:=aM (Kd.R_elder' (zR O) (Kd.R_base ho0) hb);replace BK261:=aM (Zf (g:=m) (o:= .cells #[.int .i64 B,.slice (some I) l0_1.length D] 24 (0,0)) (zB BK261) hb);replace BK268:=aM (Zf (g:=gb268) (o:= .cells #[.int .i64 ((Ze l0_1 x35_4).f0),.slice A267_1 ((Ze l0_1 x35_4).f1).length c267_1,.slice (some ad271) ((Ze l0_1 x35_4).f2).length c267_2] 56 (0,0)) (zB BK268) hb);replace HB:=aM (Zd zz79 hb);(try clear hb);(try clear aF);(try clear hk);(try clear hi);(try clear ho0))))
                 go_roundg k4
                 case measure=>have:=HJ3.out;have:=HJ10.out;have:=b7.out;have:=HK4.out;omega
                 case rel=>exact⟨(aI),(wrap64 (x35_4+1)),zz157,H',⟨(by have:=HJ3.out;have:=HJ10.out;have:=b7.out;have:=HK4.out;omega)⟩,⟨(by(with_reducible repeat(first|apply Kd.R_alloc|apply Kd.R_drewN|apply Kd.R_drew));exact Kd.R_mono bs.out (fun _ hk=>trivial))⟩,⟨(zB BK261)⟩,⟨zz79⟩⟩
                rw[if_neg bZ] at H
                exact absurd H (by simp)
               rw[if_neg bY] at H
               exact absurd H (by simp)
              rw[if_neg bX] at H
              exact absurd H (by simp)
             rw[if_neg bW] at H
             exact absurd H (by simp)
            rw[if_neg bV] at H
            exact absurd H (by simp)
           rw[if_neg bU] at H
           exact absurd H (by simp)
          rw[if_neg bB] at H;have cj:=dF bB;clear bB;simp only[Option.some.injEq,Prod.mk.injEq] at H;obtain⟨rfl,rfl,rfl⟩:=H;have cp:wr.cell? ⟨m,0,none⟩=some (.int .i64 B):=(Za BK261.out 0).trans rfl;have cq:wr.cell? ⟨m,1,none⟩=some (.slice P l0_1.length D):=(Za BK261.out 1).trans rfl;have cr:=Zb BK261.out 0;have ct:=Zb BK261.out 1;go_wp2
          repeat(go_quiet (fail);try go_wp2)
          go_ret3
          exact⟨_,by first|rfl|(simp[Zm,Zl]<;>rfl)|(simp[*,Zm,Zl]<;>rfl),by(with_reducible repeat(first|apply Kd.R_alloc|apply Kd.R_drewN|apply Kd.R_drew));exact HO_8.out,by repeat(first|(with_reducible first|exact HB.out|apply Zh|apply Zg|apply Zj|refine Zi ?_ GE261.out)|exact HB.out)⟩
       rw[if_neg a1] at H;have bI:=beq_eq_false_iff_ne.mpr a1;have bJ:=bne_iff_ne.mpr a1;simp only[Option.some.injEq,Prod.mk.injEq] at H;obtain⟨rfl,rfl,rfl⟩:=H;go_wp2
       repeat(go_quiet (fail);try go_wp2)
       go_ret3
       exact⟨_,by first|rfl|(simp[Zm,Zl]<;>rfl)|(simp[*,Zm,Zl]<;>rfl),by first|exact Kd.R_nil _ _ _ _ _|exact Kd.N_nil _ _ _ _ _|exact Kd.V_nil _ _ _ _ _|exact Kd.Q_nil _ _ _ _ _|exact Kd.S_nil _ _ _ _ _,by repeat(first|(with_reducible first|exact HB.out|apply Zh|apply Zg|apply Zj|refine Zi ?_ GE261.out)|exact HB.out)⟩
def perm_Has.f (k:Nat) (a0_0:Int) (l0_1:List (S56)) (l1:List Int):Option (Bool×Int):=(perm_Sift.f k a0_0 l0_1 l1).bind fun bt279=>(if bt279.2.2=0 then(if bt279.2.1=(l0_1.length:Int) then((perm_identity.f k (bt279.1.length:Int)).bind fun t284=>((slEq.f k bt279.1 t284).bind fun t287=>(some (t287,bt279.2.2)))) else(some (false,bt279.2.2))) else(some (false,bt279.2.2)))
theorem perm_Has.calls (k:Nat) (B:Int) (D:Option Addr) (I:Nat) (l0_1:List (S56)) (A1:Option Addr) (c1:Nat) (l1:List Int) (r1:Bool) (r2:Int) (w:World) (ae:Kd.C k56 w D l0_1.length l0_1) (ad:l0_1.length≤I) (aN:Kd.C (Kd.int .i64) w A1 l1.length l1) (av:l1.length≤c1) (h:perm_Has.f k B l0_1 l1=some (r1,r2)):
    Calls Tryz.prog 24 #[.agg #[.int .i64 B,.slice D l0_1.length I],.slice A1 l1.length c1] w fun e w'=>e= .returned (.tuple #[.bool r1,.int .i64 r2])∧Below w.heap.size w w':=by
 have a0:=Tryz.underlying24
 have ab:=aM ae
 have Z:=aM ad
 clear ae ad
 have ah:=aM aN
 have ag:=aM av
 clear aN av
 have HB:=aM (Below.refl w.heap.size w)
 have H:((perm_Sift.f k B l0_1 l1).bind fun O=>(if O.2.2=0 then(if O.2.1=(l0_1.length:Int) then((perm_identity.f k (O.1.length:Int)).bind fun X=>((slEq.f k O.1 X).bind fun U=>(some (U,O.2.2)))) else(some (false,O.2.2))) else(some (false,O.2.2))))=some (r1,r2):=h
 clear h
 replace H:=oB H
 obtain⟨⟨P,Y,L⟩,aj,H⟩:=H
 replace H:(if L=0 then(if Y=(l0_1.length:Int) then((perm_identity.f k (P.length:Int)).bind fun X=>((slEq.f k P X).bind fun U=>(some (U,L)))) else(some (false,L))) else(some (false,L)))=some (r1,r2):=H
 have A3:=aM aj
 clear aj
 by_cases c4:L=0
 ·rw [if_pos c4] at H
  have am:=beq_iff_eq.mpr c4;have an:=bne_eq_false_iff_eq.mpr c4;clear c4
  by_cases c5:Y=(l0_1.length:Int)
  ·rw[if_pos c5] at H;have ao:=beq_iff_eq.mpr c5;have aq:=bne_eq_false_iff_eq.mpr c5;clear c5;replace H:=oB H;obtain⟨X,ak,H⟩:=H;replace H:((slEq.f k P X).bind fun U=>(some (U,L)))=some (r1,r2):=H;have A6:=aM ak;clear ak;replace H:=oB H;obtain⟨U,al,H⟩:=H;replace H:(some (U,L))=some (r1,r2):=H;have A7:=aM al;clear al;simp only[Option.some.injEq,Prod.mk.injEq] at H;obtain⟨rfl,rfl⟩:=H
   go_enter Tryz.func24,Tryz.ntmps24
   go_wp2_with (first|((with_reducible refine Zq (N:=2) rfl ?_);(try(refine Zv (by rfl) ?_;dsimp only));refine Zx ?hg (N:=2) ?hd (cs:= #[.int .i64 B,.slice D l0_1.length I]) (t:=24) ?hr ?_;(case hd=>rfl);(case hg=>rfl);(case hr=>first|(go_simp;done)|(go_simp;rfl));intro z hg w8 hbox hb;have m:=aM (hbox);have ac:=aM ((by rw[hg];exact(Zc zz128):w.heap.size≤z));have GE278:=aM ((by rw[hg];exact(Zc zz128):w.heap.size≤z));replace HB:=aM (Zd zz128 hb);clear hb hbox hg;have aS:w8.cell? ⟨z,0,none⟩=some (.int .i64 B):=(Za m.out 0).trans rfl;have aT:w8.cell? ⟨z,1,none⟩=some (.slice D l0_1.length I):=(Za m.out 1).trans rfl;have aU:=Zb m.out 0;have aV:=Zb m.out 1)|((with_reducible refine Zr (f:=23) rfl ?_);refine ZI (some 12) rfl rfl Tryz.func23 (by kernel_rfl) rfl #[.agg #[.int .i64 B,.slice D l0_1.length I],.slice A1 l1.length c1] rfl zz127 ?_;(with_reducible refine(perm_Sift.calls k B _ _ l0_1 _ _ l1 P Y L _ ?sa ?sb ?sc ?sd A3.out).mono ?_);(case sa=>exact zC (Kd.C_below ab.out HB.out));(case sb=>exact Z.out);(case sc=>exact zC (Kd.C_below ah.out HB.out));(case sd=>exact ag.out);rintro e aO ⟨af,rfl,ho0,hb⟩;refine⟨_,rfl,?_⟩;have J:=aM (Kd.R_lower ho0 (Zc zz103));replace m:=aM (Zf (g:=z) (o:= .cells #[.int .i64 B,.slice D l0_1.length I] 24 (0,0)) (zB m) hb);replace HB:=aM (Zd zz103 hb);(try clear hb);(try clear ai);(try clear hk);(try clear hi);(try clear ho0);have aw:aO.cell? ⟨z,0,none⟩=some (.int .i64 B):=(Za m.out 0).trans rfl;have ax:aO.cell? ⟨z,1,none⟩=some (.slice D l0_1.length I):=(Za m.out 1).trans rfl;have aE:=Zb m.out 0;have aF:=Zb m.out 1;obtain⟨aW,aY,ar⟩:=Kd.R_slice J.out;subst ar)|(go_at_call 36;(with_reducible refine(perm_identity.calls k (P.length:Int) X _ A6.out).mono ?_);rintro e a2 ⟨a1,rfl,ho0,hb⟩;have aa:=aM (Kd.R_lower (Kd.R_new' ho0 (Kd.R_lt (zR J))) (Zc zz103));replace J:=aM (Kd.R_elder' (zR J) (Kd.R_base ho0) hb);replace m:=aM (Zf (g:=z) (o:= .cells #[.int .i64 B,.slice D l0_1.length I] 24 (0,0)) (zB m) hb);replace HB:=aM (Zd zz103 hb);(try clear hb);(try clear ai);(try clear hk);(try clear hi);(try clear ho0);obtain⟨aX,aZ,au⟩:=Kd.R_slice aa.out;subst au)|(go_at_call 52;(with_reducible refine(slEq.calls k _ _ P _ _ X U _ ?sa ?sb ?sc ?sd A7.out).mono ?_);(case sa=>exact zC ((Kd.R_reads' J.out).2.2));(case sb=>exact(Kd.R_reads' J.out).2.1);(case sc=>exact zC ((Kd.R_reads' aa.out).2.2));(case sd=>exact(Kd.R_reads' aa.out).2.1);rintro e w' ⟨rfl,⟨nd,rfl⟩⟩))
   go_ret2
   exact⟨by first|rfl|(simp[Zm,Zl]<;>rfl)|(simp[*,Zm,Zl]<;>rfl),by repeat(first|(with_reducible first|exact HB.out|apply Zh|apply Zg|apply Zj|refine Zi ?_ GE278.out)|exact HB.out)⟩
  rw[if_neg c5] at H;have ao:=beq_eq_false_iff_ne.mpr c5;have aq:=bne_iff_ne.mpr c5;simp only[Option.some.injEq,Prod.mk.injEq] at H;obtain⟨rfl,rfl⟩:=H
  go_enter Tryz.func24,Tryz.ntmps24
  go_wp2_with (first|((with_reducible refine Zq (N:=2) rfl ?_);(try(refine Zv (by rfl) ?_;dsimp only));refine Zx ?hg (N:=2) ?hd (cs:= #[.int .i64 B,.slice D l0_1.length I]) (t:=24) ?hr ?_;(case hd=>rfl);(case hg=>rfl);(case hr=>first|(go_simp;done)|(go_simp;rfl));intro z hg aP hbox hb;have m:=aM (hbox);have ac:=aM ((by rw[hg];exact(Zc zz128):w.heap.size≤z));have GE278:=aM ((by rw[hg];exact(Zc zz128):w.heap.size≤z));replace HB:=aM (Zd zz128 hb);clear hb hbox hg;have ay:aP.cell? ⟨z,0,none⟩=some (.int .i64 B):=(Za m.out 0).trans rfl;have az:aP.cell? ⟨z,1,none⟩=some (.slice D l0_1.length I):=(Za m.out 1).trans rfl;have aG:=Zb m.out 0;have aH:=Zb m.out 1)|((with_reducible refine Zr (f:=23) rfl ?_);refine ZI (some 12) rfl rfl Tryz.func23 (by kernel_rfl) rfl #[.agg #[.int .i64 B,.slice D l0_1.length I],.slice A1 l1.length c1] rfl zz127 ?_;(with_reducible refine(perm_Sift.calls k B _ _ l0_1 _ _ l1 P Y L _ ?sa ?sb ?sc ?sd A3.out).mono ?_);(case sa=>exact zC (Kd.C_below ab.out HB.out));(case sb=>exact Z.out);(case sc=>exact zC (Kd.C_below ah.out HB.out));(case sd=>exact ag.out);rintro e aQ ⟨af,rfl,ho0,hb⟩;refine⟨_,rfl,?_⟩;have J:=aM (Kd.R_lower ho0 (Zc zz103));replace m:=aM (Zf (g:=z) (o:= .cells #[.int .i64 B,.slice D l0_1.length I] 24 (0,0)) (zB m) hb);replace HB:=aM (Zd zz103 hb);(try clear hb);(try clear ai);(try clear hk);(try clear hi);(try clear ho0);have aA:aQ.cell? ⟨z,0,none⟩=some (.int .i64 B):=(Za m.out 0).trans rfl;have aB:aQ.cell? ⟨z,1,none⟩=some (.slice D l0_1.length I):=(Za m.out 1).trans rfl;have aI:=Zb m.out 0;have aJ:=Zb m.out 1))
  go_ret2
  exact⟨by first|rfl|(simp[Zm,Zl]<;>rfl)|(simp[*,Zm,Zl]<;>rfl),by repeat(first|(with_reducible first|exact HB.out|apply Zh|apply Zg|apply Zj|refine Zi ?_ GE278.out)|exact HB.out)⟩
 rw[if_neg c4] at H
 have am:=beq_eq_false_iff_ne.mpr c4
 have an:=bne_iff_ne.mpr c4
 simp only[Option.some.injEq,Prod.mk.injEq] at H
 obtain⟨rfl,rfl⟩:=H
 go_enter Tryz.func24,Tryz.ntmps24
 go_wp2_with (first|((with_reducible refine Zq (N:=2) rfl ?_);(try(refine Zv (by rfl) ?_;dsimp only));refine Zx ?hg (N:=2) ?hd (cs:= #[.int .i64 B,.slice D l0_1.length I]) (t:=24) ?hr ?_;(case hd=>rfl);(case hg=>rfl);(case hr=>first|(go_simp;done)|(go_simp;rfl));intro z hg aR hbox hb;have m:=aM (hbox);have ac:=aM ((by rw[hg];exact(Zc zz128):w.heap.size≤z));have GE278:=aM ((by rw[hg];exact(Zc zz128):w.heap.size≤z));replace HB:=aM (Zd zz128 hb);clear hb hbox hg;have aC:aR.cell? ⟨z,0,none⟩=some (.int .i64 B):=(Za m.out 0).trans rfl;have aD:aR.cell? ⟨z,1,none⟩=some (.slice D l0_1.length I):=(Za m.out 1).trans rfl;have aK:=Zb m.out 0;have aL:=Zb m.out 1)|((with_reducible refine Zr (f:=23) rfl ?_);refine ZI (some 12) rfl rfl Tryz.func23 (by kernel_rfl) rfl #[.agg #[.int .i64 B,.slice D l0_1.length I],.slice A1 l1.length c1] rfl zz127 ?_;(with_reducible refine(perm_Sift.calls k B _ _ l0_1 _ _ l1 P Y L _ ?sa ?sb ?sc ?sd A3.out).mono ?_);(case sa=>exact zC (Kd.C_below ab.out HB.out));(case sb=>exact Z.out);(case sc=>exact zC (Kd.C_below ah.out HB.out));(case sd=>exact ag.out);rintro e a3 ⟨af,rfl,ho0,hb⟩;refine⟨_,rfl,?_⟩;have J:=aM (Kd.R_lower ho0 (Zc zz103));replace m:=aM (Zf (g:=z) (o:= .cells #[.int .i64 B,.slice D l0_1.length I] 24 (0,0)) (zB m) hb);replace HB:=aM (Zd zz103 hb);(try clear hb);(try clear ai);(try clear hk);(try clear hi);(try clear ho0)))
 go_ret2
 exact⟨by first|rfl|(simp[Zm,Zl]<;>rfl)|(simp[*,Zm,Zl]<;>rfl),by repeat(first|(with_reducible first|exact HB.out|apply Zh|apply Zg|apply Zj|refine Zi ?_ GE278.out)|exact HB.out)⟩
mutual
def r30_Sift.l0:Nat→List Int→Int→Int→List (S56)→Option (List Int×Int)
 |0,_,_,_,_=>none
 |k+1,x1,x6,x381000,x381001=>if x6<(x381001.length:Int) then(if 0≤x6 then(r30_Sift.l1 k x1 x6 (-1) 0 x381000 x381001 ((Ze x381001 x6).f0) ((Ze x381001 x6).f1) ((Ze x381001 x6).f2)) else(none)) else(some (x1,(x381001.length:Int)))
def r30_Sift.l1:Nat→List Int→Int→Int→Int→Int→List (S56)→Int→List Int→List (List Int)→Option (List Int×Int)
 |0,_,_,_,_,_,_,_,_,_=>none
 |k+1,x1,x6,x8,x9,x381000,x381001,x383000,x383001,x383002=>if x9<(x383001.length:Int) then(if 0≤x9 then(if 0≤x383000 then(if x383000<(x1.length:Int) then(if(rd x383001 x9)=(rd x1 x383000) then(r30_Sift.l1 k x1 x6 x9 (wrap64 (x9+1)) x381000 x381001 x383000 x383001 x383002) else(r30_Sift.l1 k x1 x6 x8 (wrap64 (x9+1)) x381000 x381001 x383000 x383001 x383002)) else(none)) else(none)) else(none)) else(if x8<0 then(some (x1,x6)) else(if 0≤x8 then(if x8<(x383002.length:Int) then((r30_Back.f k (Zo x383002 x8)).bind fun t386=>((r30_Then.f k x1 t386).bind fun t389=>(r30_Sift.l0 k t389 (wrap64 (x6+1)) x381000 x381001))) else(none)) else(none)))
end
def r30_Sift.f (k:Nat) (a0_0:Int) (l0_1:List (S56)) (l1:List Int):Option (List Int×Int):=r30_Sift.l0 k l1 0 a0_0 l0_1
theorem r30_Sift.calls (k:Nat) (L:Int) (ak:Option Addr) (U:Nat) (l0_1:List (S56)) (aW:Nat→Prop) (A1:Option Addr) (c1:Nat) (l1:List Int) (r1:List Int) (r2:Int) (w:World) (a1:Kd.C k56 w ak l0_1.length l0_1) (a0:l0_1.length≤U) (cB:Kd.V (Kd.int .i64) 3 w w.heap.size (fun k_=>aW k_) (.slice A1 l1.length c1) l1) (h:r30_Sift.f k L l0_1 l1=some (r1,r2)):
    Calls Tryz.prog 39 #[.agg #[.int .i64 L,.slice ak l0_1.length U],.slice A1 l1.length c1] w fun e w'=>∃cf:Value,e= .returned (.tuple #[cf,.int .i64 r2])∧Kd.V (Kd.int .i64) 3 w' w.heap.size (fun k_=>(aW k_∨w.heap.size≤k_)) cf r1∧Below w.heap.size w w':=by
 have cE:=Tryz.underlying24
 have cF:=Tryz.underlying56
 have bw:=aM a1
 have cl:=aM a0
 clear a1 a0
 have aN:=aM (show Kd.V (Kd.int .i64) 3 w w.heap.size (fun k_=>(aW k_∨w.heap.size≤k_)) (.slice A1 l1.length c1) l1 from Kd.V_mono cB (fun k_ hk=> .inl hk))
 have HB:=aM (Below.refl w.heap.size w)
 have H:(r30_Sift.l0 k l1 0 L l0_1)=some (r1,r2):=h
 clear h
 have H':=aM H
 clear H
 go_enter Tryz.func39,Tryz.ntmps39
 go_wp2_with (first|((with_reducible refine Zq (N:=2) rfl ?_);refine Zx ?hg (N:=2) ?hd (cs:= #[.int .i64 L,.slice ak l0_1.length U]) (t:=24) ?hr ?_;(case hd=>rfl);(case hg=>rfl);(case hr=>first|(go_simp;done)|(go_simp;rfl));intro I hg w3 hbox hb;replace aN:=aM (Kd.V_below (Kd.V_elderB (zV aN) I (Nat.le_of_eq hg.symm)) hb);have D:=aM (hbox);have aT:=aM ((by rw[hg];exact(Zc zz128):w.heap.size≤I));have GE380:=aM ((by rw[hg];exact(Zc zz128):w.heap.size≤I));replace HB:=aM (Zd zz128 hb);clear hb hbox hg))
 repeat(go_quiet (first|((with_reducible refine Zq (N:=2) rfl ?_);refine Zx ?hg (N:=2) ?hd (cs:= #[.int .i64 L,.slice ak l0_1.length U]) (t:=24) ?hr ?_;(case hd=>rfl);(case hg=>rfl);(case hr=>first|(go_simp;done)|(go_simp;rfl));intro I hg w3 hbox hb;replace aN:=aM (Kd.V_below (Kd.V_elderB (zV aN) I (Nat.le_of_eq hg.symm)) hb);have D:=aM (hbox);have aT:=aM ((by rw[hg];exact(Zc zz128):w.heap.size≤I));have GE380:=aM ((by rw[hg];exact(Zc zz128):w.heap.size≤I));replace HB:=aM (Zd zz128 hb);clear hb hbox hg));try go_wp2_with (first|((with_reducible refine Zq (N:=2) rfl ?_);refine Zx ?hg (N:=2) ?hd (cs:= #[.int .i64 L,.slice ak l0_1.length U]) (t:=24) ?hr ?_;(case hd=>rfl);(case hg=>rfl);(case hr=>first|(go_simp;done)|(go_simp;rfl));intro I hg w3 hbox hb;replace aN:=aM (Kd.V_below (Kd.V_elderB (zV aN) I (Nat.le_of_eq hg.symm)) hb);have D:=aM (hbox);have aT:=aM ((by rw[hg];exact(Zc zz128):w.heap.size≤I));have GE380:=aM ((by rw[hg];exact(Zc zz128):w.heap.size≤I));replace HB:=aM (Zd zz128 hb);clear hb hbox hg)))
 go_loopg [1,6] k (fun kq v1 v6 w'=>∃(ad:List Int) (z:Int),v6= .int .i64 z∧Aside0 (r30_Sift.l0 kq ad z L l0_1=some (r1,r2))∧Aside0 (kq≤k)∧Aside0 (Kd.V (Kd.int .i64) 3 w' w.heap.size (fun k_=>(aW k_∨w.heap.size≤k_)∧k_≠I) v1 ad)∧Aside0 (w'.heap[I]? =some (.cells #[.int .i64 L,(.slice ak l0_1.length U)] 24 (0,0)))∧Aside0 (Below w.heap.size w w'))
 case atStart=>exact⟨(l1),(0),zz157,H',⟨Nat.le_refl _⟩,⟨(zV aN)⟩,⟨(zB D)⟩,⟨zz104⟩⟩
 case round =>
  clear H';(try clear c1);(try clear p2);(try clear c3);obtain⟨ad,z,rfl,HA,HK1,HO_1,D,HB⟩:=hrel
  cases gk with
  |zero=>exact absurd HA.out (by simp[r30_Sift.l0])
  | succ k1=>
   have H:=HA.out;clear HA;simp only[r30_Sift.l0] at H
   by_cases c4:z<(l0_1.length:Int)
   ·rw [if_pos c4] at H;have bm:=dT c4;clear c4
    by_cases c5:0≤z
    ·rw [if_pos c5] at H;have bH:=dT c5;clear c5;have H':=aM H;clear H;have ba:wr.cell? ⟨I,0,none⟩=some (.int .i64 L):=(Za D.out 0).trans rfl;have bb:wr.cell? ⟨I,1,none⟩=some (.slice ak l0_1.length U):=(Za D.out 1).trans rfl;have bc:=Zb D.out 0;have bg:=Zb D.out 1;have aQ:0≤(z:Int):=oD zz156;have aR:z<(l0_1.length:Int):=oD zz156;obtain⟨Z,X,Y,af,aa,bI,ag,ah,ai,aJ,aG,aK,aH⟩:=Z4 bw.out z aQ aR
     cases bI;replace ag:=(HB.out.cell (wB w _ ag)).trans ag;replace ah:=(HB.out.cell (wB w _ ah)).trans ah;replace ai:=(HB.out.cell (wB w _ ai)).trans ai;have aD:=aM aG;have bE:=aM aJ;clear aG aJ;have aV:=aM aH;have bF:=aM aK;clear aH aK;replace aQ:=eq_true aQ;replace aR:=eq_true aR
     go_wp2_with (first|((with_reducible refine Zq (N:=7) rfl ?_);refine Zx ?hg (N:=7) ?hd (cs:= #[.int .i64 0,.slice none 0 0,.slice none 0 0]) (t:=56) ?hr ?_;(case hd=>rfl);(case hg=>rfl);(case hr=>first|(go_simp;done)|(go_simp;rfl));intro B hg w7 hbox hb;replace HO_1:=aM (Kd.V_below (Kd.V_elderB (zV HO_1) B (Nat.le_of_eq hg.symm)) hb);have m:=aM (hbox);have aU:=aM ((by rw[hg];exact(Zc zz104):w.heap.size≤B));have GE382:=aM ((by rw[hg];exact(Zc zz104):w.heap.size≤B));replace HB:=aM (Zd zz104 hb);have J:=aM ((by rw[hg];exact Nat.ne_of_lt (Zw (g:=I) (o:= .cells #[.int .i64 L,.slice (some Z) l0_1.length U] 24 (0,0)) (zB D)):I≠B));have P:=aM ((by rw[hg];exact Nat.ne_of_gt (Zw (g:=I) (o:= .cells #[.int .i64 L,.slice (some Z) l0_1.length U] 24 (0,0)) (zB D)):B≠I));replace D:=aM (Zf (g:=I) (o:= .cells #[.int .i64 L,.slice (some Z) l0_1.length U] 24 (0,0)) (zB D) hb);clear hb hbox hg;have bp:=P.out;have bq:=J.out;have ax:w7.cell? ⟨B,0,none⟩=some (.int .i64 0):=(Za m.out 0).trans rfl;have ay:w7.cell? ⟨B,1,none⟩=some (.slice none 0 0):=(Za m.out 1).trans rfl;have az:w7.cell? ⟨B,2,none⟩=some (.slice none 0 0):=(Za m.out 2).trans rfl;have aA:=Zb m.out 0;have aB:=Zb m.out 1;have aC:=Zb m.out 2))
     repeat(go_quiet (first|((with_reducible refine Zq (N:=7) rfl ?_);refine Zx ?hg (N:=7) ?hd (cs:= #[.int .i64 0,.slice none 0 0,.slice none 0 0]) (t:=56) ?hr ?_;(case hd=>rfl);(case hg=>rfl);(case hr=>first|(go_simp;done)|(go_simp;rfl));intro B hg w7 hbox hb;replace HO_1:=aM (Kd.V_below (Kd.V_elderB (zV HO_1) B (Nat.le_of_eq hg.symm)) hb);have m:=aM (hbox);have aU:=aM ((by rw[hg];exact(Zc zz104):w.heap.size≤B));have GE382:=aM ((by rw[hg];exact(Zc zz104):w.heap.size≤B));replace HB:=aM (Zd zz104 hb);have J:=aM ((by rw[hg];exact Nat.ne_of_lt (Zw (g:=I) (o:= .cells #[.int .i64 L,.slice (some Z) l0_1.length U] 24 (0,0)) (zB D)):I≠B));have P:=aM ((by rw[hg];exact Nat.ne_of_gt (Zw (g:=I) (o:= .cells #[.int .i64 L,.slice (some Z) l0_1.length U] 24 (0,0)) (zB D)):B≠I));replace D:=aM (Zf (g:=I) (o:= .cells #[.int .i64 L,.slice (some Z) l0_1.length U] 24 (0,0)) (zB D) hb);clear hb hbox hg;have bp:=P.out;have bq:=J.out;have ax:w7.cell? ⟨B,0,none⟩=some (.int .i64 0):=(Za m.out 0).trans rfl;have ay:w7.cell? ⟨B,1,none⟩=some (.slice none 0 0):=(Za m.out 1).trans rfl;have az:w7.cell? ⟨B,2,none⟩=some (.slice none 0 0):=(Za m.out 2).trans rfl;have aA:=Zb m.out 0;have aB:=Zb m.out 1;have aC:=Zb m.out 2));try go_wp2_with (first|((with_reducible refine Zq (N:=7) rfl ?_);refine Zx ?hg (N:=7) ?hd (cs:= #[.int .i64 0,.slice none 0 0,.slice none 0 0]) (t:=56) ?hr ?_;(case hd=>rfl);(case hg=>rfl);(case hr=>first|(go_simp;done)|(go_simp;rfl));intro B hg w7 hbox hb;replace HO_1:=aM (Kd.V_below (Kd.V_elderB (zV HO_1) B (Nat.le_of_eq hg.symm)) hb);have m:=aM (hbox);have aU:=aM ((by rw[hg];exact(Zc zz104):w.heap.size≤B));have GE382:=aM ((by rw[hg];exact(Zc zz104):w.heap.size≤B));replace HB:=aM (Zd zz104 hb);have J:=aM ((by rw[hg];exact Nat.ne_of_lt (Zw (g:=I) (o:= .cells #[.int .i64 L,.slice (some Z) l0_1.length U] 24 (0,0)) (zB D)):I≠B));have P:=aM ((by rw[hg];exact Nat.ne_of_gt (Zw (g:=I) (o:= .cells #[.int .i64 L,.slice (some Z) l0_1.length U] 24 (0,0)) (zB D)):B≠I));replace D:=aM (Zf (g:=I) (o:= .cells #[.int .i64 L,.slice (some Z) l0_1.length U] 24 (0,0)) (zB D) hb);clear hb hbox hg;have bp:=P.out;have bq:=J.out;have ax:w7.cell? ⟨B,0,none⟩=some (.int .i64 0):=(Za m.out 0).trans rfl;have ay:w7.cell? ⟨B,1,none⟩=some (.slice none 0 0):=(Za m.out 1).trans rfl;have az:w7.cell? ⟨B,2,none⟩=some (.slice none 0 0):=(Za m.out 2).trans rfl;have aA:=Zb m.out 0;have aB:=Zb m.out 1;have aC:=Zb m.out 2)))
     go_loopg [8,9] k1 (fun kq v8 v9 w'=>∃(ae:Int) (ac:Int),v8= .int .i64 ae∧v9= .int .i64 ac∧Aside0 (r30_Sift.l1 kq ad z ae ac L l0_1 ((Ze l0_1 z).f0) ((Ze l0_1 z).f1) ((Ze l0_1 z).f2)=some (r1,r2))∧Aside0 (kq≤k1)∧Aside0 (Kd.V (Kd.int .i64) 3 w' w.heap.size (fun k_=>(aW k_∨w.heap.size≤k_)∧k_≠I∧k_≠B) u1 ad)∧Aside0 (w'.heap[I]? =some (.cells #[.int .i64 L,(.slice (some Z) l0_1.length U)] 24 (0,0)))∧Aside0 (w'.heap[B]? =some (.cells #[.int .i64 ((Ze l0_1 z).f0),(.slice X ((Ze l0_1 z).f1).length Y),(.slice af ((Ze l0_1 z).f2).length aa)] 56 (0,0)))∧Aside0 (Below w.heap.size w w'))
     case atStart=>exact⟨((-1)),(0),zz157,zz157,H',⟨Nat.le_refl _⟩,⟨by(with_reducible repeat(first|apply Kd.V_alloc|apply Kd.V_drewN|apply Kd.V_drew));exact Kd.V_mono (Kd.V_far (p:=⟨B,2,none⟩) (Kd.V_far (p:=⟨B,1,none⟩) (Kd.V_far (p:=⟨B,0,none⟩) (Kd.V_mono HO_1.out (fun k_ hk=>(⟨hk,hk.2⟩:_∧k_≠B))) (fun _ hk=>by first|exact hk.2|exact zN0) (.int .i64 ((Ze l0_1 z).f0))) (fun _ hk=>by first|exact hk.2|exact zN0) (.slice X ((Ze l0_1 z).f1).length Y)) (fun _ hk=>by first|exact hk.2|exact zN0) (.slice af ((Ze l0_1 z).f2).length aa)) (fun _ hk=>by first|exact⟨hk.1.1.1,⟨hk.1.1.2,hk.1.2⟩⟩|exact zN0)⟩,⟨(by(with_reducible repeat(first|refine Zn ?_ _|refine Zp ?_|refine Zk ?_ _));refine ZD ?_ J.out _;(with_reducible repeat(first|refine Zn ?_ _|refine Zp ?_|refine Zk ?_ _));refine ZD ?_ J.out _;(with_reducible repeat(first|refine Zn ?_ _|refine Zp ?_|refine Zk ?_ _));refine ZD ?_ J.out _;(with_reducible repeat(first|refine Zn ?_ _|refine Zp ?_|refine Zk ?_ _));exact D.out)⟩,⟨(by(with_reducible repeat(first|refine Zn ?_ _|refine Zp ?_|refine Zk ?_ _));refine Zz (cs:= #[.int .i64 ((Ze l0_1 z).f0),.slice X ((Ze l0_1 z).f1).length Y,.slice none 0 0]) ?_ 2 _ rfl;(with_reducible repeat(first|refine Zn ?_ _|refine Zp ?_|refine Zk ?_ _));refine Zz (cs:= #[.int .i64 ((Ze l0_1 z).f0),.slice none 0 0,.slice none 0 0]) ?_ 1 _ rfl;(with_reducible repeat(first|refine Zn ?_ _|refine Zp ?_|refine Zk ?_ _));refine Zz (cs:= #[.int .i64 0,.slice none 0 0,.slice none 0 0]) ?_ 0 _ rfl;(with_reducible repeat(first|refine Zn ?_ _|refine Zp ?_|refine Zk ?_ _));exact m.out)⟩,⟨zz80⟩⟩
     case round =>
      clear H';(try clear c1);(try clear p2);(try clear c3);(try clear p3);(try clear q3);(try clear cG);(try clear c4);(try clear bm);(try clear c5);(try clear bH);(try clear c8);(try clear ba);(try clear bb);(try clear ax);(try clear ay);(try clear az);(try clear bc);(try clear bg);(try clear aA);(try clear aB);(try clear aC);(try clear ag);(try clear ah);(try clear ai);(try clear p2);(try clear aQ);(try clear aR);obtain⟨ae,ac,rfl,rfl,HA,HK2,HO_1,D,m,HB⟩:=hrel
      cases gk with
      |zero=>exact absurd HA.out (by simp[r30_Sift.l1])
      | succ k2=>
       have H:=HA.out;clear HA;simp only[r30_Sift.l1] at H
       by_cases c10:ac<(((Ze l0_1 z).f1).length:Int)
       ·rw [if_pos c10] at H;have bA:=dT c10;clear c10
        by_cases a5:0≤ac
        ·rw [if_pos a5] at H;have cm:=dT a5;clear a5
         by_cases a6:0≤((Ze l0_1 z).f0)
         ·rw [if_pos a6] at H;have co:=dT a6;clear a6
          by_cases a7:((Ze l0_1 z).f0)<(ad.length:Int)
          ·rw [if_pos a7] at H;have cp:=dT a7;clear a7
           by_cases aP:(rd ((Ze l0_1 z).f1) ac)=(rd ad ((Ze l0_1 z).f0))
           ·rw[if_pos aP] at H;have bB:=beq_iff_eq.mpr aP;have bC:=bne_eq_false_iff_eq.mpr aP;clear aP;have H':=aM H;clear H;have ct:=P.out;have cx:=J.out;have bM:wr.cell? ⟨B,0,none⟩=some (.int .i64 ((Ze l0_1 z).f0)):=(Za m.out 0).trans rfl;have bN:wr.cell? ⟨B,1,none⟩=some (.slice X ((Ze l0_1 z).f1).length Y):=(Za m.out 1).trans rfl;have bO:wr.cell? ⟨B,2,none⟩=some (.slice af ((Ze l0_1 z).f2).length aa):=(Za m.out 2).trans rfl;have b1:=Zb m.out 0;have b2:=Zb m.out 1;have b3:=Zb m.out 2;have ao:0≤(ac:Int):=oD zz156;have ar:ac<(((Ze l0_1 z).f1).length:Int):=oD zz156;obtain⟨bx,aX,ab⟩:=Kd.at_int aD.out ac ao ar
            cases aX;replace ab:=(HB.out.cell (wB w _ ab)).trans ab;replace ao:=eq_true ao;replace ar:=eq_true ar;obtain⟨cC,cD,bK⟩:=Kd.V_slice HO_1.out;subst bK;have aq:0≤(((Ze l0_1 z).f0):Int):=oD zz156;have au:((Ze l0_1 z).f0)<(ad.length:Int):=oD zz156;obtain⟨bz,aY,a2⟩:=Kd.at_int (Kd.V_reads' HO_1.out).2.2 ((Ze l0_1 z).f0) aq au
            cases aY;replace aq:=eq_true aq;replace au:=eq_true au;go_wp2
            repeat(go_quiet (fail);try go_wp2)
            go_roundg k2
            case measure=>have:=HK1.out;have:=HK2.out;omega
            case rel=>exact⟨(ac),(wrap64 (ac+1)),zz157,zz157,H',⟨zz159⟩,⟨(zV HO_1)⟩,⟨(zB D)⟩,⟨(zB m)⟩,⟨zz80⟩⟩
           rw[if_neg aP] at H;have bB:=beq_eq_false_iff_ne.mpr aP;have bC:=bne_iff_ne.mpr aP;have H':=aM H;clear H;have cu:=P.out;have cy:=J.out;have bP:wr.cell? ⟨B,0,none⟩=some (.int .i64 ((Ze l0_1 z).f0)):=(Za m.out 0).trans rfl;have bQ:wr.cell? ⟨B,1,none⟩=some (.slice X ((Ze l0_1 z).f1).length Y):=(Za m.out 1).trans rfl;have bS:wr.cell? ⟨B,2,none⟩=some (.slice af ((Ze l0_1 z).f2).length aa):=(Za m.out 2).trans rfl;have b4:=Zb m.out 0;have b5:=Zb m.out 1;have b6:=Zb m.out 2;have ao:0≤(ac:Int):=oD zz156;have ar:ac<(((Ze l0_1 z).f1).length:Int):=oD zz156;obtain⟨bx,aX,ab⟩:=Kd.at_int aD.out ac ao ar
           cases aX;replace ab:=(HB.out.cell (wB w _ ab)).trans ab;replace ao:=eq_true ao;replace ar:=eq_true ar;obtain⟨Ao20,co20,bL⟩:=Kd.V_slice HO_1.out;subst bL;have aq:0≤(((Ze l0_1 z).f0):Int):=oD zz156;have au:((Ze l0_1 z).f0)<(ad.length:Int):=oD zz156;obtain⟨bz,aY,a2⟩:=Kd.at_int (Kd.V_reads' HO_1.out).2.2 ((Ze l0_1 z).f0) aq au
           cases aY;replace aq:=eq_true aq;replace au:=eq_true au;go_wp2
           repeat(go_quiet (fail);try go_wp2)
           go_roundg k2
           case measure=>have:=HK1.out;have:=HK2.out;omega
           case rel=>exact⟨(ae),(wrap64 (ac+1)),zz157,zz157,H',⟨zz159⟩,⟨(zV HO_1)⟩,⟨(zB D)⟩,⟨(zB m)⟩,⟨zz80⟩⟩
          rw[if_neg a7] at H
          exact absurd H (by simp)
         rw[if_neg a6] at H
         exact absurd H (by simp)
        rw[if_neg a5] at H
        exact absurd H (by simp)
       rw[if_neg c10] at H;have bA:=dF c10;clear c10
       by_cases aS:ae<0
       ·rw[if_pos aS] at H;have bD:=dT aS;clear aS;simp only[Option.some.injEq,Prod.mk.injEq] at H;obtain⟨rfl,rfl⟩:=H;have cv:=P.out;have cz:=J.out;have bT:wr.cell? ⟨B,0,none⟩=some (.int .i64 ((Ze l0_1 z).f0)):=(Za m.out 0).trans rfl;have bU:wr.cell? ⟨B,1,none⟩=some (.slice X ((Ze l0_1 z).f1).length Y):=(Za m.out 1).trans rfl;have bV:wr.cell? ⟨B,2,none⟩=some (.slice af ((Ze l0_1 z).f2).length aa):=(Za m.out 2).trans rfl;have b7:=Zb m.out 0;have b8:=Zb m.out 1;have b9:=Zb m.out 2;go_wp2
        repeat(go_quiet (fail);try go_wp2)
        go_ret2
        exact⟨_,by first|rfl|(simp[Zm,Zl]<;>rfl)|(simp[*,Zm,Zl]<;>rfl),by(with_reducible repeat(first|apply Kd.V_alloc|apply Kd.V_drewN|apply Kd.V_drew));exact Kd.V_mono HO_1.out (fun _ hk=>by first|exact hk.1|exact zN0),by repeat(first|(with_reducible first|exact HB.out|apply Zh|apply Zg|apply Zj|refine Zi ?_ GE380.out|refine Zi ?_ GE382.out)|exact HB.out)⟩
       rw[if_neg aS] at H;have bD:=dF aS;clear aS
       by_cases a8:0≤ae
       ·rw [if_pos a8] at H;have cq:=dT a8;clear a8
        by_cases a9:ae<(((Ze l0_1 z).f2).length:Int)
        ·rw[if_pos a9] at H;have cr:=dT a9;clear a9;replace H:=oB H;obtain⟨av,bh,H⟩:=H;replace H:((r30_Then.f k2 ad av).bind fun aw=>(r30_Sift.l0 k2 aw (wrap64 (z+1)) L l0_1))=some (r1,r2):=H;have bu:=aM bh;clear bh;replace H:=oB H;obtain⟨aw,bi,H⟩:=H;replace H:(r30_Sift.l0 k2 aw (wrap64 (z+1)) L l0_1)=some (r1,r2):=H;have bv:=aM bi;clear bi;have H':=aM H;clear H;have cw:=P.out;have cA:=J.out;have bW:wr.cell? ⟨B,0,none⟩=some (.int .i64 ((Ze l0_1 z).f0)):=(Za m.out 0).trans rfl;have bX:wr.cell? ⟨B,1,none⟩=some (.slice X ((Ze l0_1 z).f1).length Y):=(Za m.out 1).trans rfl;have bY:wr.cell? ⟨B,2,none⟩=some (.slice af ((Ze l0_1 z).f2).length aa):=(Za m.out 2).trans rfl;have ca:=Zb m.out 0;have cb:=Zb m.out 1;have cc:=Zb m.out 2;have a3:0≤(ae:Int):=oD zz156;have a4:ae<(((Ze l0_1 z).f2).length:Int):=oD zz156;obtain⟨aj,cj,ck,bJ,an,aL,aI⟩:=ZY aV.out ae a3 a4
         cases bJ;replace an:=(HB.out.cell (wB w _ an)).trans an;have am:=aM aI;have al:=aM aL;clear aI aL;replace a3:=eq_true a3;replace a4:=eq_true a4
         go_wp2_with (first|(go_at_call 64;(with_reducible refine(r30_Back.calls k2 _ _ (Zo ((Ze l0_1 z).f2) ae) av _ ?sa ?sb bu.out).mono ?_);(case sa=>exact zC (Kd.C_below am.out HB.out));(case sb=>exact al.out);rintro e cg ⟨br,rfl,ho0,hb⟩;replace HO_1:=aM (Kd.V_elder' (zV HO_1) (Kd.R_base ho0) hb);have O:=aM (Kd.R_lower (Kd.R_newM (M:=fun k_=>(w.heap.size≤k_)) ho0 (Zc zz80) (fun k_ h_=>h_)) (Zc zz80));replace D:=aM (Zf (g:=I) (o:= .cells #[.int .i64 L,.slice (some Z) l0_1.length U] 24 (0,0)) (zB D) hb);replace m:=aM (Zf (g:=B) (o:= .cells #[.int .i64 ((Ze l0_1 z).f0),.slice X ((Ze l0_1 z).f1).length Y,.slice (some aj) ((Ze l0_1 z).f2).length aa] 56 (0,0)) (zB m) hb);replace HB:=aM (Zd zz80 hb);(try clear hb);(try clear aZ);(try clear hk);(try clear hi);(try clear ho0);obtain⟨bj,bn,aE⟩:=Kd.V_slice HO_1.out;subst aE;obtain⟨bk,bo,aF⟩:=Kd.R_slice O.out;subst aF)|(go_at_call 63;(with_reducible refine(r30_Then.calls k2 _ _ ad _ _ av aw _ ?sa ?sb ?sc ?sd bv.out).mono ?_);(case sa=>exact zC ((Kd.V_reads' HO_1.out).2.2));(case sb=>exact(Kd.V_reads' HO_1.out).2.1);(case sc=>exact zC ((Kd.R_reads' O.out).2.2));(case sd=>exact(Kd.R_reads' O.out).2.1);rintro e ci ⟨bs,rfl,ho0,hb⟩;replace HO_1:=aM (Kd.V_elder' (zV HO_1) (Kd.R_base ho0) hb);have aO:=aM (Kd.R_lower (Kd.R_new' (Kd.R_newM (M:=fun k_=>(w.heap.size≤k_)) ho0 (Zc zz80) (fun k_ h_=>h_)) (Kd.R_lt (zR O))) (Zc zz80));replace O:=aM (Kd.R_elder' (zR O) (Kd.R_base ho0) hb);replace D:=aM (Zf (g:=I) (o:= .cells #[.int .i64 L,.slice (some Z) l0_1.length U] 24 (0,0)) (zB D) hb);replace m:=aM (Zf (g:=B) (o:= .cells #[.int .i64 ((Ze l0_1 z).f0),.slice X ((Ze l0_1 z).f1).length Y,.slice (some aj) ((Ze l0_1 z).f2).length aa] 56 (0,0)) (zB m) hb);replace HB:=aM (Zd zz80 hb);(try clear hb);(try clear aZ);(try clear hk);(try clear hi);(try clear ho0)))
         repeat(go_quiet (first|(go_at_call 64;(with_reducible refine(r30_Back.calls k2 _ _ (Zo ((Ze l0_1 z).f2) ae) av _ ?sa ?sb bu.out).mono ?_);(case sa=>exact zC (Kd.C_below am.out HB.out));(case sb=>exact al.out);rintro e cg ⟨br,rfl,ho0,hb⟩;replace HO_1:=aM (Kd.V_elder' (zV HO_1) (Kd.R_base ho0) hb);have O:=aM (Kd.R_lower (Kd.R_newM (M:=fun k_=>(w.heap.size≤k_)) ho0 (Zc zz80) (fun k_ h_=>h_)) (Zc zz80));replace D:=aM (Zf (g:=I) (o:= .cells #[.int .i64 L,.slice (some Z) l0_1.length U] 24 (0,0)) (zB D) hb);replace m:=aM (Zf (g:=B) (o:= .cells #[.int .i64 ((Ze l0_1 z).f0),.slice X ((Ze l0_1 z).f1).length Y,.slice (some aj) ((Ze l0_1 z).f2).length aa] 56 (0,0)) (zB m) hb);replace HB:=aM (Zd zz80 hb);(try clear hb);(try clear aZ);(try clear hk);(try clear hi);(try clear ho0);obtain⟨bj,bn,aE⟩:=Kd.V_slice HO_1.out;subst aE;obtain⟨bk,bo,aF⟩:=Kd.R_slice O.out;subst aF)|(go_at_call 63;(with_reducible refine(r30_Then.calls k2 _ _ ad _ _ av aw _ ?sa ?sb ?sc ?sd bv.out).mono ?_);(case sa=>exact zC ((Kd.V_reads' HO_1.out).2.2));(case sb=>exact(Kd.V_reads' HO_1.out).2.1);(case sc=>exact zC ((Kd.R_reads' O.out).2.2));(case sd=>exact(Kd.R_reads' O.out).2.1);rintro e ci ⟨bs,rfl,ho0,hb⟩;replace HO_1:=aM (Kd.V_elder' (zV HO_1) (Kd.R_base ho0) hb);have aO:=aM (Kd.R_lower (Kd.R_new' (Kd.R_newM (M:=fun k_=>(w.heap.size≤k_)) ho0 (Zc zz80) (fun k_ h_=>h_)) (Kd.R_lt (zR O))) (Zc zz80));replace O:=aM (Kd.R_elder' (zR O) (Kd.R_base ho0) hb);replace D:=aM (Zf (g:=I) (o:= .cells #[.int .i64 L,.slice (some Z) l0_1.length U] 24 (0,0)) (zB D) hb);replace m:=aM (Zf (g:=B) (o:= .cells #[.int .i64 ((Ze l0_1 z).f0),.slice X ((Ze l0_1 z).f1).length Y,.slice (some aj) ((Ze l0_1 z).f2).length aa] 56 (0,0)) (zB m) hb);replace HB:=aM (Zd zz80 hb);(try clear hb);(try clear aZ);(try clear hk);(try clear hi);(try clear ho0)));try go_wp2_with (first|(go_at_call 64;(with_reducible refine(r30_Back.calls k2 _ _ (Zo ((Ze l0_1 z).f2) ae) av _ ?sa ?sb bu.out).mono ?_);(case sa=>exact zC (Kd.C_below am.out HB.out));(case sb=>exact al.out);rintro e cg ⟨br,rfl,ho0,hb⟩;replace HO_1:=aM (Kd.V_elder' (zV HO_1) (Kd.R_base ho0) hb);have O:=aM (Kd.R_lower (Kd.R_newM (M:=fun k_=>(w.heap.size≤k_)) ho0 (Zc zz80) (fun k_ h_=>h_)) (Zc zz80));replace D:=aM (Zf (g:=I) (o:= .cells #[.int .i64 L,.slice (some Z) l0_1.length U] 24 (0,0)) (zB D) hb);replace m:=aM (Zf (g:=B) (o:= .cells #[.int .i64 ((Ze l0_1 z).f0),.slice X ((Ze l0_1 z).f1).length Y,.slice (some aj) ((Ze l0_1 z).f2).length aa] 56 (0,0)) (zB m) hb);replace HB:=aM (Zd zz80 hb);(try clear hb);(try clear aZ);(try clear hk);(try clear hi);(try clear ho0);obtain⟨bj,bn,aE⟩:=Kd.V_slice HO_1.out;subst aE;obtain⟨bk,bo,aF⟩:=Kd.R_slice O.out;subst aF)|(go_at_call 63;(with_reducible refine(r30_Then.calls k2 _ _ ad _ _ av aw _ ?sa ?sb ?sc ?sd bv.out).mono ?_);(case sa=>exact zC ((Kd.V_reads' HO_1.out).2.2));(case sb=>exact(Kd.V_reads' HO_1.out).2.1);(case sc=>exact zC ((Kd.R_reads' O.out).2.2));(case sd=>exact(Kd.R_reads' O.out).2.1);rintro e ci ⟨bs,rfl,ho0,hb⟩;replace HO_1:=aM (Kd.V_elder' (zV HO_1) (Kd.R_base ho0) hb);have aO:=aM (Kd.R_lower (Kd.R_new' (Kd.R_newM (M:=fun k_=>(w.heap.size≤k_)) ho0 (Zc zz80) (fun k_ h_=>h_)) (Kd.R_lt (zR O))) (Zc zz80));replace O:=aM (Kd.R_elder' (zR O) (Kd.R_base ho0) hb);replace D:=aM (Zf (g:=I) (o:= .cells #[.int .i64 L,.slice (some Z) l0_1.length U] 24 (0,0)) (zB D) hb);replace m:=aM (Zf (g:=B) (o:= .cells #[.int .i64 ((Ze l0_1 z).f0),.slice X ((Ze l0_1 z).f1).length Y,.slice (some aj) ((Ze l0_1 z).f2).length aa] 56 (0,0)) (zB m) hb);replace HB:=aM (Zd zz80 hb);(try clear hb);(try clear aZ);(try clear hk);(try clear hi);(try clear ho0))))
         go_roundg k2
         case measure=>have:=HK1.out;have:=HK2.out;omega
         case rel=>exact⟨(aw),(wrap64 (z+1)),zz157,H',⟨zz159⟩,⟨(by(with_reducible repeat(first|apply Kd.V_alloc|apply Kd.V_drewN|apply Kd.V_drew));exact Kd.V_mono (Kd.R_V (Kd.R_types aO.out D.out (by decide))) (fun k_ hk=>by first|exact⟨.inr hk.1.1.1,hk.2⟩|exact⟨.inr hk.1.1,hk.2⟩|exact⟨.inr hk.1,hk.2⟩))⟩,⟨(zB D)⟩,⟨zz80⟩⟩
        rw[if_neg a9] at H
        exact absurd H (by simp)
       rw[if_neg a8] at H
       exact absurd H (by simp)
    rw[if_neg c5] at H
    exact absurd H (by simp)
   rw[if_neg c4] at H;have bm:=dF c4;clear c4;simp only[Option.some.injEq,Prod.mk.injEq] at H;obtain⟨rfl,rfl⟩:=H;have bZ:wr.cell? ⟨I,0,none⟩=some (.int .i64 L):=(Za D.out 0).trans rfl;have b0:wr.cell? ⟨I,1,none⟩=some (.slice ak l0_1.length U):=(Za D.out 1).trans rfl;have cd:=Zb D.out 0;have ce:=Zb D.out 1;go_wp2
   repeat(go_quiet (fail);try go_wp2)
   go_ret2
   exact⟨_,by first|rfl|(simp[Zm,Zl]<;>rfl)|(simp[*,Zm,Zl]<;>rfl),by(with_reducible repeat(first|apply Kd.V_alloc|apply Kd.V_drewN|apply Kd.V_drew));exact Kd.V_mono HO_1.out (fun _ hk=>by first|exact hk.1|exact zN0),by repeat(first|(with_reducible first|exact HB.out|apply Zh|apply Zg|apply Zj|refine Zi ?_ GE380.out)|exact HB.out)⟩
def r30_Has.f (k:Nat) (a0_0:Int) (l0_1:List (S56)) (l1:List Int):Option (Bool):=(r30_Sift.f k a0_0 l0_1 l1).bind fun bt393=>(if bt393.2=(l0_1.length:Int) then((r30_Unit.f k (l1.length:Int)).bind fun t397=>((r09_SameInts.f k bt393.1 t397).bind fun t400=>(some t400))) else(some false))
theorem r30_Has.calls (k:Nat) (B:Int) (D:Option Addr) (I:Nat) (l0_1:List (S56)) (A1:Option Addr) (c1:Nat) (l1:List Int) (r:Bool) (w:World) (ad:Kd.C k56 w D l0_1.length l0_1) (ac:l0_1.length≤I) (aE:Kd.C (Kd.int .i64) w A1 l1.length l1) (ao:l1.length≤c1) (h:r30_Has.f k B l0_1 l1=some r):
    Calls Tryz.prog 9 #[.agg #[.int .i64 B,.slice D l0_1.length I],.slice A1 l1.length c1] w fun e w'=>e= .returned (.bool r)∧Below w.heap.size w w':=by
 have aR:=Tryz.underlying24
 have aa:=aM ad
 have Z:=aM ac
 clear ad ac
 have ai:=aM aE
 have ah:=aM ao
 clear aE ao
 have HB:=aM (Below.refl w.heap.size w)
 have H:((r30_Sift.f k B l0_1 l1).bind fun ab=>(if ab.2=(l0_1.length:Int) then((r30_Unit.f k (l1.length:Int)).bind fun O=>((r09_SameInts.f k ab.1 O).bind fun L=>(some L))) else(some false)))=some r:=h
 clear h
 replace H:=oB H
 obtain⟨⟨P,Y⟩,ae,H⟩:=H
 replace H:(if Y=(l0_1.length:Int) then((r30_Unit.f k (l1.length:Int)).bind fun O=>((r09_SameInts.f k P O).bind fun L=>(some L))) else(some false))=some r:=H
 have A3:=aM ae
 clear ae
 by_cases c4:Y=(l0_1.length:Int)
 ·rw[if_pos c4] at H
  have aj:=beq_iff_eq.mpr c4;have ak:=bne_eq_false_iff_eq.mpr c4;clear c4;replace H:=oB H;obtain⟨O,af,H⟩:=H;replace H:((r09_SameInts.f k P O).bind fun L=>(some L))=some r:=H;have A5:=aM af;clear af;replace H:=oB H;obtain⟨L,ag,H⟩:=H;replace H:(some L)=some r:=H;have A6:=aM ag;clear ag;obtain rfl:=oI H
  go_enter Tryz.func9,Tryz.ntmps9
  go_wp2_with (first|((with_reducible refine Zq (N:=2) rfl ?_);(try(refine Zv (by rfl) ?_;dsimp only));refine Zx ?hg (N:=2) ?hd (cs:= #[.int .i64 B,.slice D l0_1.length I]) (t:=24) ?hr ?_;(case hd=>rfl);(case hg=>rfl);(case hr=>first|(go_simp;done)|(go_simp;rfl));intro z hg w7 hbox hb;have m:=aM (hbox);have U:=aM ((by rw[hg];exact(Zc zz128):w.heap.size≤z));have GE392:=aM ((by rw[hg];exact(Zc zz128):w.heap.size≤z));replace HB:=aM (Zd zz128 hb);clear hb hbox hg;have aI:w7.cell? ⟨z,0,none⟩=some (.int .i64 B):=(Za m.out 0).trans rfl;have aJ:w7.cell? ⟨z,1,none⟩=some (.slice D l0_1.length I):=(Za m.out 1).trans rfl;have aK:=Zb m.out 0;have aL:=Zb m.out 1)|((with_reducible refine Zr (f:=39) rfl ?_);refine ZI (some 10) rfl rfl Tryz.func39 (by kernel_rfl) rfl #[.agg #[.int .i64 B,.slice D l0_1.length I],.slice A1 l1.length c1] rfl zz127 ?_;(with_reducible refine(r30_Sift.calls k B _ _ l0_1 (fun k_=>k_<w.heap.size) _ _ l1 P Y _ ?sa ?sb ?sc A3.out).mono ?_);(case sa=>exact zC (Kd.C_below aa.out HB.out));(case sb=>exact Z.out);(case sc=>exact Kd.V_mk ah.out (Kd.F_below (Kd.C_F (Kd.heap_int .i64) ai.out) zz105));rintro e w9 ⟨aF,rfl,ho0,hb⟩;refine⟨_,rfl,?_⟩;have J:=aM (Kd.V_lower (Kd.V_mono (ok':=fun k_=>k_≠z) ho0 (fun k_ hk_=>Or.elim hk_ (fun hs_=>fun e_=>Nat.not_le.2 hs_ (by rw[e_];exact U.out)) (fun hn_=>(Kd.freshB (g:=z) (o:= .cells #[.int .i64 B,.slice D l0_1.length I] 24 (0,0)) (zB m) k_ hn_)))) (Zc zz105));replace m:=aM (Zf (g:=z) (o:= .cells #[.int .i64 B,.slice D l0_1.length I] 24 (0,0)) (zB m) hb);replace HB:=aM (Zd zz105 hb);(try clear hb);(try clear an);(try clear hk);(try clear hi);(try clear ho0);have aq:w9.cell? ⟨z,0,none⟩=some (.int .i64 B):=(Za m.out 0).trans rfl;have ar:w9.cell? ⟨z,1,none⟩=some (.slice D l0_1.length I):=(Za m.out 1).trans rfl;have ay:=Zb m.out 0;have az:=Zb m.out 1)|(go_at_call 40;(with_reducible refine(r30_Unit.calls k (l1.length:Int) O _ A5.out).mono ?_);rintro e aT ⟨aS,rfl,ho0,hb⟩;replace J:=aM (Kd.V_elder' (zV J) (Kd.R_base ho0) hb);have X:=aM (Kd.R_lower ho0 (Zc zz105));replace m:=aM (Zf (g:=z) (o:= .cells #[.int .i64 B,.slice D l0_1.length I] 24 (0,0)) (zB m) hb);replace HB:=aM (Zd zz105 hb);(try clear hb);(try clear an);(try clear hk);(try clear hi);(try clear ho0);obtain⟨aN,aP,al⟩:=Kd.V_slice J.out;subst al;obtain⟨aO,aQ,am⟩:=Kd.R_slice X.out;subst am)|(go_at_call 20;(with_reducible refine(r09_SameInts.calls k _ _ P _ _ O L _ ?sa ?sb ?sc ?sd A6.out).mono ?_);(case sa=>exact zC ((Kd.V_reads' J.out).2.2));(case sb=>exact(Kd.V_reads' J.out).2.1);(case sc=>exact zC ((Kd.R_reads' X.out).2.2));(case sd=>exact(Kd.R_reads' X.out).2.1);rintro e w' ⟨rfl,⟨nd,rfl⟩⟩))
  go_ret
  exact⟨by first|rfl|(simp[Zm,Zl]<;>rfl)|(simp[*,Zm,Zl]<;>rfl),by repeat(first|(with_reducible first|exact HB.out|apply Zh|apply Zg|apply Zj|refine Zi ?_ GE392.out)|exact HB.out)⟩
 rw[if_neg c4] at H
 have aj:=beq_eq_false_iff_ne.mpr c4
 have ak:=bne_iff_ne.mpr c4
 obtain rfl:=oI H
 go_enter Tryz.func9,Tryz.ntmps9
 go_wp2_with (first|((with_reducible refine Zq (N:=2) rfl ?_);(try(refine Zv (by rfl) ?_;dsimp only));refine Zx ?hg (N:=2) ?hd (cs:= #[.int .i64 B,.slice D l0_1.length I]) (t:=24) ?hr ?_;(case hd=>rfl);(case hg=>rfl);(case hr=>first|(go_simp;done)|(go_simp;rfl));intro z hg aG hbox hb;have m:=aM (hbox);have U:=aM ((by rw[hg];exact(Zc zz128):w.heap.size≤z));have GE392:=aM ((by rw[hg];exact(Zc zz128):w.heap.size≤z));replace HB:=aM (Zd zz128 hb);clear hb hbox hg;have au:aG.cell? ⟨z,0,none⟩=some (.int .i64 B):=(Za m.out 0).trans rfl;have av:aG.cell? ⟨z,1,none⟩=some (.slice D l0_1.length I):=(Za m.out 1).trans rfl;have aA:=Zb m.out 0;have aB:=Zb m.out 1)|((with_reducible refine Zr (f:=39) rfl ?_);refine ZI (some 10) rfl rfl Tryz.func39 (by kernel_rfl) rfl #[.agg #[.int .i64 B,.slice D l0_1.length I],.slice A1 l1.length c1] rfl zz127 ?_;(with_reducible refine(r30_Sift.calls k B _ _ l0_1 (fun k_=>k_<w.heap.size) _ _ l1 P Y _ ?sa ?sb ?sc A3.out).mono ?_);(case sa=>exact zC (Kd.C_below aa.out HB.out));(case sb=>exact Z.out);(case sc=>exact Kd.V_mk ah.out (Kd.F_below (Kd.C_F (Kd.heap_int .i64) ai.out) zz105));rintro e aH ⟨aF,rfl,ho0,hb⟩;refine⟨_,rfl,?_⟩;have J:=aM (Kd.V_lower (Kd.V_mono (ok':=fun k_=>k_≠z) ho0 (fun k_ hk_=>Or.elim hk_ (fun hs_=>fun e_=>Nat.not_le.2 hs_ (by rw[e_];exact U.out)) (fun hn_=>(Kd.freshB (g:=z) (o:= .cells #[.int .i64 B,.slice D l0_1.length I] 24 (0,0)) (zB m) k_ hn_)))) (Zc zz105));replace m:=aM (Zf (g:=z) (o:= .cells #[.int .i64 B,.slice D l0_1.length I] 24 (0,0)) (zB m) hb);replace HB:=aM (Zd zz105 hb);(try clear hb);(try clear an);(try clear hk);(try clear hi);(try clear ho0);have aw:aH.cell? ⟨z,0,none⟩=some (.int .i64 B):=(Za m.out 0).trans rfl;have ax:aH.cell? ⟨z,1,none⟩=some (.slice D l0_1.length I):=(Za m.out 1).trans rfl;have aC:=Zb m.out 0;have aD:=Zb m.out 1))
 go_ret
 exact⟨by first|rfl|(simp[Zm,Zl]<;>rfl)|(simp[*,Zm,Zl]<;>rfl),by repeat(first|(with_reducible first|exact HB.out|apply Zh|apply Zg|apply Zj|refine Zi ?_ GE392.out)|exact HB.out)⟩
end
end Go.Proofs.YtjjlhbgpdncpcaaGreat.P
namespace Go.Proofs.YtjjlhbgpdncpcaaGreat.P.M
def siftS:List S56→Int→List Int→List Int×Int
 | [],i,p=>(p,i)
 |x::xs,i,p=>if ap p x.f0∈x.f1 then siftS xs (i+1) (mulL p (invL (x.f2.getD (x.f1.idxOf (ap p x.f0)) []))) else(p,i)
structure GoodL (n:Nat) (x:S56):Prop where
 p0:0≤x.f0
 p1:x.f0<n
 nd:x.f1.Nodup
 len:x.f2.length=x.f1.length
 short:x.f1.length≤64
 pm:∀r∈x.f2,Pm n r
theorem GoodL.of {n:Nat} {G:List Int→Prop} (h:IsG n G) {x:S56} (hx:x∈ZR n G):GoodL n x:=by
 have hs:=(chainP_small (n:=n) (G:=G) (fun p hp=>h.pm hp)).2 x hx
 have e:=h.n64
 have hg:=gens_pm h
 have hin:∀r∈x.f2,Pm n r:=fun r hr=>h.pm (hg r (mem_gensOf.2 ⟨x,hx,hr⟩))
 obtain⟨c,hc,rfl,_⟩:=Yd hx
 exact⟨by show(0:Int)≤(c:Int);omega,by show(c:Int)<n;omega,orbF_nodup n G (c:Int),hs.2.1,by omega,hin⟩
theorem getD_mem' {l:List (List Int)} {i:Nat} (h:i<l.length):l.getD i []∈l:=by
 rw[List.getD_eq_getElem?_getD,List.getElem?_eq_getElem h];exact List.getElem_mem h
theorem rep_at {n:Nat} {x:S56} (h:GoodL n x) {v:Int} (hv:v∈x.f1):x.f1.idxOf v<x.f2.length∧Pm n (x.f2.getD (x.f1.idxOf v) []):=by
 have h1:x.f1.idxOf v<x.f2.length:=by rw[h.len];exact List.idxOf_lt_length_of_mem hv
 exact⟨h1,h.pm _ (getD_mem' h1)⟩
theorem idxOf_nd {l:List Int} (hnd:l.Nodup) {i:Nat} (hi:i<l.length):l.idxOf l[i]=i:=by
 have h1:=List.idxOf_lt_length_of_mem (List.getElem_mem hi)
 have h2:l[l.idxOf l[i]]=l[i]:=List.getElem_idxOf h1
 exact(List.getElem_inj hnd).1 h2
theorem rsift_l1 {n:Nat} (hn:n≤64) (d:Int) (l:List S56) (i:Nat) {x:S56} (h:GoodL n x) {p:List Int} (hp:Pm n p) (u:List Int×Int)
    (cont:ap p x.f0∈x.f1→Tells (fun k=>r30_Sift.l0 k (mulL p (invL (x.f2.getD (x.f1.idxOf (ap p x.f0)) []))) (wrap64 ((i:Int)+1)) d l) u) (no:ap p x.f0∉x.f1→u=(p,(i:Int))):
    ∀(m j:Nat),j+m=x.f1.length→Tells (fun k=>r30_Sift.l1 k p (i:Int) (if ap p x.f0∈x.f1.take j then((x.f1.idxOf (ap p x.f0):Nat):Int) else-1) (j:Int) d l x.f0 x.f1 x.f2) u
 | 0, j,hj=>by
  have hpl:=hp.1
  refine Tells.shift ?_;simp only[r30_Sift.l1];rw[List.take_of_length_le (by omega)]
  refine Tells.neg (by omega) ?_
  by_cases hv:ap p x.f0∈x.f1
  ·have hr:=rep_at h hv;rw[if_pos hv,rd1_at];have e1:at1 x.f2 (x.f1.idxOf (ap p x.f0))=x.f2.getD (x.f1.idxOf (ap p x.f0)) []:=rfl;rw[e1];have z:=hr.2.inv.1
   exact Tells.neg (by omega) (Tells.pos (by omega) (Tells.pos (by omega) (Tells.bind (Back_tells hr.2 (by omega)) (Tells.bind (Then_tells _ _ (by omega) (by rw[z];exact hp.rg)) (cont hv)))))
  ·rw[if_neg hv]
   exact Tells.pos (by omega) (Tells.now' (no hv).symm)
 | m + 1, j,hj=>by
  have hpl:=hp.1;have h0:=h.p0;have h1:=h.p1;have hs:=h.short;have hjl:j<x.f1.length:=by omega
  have e0:ap x.f1 (j:Int)=x.f1[j]:=by rw[ap_nat,List.getD_eq_getElem?_getD,List.getElem?_eq_getElem hjl];rfl
  refine Tells.shift ?_;simp only[r30_Sift.l1,rd_ap,e0]
  refine Tells.pos (by omega) (Tells.pos (by omega) (Tells.pos h0 (Tells.pos (by omega) ?_)));have ih:=rsift_l1 hn d l i h hp u cont no m (j+1) (by omega);have hw:wrap64 ((j:Int)+1)=((j+1:Nat):Int):=w64 (by omega) (by omega)
  by_cases e:x.f1[j]=ap p x.f0
  ·refine Tells.pos e ?_;have hm:ap p x.f0∈x.f1.take (j+1):=by rw[List.take_succ_eq_append_getElem hjl,e];simp
   have B:x.f1.idxOf (ap p x.f0)=j:=by rw[←e];exact idxOf_nd h.nd hjl
   rw[if_pos hm,B] at ih;rw[hw]
   exact ih
  ·refine Tells.neg e ?_;rw[hw]
   have hm:ap p x.f0∈x.f1.take (j+1)↔ap p x.f0∈x.f1.take j:=by
    rw[List.take_succ_eq_append_getElem hjl,List.mem_append,List.mem_singleton]
    constructor
    ·rintro (k|k)
     ·exact k
     ·exact absurd k.symm e
    ·exact fun k=> .inl k
   by_cases o:ap p x.f0∈x.f1.take j
   ·rw[if_pos o];rw[if_pos (hm.2 o)] at ih;exact ih
   ·rw[if_neg o];rw[if_neg (fun k=>o (hm.1 k))] at ih;exact ih
theorem RSift_loop {n:Nat} (hn:n≤64) (d:Int) {l:List S56} (hl:l.length≤64) (h:∀x∈l,GoodL n x):∀(m i:Nat) (p:List Int),i+m=l.length→Pm n p→Tells (fun k=>r30_Sift.l0 k p (i:Int) d l) (siftS (l.drop i) (i:Int) p)
 | 0,i,p,hi,hp=>by
  refine Tells.shift ?_;simp only[r30_Sift.l0]
  refine Tells.neg (by omega) (Tells.now' ?_);rw[List.drop_of_length_le (by omega)];simp only[siftS];rw[show(l.length:Int)=(i:Int) by omega]
 | m +1,i,p,hi,hp=>by
  have hil:i<l.length:=by omega
  have hg:=h _ (List.getElem_mem hil)
  refine Tells.shift ?_;simp only[r30_Sift.l0,rd74_at hil];rw[List.drop_eq_getElem_cons hil];simp only[siftS]
  refine Tells.pos (by omega) (Tells.pos (by omega) ?_)
  have:=rsift_l1 hn d l i hg hp (if ap p l[i].f0∈l[i].f1 then siftS (l.drop (i+1)) ((i:Int)+1) (mulL p (invL (l[i].f2.getD (l[i].f1.idxOf (ap p l[i].f0)) []))) else(p,(i:Int))) (fun hv=>by
   rw[if_pos hv,w64 (n:=(i:Int)+1) (by omega) (by omega)]
   exact RSift_loop hn d hl h m (i+1) _ (by omega) (hp.mul (rep_at hg hv).2.inv)) (fun hv=>by rw[if_neg hv]) l[i].f1.length 0 (by omega)
  rw[List.take_zero,if_neg (by simp)] at this
  exact this
def hasS (l:List S56) (p:List Int):Bool:=decide ((siftS l 0 p).2=(l.length:Int))&&decide ((siftS l 0 p).1=idL p.length)
theorem sift_elem {n:Nat} {G:List Int→Prop} (h:IsG n G):∀(m b:Nat) (i:Int) (g:List Int),b+m=n→G g→Fx (b:Int) g→siftS (lvsF n G b m) i g=(idL n,i+(lvsF n G b m).length)
 | 0,b,i,g,hb,hg,hf=>by
  have:(b:Int)=n:=by omega
  rw[this] at hf;have e:=hf.all (h.pm hg);simp[lvsF,siftS,e]
 | m + 1,b,i,g,hb,hg,hf=>by
  have hp:=h.pm hg;rw[lvsF_succ]
  by_cases hlen:1<(lvP n G (b:Int)).f1.length
  ·rw [if_pos hlen];simp only[List.singleton_append,siftS];have hx:=hp.rng (i:=(b:Int)) (by omega) (by omega);have hv:ap g (lvP n G (b:Int)).f0∈(lvP n G (b:Int)).f1:=orbF_mem.2 ⟨hx.1,hx.2,h.least (by omega) hg hf⟩;rw[if_pos hv];obtain⟨_,_,q,hq⟩:=orbF_mem.1 hv;have hidx:=List.idxOf_lt_length_of_mem hv
   have hrep:(lvP n G (b:Int)).f2.getD ((lvP n G (b:Int)).f1.idxOf (ap g (lvP n G (b:Int)).f0)) []=q:=by
    have e1:(lvP n G (b:Int)).f2=(lvP n G (b:Int)).f1.map (Yi n G (b:Int)):=rfl;rw[e1,List.getD_eq_getElem?_getD,List.getElem?_map,List.getElem?_eq_getElem hidx];simp only[Option.map_some,Option.getD_some];rw[List.getElem_idxOf hidx]
    exact leastQ_eq hq
   rw[hrep];have hqp:=h.pm hq.1;have hs:=strip_fx (b:=(b:Int)) (by omega) (by omega) hp hf hqp hq.2.1 hq.2.2.1;rw[sift_elem h m (b+1) (i+1) _ (by omega) (h.mul hg (h.inv hq.1)) (show Fx ((b:Int)+1) _ from hs.2)];simp only[List.length_cons]
   congr 1
   omega
  ·rw [if_neg hlen,List.nil_append]
   have e:ap g (b:Int)=b:=by
    apply Classical.byContradiction;intro hne;obtain⟨c,_,_,hl⟩:=Yd (h.level (by omega) hg hf hne).1
    exact hlen hl
   exact sift_elem h m (b+1) i g (by omega) hg (show Fx ((b:Int)+1) g from hf.up e)
theorem has_elem {n:Nat} {G:List Int→Prop} (h:IsG n G) {g:List Int} (hg:G g):hasS (ZR n G) g=true:=by
 have h1:=sift_elem h n 0 0 g (by omega) hg (fun j h0 h1=>by omega)
 have h2:siftS (ZR n G) 0 g=(idL n,((ZR n G).length:Int)):=by
  show siftS (lvsF n G 0 n) 0 g=_
  rw[h1,Int.zero_add];rfl
 have hp:=(h.pm hg).1
 simp only[hasS,h2,hp,decide_true,Bool.and_self]
def ordL (o p:List Int):List Int:=(idL o.length).mergeSort (fun a b=>decide (rd p (rd o a)≤rd p (rd o b)))
theorem Yf (o p:List Int):(ordL o p).Perm (idL o.length):=List.mergeSort_perm _ _
theorem ordL_sorted (o p:List Int):(ordL o p).Pairwise (fun a b=>rd p (rd o a)≤rd p (rd o b)):=by
 have:=List.pairwise_mergeSort (le:=fun a b:Int=>decide (rd p (rd o a)≤rd p (rd o b))) (by intro a b c;simp;omega) (by intro a b;simp;omega) (idL o.length)
 exact this.imp (fun h=>by simpa using h)
theorem ap_getElem {l:List Int} {i:Int} (h0:0≤i) (h1:i<(l.length:Int)):ap l i=l[i.toNat]'(by omega):=by
 show l.getD i.toNat 0=_
 rw[List.getD_eq_getElem?_getD,List.getElem?_eq_getElem (by omega)];rfl
theorem nd_ap {l:List Int} (h:l.Nodup) {i j:Int} (h0:0≤i) (h1:i<(l.length:Int)) (k0:0≤j) (k1:j<(l.length:Int)) (e:ap l i=ap l j):i=j:=by
 rw[ap_getElem h0 h1,ap_getElem k0 k1] at e
 have:=(List.getElem_inj h).1 e
 omega
theorem key_inj {n:Nat} {o p:List Int} (ho:o.Nodup) (hr:∀y∈o,0≤y∧y<(n:Int)) (hp:Pm n p) {a b:Int} (ha:a∈idL o.length) (hb:b∈idL o.length) (e:rd p (rd o a)=rd p (rd o b)):a=b:=by
 rw[mem_idL] at ha hb
 have h1:=hr _ (ap_mem ha.1 ha.2)
 have h2:=hr _ (ap_mem hb.1 hb.2)
 have hl:=hp.1
 exact nd_ap ho ha.1 ha.2 hb.1 hb.2 (hp.inj h1.1 h1.2 h2.1 h2.2 e)
theorem ordL_uniq {n:Nat} {o p:List Int} (ho:o.Nodup) (hr:∀y∈o,0≤y∧y<(n:Int)) (hp:Pm n p) (r:List Int) (h1:r.Perm (idL o.length)) (h2:r.Pairwise (fun a b=>rd p (rd o a)≤rd p (rd o b))):r=ordL o p:=
 (h1.trans (Yf o p).symm).eq_of_pairwise (fun a b ha hb h k=>key_inj ho hr hp (h1.mem_iff.1 ha) ((Yf o p).mem_iff.1 hb) (by omega)) h2 (ordL_sorted o p)
def ZU:List S56→List Int→List (List Int)
 | [],p=> [p]
 |x::r,p=>(ordL x.f1 p).flatMap (fun j=>ZU r (mulL (Zo x.f2 j) p))
structure GoodE (n:Nat) (x:S56):Prop where
 g:GoodL n x
 rg:∀y∈x.f1,0≤y∧y<(n:Int)
 pos:0<x.f1.length
theorem GoodE.rep {n:Nat} {x:S56} (h:GoodE n x) {j:Int} (h0:0≤j) (h1:j<(x.f1.length:Int)):Pm n (Zo x.f2 j):=by
 refine h.g.pm _ ?_
 show x.f2.getD j.toNat []∈x.f2
 exact getD_mem' (by have:=h.g.len;omega)
theorem GoodE.next {n:Nat} {x:S56} (h:GoodE n x) {p:List Int} (hp:Pm n p) {j:Int} (h0:0≤j) (h1:j<(x.f1.length:Int)):Pm n (mulL (Zo x.f2 j) p):=Pm.mul (h.rep h0 h1) hp
theorem GoodE.tells {n:Nat} {x:S56} (h:GoodE n x) (hn:n≤1000) {p:List Int} (hp:Pm n p) {j:Int} (h0:0≤j) (h1:j<(x.f1.length:Int)):∃k,perm_then.f k (Zo x.f2 j) p=some (mulL (Zo x.f2 j) p):=
 (then_tells _ _ (by have:=(h.rep h0 h1).1;omega) (by rw[hp.1];exact(h.rep h0 h1).rg)).some
def ChL (n:Nat):Int→List S56→Prop
 |_,[]=>True
 |b,x::r=>b≤x.f0∧GoodE n x∧(∀j:Int,0≤j→j<(x.f1.length:Int)→Fx x.f0 (Zo x.f2 j)∧ap (Zo x.f2 j) x.f0=rd x.f1 j)∧ChL n (x.f0+1) r
theorem rep_is {n:Nat} {G:List Int→Prop} {b:Int} {j:Int} (h0:0≤j) (h1:j<((lvP n G b).f1.length:Int)):LeastAt n G b (rd (lvP n G b).f1 j) (Zo (lvP n G b).f2 j):=by
 have hj:j.toNat<(lvP n G b).f1.length:=by omega
 have hin:rd (lvP n G b).f1 j∈(lvP n G b).f1:=ap_mem h0 h1
 obtain⟨_,_,q,hq⟩:=orbF_mem.1 (show rd (lvP n G b).f1 j∈orbF n G b 0 n from hin)
 have e:Zo (lvP n G b).f2 j=Yi n G b (rd (lvP n G b).f1 j):=by
  show((lvP n G b).f1.map (Yi n G b)).getD j.toNat []=Yi n G b ((lvP n G b).f1.getD j.toNat 0)
  rw[List.getD_eq_getElem?_getD,List.getElem?_map,List.getElem?_eq_getElem hj,List.getD_eq_getElem?_getD,List.getElem?_eq_getElem hj];rfl
 rw[e,leastQ_eq hq]
 exact hq
theorem lv_in {n:Nat} {G:List Int→Prop} {c:Nat} (hc:c<n) (h:1<(lvP n G (c:Int)).f1.length):lvP n G (c:Int)∈ZR n G:=by
 unfold ZR lvsF
 rw[List.mem_filter,List.mem_map]
 exact⟨⟨c,by rw[List.mem_range'_1];omega,rfl⟩,dT h⟩
theorem chL_lvs {n:Nat} {G:List Int→Prop} (h:IsG n G):∀(m b:Nat),b+m=n→ChL n (b:Int) (lvsF n G b m)
 |0,b,hb=>by simp[lvsF,ChL]
 | m + 1,b,hb=>by
  rw[lvsF_succ];have ih:=chL_lvs h m (b+1) (by omega)
  by_cases hlen:1<(lvP n G (b:Int)).f1.length
  ·rw [if_pos hlen,List.singleton_append]
   refine⟨Int.le_refl _,⟨GoodL.of h (lv_in (by omega) hlen),fun y hy=> ?_,by omega⟩,fun j h0 h1=> ?_,ih⟩
   ·have:=orbF_mem.1 (show y∈orbF n G (b:Int) 0 n from hy)
    exact⟨this.1,this.2.1⟩
   ·have:=rep_is h0 h1
    exact⟨this.2.1,this.2.2.1⟩
  ·rw[if_neg hlen,List.nil_append];clear hlen
   revert ih
   cases lvsF n G (b+1) m with
   |nil=>intro _;trivial
   |cons x r=>intro hx;exact⟨by have:=hx.1;omega,hx.2⟩
theorem elems_fix {n:Nat} :∀(L:List S56) (b:Int),0≤b→ChL n b L→∀(p:List Int),Pm n p→∀z∈ZU L p,Pm n z∧∀i:Int,0≤i→i<b→i<(n:Int)→ap z i=ap p i
 | [],b,hb,h,p,hp,z,hz=>by
  rw[ZU,List.mem_singleton] at hz;subst hz
  exact⟨hp,fun _ _ _ _=>rfl⟩
 | x::r,b,hb,h,p,hp,z,hz=>by
  obtain⟨h1,hg,hr,h2⟩:=h;rw[ZU,List.mem_flatMap] at hz;obtain⟨j,hj,hz⟩:=hz;have hj':=mem_idL.1 ((Yf x.f1 p).mem_iff.1 hj);have hn:=hg.next hp hj'.1 hj'.2
  have ih:=elems_fix r (x.f0+1) (by omega) h2 _ hn z hz
  refine⟨ih.1,fun i i0 i1 i2=> ?_⟩;have hrl:=(hg.rep hj'.1 hj'.2).1;rw[ih.2 i i0 (by omega) i2,ap_mul i0 (by omega),(hr j hj'.1 hj'.2).1 i i0 (by omega)]
theorem elems_at {n:Nat} {x:S56} {r:List S56} {b:Int} (hb:0≤b) (h:ChL n b (x::r)) {p:List Int} (hp:Pm n p) {j:Int} (h0:0≤j) (h1:j<(x.f1.length:Int)) {z:List Int} (hz:z∈ZU r (mulL (Zo x.f2 j) p)):
    (∀i:Int,0≤i→i<x.f0→ap z i=ap p i)∧ap z x.f0=rd p (rd x.f1 j):=by
 obtain⟨hbx,hg,hr,h2⟩:=h
 have hn:=hg.next hp h0 h1
 have hf:=elems_fix r (x.f0+1) (by omega) h2 _ hn z hz
 have hrl:=(hg.rep h0 h1).1
 have m:=hg.g.p1
 have e:=hg.g.p0
 refine⟨fun i i0 i1=> ?_,?_⟩
 ·rw[hf.2 i i0 (by omega) (by omega),ap_mul i0 (by omega),(hr j h0 h1).1 i i0 i1]
 ·rw[hf.2 x.f0 e (by omega) m,ap_mul e (by omega),(hr j h0 h1).2];rfl
theorem elems_sorted {n:Nat} :∀(L:List S56) (b:Int),0≤b→ChL n b L→∀(p:List Int),Pm n p→(ZU L p).Pairwise (Lx n)
 | [],b,hb,h,p,hp=>by rw[ZU];exact List.pairwise_singleton _ _
 | x ::r,b,hb,h,p,hp=>by
  have hc:=h;obtain⟨h1,hg,hr,h2⟩:=h;have m:=hg.g.p0;rw[ZU,List.pairwise_flatMap]
  refine⟨fun j hj=> ?_,?_⟩
  ·have hj':=mem_idL.1 ((Yf x.f1 p).mem_iff.1 hj)
   exact elems_sorted r (x.f0+1) (by omega) h2 _ (hg.next hp hj'.1 hj'.2)
  ·have hnd:(ordL x.f1 p).Nodup:=(Yf x.f1 p).nodup_iff.2 (Pm_id _).2.2
   refine((ordL_sorted x.f1 p).and hnd).imp_of_mem (fun {j1 j2} m1 m2 hk z1 o z2 z=> ?_);have q1:=(Yf x.f1 p).mem_iff.1 m1;have q2:=(Yf x.f1 p).mem_iff.1 m2;have r1:=mem_idL.1 q1;have r2:=mem_idL.1 q2;have a1:=elems_at hb hc hp r1.1 r1.2 o;have a2:=elems_at hb hc hp r2.1 r2.2 z
   refine⟨x.f0,m,hg.g.p1,fun i i0 i1=>by rw[a1.1 i i0 i1,a2.1 i i0 i1],?_⟩;rw[a1.2,a2.2];have hne:rd p (rd x.f1 j1)≠rd p (rd x.f1 j2):=fun e=>hk.2 (key_inj hg.g.nd hg.rg hp q1 q2 e)
   have:=hk.1;omega
theorem elems_G {G:List Int→Prop} (hm:∀p q,G p→G q→G (mulL p q)):∀(L:List S56),(∀x∈L,∀j:Int,0≤j→j<(x.f1.length:Int)→G (Zo x.f2 j))→∀p,G p→∀z∈ZU L p,G z
 | [],h,p,hp,z,hz=>by
  rw[ZU,List.mem_singleton] at hz;subst hz
  exact hp
 | x::r,h,p,hp,z,hz=>by
  rw[ZU,List.mem_flatMap] at hz;obtain⟨j,hj,hz⟩:=hz;have hj':=mem_idL.1 ((Yf x.f1 p).mem_iff.1 hj)
  exact elems_G hm r (fun y hy=>h y (List.mem_cons_of_mem _ hy)) _ (hm _ _ (h x (List.mem_cons_self ..) j hj'.1 hj'.2) hp) z hz
theorem elems_len:∀(L:List S56) (p:List Int),(ZU L p).length=(L.map (fun x=>x.f1.length)).foldr (· *·) 1
 | [],p=>rfl
 | x ::r,p=>by
  rw[ZU,List.length_flatMap,List.map_cons,List.foldr_cons]
  have e:(ordL x.f1 p).map (fun j=>(ZU r (mulL (Zo x.f2 j) p)).length)=List.replicate x.f1.length ((r.map (fun x=>x.f1.length)).foldr (· *·) 1):=by
   rw[List.eq_replicate_iff]
   refine⟨by rw[List.length_map,(Yf x.f1 p).length_eq];simp[idL],fun v hv=> ?_⟩;rw[List.mem_map] at hv;obtain⟨j,_,rfl⟩:=hv
   exact elems_len r _
  rw[e,List.sum_replicate_nat]
end Go.Proofs.YtjjlhbgpdncpcaaGreat.P.M
namespace Go.Proofs.YtjjlhbgpdncpcaaGreat.P
def Z1 (l:List Int):List Int:=(l.reverse.dropWhile (fun x=>x==0)).reverse
def nat_short.f (l0:List Int):Option (List Int):=some (Z1 l0)
theorem shortL_snoc0 (l:List Int):Z1 (l++ [0])=Z1 l:=by simp[Z1]
theorem shortL_snoc (l:List Int) {x:Int} (h:x≠0):Z1 (l++ [x])=l++ [x]:=by simp[Z1,h]
theorem shortL_take0 (l:List Int) {n:Nat} (hn:n<l.length) (h:rd l (n:Int)=0):Z1 (l.take (n+1))=Z1 (l.take n):=by
 have h1:l[n]=0:=by simpa[rd,List.getD_eq_getElem?_getD,hn] using h
 rw[List.take_succ_eq_append_getElem hn,h1,shortL_snoc0]
theorem shortL_take (l:List Int) {n:Nat} (hn:n<l.length) (h:rd l (n:Int)≠0):Z1 (l.take (n+1))=l.take (n+1):=by
 have h1:l[n]≠0:=by simpa[rd,List.getD_eq_getElem?_getD,hn] using h
 rw[List.take_succ_eq_append_getElem hn,shortL_snoc _ h1]
theorem short_slice3 (t e:TypeId) (kl:IntKind) {i:TypeInfo} (ht:Tryz.prog.underlying t=some (.slice e)) (hi:Tryz.prog.info? e=some i) (hsz:i.size=1) (A:Option Addr) (c len:Nat) (n:Nat) (hc:n≤c):
    ∀W:World,(Instr.slice t (.slice A len c) none (some (.int kl (n:Int))) (some (.int kl (n:Int)))).run Tryz.prog W= .ok (.slice A n n) W:=by
 intro W
 have hel:Tryz.prog.elem t=e:=by simp[Program.elem,ht]
 have hu:Tryz.prog.underlying t=some (.slice (Tryz.prog.elem t)):=by rw[hel];exact ht
 have ha:(A.map fun x=>x.add 0)=A:=by cases A<;>simp[Addr.add]
 rw[run_slice_hm W t A len c hu kl kl n n (by omega) (by omega) (by omega),hel]
 simp[sizeOf,typeInfo,hi,hsz,sliced,Result.andThen,ha]
theorem nat_short.calls (o:Nat→Prop) (A0:Option Addr) (c0:Nat) (l0:List Int) (r:List Int) (w:World) (z:Kd.V (Kd.int .u32) 65 w w.heap.size (fun k_=>o k_) (.slice A0 l0.length c0) l0) (h:nat_short.f l0=some r):
    Calls Tryz.prog 74 #[.slice A0 l0.length c0] w fun e w'=>∃I:Value,e= .returned (I)∧Kd.V (Kd.int .u32) 65 w' w.heap.size (fun k_=>(o k_∨w.heap.size≤k_)) I r∧Below w.heap.size w w':=by
 have HS:=aM z
 obtain⟨_,hc,hC⟩:=Kd.V_reads' z
 have hlen:l0.length≤9223372036854775807:=by have:=hC.2.1;omega
 have L:=aM hC
 have J:=aM hc
 have HB:=aM (Below.refl w.heap.size w)
 have HQ:Aside0 (Z1 (l0.take l0.length)=r):=⟨by rw[List.take_length];exact oI h⟩
 have HN:=aM hlen
 clear h z hc hC hlen
 go_enter Tryz.func74,Tryz.ntmps74
 go_wp2
 go_loopg [3] (l0.length+1) (fun kq v3 w'=>∃x3:Int,v3= .int .i64 x3∧Aside0 (0≤x3∧x3.toNat<kq∧x3≤l0.length)∧Aside0 (Z1 (l0.take x3.toNat)=r)∧Aside0 (Below w.heap.size w w'))
 case atStart=>exact⟨(l0.length:Int),rfl,⟨by omega⟩,by simpa using HQ,HB⟩
 case round =>
  clear HQ;obtain⟨x3,rfl,HK1,HQ,HB⟩:=hrel
  cases gk with
  |zero=>exact absurd HK1.out.2.1 (by omega)
  | succ k1=>
   have HF:Aside0 (Z1 (l0.take x3.toNat)=l0.take x3.toNat→∀W,Below w.heap.size w W→Kd.V (Kd.int .u32) 65 W w.heap.size (fun k_=>(o k_∨w.heap.size≤k_)) (.slice A0 x3.toNat x3.toNat) r):=by
    refine⟨?_⟩;intro hq W hW;have hl:(l0.take x3.toNat).length=x3.toNat:=by rw[List.length_take];have:=HK1.out;omega
    have:=Kd.V_mk (e:=65) (base:=w.heap.size) (c:=x3.toNat) (by omega) (Kd.F_take (Kd.V_F HS.out) (m:=x3.toNat) zz167);rw[hl] at this;rw[←HQ.out,hq]
    exact Kd.V_below (Kd.V_mono this (fun _ hk=> .inl hk)) hW
   have hs:∀W:World,(Instr.slice 38 (.slice A0 l0.length c0) none (some (.int .i64 x3)) (some (.int .i64 x3))).run Tryz.prog W= .ok (.slice A0 x3.toNat x3.toNat) W:=by
    have h0:=short_slice3 38 65 .i64 Tryz.underlying38 (info_parts info65).choose_spec.1 (info_parts info65).choose_spec.2.2.1 A0 c0 l0.length x3.toNat (by have:=HK1.out;have:=J.out;omega);rw[show((x3.toNat:Nat):Int)=x3 from by have:=HK1.out;omega] at h0
    exact h0
   by_cases c2:x3>0
   ·have B:decide (0<x3)=true:=dT c2;obtain⟨ji3,hji3⟩:∃j_:Int,(wrap64 (x3-1))=j_:=⟨_,rfl⟩;have O:(IntKind.i64.wrap (x3-1))=ji3:=(Zt _).trans hji3
    have hj:ji3=x3-1:=by
     rw[←hji3];have:=HN.out;have:=HK1.out;unfold wrap64;omega
    have p0:(0:Int)≤ji3:=by omega
    have q0:ji3<(l0.length:Int):=by have:=HK1.out;omega
    obtain⟨ad,e1,hx⟩:=Kd.at_int L.out ji3 p0 q0
    cases e1;replace hx:=(HB.out.cell (wB w _ hx)).trans hx;have HJ:=aM hj;replace p0:=eq_true p0;replace q0:=eq_true q0;clear hj c2
    by_cases c6:rd l0 ji3=0
    ·have D:(rd l0 ji3==0)=true:=beq_iff_eq.mpr c6;have HZ:=aM c6;clear c6;go_wp2
     go_roundg k1
     case measure=>have:=HK1.out;omega
     case rel=> 
      have p0':(0:Int)≤ji3:=of_eq_true p0;have hjn:x3.toNat=ji3.toNat+1:=by have:=HJ.out;omega
      refine⟨ji3,zz148,⟨by have:=HK1.out;have:=HJ.out;omega⟩,⟨?_⟩,⟨by first|exact HB.out|exact Zg HB.out _⟩⟩;rw[←HQ.out,hjn]
      exact(shortL_take0 l0 zz167 zz154).symm
    have D:(rd l0 ji3==0)=false:=beq_eq_false_iff_ne.mpr c6;have hjn:x3.toNat=ji3.toNat+1:=by have:=HJ.out;have:=of_eq_true p0;omega
    have HE:Aside0 (Z1 (l0.take x3.toNat)=l0.take x3.toNat):=⟨by rw[hjn];exact shortL_take l0 (by have:=HK1.out;have:=HJ.out;have:=of_eq_true p0;omega) zz147⟩;clear c6 hjn;go_wp2;go_ret
    exact⟨_,rfl,HF.out HE.out _ (by first|exact HB.out|exact Zg HB.out _),by first|exact HB.out|exact Zg HB.out _⟩
   have B:decide (0<x3)=false:=dF c2;have HE:Aside0 (Z1 (l0.take x3.toNat)=l0.take x3.toNat):=⟨by rw[show x3.toNat=0 from by omega];simp[Z1]⟩;clear c2;go_wp2;go_ret
   exact⟨_,rfl,HF.out HE.out _ (by first|exact HB.out|exact Zg HB.out _),by first|exact HB.out|exact Zg HB.out _⟩
theorem shortL_length (l:List Int):(Z1 l).length≤l.length:=by
 have:=List.IsSuffix.length_le (List.dropWhile_suffix (fun x:Int=>x==0) (l:=l.reverse))
 simpa[Z1] using this
def nat_Trim.f (l0:List Int):Option (List Int):=if l0.length≤1000000000 then some (Z1 l0) else none
theorem nat_Trim.calls (A0:Option Addr) (c0:Nat) (l0:List Int) (r:List Int) (w:World) (L:Kd.C (Kd.int .u32) w A0 l0.length l0) (J:l0.length≤c0) (h:nat_Trim.f l0=some r):
    Calls Tryz.prog 72 #[.slice A0 l0.length c0] w fun e w'=>∃O:Value,e= .returned (O)∧Kd.R (Kd.int .u32) 65 w' w.heap.size (fun _=>True) O r∧Below w.heap.size w w':=by
 have Y:=aM L
 have U:=aM J
 have hq:l0.length≤1000000000∧Z1 l0=r:=by
  unfold nat_Trim.f at h
  split at h
  ·exact⟨by assumption,oI h⟩
  ·cases h
 have HQ:=aM hq
 clear L J hq h
 go_enter Tryz.func72,Tryz.ntmps72
 go_wp2_with (first
  |(go_at_call 74;(with_reducible refine(nat_short.calls (fun k_=>k_<w.heap.size) _ _ l0 (Z1 l0) _ ?s1 rfl).mono ?_);(case s1=>exact Kd.V_mk U.out (Kd.C_F (Kd.heap_int .u32) Y.out));rintro e w1 ⟨v1,rfl,o,D⟩;obtain⟨A1,c1,rfl⟩:=Kd.V_slice o;have HV:=aM o;have z:=aM D;clear o D)
  |((with_reducible refine ZQ (b:= .append) (xs:= #[.const (.slice none 0 0),.tmp 4]) rfl ?_);at_builtin;refine Kd.R_append_rows (Kd.int .u32) (w0:=w) w.heap.size rfl (.const (.slice none 0 0)) (.tmp 4) 38 65 (.int .u32 0) 4 rfl Tryz.underlying38 info65 rfl (by decide) (by omega) (.slice none 0 0) [] (Z1 l0) _ _ _ (fun _=>True) (fun _=>False) rfl rfl ?aO ?aR (fun _ _ h=>h) (fun _ h=>h.elim) ?aF ?aB ?aS ?aL ?_;(case aR=>exact(Kd.V_reads' HV.out).2.2);(case aB=>exact z.out);(case aF=>exact(fun _ _=>trivial));(case aO=>exact Kd.R_nil _ _ _ _ _);(case aS=>exact z.out.size);(case aL=>have:=HQ.out.1;have:=shortL_length l0;simp only[List.length_nil];omega);intro v2 w2 m I Z B;have X:=aM m;have P:=aM I;clear m I Z B))
 go_ret
 have m:=X.out
 rw[List.nil_append,HQ.out.2] at m
 exact⟨_,rfl,m,P.out⟩
section
attribute [local go_sem] ZH ZF ZL ZK ZB ZA ZG ZE
def nat_Of.f (a0:Int):Option (List Int):=(nat_Trim.f (([(a0)%4294967296,(a0/4294967296)%4294967296]:List Int))).bind fun t217=>(some t217)
theorem nat_Of.calls (a0:Int) (r:List Int) (w:World) (h:nat_Of.f a0=some r):
    Calls Tryz.prog 49 #[.int .u64 a0] w fun e w'=>∃O:Value,e= .returned (O)∧Kd.R (Kd.int .u32) 65 w' w.heap.size (fun _=>True) O r∧Below w.heap.size w w':=by
 have HB:=aM (Below.refl w.heap.size w)
 have H:((nat_Trim.f (([(a0)%4294967296,(a0/4294967296)%4294967296]:List Int))).bind fun z=>(some z))=some r:=h
 clear h
 obtain⟨I,o⟩:∃y_:List Int,y_=(([(a0)%4294967296,(a0/4294967296)%4294967296]:List Int)):=⟨_,rfl⟩
 replace H:((nat_Trim.f I).bind fun z=>(some z))=some r:=by first|(rw[o];with_reducible exact H)|(have H2_:=(Option.bind_some _ _).symm.trans H;rw[o];with_reducible exact H2_)|(have H2_:=(Option.bind_some _ _).symm.trans H;with_reducible exact H2_)|with_reducible exact H|(rw[o];exact H)|exact H
 have B:=aM o
 clear o
 replace H:=oB H
 obtain⟨z,L,H⟩:=H
 replace H:(some z)=some r:=H
 have A2:=aM L
 clear L
 obtain rfl:=oI H
 go_enter Tryz.func49,Tryz.ntmps49
 go_wp2_with (first|((with_reducible refine Zq (N:=8) rfl ?_);refine Kd.R_lit (Kd.int .u32) _ 65 ?hg (N:=8) ?hd (xs:=([(a0)%4294967296,(a0/4294967296)%4294967296]:List Int)) (inner:= [.int .u32 ((a0)%4294967296),.int .u32 ((a0/4294967296)%4294967296)]) (ok:=fun _=>True) (okp:=fun _=>True) ?hr ?hp (fun _ hk=>hk) trivial (Below.refl _ _) (Nat.le_refl _) (by simp) ?_;(case hd=>rfl);(case hg=>rfl);(case hr=>first|(go_simp;done)|(go_simp;rfl));(case hp=>exact(Reps.one (show Kd.M (Kd.int .u32) _ _ _ ((a0)%4294967296) [.int .u32 ((a0)%4294967296)] from rfl) (Reps.one (show Kd.M (Kd.int .u32) _ _ _ ((a0/4294967296)%4294967296) [.int .u32 ((a0/4294967296)%4294967296)] from rfl) (Reps.none _ _))));intro Y w3 D hb hg_ hnew_;clear hg_ hnew_;(first|rw[←B.out] at D|(simp only[Int.reduceToNat] at D;rw[←B.out] at D));have m:=aM (Kd.R_lower D (Zc zz128));replace HB:=aM (Zd zz128 hb);clear hb D;obtain⟨P,U,X⟩:=Kd.R_slice m.out;subst X)|((with_reducible refine Zr (f:=72) rfl ?_);refine ZI (some 9) rfl rfl Tryz.func72 (by kernel_rfl) rfl #[.slice P I.length U] rfl zz127 ?_;(with_reducible refine(nat_Trim.calls _ _ I z _ ?sa ?sb A2.out).mono ?_);(case sa=>exact zC ((Kd.R_reads' m.out).2.2));(case sb=>exact(Kd.R_reads' m.out).2.1);rintro e w6 ⟨Z,rfl,ho0,hb⟩;refine⟨_,rfl,?_⟩;have J:=aM (Kd.R_lower (Kd.R_new' ho0 (Kd.R_lt (zR m))) (Zc zz128));replace m:=aM (Kd.R_elder' (zR m) (Kd.R_base ho0) hb);replace HB:=aM (Zd zz128 hb);(try clear hb);(try clear aa);(try clear hk);(try clear hi);(try clear ho0)))
 go_ret
 exact⟨_,by first|rfl|(simp[Zm,Zl]<;>rfl)|(simp[*,Zm,Zl]<;>rfl),by(with_reducible repeat(first|apply Kd.R_alloc|apply Kd.R_drewN|apply Kd.R_drew));exact Kd.R_mono J.out (fun _ hk=>trivial),by repeat(first|(with_reducible first|exact HB.out|apply Zh|apply Zg|apply Zj)|exact HB.out)⟩
mutual
def nat_times.l0:Nat→List Int→List Int→List Int→Int→Int→Option (List Int)
 |0,_,_,_,_,_=>none
 |k+1,x1,x5,x18,x19,x20=>if x20<x19 then(if 0≤x20 then(if x20<(x18.length:Int) then(nat_times.l1 k x1 x5 x20 (rd x18 x20) 0 x18 x19 x20 x1 (x1.length:Int) 0) else(none)) else(none)) else((nat_short.f x5).bind fun t223=>(some t223))
def nat_times.l1:Nat→List Int→List Int→Int→Int→Int→List Int→Int→Int→List Int→Int→Int→Option (List Int)
 |0,_,_,_,_,_,_,_,_,_,_,_=>none
 |k+1,x1,x5,x6,x7,x8,x18,x19,x20,x25,x26,x27=>if x27<x26 then(if 0≤x27 then(if x27<(x25.length:Int) then(if 0≤(wrap64 (x6+x27)) then(if(wrap64 (x6+x27))<(x5.length:Int) then(nat_times.l1 k x1 (x5.set ((wrap64 (x6+x27)):Int).toNat ((IntKind.u64.wrap ((IntKind.u64.wrap ((IntKind.u64.wrap ((IntKind.u64.wrap (x7))*(IntKind.u64.wrap (rd x25 x27))))+(IntKind.u64.wrap (rd x5 (wrap64 (x6+x27))))))+x8))%4294967296)) x6 x7 ((IntKind.u64.wrap ((IntKind.u64.wrap ((IntKind.u64.wrap ((IntKind.u64.wrap (x7))*(IntKind.u64.wrap (rd x25 x27))))+(IntKind.u64.wrap (rd x5 (wrap64 (x6+x27))))))+x8))/4294967296) x18 x19 x20 x25 x26 (wrap64 (x27+1))) else(none)) else(none)) else(none)) else(none)) else(if 0≤(wrap64 (x6+(x1.length:Int))) then(if(wrap64 (x6+(x1.length:Int)))<(x5.length:Int) then(nat_times.l0 k x1 (x5.set ((wrap64 (x6+(x1.length:Int))):Int).toNat ((x8)%4294967296)) x18 x19 (wrap64 (x20+1))) else(none)) else(none))
end
def nat_times.f (k:Nat) (l0:List Int) (l1:List Int):Option (List Int):=if 0≤(wrap64 ((l0.length:Int)+(l1.length:Int))) then(if(wrap64 ((l0.length:Int)+(l1.length:Int)):Int).toNat≤70368744177664 then(nat_times.l0 k l1 (List.replicate (wrap64 ((l0.length:Int)+(l1.length:Int)):Int).toNat 0) l0 (l0.length:Int) 0) else(none)) else(none)
theorem nat_times.calls (k : Nat) (A0:Option Addr) (c0:Nat) (l0:List Int) (A1:Option Addr) (c1:Nat) (l1:List Int) (r:List Int) (w:World) (bi:Kd.C (Kd.int .u32) w A0 l0.length l0) (bg:l0.length≤c0) (bj:Kd.C (Kd.int .u32) w A1 l1.length l1) (bh:l1.length≤c1) (h:nat_times.f k l0 l1=some r):
    Calls Tryz.prog 73 #[.slice A0 l0.length c0,.slice A1 l1.length c1] w fun e w'=>∃bk:Value,e= .returned (bk)∧Kd.V (Kd.int .u32) 65 w' w.heap.size (fun k_=>(w.heap.size≤k_)) bk r∧Below w.heap.size w w':=by
 have bu:=aM bi
 have bS:=aM bg
 clear bi bg
 have bv:=aM bj
 have bT:=aM bh
 clear bj bh
 have HB:=aM (Below.refl w.heap.size w)
 have H:(if 0≤(wrap64 ((l0.length:Int)+(l1.length:Int))) then(if(wrap64 ((l0.length:Int)+(l1.length:Int)):Int).toNat≤70368744177664 then(nat_times.l0 k l1 (List.replicate (wrap64 ((l0.length:Int)+(l1.length:Int)):Int).toNat 0) l0 (l0.length:Int) 0) else(none)) else(none))=some r:=h
 clear h
 obtain⟨ji3,hji3⟩:∃j_:Int,(wrap64 ((l0.length:Int)+(l1.length:Int)))=j_:=⟨_,rfl⟩
 replace H:(if 0≤(ji3) then(if(ji3:Int).toNat≤70368744177664 then(nat_times.l0 k l1 (List.replicate (ji3:Int).toNat 0) l0 (l0.length:Int) 0) else(none)) else(none))=some r:=by first|(rw[hji3] at H;exact H)|(simp only[hji3] at H⊢;exact H)
 have bH:(IntKind.i64.wrap ((l0.length:Int)+(l1.length:Int)))=ji3:=(Zt _).trans hji3
 by_cases c4:0≤(ji3)
 ·rw [if_pos c4] at H
  have aB:=eq_true c4;have aC:=dT c4;clear c4
  by_cases c5:(ji3:Int).toNat≤70368744177664
  ·rw [if_pos c5] at H; have aD:=eq_true c5;have aE:=dT c5;clear c5;obtain⟨aO,L⟩:∃y_:List Int,y_=(List.replicate (ji3:Int).toNat 0):=⟨_,rfl⟩;replace H:(nat_times.l0 k l1 aO l0 (l0.length:Int) 0)=some r:=by first|(rw[L];with_reducible exact H)|(have H2_:=(Option.bind_some _ _).symm.trans H;rw[L];with_reducible exact H2_)|(have H2_:=(Option.bind_some _ _).symm.trans H;with_reducible exact H2_)|with_reducible exact H|(rw[L];exact H)|exact H
   have ae:=aM L;clear L;have H':=aM H;clear H
   go_enter Tryz.func73,Tryz.ntmps73
   go_wp2_with (first|((with_reducible refine Zq (N:=17) rfl ?_);refine Kd.R_make (Kd.int .u32) _ 65 rfl (N:=17) rfl 38 _ _ rfl ji3 rfl rfl Tryz.underlying38 (.int .u32 0) 4 info65 rfl (by decide) (by omega) 0 (ok:=fun _=>True) (okp:=fun _=>True) rfl (fun _ hk=>hk) trivial (oD zz156) (Nat.le_trans (Nat.mul_le_mul_right _ (oD zz156:ji3.toNat≤70368744177664)) (by omega)) (Below.refl _ _) (Nat.le_refl _) ?_;intro aN w6 ah hb hg_ hnew_;clear hg_ hnew_;(first|rw[←ae.out] at ah|(simp only[Int.reduceToNat] at ah;rw[←ae.out] at ah));have aP:=aM (Kd.R_lower (Kd.R_newM (M:=fun k_=>(w.heap.size≤k_)) ah (Zc zz128) (fun k_ h_=>h_)) (Zc zz128));replace HB:=aM (Zd zz128 hb);clear hb ah))
   go_loopg [20] k (fun kq bI w'=>∃(U:List Int) (m:Int),bI= .int .i64 m∧Aside0 (nat_times.l0 kq l1 U l0 (l0.length:Int) m=some r)∧Aside0 (kq≤k)∧Aside0 (Kd.R (Kd.int .u32) 65 w' w.heap.size (fun k_=>(w.heap.size≤k_)) aN U)∧Aside0 (Below w.heap.size w w'))
   case atStart=>exact⟨(aO),(0),zz157,H',⟨Nat.le_refl _⟩,⟨(by(with_reducible repeat(first|apply Kd.R_alloc|apply Kd.R_drewN|apply Kd.R_drew));exact Kd.R_mono aP.out (fun _ hk=>hk.1))⟩,⟨zz128⟩⟩
   case round =>
    clear H';(try clear c1);(try clear p2);(try clear c4);(try clear aB);(try clear aC);(try clear c5);(try clear aD);(try clear aE);(try clear p6);(try clear c7);obtain⟨U,m,rfl,HA,HK1,HO_5,HB⟩:=hrel
    cases gk with
    |zero=>exact absurd HA.out (by simp[nat_times.l0])
    | succ k1=>
     have H:=HA.out;clear HA;simp only[nat_times.l0] at H
     by_cases c8:m<(l0.length:Int)
     ·rw [if_pos c8] at H;have aF:=dT c8;clear c8
      by_cases c9:0≤m
      ·rw [if_pos c9] at H;have a3:=dT c9;clear c9
       by_cases c10:m<(l0.length:Int)
       ·rw [if_pos c10] at H;have aT:=dT c10;clear c10;have H':=aM H;clear H;have Z:0≤(m:Int):=oD zz156;have aa:m<(l0.length:Int):=oD zz156;obtain⟨bw,a6,I⟩:=Kd.at_int bu.out m Z aa
        cases a6;replace I:=(HB.out.cell (wB w _ I)).trans I;replace Z:=eq_true Z;replace aa:=eq_true aa;go_wp2
        go_loopg [8,27] k1 (fun kq v8 bJ w'=>∃(x5_2:List Int) (B:Int) (o:Int),v8= .int .u64 B∧bJ= .int .i64 o∧Aside0 (nat_times.l1 kq l1 x5_2 m (rd l0 m) B l0 (l0.length:Int) m l1 (l1.length:Int) o=some r)∧Aside0 (kq≤k1)∧Aside0 (Kd.R (Kd.int .u32) 65 w' w.heap.size (fun k_=>(w.heap.size≤k_)) aN x5_2)∧Aside0 (Below w.heap.size w w'))
        case atStart=>exact⟨(U),(0),(0),zz157,zz157,H',⟨Nat.le_refl _⟩,⟨(zR HO_5)⟩,⟨zz128⟩⟩
        case round =>
         clear H';(try clear c1);(try clear p2);(try clear q2);(try clear bV);(try clear c4);(try clear aB);(try clear aC);(try clear c5);(try clear aD);(try clear aE);(try clear p6);(try clear c7);(try clear c8);(try clear aF);(try clear c9);(try clear a3);(try clear c10);(try clear aT);(try clear I);(try clear p2);(try clear Z);(try clear p6);(try clear aa);obtain⟨x5_2,B,o,rfl,rfl,HA,HK2,HO_5,HB⟩:=hrel
         cases gk with
         |zero=>exact absurd HA.out (by simp[nat_times.l1])
         | succ k2=>
          have H:=HA.out;clear HA;simp only[nat_times.l1] at H
          by_cases ab:o<(l1.length:Int)
          ·rw [if_pos ab] at H;have aU:=dT ab;clear ab
           by_cases ao:0≤o
           ·rw [if_pos ao] at H;have bA:=dT ao;clear ao
            by_cases aq:o<(l1.length:Int)
            ·rw [if_pos aq] at H;have bB:=dT aq;clear aq;obtain⟨z,X⟩:∃j_:Int,(wrap64 (m+o))=j_:=⟨_,rfl⟩;replace H:(if 0≤(z) then(if(z)<(x5_2.length:Int) then(nat_times.l1 k2 l1 (x5_2.set ((z):Int).toNat ((IntKind.u64.wrap ((IntKind.u64.wrap ((IntKind.u64.wrap ((IntKind.u64.wrap ((rd l0 m)))*(IntKind.u64.wrap (rd l1 o))))+(IntKind.u64.wrap (rd x5_2 (z)))))+B))%4294967296)) m (rd l0 m) ((IntKind.u64.wrap ((IntKind.u64.wrap ((IntKind.u64.wrap ((IntKind.u64.wrap ((rd l0 m)))*(IntKind.u64.wrap (rd l1 o))))+(IntKind.u64.wrap (rd x5_2 (z)))))+B))/4294967296) l0 (l0.length:Int) m l1 (l1.length:Int) (wrap64 (o+1))) else(none)) else(none))=some r:=by first|(rw[X] at H;exact H)|(simp only[X] at H⊢;exact H)
             have bo:(IntKind.i64.wrap (m+o))=z:=(Zt _).trans X
             by_cases ar:0≤(z)
             ·rw [if_pos ar] at H;have bC:=dT ar;clear ar
              by_cases au:(z)<(x5_2.length:Int)
              ·rw[if_pos au] at H;have bD:=dT au;clear au;obtain⟨am,O⟩:∃y_:List Int,y_=(x5_2.set ((z):Int).toNat ((IntKind.u64.wrap ((IntKind.u64.wrap ((IntKind.u64.wrap ((IntKind.u64.wrap ((rd l0 m)))*(IntKind.u64.wrap (rd l1 o))))+(IntKind.u64.wrap (rd x5_2 (z)))))+B))%4294967296)):=⟨_,rfl⟩;replace H:(nat_times.l1 k2 l1 am m (rd l0 m) ((IntKind.u64.wrap ((IntKind.u64.wrap ((IntKind.u64.wrap ((IntKind.u64.wrap ((rd l0 m)))*(IntKind.u64.wrap (rd l1 o))))+(IntKind.u64.wrap (rd x5_2 (z)))))+B))/4294967296) l0 (l0.length:Int) m l1 (l1.length:Int) (wrap64 (o+1)))=some r:=by first|(rw[O];with_reducible exact H)|(have H2_:=(Option.bind_some _ _).symm.trans H;rw[O];with_reducible exact H2_)|(have H2_:=(Option.bind_some _ _).symm.trans H;with_reducible exact H2_)|with_reducible exact H|(rw[O];exact H)|exact H
               have aR:=aM O;clear O;have H':=aM H;clear H;have aj:0≤(o:Int):=oD zz156;have q227:o<(l1.length:Int):=oD zz156;obtain⟨bx,a7,J⟩:=Kd.at_int bv.out o aj q227
               cases a7;replace J:=(HB.out.cell (wB w _ J)).trans J;replace aj:=eq_true aj;replace q227:=eq_true q227;obtain⟨bK,a4,a9⟩:=Kd.R_slice HO_5.out;subst a9;have ak:0≤((z):Int):=oD zz156;have al:(z)<(x5_2.length:Int):=oD zz156;obtain⟨bz,a8,ai⟩:=Kd.at_int (Kd.R_reads' HO_5.out).2.2 (z) ak al
               cases a8;replace ak:=eq_true ak;replace al:=eq_true al;have aV:0≤((z):Int):=oD zz156;have aX:((z):Int)<((x5_2.length:Int):Int):=oD zz156;obtain⟨af,bP,aH,aJ,bb,bN,az⟩:=Kd.R_form HO_5.out (by omega)
               (first|cases aH|(injection aH with ea_ en_ ec_;(first|subst ea_|(injection ea_ with ea_;subst ea_));subst ec_;clear en_))
               have a1:=aM aJ;have bL:=aM az;clear aJ bb az
               (first|simp only[Z5] at ai|skip)
               obtain⟨bq,bm⟩:=Kd.R_celln 0 HO_5.out ((z):Int) aV aX;replace aV:=eq_true aV;replace aX:=eq_true aX;have ac:=Kd.R_putg HO_5.out ((z):Int) ((IntKind.u64.wrap ((IntKind.u64.wrap ((IntKind.u64.wrap ((IntKind.u64.wrap ((rd l0 m)))*(IntKind.u64.wrap (rd l1 o))))+(IntKind.u64.wrap (rd x5_2 (z)))))+B))%4294967296)
               go_wp2_with (first|((with_reducible refine ZO (t:=65) (p:=53) rfl ?_);refine ZM (t:=65) (p:=53) (v:= ?vo_w20) (w1:=(wr.setCell ⟨af,((z):Int).toNat,none⟩ (.int .u32 ((IntKind.u64.wrap ((IntKind.u64.wrap ((IntKind.u64.wrap ((IntKind.u64.wrap ((rd l0 m)))*(IntKind.u64.wrap (rd l1 o))))+(IntKind.u64.wrap (rd x5_2 (z)))))+B))%4294967296)))) ?hg ?ho ?hn ?hr ?_;(case ho=>rfl);(case hg=>rfl);(case hn=>rfl);(case hr=>first|(go_simp;done)|(go_simp;rfl));intro aZ hw;have hg:wr.grownBy aZ (some af):=(by rw[hw];exact ac.2);have hp_:Kd.R (Kd.int .u32) 65 aZ w.heap.size (fun k_=>(w.heap.size≤k_)) (.slice (some ⟨af,0,none⟩) x5_2.length a4) am:=(by rw[hw,aR.out];exact ac.1);clear ac;replace HO_5:=aM (hp_);replace HB:=aM ((by rw[hw];exact Zi (HB.out) a1.out:Below w.heap.size w aZ));clear hg hw hp_))
               go_roundg k2
               case measure=>have:=HK1.out;have:=HK2.out;omega
               case rel=>exact⟨(am),((IntKind.u64.wrap ((IntKind.u64.wrap ((IntKind.u64.wrap ((IntKind.u64.wrap ((rd l0 m)))*(IntKind.u64.wrap (rd l1 o))))+(IntKind.u64.wrap (rd x5_2 (z)))))+B))/4294967296),(wrap64 (o+1)),(by first|rfl|(simp;done)|(simp only[←X]<;>(first|rfl|simp))|(simp[*];done)),zz157,H',⟨zz159⟩,⟨(zR HO_5)⟩,⟨zz128⟩⟩
              rw[if_neg au] at H
              exact absurd H (by simp)
             rw[if_neg ar] at H
             exact absurd H (by simp)
            rw[if_neg aq] at H
            exact absurd H (by simp)
           rw[if_neg ao] at H
           exact absurd H (by simp)
          rw[if_neg ab] at H;have aU:=dF ab;clear ab;obtain⟨D,Y⟩:∃j_:Int,(wrap64 (m+(l1.length:Int)))=j_:=⟨_,rfl⟩;replace H:(if 0≤(D) then(if(D)<(x5_2.length:Int) then(nat_times.l0 k2 l1 (x5_2.set ((D):Int).toNat ((B)%4294967296)) l0 (l0.length:Int) (wrap64 (m+1))) else(none)) else(none))=some r:=by first|(rw[Y] at H;exact H)|(simp only[Y] at H⊢;exact H)
          have bp:(IntKind.i64.wrap (m+(l1.length:Int)))=D:=(Zt _).trans Y
          by_cases av:0≤(D)
          ·rw [if_pos av] at H;have bE:=dT av;clear av
           by_cases aw:(D)<(x5_2.length:Int)
           ·rw[if_pos aw] at H;have bF:=dT aw;clear aw;obtain⟨an,P⟩:∃y_:List Int,y_=(x5_2.set ((D):Int).toNat ((B)%4294967296)):=⟨_,rfl⟩;replace H:(nat_times.l0 k2 l1 an l0 (l0.length:Int) (wrap64 (m+1)))=some r:=by first|(rw[P];with_reducible exact H)|(have H2_:=(Option.bind_some _ _).symm.trans H;rw[P];with_reducible exact H2_)|(have H2_:=(Option.bind_some _ _).symm.trans H;with_reducible exact H2_)|with_reducible exact H|(rw[P];exact H)|exact H
            have aS:=aM P;clear P;have H':=aM H;clear H;have aW:0≤((D):Int):=oD zz156;have aY:((D):Int)<((x5_2.length:Int):Int):=oD zz156;obtain⟨ag,a5,aI,aK,bc,bO,aA⟩:=Kd.R_form HO_5.out (by omega)
            (first|cases aI|(injection aI with ea_ en_ ec_;(first|subst ea_|(injection ea_ with ea_;subst ea_));subst ec_;clear en_))
            have a2:=aM aK;have bM:=aM aA;clear aK bc aA;obtain⟨br,bn⟩:=Kd.R_celln 0 HO_5.out ((D):Int) aW aY;replace aW:=eq_true aW;replace aY:=eq_true aY;have ad:=Kd.R_putg HO_5.out ((D):Int) ((B)%4294967296)
            go_wp2_with (first|((with_reducible refine ZO (t:=65) (p:=64) rfl ?_);refine ZM (t:=65) (p:=64) (v:= ?vo_w26) (w1:=(wr.setCell ⟨ag,((D):Int).toNat,none⟩ (.int .u32 ((B)%4294967296)))) ?hg ?ho ?hn ?hr ?_;(case ho=>rfl);(case hg=>rfl);(case hn=>rfl);(case hr=>first|(go_simp;done)|(go_simp;rfl));intro a0 hw;have hg:wr.grownBy a0 (some ag):=(by rw[hw];exact ad.2);have hp_:Kd.R (Kd.int .u32) 65 a0 w.heap.size (fun k_=>(w.heap.size≤k_)) (.slice (some ⟨ag,0,none⟩) x5_2.length a5) an:=(by rw[hw,aS.out];exact ad.1);clear ad;replace HO_5:=aM (hp_);replace HB:=aM ((by rw[hw];exact Zi (HB.out) a2.out:Below w.heap.size w a0));clear hg hw hp_))
            go_roundg k2
            case measure=>have:=HK1.out;have:=HK2.out;omega
            case rel=>exact⟨(an),(wrap64 (m+1)),zz157,H',⟨zz159⟩,⟨(zR HO_5)⟩,⟨zz128⟩⟩
           rw[if_neg aw] at H
           exact absurd H (by simp)
          rw[if_neg av] at H
          exact absurd H (by simp)
       rw[if_neg c10] at H
       exact absurd H (by simp)
      rw[if_neg c9] at H
      exact absurd H (by simp)
     rw[if_neg c8] at H;have aF:=dF c8;clear c8;replace H:=oB H;obtain⟨aL,ax,H⟩:=H;replace H:(some aL)=some r:=H;have bs:=aM ax;clear ax;obtain rfl:=oI H;obtain⟨ay,aG,ba⟩:=Kd.R_slice HO_5.out;subst ba
     go_wp2_with (first|((with_reducible refine Zr (f:=74) rfl ?_);refine ZI (some 67) rfl rfl Tryz.func74 (by kernel_rfl) rfl #[.slice ay U.length aG] rfl zz127 ?_;(with_reducible refine(nat_short.calls (fun k_=>some k_=(.slice ay U.length aG:Value).ownBlock) _ _ U aL _ ?sa bs.out).mono ?_);(case sa=>exact Kd.R_V (Kd.R_tight rfl (HO_5.out)));rintro e bW ⟨bQ,rfl,ho0,hb⟩;refine⟨_,rfl,?_⟩;have aQ:=aM (Kd.V_lower (Kd.V_mono (ok':=fun k_=>(w.heap.size≤k_)) ho0 (fun k_ hk_=>Or.elim hk_ (fun hs_=>((HO_5.out).1 k_ hs_.symm)) (fun hn_=>(Nat.le_trans (Zc zz128) hn_)))) (Zc zz128));replace HO_5:=aM (Kd.R_below (zR HO_5) hb);replace HB:=aM (Zd zz128 hb);(try clear hb);(try clear bU);(try clear hk);(try clear hi);(try clear ho0)))
     go_ret
     exact⟨_,by first|rfl|(simp[Zm,Zl]<;>rfl)|(simp only[←hji3];first|rfl|(simp[Zm,Zl]<;>rfl))|(simp[*,Zm,Zl]<;>rfl),by(with_reducible repeat(first|apply Kd.V_alloc|apply Kd.V_drewN|apply Kd.V_drew));exact aQ.out,by repeat(first|(with_reducible first|exact HB.out|apply Zh|apply Zg|apply Zj)|exact HB.out)⟩
  rw[if_neg c5] at H
  exact absurd H (by simp)
 rw[if_neg c4] at H
 exact absurd H (by simp)
def nat_Mul.l0:Nat→List Int→List (List Int)→Int→Int→Option (List Int)
 |0,_,_,_,_=>none
 |k+1,x3,x7,x8,x9=>if x9<x8 then(if 0≤x9 then(if x9<(x7.length:Int) then((nat_short.f (rd_L8 x7 x9)).bind fun t235=>((nat_times.f k x3 t235).bind fun t238=>(nat_Mul.l0 k t238 x7 x8 (wrap64 (x9+1))))) else(none)) else(none)) else((nat_Trim.f x3).bind fun t241=>(some t241))
def nat_Mul.f (k:Nat) (l0:List (List Int)):Option (List Int):=nat_Mul.l0 k (([1]:List Int)) l0 (l0.length:Int) 0
theorem nat_Mul.calls (k:Nat) (A0:Option Addr) (c0:Nat) (l0:List (List Int)) (r:List Int) (w:World) (aB:Kd.C (Kd.slice 65 (Kd.int .u32)) w A0 l0.length l0) (aA:l0.length≤c0) (h:nat_Mul.f k l0=some r):
    Calls Tryz.prog 50 #[.slice A0 l0.length c0] w fun e w'=>∃aC:Value,e= .returned (aC)∧Kd.R (Kd.int .u32) 65 w' w.heap.size (fun _=>True) aC r∧Below w.heap.size w w':=by
 have aE:=aM aB
 have aN:=aM aA
 clear aB aA
 have HB:=aM (Below.refl w.heap.size w)
 have H:(nat_Mul.l0 k (([1]:List Int)) l0 (l0.length:Int) 0)=some r:=h
 clear h
 obtain⟨af,D⟩:∃y_:List Int,y_=(([1]:List Int)):=⟨_,rfl⟩
 replace H:(nat_Mul.l0 k af l0 (l0.length:Int) 0)=some r:=by first|(rw[D];with_reducible exact H)|(have H2_:=(Option.bind_some _ _).symm.trans H;rw[D];with_reducible exact H2_)|(have H2_:=(Option.bind_some _ _).symm.trans H;with_reducible exact H2_)|with_reducible exact H|(rw[D];exact H)|exact H
 have X:=aM D
 clear D
 have H':=aM H
 clear H
 go_enter Tryz.func50,Tryz.ntmps50
 go_wp2_with (first|((with_reducible refine Zq (N:=6) rfl ?_);refine Kd.R_lit (Kd.int .u32) _ 65 ?hg (N:=6) ?hd (xs:=([1]:List Int)) (inner:= [.int .u32 1]) (ok:=fun _=>True) (okp:=fun _=>True) ?hr ?hp (fun _ hk=>hk) trivial (Below.refl _ _) (Nat.le_refl _) (by simp) ?_;(case hd=>rfl);(case hg=>rfl);(case hr=>first|(go_simp;done)|(go_simp;rfl));(case hp=>exact(Reps.one (show Kd.M (Kd.int .u32) _ _ _ 1 [.int .u32 1] from rfl) (Reps.none _ _)));intro aI w2 Y hb hg_ hnew_;clear hg_ hnew_;(first|rw[←X.out] at Y|(simp only[Int.reduceToNat] at Y;rw[←X.out] at Y));have ag:=aM (Kd.R_lower Y (Zc zz128));replace HB:=aM (Zd zz128 hb);clear hb Y))
 go_loopg [3,9] k (fun kq v3 v9 w'=>∃(o:List Int) (m:Int),v9= .int .i64 m∧Aside0 (nat_Mul.l0 kq o l0 (l0.length:Int) m=some r)∧Aside0 (kq≤k)∧Aside0 (Kd.V (Kd.int .u32) 65 w' w.heap.size (fun _=>True) v3 o)∧Aside0 (Below w.heap.size w w'))
 case atStart=>exact⟨(af),(0),zz157,H',⟨Nat.le_refl _⟩,⟨Kd.R_V (zR ag)⟩,⟨zz128⟩⟩
 case round =>
  clear H';(try clear p2);obtain⟨o,m,rfl,HA,HK1,HO_3,HB⟩:=hrel
  cases gk with
  |zero=>exact absurd HA.out (by simp[nat_Mul.l0])
  | succ k1=>
   have H:=HA.out;clear HA;simp only[nat_Mul.l0] at H
   by_cases c4:m<(l0.length:Int)
   ·rw [if_pos c4] at H;have ao:=dT c4;clear c4
    by_cases c5:0≤m
    ·rw [if_pos c5] at H;have aG:=dT c5;clear c5
     by_cases c6:m<(l0.length:Int)
     ·rw[if_pos c6] at H;have aH:=dT c6;clear c6;replace H:=oB H;obtain⟨O,aj,H⟩:=H;replace H:((nat_times.f k1 o O).bind fun L=>(nat_Mul.l0 k1 L l0 (l0.length:Int) (wrap64 (m+1))))=some r:=H;have A7:=aM aj;clear aj;replace H:=oB H;obtain⟨L,ak,H⟩:=H;replace H:(nat_Mul.l0 k1 L l0 (l0.length:Int) (wrap64 (m+1)))=some r:=H;have A8:=aM ak;clear ak;have H':=aM H;clear H;have Z:0≤(m:Int):=oD zz156;have aa:m<(l0.length:Int):=oD zz156;obtain⟨aF,ab,ac,av,B,J,I⟩:=at_L8 aE.out m Z aa
      cases av;replace B:=(HB.out.cell (wB w _ B)).trans B;have U:=aM I;have P:=aM J;clear I J;replace Z:=eq_true Z;replace aa:=eq_true aa
      go_wp2_with (first|((with_reducible refine Zr (f:=74) rfl ?_);refine ZI (some 15) rfl rfl Tryz.func74 (by kernel_rfl) rfl #[.slice ab (rd_L8 l0 m).length ac] rfl zz127 ?_;(with_reducible refine(nat_short.calls (fun k_=>k_<w.heap.size) _ _ (rd_L8 l0 m) O _ ?sa A7.out).mono ?_);(case sa=>exact Kd.V_mk P.out (Kd.F_below (Kd.C_F (Kd.heap_int .u32) U.out) zz128));rintro e w9 ⟨aJ,rfl,ho0,hb⟩;refine⟨_,rfl,?_⟩;replace HO_3:=aM (Kd.V_below (zV HO_3) hb);have z:=aM (Kd.V_lower (Kd.V_mono (ok':=fun k_=>True) ho0 (fun k_ hk_=>trivial)) (Zc zz128));replace HB:=aM (Zd zz128 hb);(try clear hb);(try clear az);(try clear hk);(try clear hi);(try clear ho0);obtain⟨al,aq,aw⟩:=Kd.V_slice HO_3.out;subst aw;obtain⟨am,ar,ax⟩:=Kd.V_slice z.out;subst ax)|((with_reducible refine Zr (f:=73) rfl ?_);refine ZI (some 16) rfl rfl Tryz.func73 (by kernel_rfl) rfl #[.slice al o.length aq,.slice am O.length ar] rfl zz127 ?_;(with_reducible refine(nat_times.calls k1 _ _ o _ _ O L _ ?sa ?sb ?sc ?sd A8.out).mono ?_);(case sa=>exact zC ((Kd.V_reads' HO_3.out).2.2));(case sb=>exact(Kd.V_reads' HO_3.out).2.1);(case sc=>exact zC ((Kd.V_reads' z.out).2.2));(case sd=>exact(Kd.V_reads' z.out).2.1);rintro e aO ⟨aK,rfl,ho0,hb⟩;refine⟨_,rfl,?_⟩;replace HO_3:=aM (Kd.V_below (zV HO_3) hb);replace z:=aM (Kd.V_below (zV z) hb);have ah:=aM (Kd.V_lower (Kd.V_mono (ok':=fun k_=>True) ho0 (fun k_ hk_=>trivial)) (Zc zz128));replace HB:=aM (Zd zz128 hb);(try clear hb);(try clear az);(try clear hk);(try clear hi);(try clear ho0)))
      go_roundg k1
      case measure=>have:=HK1.out;omega
      case rel=>exact⟨(L),(wrap64 (m+1)),zz157,H',⟨zz167⟩,⟨(zV ah)⟩,⟨zz128⟩⟩
     rw[if_neg c6] at H
     exact absurd H (by simp)
    rw[if_neg c5] at H
    exact absurd H (by simp)
   rw[if_neg c4] at H;have ao:=dF c4;clear c4;replace H:=oB H;obtain⟨ae,ad,H⟩:=H;replace H:(some ae)=some r:=H;have aD:=aM ad;clear ad;obtain rfl:=oI H;obtain⟨an,au,ay⟩:=Kd.V_slice HO_3.out;subst ay
   go_wp2_with (first|((with_reducible refine Zr (f:=72) rfl ?_);refine ZI (some 19) rfl rfl Tryz.func72 (by kernel_rfl) rfl #[.slice an o.length au] rfl zz127 ?_;(with_reducible refine(nat_Trim.calls _ _ o ae _ ?sa ?sb aD.out).mono ?_);(case sa=>exact zC ((Kd.V_reads' HO_3.out).2.2));(case sb=>exact(Kd.V_reads' HO_3.out).2.1);rintro e aP ⟨aL,rfl,ho0,hb⟩;refine⟨_,rfl,?_⟩;replace HO_3:=aM (Kd.V_elder' (zV HO_3) (Kd.R_base ho0) hb);have ai:=aM (Kd.R_lower ho0 (Zc zz128));replace HB:=aM (Zd zz128 hb);(try clear hb);(try clear az);(try clear hk);(try clear hi);(try clear ho0)))
   go_ret
   exact⟨_,by first|rfl|(simp[Zm,Zl]<;>rfl)|(simp[*,Zm,Zl]<;>rfl),by(with_reducible repeat(first|apply Kd.R_alloc|apply Kd.R_drewN|apply Kd.R_drew));exact ai.out,by repeat(first|(with_reducible first|exact HB.out|apply Zh|apply Zg|apply Zj)|exact HB.out)⟩
def perm_Size.l0:Nat→List Int→List (S56)→Int→Int→Option (List Int×Int)
 |0,_,_,_,_=>none
 |k+1,x5,x15,x16,x17=>if x17<x16 then(if 0≤x17 then(if x17<(x15.length:Int) then((nat_Of.f (IntKind.u64.wrap ((((Ze x15 x17).f1).length:Int)))).bind fun t251=>((nat_Mul.f k (([x5,t251]:List (List Int)))).bind fun t257=>(perm_Size.l0 k t257 x15 x16 (wrap64 (x17+1))))) else(none)) else(none)) else(some (x5,0))
def perm_Size.f (k:Nat) (a0_0:Int) (l0_1:List (S56)):Option (List Int×Int):=(perm_CheckChain.f k a0_0 l0_1).bind fun t245=>(if t245=0 then((nat_Of.f 1).bind fun t246=>(perm_Size.l0 k t246 l0_1 (l0_1.length:Int) 0)) else(some (([]:List Int),t245)))
theorem perm_Size.calls (k:Nat) (B:Int) (I:Option Addr) (D:Nat) (l0_1:List (S56)) (r1:List Int) (r2:Int) (w:World) (aq:Kd.C k56 w I l0_1.length l0_1) (ao:l0_1.length≤D) (h:perm_Size.f k B l0_1=some (r1,r2)):
    Calls Tryz.prog 22 #[.agg #[.int .i64 B,.slice I l0_1.length D]] w fun e w'=>∃bi:Value,e= .returned (.tuple #[bi,.int .i64 r2])∧Kd.R (Kd.int .u32) 65 w' w.heap.size (fun _=>True) bi r1∧Below w.heap.size w w':=by
 have bv:=Tryz.underlying24
 have bw:=Tryz.underlying56
 have ak:=aM aq
 have am:=aM ao
 clear aq ao
 have HB:=aM (Below.refl w.heap.size w)
 have H:((perm_CheckChain.f k B l0_1).bind fun P=>(if P=0 then((nat_Of.f 1).bind fun ab=>(perm_Size.l0 k ab l0_1 (l0_1.length:Int) 0)) else(some (([]:List Int),P))))=some (r1,r2):=h
 clear h
 replace H:=oB H
 obtain⟨P,aT,H⟩:=H
 replace H:(if P=0 then((nat_Of.f 1).bind fun ab=>(perm_Size.l0 k ab l0_1 (l0_1.length:Int) 0)) else(some (([]:List Int),P)))=some (r1,r2):=H
 have A2:=aM aT
 clear aT
 by_cases c3:P=0
 ·rw [if_pos c3] at H
  have aK:=beq_iff_eq.mpr c3;have aL:=bne_eq_false_iff_eq.mpr c3;clear c3;replace H:=oB H;obtain⟨ab,aU,H⟩:=H;replace H:(perm_Size.l0 k ab l0_1 (l0_1.length:Int) 0)=some (r1,r2):=H;have A4:=aM aU;clear aU;have H':=aM H;clear H
  go_enter Tryz.func22,Tryz.ntmps22
  go_wp2_with (first|((with_reducible refine Zq (N:=1) rfl ?_);refine Zx ?hg (N:=1) ?hd (cs:= #[.int .i64 B,.slice I l0_1.length D]) (t:=24) ?hr ?_;(case hd=>rfl);(case hg=>rfl);(case hr=>first|(go_simp;done)|(go_simp;rfl));intro z hg w5 hbox hb;have m:=aM (hbox);have aO:=aM ((by rw[hg];exact(Zc zz128):w.heap.size≤z));have GE244:=aM ((by rw[hg];exact(Zc zz128):w.heap.size≤z));replace HB:=aM (Zd zz128 hb);clear hb hbox hg;have az:w5.cell? ⟨z,0,none⟩=some (.int .i64 B):=(Za m.out 0).trans rfl;have aA:w5.cell? ⟨z,1,none⟩=some (.slice I l0_1.length D):=(Za m.out 1).trans rfl;have aD:=Zb m.out 0;have aE:=Zb m.out 1)|((with_reducible refine Zr (f:=27) rfl ?_);refine ZI (some 9) rfl rfl Tryz.func27 (by kernel_rfl) rfl #[.agg #[.int .i64 B,.slice I l0_1.length D]] rfl zz127 ?_;(with_reducible refine(perm_CheckChain.calls k B _ _ l0_1 P _ ?sa ?sb A2.out).mono ?_);(case sa=>exact zC (Kd.C_below ak.out HB.out));(case sb=>exact am.out);rintro e w7 ⟨rfl,hb⟩;refine⟨_,rfl,?_⟩;replace m:=aM (Zf (g:=z) (o:= .cells #[.int .i64 B,.slice I l0_1.length D] 24 (0,0)) (zB m) hb);replace HB:=aM (Zd zz106 hb);(try clear hb);(try clear ay);(try clear hk);(try clear hi))|((with_reducible refine Zr (f:=49) rfl ?_);refine ZI (some 13) rfl rfl Tryz.func49 (by kernel_rfl) rfl #[.int .u64 1] rfl zz127 ?_;(with_reducible refine(nat_Of.calls 1 ab _ A4.out).mono ?_);rintro e w8 ⟨bx,rfl,ho0,hb⟩;refine⟨_,rfl,?_⟩;have aP:=aM (Kd.R_lower ho0 (Zc zz106));replace m:=aM (Zf (g:=z) (o:= .cells #[.int .i64 B,.slice I l0_1.length D] 24 (0,0)) (zB m) hb);replace HB:=aM (Zd zz106 hb);(try clear hb);(try clear ay);(try clear hk);(try clear hi);(try clear ho0);have aB:w8.cell? ⟨z,0,none⟩=some (.int .i64 B):=(Za m.out 0).trans rfl;have aC:w8.cell? ⟨z,1,none⟩=some (.slice I l0_1.length D):=(Za m.out 1).trans rfl;have aF:=Zb m.out 0;have aG:=Zb m.out 1))
  go_loopg [5,17] k (fun kq v5 bs w'=>∃(O:List Int) (x17_1:Int),bs= .int .i64 x17_1∧Aside0 (perm_Size.l0 kq O l0_1 (l0_1.length:Int) x17_1=some (r1,r2))∧Aside0 (kq≤k)∧Aside0 (Kd.R (Kd.int .u32) 65 w' w.heap.size (fun _=>True) v5 O)∧Aside0 (w'.heap[z]? =some (.cells #[.int .i64 B,(.slice I l0_1.length D)] 24 (0,0)))∧Aside0 (Below w.heap.size w w'))
  case atStart=>exact⟨(ab),(0),zz157,H',⟨Nat.le_refl _⟩,⟨(zR aP)⟩,⟨(zB m)⟩,⟨zz106⟩⟩
  case round =>
   clear H';(try clear c2);(try clear p2);(try clear c3);(try clear aK);(try clear aL);(try clear c4);(try clear az);(try clear aA);(try clear aB);(try clear aC);(try clear aD);(try clear aE);(try clear aF);(try clear aG);obtain⟨O,x17_1,rfl,HA,HK1,HO_5,m,HB⟩:=hrel
   cases gk with
   |zero=>exact absurd HA.out (by simp[perm_Size.l0])
   | succ k1=>
    have H:=HA.out;clear HA;simp only[perm_Size.l0] at H
    by_cases c10:x17_1<(l0_1.length:Int)
    ·rw [if_pos c10] at H;have aR:=dT c10;clear c10
     by_cases aw:0≤x17_1
     ·rw [if_pos aw] at H;have bo:=dT aw;clear aw
      by_cases ax:x17_1<(l0_1.length:Int)
      ·rw[if_pos ax] at H;have bp:=dT ax;clear ax;replace H:=oB H;obtain⟨ac,aH,H⟩:=H;replace H:((nat_Mul.f k1 (([O,ac]:List (List Int)))).bind fun ad=>(perm_Size.l0 k1 ad l0_1 (l0_1.length:Int) (wrap64 (x17_1+1))))=some (r1,r2):=H;have bk:=aM aH;clear aH;obtain⟨av,aa⟩:∃y_:List (List Int),y_=(([O,ac]:List (List Int))):=⟨_,rfl⟩;replace H:((nat_Mul.f k1 av).bind fun ad=>(perm_Size.l0 k1 ad l0_1 (l0_1.length:Int) (wrap64 (x17_1+1))))=some (r1,r2):=by first|(rw[aa];with_reducible exact H)|(have H2_:=(Option.bind_some _ _).symm.trans H;rw[aa];with_reducible exact H2_)|(have H2_:=(Option.bind_some _ _).symm.trans H;with_reducible exact H2_)|with_reducible exact H|(rw[aa];exact H)|exact H
       have an:=aM aa;clear aa;replace H:=oB H;obtain⟨ad,aI,H⟩:=H;replace H:(perm_Size.l0 k1 ad l0_1 (l0_1.length:Int) (wrap64 (x17_1+1)))=some (r1,r2):=H;have bm:=aM aI;clear aI;have H':=aM H;clear H;have ar:0≤(x17_1:Int):=oD zz156;have au:x17_1<(l0_1.length:Int):=oD zz156;obtain⟨L,A249_1,c249_1,A249_2,c249_2,a1,X,Y,Z,ah,af,ai,ag⟩:=Z4 ak.out x17_1 ar au
       cases a1;replace X:=(HB.out.cell (wB w _ X)).trans X;replace Y:=(HB.out.cell (wB w _ Y)).trans Y;replace Z:=(HB.out.cell (wB w _ Z)).trans Z;have aY:=aM af;have aW:=aM ah;clear af ah;have aZ:=aM ag;have aX:=aM ai;clear ag ai;replace ar:=eq_true ar;replace au:=eq_true au
       go_wp2_with (first|((with_reducible refine Zq (N:=7) rfl ?_);refine Zx ?hg (N:=7) ?hd (cs:= #[.int .i64 0,.slice none 0 0,.slice none 0 0]) (t:=56) ?hr ?_;(case hd=>rfl);(case hg=>rfl);(case hr=>first|(go_simp;done)|(go_simp;rfl));intro gb250 hg aS hbox hb;replace HO_5:=aM (Kd.R_below (zR HO_5) hb);have BK250:=aM (hbox);have bn:=aM ((by rw[hg];exact(Zc zz106):w.heap.size≤gb250));have GE250:=aM ((by rw[hg];exact(Zc zz106):w.heap.size≤gb250));replace HB:=aM (Zd zz106 hb);have J:=aM ((by rw[hg];exact Nat.ne_of_lt (Zw (g:=z) (o:= .cells #[.int .i64 B,.slice (some L) l0_1.length D] 24 (0,0)) (zB m)):z≠gb250));have al:=aM ((by rw[hg];exact Nat.ne_of_gt (Zw (g:=z) (o:= .cells #[.int .i64 B,.slice (some L) l0_1.length D] 24 (0,0)) (zB m)):gb250≠z));replace m:=aM (Zf (g:=z) (o:= .cells #[.int .i64 B,.slice (some L) l0_1.length D] 24 (0,0)) (zB m) hb);clear hb hbox hg;have bq:=al.out;have br:=J.out;have a5:aS.cell? ⟨gb250,0,none⟩=some (.int .i64 0):=(Za BK250.out 0).trans rfl;have a6:aS.cell? ⟨gb250,1,none⟩=some (.slice none 0 0):=(Za BK250.out 1).trans rfl;have a7:aS.cell? ⟨gb250,2,none⟩=some (.slice none 0 0):=(Za BK250.out 2).trans rfl;have ba:=Zb BK250.out 0;have bb:=Zb BK250.out 1;have bc:=Zb BK250.out 2)|((with_reducible refine Zr (f:=49) rfl ?_);refine ZI (some 26) rfl rfl Tryz.func49 (by kernel_rfl) rfl #[.int .u64 (IntKind.u64.wrap ((((Ze l0_1 x17_1).f1).length:Int)))] rfl zz127 ?_;(with_reducible refine(nat_Of.calls (IntKind.u64.wrap ((((Ze l0_1 x17_1).f1).length:Int))) ac _ bk.out).mono ?_);rintro e bu ⟨bz,rfl,ho0,hb⟩;refine⟨_,rfl,?_⟩;have ae:=aM (Kd.R_lower (Kd.R_new' ho0 (Kd.R_lt zz52)) (Zc zz81));replace HO_5:=aM (Kd.R_elder' zz52 (Kd.R_base ho0) hb);replace m:=aM (Zf (g:=z) (o:= .cells #[.int .i64 B,.slice (some L) l0_1.length D] 24 (0,0)) (by(with_reducible repeat(first|refine Zn ?_ _|refine Zp ?_|refine Zk ?_ _));refine ZD ?_ J.out _;(with_reducible repeat(first|refine Zn ?_ _|refine Zp ?_|refine Zk ?_ _));refine ZD ?_ J.out _;(with_reducible repeat(first|refine Zn ?_ _|refine Zp ?_|refine Zk ?_ _));refine ZD ?_ J.out _;(with_reducible repeat(first|refine Zn ?_ _|refine Zp ?_|refine Zk ?_ _));exact m.out) hb);replace BK250:=aM (Zf (g:=gb250) (o:= .cells #[.int .i64 ((Ze l0_1 x17_1).f0),.slice A249_1 ((Ze l0_1 x17_1).f1).length c249_1,.slice A249_2 ((Ze l0_1 x17_1).f2).length c249_2] 56 (0,0)) (by(with_reducible repeat(first|refine Zn ?_ _|refine Zp ?_|refine Zk ?_ _));refine Zz (cs:= #[.int .i64 ((Ze l0_1 x17_1).f0),.slice A249_1 ((Ze l0_1 x17_1).f1).length c249_1,.slice none 0 0]) ?_ 2 _ rfl;(with_reducible repeat(first|refine Zn ?_ _|refine Zp ?_|refine Zk ?_ _));refine Zz (cs:= #[.int .i64 ((Ze l0_1 x17_1).f0),.slice none 0 0,.slice none 0 0]) ?_ 1 _ rfl;(with_reducible repeat(first|refine Zn ?_ _|refine Zp ?_|refine Zk ?_ _));refine Zz (cs:= #[.int .i64 0,.slice none 0 0,.slice none 0 0]) ?_ 0 _ rfl;(with_reducible repeat(first|refine Zn ?_ _|refine Zp ?_|refine Zk ?_ _));exact BK250.out) hb);replace HB:=aM (Zd zz81 hb);(try clear hb);(try clear ay);(try clear hk);(try clear hi);(try clear ho0);obtain⟨aJ,aN,a2⟩:=Kd.R_slice HO_5.out;subst a2;obtain⟨Ao20,co20,a3⟩:=Kd.R_slice ae.out;subst a3)|((with_reducible refine Zq (N:=27) rfl ?_);refine Kd.N_lit (Kd.slice 65 (Kd.int .u32)) _ 38 ?hg (N':=27) ?hd (xs:=([O,ac]:List (List Int))) (inner:= [.slice aJ O.length aN,.slice Ao20 ac.length co20]) (ok:=(fun k_=>k_≠z∧k_≠gb250)) (okp:=(fun k_=>k_≠z∧k_≠gb250)) ?hr ?hp (fun _ hk=>hk) ((show∀k_,bu.heap.size≤k_→(fun k_=>k_≠z∧k_≠gb250) k_ from fun k_ hk=>⟨Kd.freshB (g:=z) (o:= .cells #[.int .i64 B,.slice (some L) l0_1.length D] 24 (0,0)) (zB m) k_ hk,Kd.freshB (g:=gb250) (o:= .cells #[.int .i64 ((Ze l0_1 x17_1).f0),.slice A249_1 ((Ze l0_1 x17_1).f1).length c249_1,.slice A249_2 ((Ze l0_1 x17_1).f2).length c249_2] 56 (0,0)) (zB BK250) k_ hk⟩) _ (Nat.le_refl _)) (Below.refl _ _) (Nat.le_refl _) (by simp) ?_;(case hd=>rfl);(case hg=>rfl);(case hr=>first|(go_simp;done)|(go_simp;rfl));(case hp=>exact(Reps.one (show Kd.FK (Kd.slice 65 (Kd.int .u32)) _ _ O [.slice aJ O.length aN] from(Kd.FK_slice_mk (Kd.R_reads' (Kd.R_mono (ok':=(fun k_=>k_≠z∧k_≠gb250)) (Kd.R_types (Kd.R_types (HO_5.out) m.out (by decide)) BK250.out (by decide)) (fun k_ hk=>⟨hk.1.2,hk.2⟩))).2.1 (Kd.R_F (Kd.R_mono (ok':=(fun k_=>k_≠z∧k_≠gb250)) (Kd.R_types (Kd.R_types (HO_5.out) m.out (by decide)) BK250.out (by decide)) (fun k_ hk=>⟨hk.1.2,hk.2⟩))))) (Reps.one (show Kd.FK (Kd.slice 65 (Kd.int .u32)) _ _ ac [.slice Ao20 ac.length co20] from(Kd.FK_slice_mk (Kd.R_reads' (Kd.R_mono (ok':=(fun k_=>k_≠z∧k_≠gb250)) (Kd.R_types (Kd.R_types (ae.out) m.out (by decide)) BK250.out (by decide)) (fun k_ hk=>⟨hk.1.2,hk.2⟩))).2.1 (Kd.R_F (Kd.R_mono (ok':=(fun k_=>k_≠z∧k_≠gb250)) (Kd.R_types (Kd.R_types (ae.out) m.out (by decide)) BK250.out (by decide)) (fun k_ hk=>⟨hk.1.2,hk.2⟩))))) (Reps.none _ _))));intro bA bC aj hb hg_ hnew_;clear hg_ hnew_;(first|rw[←an.out] at aj|(simp only[Int.reduceToNat] at aj;rw[←an.out] at aj));have U:=aM (Kd.N_lower aj (Zc zz81));replace m:=aM (Zf (g:=z) (o:= .cells #[.int .i64 B,.slice (some L) l0_1.length D] 24 (0,0)) (zB m) hb);replace BK250:=aM (Zf (g:=gb250) (o:= .cells #[.int .i64 ((Ze l0_1 x17_1).f0),.slice A249_1 ((Ze l0_1 x17_1).f1).length c249_1,.slice A249_2 ((Ze l0_1 x17_1).f2).length c249_2] 56 (0,0)) (zB BK250) hb);replace HB:=aM (Zd zz81 hb);clear ae HO_5;clear hb aj;obtain⟨aV,a0,a4⟩:=Kd.N_slice U.out;subst a4)|((with_reducible refine Zr (f:=50) rfl ?_);refine ZI (some 28) rfl rfl Tryz.func50 (by kernel_rfl) rfl #[.slice aV av.length a0] rfl zz127 ?_;(with_reducible refine(nat_Mul.calls k1 _ _ av ad _ ?sa ?sb bm.out).mono ?_);(case sa=>exact zC ((Kd.N_reads' U.out).2.2));(case sb=>exact(Kd.N_reads' U.out).2.1);rintro e bD ⟨bB,rfl,ho0,hb⟩;refine⟨_,rfl,?_⟩;replace U:=aM (Kd.N_elder' (zN U) (Kd.R_base ho0) hb);have aQ:=aM (Kd.R_lower ho0 (Zc zz81));replace m:=aM (Zf (g:=z) (o:= .cells #[.int .i64 B,.slice (some L) l0_1.length D] 24 (0,0)) (zB m) hb);replace BK250:=aM (Zf (g:=gb250) (o:= .cells #[.int .i64 ((Ze l0_1 x17_1).f0),.slice A249_1 ((Ze l0_1 x17_1).f1).length c249_1,.slice A249_2 ((Ze l0_1 x17_1).f2).length c249_2] 56 (0,0)) (zB BK250) hb);replace HB:=aM (Zd zz81 hb);(try clear hb);(try clear ay);(try clear hk);(try clear hi);(try clear ho0)))
       go_roundg k1
       case measure=>have:=HK1.out;omega
       case rel=>exact⟨(ad),(wrap64 (x17_1+1)),zz157,H',⟨zz167⟩,⟨(zR aQ)⟩,⟨(zB m)⟩,⟨zz81⟩⟩
      rw[if_neg ax] at H
      exact absurd H (by simp)
     rw[if_neg aw] at H
     exact absurd H (by simp)
    rw[if_neg c10] at H;have aR:=dF c10;clear c10;simp only[Option.some.injEq,Prod.mk.injEq] at H;obtain⟨rfl,rfl⟩:=H;go_wp2
    go_ret2
    exact⟨_,by first|rfl|(simp[Zm,Zl]<;>rfl)|(simp[*,Zm,Zl]<;>rfl),by(with_reducible repeat(first|apply Kd.R_alloc|apply Kd.R_drewN|apply Kd.R_drew));exact HO_5.out,by repeat(first|(with_reducible first|exact HB.out|apply Zh|apply Zg|apply Zj|refine Zi ?_ GE244.out)|exact HB.out)⟩
 rw[if_neg c3] at H
 have aK:=beq_eq_false_iff_ne.mpr c3
 have aL:=bne_iff_ne.mpr c3
 simp only[Option.some.injEq,Prod.mk.injEq] at H
 obtain⟨rfl,rfl⟩:=H
 go_enter Tryz.func22,Tryz.ntmps22
 go_wp2_with (first|((with_reducible refine Zq (N:=1) rfl ?_);refine Zx ?hg (N:=1) ?hd (cs:= #[.int .i64 B,.slice I l0_1.length D]) (t:=24) ?hr ?_;(case hd=>rfl);(case hg=>rfl);(case hr=>first|(go_simp;done)|(go_simp;rfl));intro z hg bj hbox hb;have m:=aM (hbox);have aO:=aM ((by rw[hg];exact(Zc zz128):w.heap.size≤z));have GE244:=aM ((by rw[hg];exact(Zc zz128):w.heap.size≤z));replace HB:=aM (Zd zz128 hb);clear hb hbox hg;have a8:bj.cell? ⟨z,0,none⟩=some (.int .i64 B):=(Za m.out 0).trans rfl;have a9:bj.cell? ⟨z,1,none⟩=some (.slice I l0_1.length D):=(Za m.out 1).trans rfl;have bg:=Zb m.out 0;have bh:=Zb m.out 1)|((with_reducible refine Zr (f:=27) rfl ?_);refine ZI (some 9) rfl rfl Tryz.func27 (by kernel_rfl) rfl #[.agg #[.int .i64 B,.slice I l0_1.length D]] rfl zz127 ?_;(with_reducible refine(perm_CheckChain.calls k B _ _ l0_1 P _ ?sa ?sb A2.out).mono ?_);(case sa=>exact zC (Kd.C_below ak.out HB.out));(case sb=>exact am.out);rintro e bE ⟨rfl,hb⟩;refine⟨_,rfl,?_⟩;replace m:=aM (Zf (g:=z) (o:= .cells #[.int .i64 B,.slice I l0_1.length D] 24 (0,0)) (zB m) hb);replace HB:=aM (Zd zz106 hb);(try clear hb);(try clear ay);(try clear hk);(try clear hi)))
 go_ret2
 exact⟨_,by first|rfl|(simp[Zm,Zl]<;>rfl)|(simp[*,Zm,Zl]<;>rfl),by first|exact Kd.R_nil _ _ _ _ _|exact Kd.N_nil _ _ _ _ _|exact Kd.V_nil _ _ _ _ _|exact Kd.Q_nil _ _ _ _ _|exact Kd.S_nil _ _ _ _ _,by repeat(first|(with_reducible first|exact HB.out|apply Zh|apply Zg|apply Zj|refine Zi ?_ GE244.out)|exact HB.out)⟩
end
def r01_Trim.f (l0:List Int):Option (List Int):=if l0.length≤1000000000 then some (Z1 l0) else none
theorem r01_Trim.calls (A0:Option Addr) (c0:Nat) (l0:List Int) (r:List Int) (w:World) (ac:Kd.C (Kd.int .u32) w A0 l0.length l0) (ab:l0.length≤c0) (h:r01_Trim.f l0=some r):
    Calls Tryz.prog 42 #[.slice A0 l0.length c0] w fun e w'=>∃ae:Value,e= .returned (ae)∧Kd.R (Kd.int .u32) 65 w' w.heap.size (fun _=>True) ae r∧Below w.heap.size w w':=by
 have hC:=ac
 have hc:=ab
 have hq:l0.length≤1000000000∧Z1 l0=r:=by
  unfold r01_Trim.f at h
  split at h
  ·exact⟨by assumption,oI h⟩
  ·cases h
 have HM:=aM hq.1
 have hlen:l0.length≤9223372036854775807:=by have:=hC.2.1;omega
 have Y:=aM hC
 have af:=aM hc
 have HB:=aM (Below.refl w.heap.size w)
 have HQ:Aside0 (Z1 (l0.take l0.length)=r):=⟨by rw[List.take_length];exact hq.2⟩
 have HN:=aM hlen
 clear h ac ab hc hC hlen hq
 go_enter Tryz.func42,Tryz.ntmps42
 go_wp2
 go_loopg [3] (l0.length+1) (fun kq v3 w'=>∃x3:Int,v3= .int .i64 x3∧Aside0 (0≤x3∧x3.toNat<kq∧x3≤l0.length)∧Aside0 (Z1 (l0.take x3.toNat)=r)∧Aside0 (Below w.heap.size w w'))
 case atStart=>exact⟨(l0.length:Int),rfl,⟨by omega⟩,by simpa using HQ,HB⟩
 case round =>
  clear HQ;obtain⟨x3,rfl,HK1,HQ,HB⟩:=hrel
  cases gk with
  |zero=>exact absurd HK1.out.2.1 (by omega)
  | succ k1=>
   have hs:∀W:World,(Instr.slice 38 (.slice A0 l0.length c0) none (some (.int .i64 x3)) none).run Tryz.prog W= .ok (.slice A0 x3.toNat c0) W:=by
    have h0:=(print_take_of (P:=Tryz.prog) (Value.int .u32) 0 38 65 .i64 Tryz.underlying38 (info_parts info65).choose_spec.1 (info_parts info65).choose_spec.2.2.1 A0 c0 l0 x3 zz167 zz167 af.out).1;rw[show(l0.take x3.toNat).length=x3.toNat from by rw[List.length_take];have:=HK1.out;omega] at h0
    exact h0
   have HRX:Aside0 (Kd.C (Kd.int .u32) w A0 x3.toNat (l0.take x3.toNat)):=by
    refine⟨?_⟩;have h0:=Kd.C_take Y.out (m:=x3.toNat) zz167;rw[show(l0.take x3.toNat).length=x3.toNat from by rw[List.length_take];have:=HK1.out;omega] at h0
    exact h0
   by_cases c2:x3>0
   ·have Z:decide (0<x3)=true:=dT c2;obtain⟨ji3,hji3⟩:∃j_:Int,(wrap64 (x3-1))=j_:=⟨_,rfl⟩;have ag:(IntKind.i64.wrap (x3-1))=ji3:=(Zt _).trans hji3
    have hj:ji3=x3-1:=by
     rw[←hji3];have:=HN.out;have:=HK1.out;unfold wrap64;omega
    have p0:(0:Int)≤ji3:=by omega
    have q0:ji3<(l0.length:Int):=by have:=HK1.out;omega
    obtain⟨ad,e1,hx⟩:=Kd.at_int Y.out ji3 p0 q0
    cases e1;replace hx:=(HB.out.cell (wB w _ hx)).trans hx;have HJ:=aM hj;replace p0:=eq_true p0;replace q0:=eq_true q0;clear hj c2
    by_cases c6:rd l0 ji3=0
    ·have aa:(rd l0 ji3==0)=true:=beq_iff_eq.mpr c6;have HZ:=aM c6;clear c6;go_wp2
     go_roundg k1
     case measure=>have:=HK1.out;omega
     case rel=> 
      have p0':(0:Int)≤ji3:=of_eq_true p0;have hjn:x3.toNat=ji3.toNat+1:=by have:=HJ.out;omega
      refine⟨ji3,zz148,⟨by have:=HK1.out;have:=HJ.out;omega⟩,⟨?_⟩,⟨by first|exact HB.out|exact Zg HB.out _⟩⟩;rw[←HQ.out,hjn]
      exact(shortL_take0 l0 zz167 zz154).symm
    have aa:(rd l0 ji3==0)=false:=beq_eq_false_iff_ne.mpr c6;have hjn:x3.toNat=ji3.toNat+1:=by have:=HJ.out;have:=of_eq_true p0;omega
    have HE:Aside0 (Z1 (l0.take x3.toNat)=l0.take x3.toNat):=⟨by rw[hjn];exact shortL_take l0 (by have:=HK1.out;have:=HJ.out;have:=of_eq_true p0;omega) zz147⟩;clear c6 hjn
    go_wp2_with (first
        |((with_reducible refine Zq (N:=18) rfl ?_);refine Kd.R_lit (Kd.int .u32) _ 65 ?hg (N:=18) ?hd (xs:=([]:List Int)) (inner:= []) (ok:=fun _=>True) (okp:=fun _=>True) ?hr ?hp (fun _ hk=>hk) trivial (Below.refl _ _) (Nat.le_refl _) (by simp) ?_;(case hd=>rfl);(case hg=>rfl);(case hr=>first|(go_simp;done)|(go_simp;rfl));(case hp=>exact(Reps.none _ _));intro v1 w1 J D hg_ hnew_;clear hg_ hnew_;have O:=aM J;have z:=aM D;clear J D)
        |((with_reducible refine ZQ (b:= .append) (xs:= #[.tmp 18,.tmp 21]) rfl ?_);at_builtin;refine Kd.R_append_rows (Kd.int .u32) (w0:=w) w.heap.size rfl (.tmp 18) (.tmp 21) 38 65 (.int .u32 0) 4 rfl Tryz.underlying38 info65 rfl (by decide) (by omega) v1 [] (l0.take x3.toNat) _ _ _ (fun _=>True) (fun _=>False) rfl rfl ?aO ?aR (fun _ _ h=>h) (fun _ h=>h.elim) ?aF ?aB ?aS ?aL ?_;(case aR=>exact Kd.C_below HRX.out (Zd HB.out z.out));(case aB=>exact Zd HB.out z.out);(case aF=>exact(fun _ _=>trivial));(case aO=>exact(Kd.R_lower O.out HB.out.size));(case aS=>exact(Zd HB.out z.out).size);(case aL=>have:=HM.out;have:=HK1.out;simp only[List.length_nil];omega);intro v2 w2 o I X B;have U:=aM o;have L:=aM I;clear o I X B))
    go_ret;have o:=U.out;rw[List.nil_append,←HE.out,HQ.out] at o
    exact⟨_,rfl,o,L.out⟩
   have Z:decide (0<x3)=false:=dF c2;have HE:Aside0 (Z1 (l0.take x3.toNat)=l0.take x3.toNat):=⟨by rw[show x3.toNat=0 from by omega];simp[Z1]⟩;clear c2
   go_wp2_with (first
       |((with_reducible refine Zq (N:=18) rfl ?_);refine Kd.R_lit (Kd.int .u32) _ 65 ?hg (N:=18) ?hd (xs:=([]:List Int)) (inner:= []) (ok:=fun _=>True) (okp:=fun _=>True) ?hr ?hp (fun _ hk=>hk) trivial (Below.refl _ _) (Nat.le_refl _) (by simp) ?_;(case hd=>rfl);(case hg=>rfl);(case hr=>first|(go_simp;done)|(go_simp;rfl));(case hp=>exact(Reps.none _ _));intro v1 w1 J D hg_ hnew_;clear hg_ hnew_;have O:=aM J;have z:=aM D;clear J D)
       |((with_reducible refine ZQ (b:= .append) (xs:= #[.tmp 18,.tmp 21]) rfl ?_);at_builtin;refine Kd.R_append_rows (Kd.int .u32) (w0:=w) w.heap.size rfl (.tmp 18) (.tmp 21) 38 65 (.int .u32 0) 4 rfl Tryz.underlying38 info65 rfl (by decide) (by omega) v1 [] (l0.take x3.toNat) _ _ _ (fun _=>True) (fun _=>False) rfl rfl ?aO ?aR (fun _ _ h=>h) (fun _ h=>h.elim) ?aF ?aB ?aS ?aL ?_;(case aR=>exact Kd.C_below HRX.out (Zd HB.out z.out));(case aB=>exact Zd HB.out z.out);(case aF=>exact(fun _ _=>trivial));(case aO=>exact(Kd.R_lower O.out HB.out.size));(case aS=>exact(Zd HB.out z.out).size);(case aL=>have:=HM.out;have:=HK1.out;simp only[List.length_nil];omega);intro v2 w2 o I X B;have U:=aM o;have L:=aM I;clear o I X B))
   go_ret;have o:=U.out;rw[List.nil_append,←HE.out,HQ.out] at o
   exact⟨_,rfl,o,L.out⟩
section
attribute [local go_sem] ZH ZF ZL ZK ZB ZA ZG ZE
def r01_Of.f (a0:Int):Option (List Int):=(r01_Trim.f (([(Int.tmod a0 4294967296)%4294967296,(IntKind.u64.wrap (Int.tdiv a0 4294967296))%4294967296]:List Int))).bind fun t406=>(some t406)
theorem r01_Of.calls (a0:Int) (r:List Int) (w:World) (h:r01_Of.f a0=some r):
    Calls Tryz.prog 13 #[.int .u64 a0] w fun e w'=>∃O:Value,e= .returned (O)∧Kd.R (Kd.int .u32) 65 w' w.heap.size (fun _=>True) O r∧Below w.heap.size w w':=by
 have HB:=aM (Below.refl w.heap.size w)
 have H:((r01_Trim.f (([(Int.tmod a0 4294967296)%4294967296,(IntKind.u64.wrap (Int.tdiv a0 4294967296))%4294967296]:List Int))).bind fun z=>(some z))=some r:=h
 clear h
 obtain⟨I,o⟩:∃y_:List Int,y_=(([(Int.tmod a0 4294967296)%4294967296,(IntKind.u64.wrap (Int.tdiv a0 4294967296))%4294967296]:List Int)):=⟨_,rfl⟩
 replace H:((r01_Trim.f I).bind fun z=>(some z))=some r:=by first|(rw[o];with_reducible exact H)|(have H2_:=(Option.bind_some _ _).symm.trans H;rw[o];with_reducible exact H2_)|(have H2_:=(Option.bind_some _ _).symm.trans H;with_reducible exact H2_)|with_reducible exact H|(rw[o];exact H)|exact H
 have B:=aM o
 clear o
 replace H:=oB H
 obtain⟨z,L,H⟩:=H
 replace H:(some z)=some r:=H
 have A2:=aM L
 clear L
 obtain rfl:=oI H
 go_enter Tryz.func13,Tryz.ntmps13
 go_wp2_with (first|((with_reducible refine Zq (N:=9) rfl ?_);refine Kd.R_lit (Kd.int .u32) _ 65 ?hg (N:=9) ?hd (xs:=([(Int.tmod a0 4294967296)%4294967296,(IntKind.u64.wrap (Int.tdiv a0 4294967296))%4294967296]:List Int)) (inner:= [.int .u32 ((Int.tmod a0 4294967296)%4294967296),.int .u32 ((IntKind.u64.wrap (Int.tdiv a0 4294967296))%4294967296)]) (ok:=fun _=>True) (okp:=fun _=>True) ?hr ?hp (fun _ hk=>hk) trivial (Below.refl _ _) (Nat.le_refl _) (by simp) ?_;(case hd=>rfl);(case hg=>rfl);(case hr=>first|(go_simp;done)|(go_simp;rfl));(case hp=>exact(Reps.one (show Kd.M (Kd.int .u32) _ _ _ ((Int.tmod a0 4294967296)%4294967296) [.int .u32 ((Int.tmod a0 4294967296)%4294967296)] from rfl) (Reps.one (show Kd.M (Kd.int .u32) _ _ _ ((IntKind.u64.wrap (Int.tdiv a0 4294967296))%4294967296) [.int .u32 ((IntKind.u64.wrap (Int.tdiv a0 4294967296))%4294967296)] from rfl) (Reps.none _ _))));intro Y w3 D hb hg_ hnew_;clear hg_ hnew_;(first|rw[←B.out] at D|(simp only[Int.reduceToNat] at D;rw[←B.out] at D));have m:=aM (Kd.R_lower D (Zc zz128));replace HB:=aM (Zd zz128 hb);clear hb D;obtain⟨P,U,X⟩:=Kd.R_slice m.out;subst X)|((with_reducible refine Zr (f:=42) rfl ?_);refine ZI (some 10) rfl rfl Tryz.func42 (by kernel_rfl) rfl #[.slice P I.length U] rfl zz127 ?_;(with_reducible refine(r01_Trim.calls _ _ I z _ ?sa ?sb A2.out).mono ?_);(case sa=>exact zC ((Kd.R_reads' m.out).2.2));(case sb=>exact(Kd.R_reads' m.out).2.1);rintro e w6 ⟨Z,rfl,ho0,hb⟩;refine⟨_,rfl,?_⟩;have J:=aM (Kd.R_lower (Kd.R_new' ho0 (Kd.R_lt (zR m))) (Zc zz128));replace m:=aM (Kd.R_elder' (zR m) (Kd.R_base ho0) hb);replace HB:=aM (Zd zz128 hb);(try clear hb);(try clear aa);(try clear hk);(try clear hi);(try clear ho0)))
 go_ret
 exact⟨_,by first|rfl|(simp[Zm,Zl]<;>rfl)|(simp[*,Zm,Zl]<;>rfl),by(with_reducible repeat(first|apply Kd.R_alloc|apply Kd.R_drewN|apply Kd.R_drew));exact Kd.R_mono J.out (fun _ hk=>trivial),by repeat(first|(with_reducible first|exact HB.out|apply Zh|apply Zg|apply Zj)|exact HB.out)⟩
mutual
def r01_Mul.l0:Nat→List Int→List Int→List Int→Int→Option (List Int)
 |0,_,_,_,_=>none
 |k+1,x0,x1,x5,x6=>if x6<(x0.length:Int) then(r01_Mul.l1 k x0 x1 x5 x6 0 0) else((r01_Trim.f x5).bind fun t412=>(some t412))
def r01_Mul.l1:Nat→List Int→List Int→List Int→Int→Int→Int→Option (List Int)
 |0,_,_,_,_,_,_=>none
 |k+1,x0,x1,x5,x6,x7,x8=>if x8<(x1.length:Int) then(if 0≤x6 then(if x6<(x0.length:Int) then(if 0≤x8 then(if 0≤(wrap64 (x6+x8)) then(if(wrap64 (x6+x8))<(x5.length:Int) then(r01_Mul.l1 k x0 x1 (x5.set ((wrap64 (x6+x8)):Int).toNat ((Int.tmod (IntKind.u64.wrap ((IntKind.u64.wrap ((IntKind.u64.wrap ((IntKind.u64.wrap (rd x0 x6))*(IntKind.u64.wrap (rd x1 x8))))+(IntKind.u64.wrap (rd x5 (wrap64 (x6+x8))))))+x7)) 4294967296)%4294967296)) x6 (IntKind.u64.wrap (Int.tdiv (IntKind.u64.wrap ((IntKind.u64.wrap ((IntKind.u64.wrap ((IntKind.u64.wrap (rd x0 x6))*(IntKind.u64.wrap (rd x1 x8))))+(IntKind.u64.wrap (rd x5 (wrap64 (x6+x8))))))+x7)) 4294967296)) (wrap64 (x8+1))) else(none)) else(none)) else(none)) else(none)) else(none)) else(if 0≤(wrap64 (x6+(x1.length:Int))) then(if(wrap64 (x6+(x1.length:Int)))<(x5.length:Int) then(r01_Mul.l0 k x0 x1 (x5.set ((wrap64 (x6+(x1.length:Int))):Int).toNat ((x7)%4294967296)) (wrap64 (x6+1))) else(none)) else(none))
end
def r01_Mul.f (k:Nat) (l0:List Int) (l1:List Int):Option (List Int):=if 0≤(wrap64 ((l0.length:Int)+(l1.length:Int))) then(if(wrap64 ((l0.length:Int)+(l1.length:Int)):Int).toNat≤70368744177664 then(r01_Mul.l0 k l0 l1 (List.replicate (wrap64 ((l0.length:Int)+(l1.length:Int)):Int).toNat 0) 0) else(none)) else(none)
theorem r01_Mul.calls (k : Nat) (A0:Option Addr) (c0:Nat) (l0:List Int) (A1:Option Addr) (c1:Nat) (l1:List Int) (r:List Int) (w:World) (bj:Kd.C (Kd.int .u32) w A0 l0.length l0) (bh:l0.length≤c0) (bk:Kd.C (Kd.int .u32) w A1 l1.length l1) (bi:l1.length≤c1) (h:r01_Mul.f k l0 l1=some r):
    Calls Tryz.prog 41 #[.slice A0 l0.length c0,.slice A1 l1.length c1] w fun e w'=>∃bm:Value,e= .returned (bm)∧Kd.R (Kd.int .u32) 65 w' w.heap.size (fun _=>True) bm r∧Below w.heap.size w w':=by
 have bv:=aM bj
 have bT:=aM bh
 clear bj bh
 have bw:=aM bk
 have bU:=aM bi
 clear bk bi
 have HB:=aM (Below.refl w.heap.size w)
 have H:(if 0≤(wrap64 ((l0.length:Int)+(l1.length:Int))) then(if(wrap64 ((l0.length:Int)+(l1.length:Int)):Int).toNat≤70368744177664 then(r01_Mul.l0 k l0 l1 (List.replicate (wrap64 ((l0.length:Int)+(l1.length:Int)):Int).toNat 0) 0) else(none)) else(none))=some r:=h
 clear h
 obtain⟨ji3,hji3⟩:∃j_:Int,(wrap64 ((l0.length:Int)+(l1.length:Int)))=j_:=⟨_,rfl⟩
 replace H:(if 0≤(ji3) then(if(ji3:Int).toNat≤70368744177664 then(r01_Mul.l0 k l0 l1 (List.replicate (ji3:Int).toNat 0) 0) else(none)) else(none))=some r:=by first|(rw[hji3] at H;exact H)|(simp only[hji3] at H⊢;exact H)
 have bJ:(IntKind.i64.wrap ((l0.length:Int)+(l1.length:Int)))=ji3:=(Zt _).trans hji3
 by_cases c4:0≤(ji3)
 ·rw [if_pos c4] at H
  have aN:=eq_true c4;have aO:=dT c4;clear c4
  by_cases c5:(ji3:Int).toNat≤70368744177664
  ·rw [if_pos c5] at H; have aP:=eq_true c5;have aQ:=dT c5;clear c5;obtain⟨aX,X⟩:∃y_:List Int,y_=(List.replicate (ji3:Int).toNat 0):=⟨_,rfl⟩;replace H:(r01_Mul.l0 k l0 l1 aX 0)=some r:=by first|(rw[X];with_reducible exact H)|(have H2_:=(Option.bind_some _ _).symm.trans H;rw[X];with_reducible exact H2_)|(have H2_:=(Option.bind_some _ _).symm.trans H;with_reducible exact H2_)|with_reducible exact H|(rw[X];exact H)|exact H
   have O:=aM X;clear X;have H':=aM H;clear H
   go_enter Tryz.func41,Tryz.ntmps41
   go_wp2_with (first|((with_reducible refine Zq (N:=15) rfl ?_);refine Kd.R_make (Kd.int .u32) _ 65 rfl (N:=15) rfl 38 _ _ rfl ji3 rfl rfl Tryz.underlying38 (.int .u32 0) 4 info65 rfl (by decide) (by omega) 0 (ok:=fun _=>True) (okp:=fun _=>True) rfl (fun _ hk=>hk) trivial (oD zz156) (Nat.le_trans (Nat.mul_le_mul_right _ (oD zz156:ji3.toNat≤70368744177664)) (by omega)) (Below.refl _ _) (Nat.le_refl _) ?_;intro am w6 J hb hg_ hnew_;clear hg_ hnew_;(first|rw[←O.out] at J|(simp only[Int.reduceToNat] at J;rw[←O.out] at J));have ah:=aM (Kd.R_lower J (Zc zz128));replace HB:=aM (Zd zz128 hb);clear hb J))
   repeat(go_quiet (first|((with_reducible refine Zq (N:=15) rfl ?_);refine Kd.R_make (Kd.int .u32) _ 65 rfl (N:=15) rfl 38 _ _ rfl ji3 rfl rfl Tryz.underlying38 (.int .u32 0) 4 info65 rfl (by decide) (by omega) 0 (ok:=fun _=>True) (okp:=fun _=>True) rfl (fun _ hk=>hk) trivial (oD zz156) (Nat.le_trans (Nat.mul_le_mul_right _ (oD zz156:ji3.toNat≤70368744177664)) (by omega)) (Below.refl _ _) (Nat.le_refl _) ?_;intro am w6 J hb hg_ hnew_;clear hg_ hnew_;(first|rw[←O.out] at J|(simp only[Int.reduceToNat] at J;rw[←O.out] at J));have ah:=aM (Kd.R_lower J (Zc zz128));replace HB:=aM (Zd zz128 hb);clear hb J));try go_wp2_with (first|((with_reducible refine Zq (N:=15) rfl ?_);refine Kd.R_make (Kd.int .u32) _ 65 rfl (N:=15) rfl 38 _ _ rfl ji3 rfl rfl Tryz.underlying38 (.int .u32 0) 4 info65 rfl (by decide) (by omega) 0 (ok:=fun _=>True) (okp:=fun _=>True) rfl (fun _ hk=>hk) trivial (oD zz156) (Nat.le_trans (Nat.mul_le_mul_right _ (oD zz156:ji3.toNat≤70368744177664)) (by omega)) (Below.refl _ _) (Nat.le_refl _) ?_;intro am w6 J hb hg_ hnew_;clear hg_ hnew_;(first|rw[←O.out] at J|(simp only[Int.reduceToNat] at J;rw[←O.out] at J));have ah:=aM (Kd.R_lower J (Zc zz128));replace HB:=aM (Zd zz128 hb);clear hb J)))
   go_loopg [6] k (fun kq v6 w'=>∃(ad:List Int) (m:Int),v6= .int .i64 m∧Aside0 (r01_Mul.l0 kq l0 l1 ad m=some r)∧Aside0 (kq≤k)∧Aside0 (Kd.R (Kd.int .u32) 65 w' w.heap.size (fun _=>True) am ad)∧Aside0 (Below w.heap.size w w'))
   case atStart=>exact⟨(aX),(0),zz157,H',⟨Nat.le_refl _⟩,⟨(zR ah)⟩,⟨zz128⟩⟩
   case round =>
    clear H';(try clear c1);(try clear p2);(try clear c4);(try clear aN);(try clear aO);(try clear c5);(try clear aP);(try clear aQ);(try clear p6);obtain⟨ad,m,rfl,HA,HK1,HO_5,HB⟩:=hrel
    cases gk with
    |zero=>exact absurd HA.out (by simp[r01_Mul.l0])
    | succ k1=>
     have H:=HA.out;clear HA;simp only[r01_Mul.l0] at H
     by_cases c8:m<(l0.length:Int)
     ·rw [if_pos c8] at H;have aR:=dT c8;clear c8;have H':=aM H;clear H;go_wp2
      repeat(go_quiet (fail);try go_wp2)
      go_loopg [7,8] k1 (fun kq v7 v8 w'=>∃(x5_2:List Int) (B:Int) (z:Int),v7= .int .u64 B∧v8= .int .i64 z∧Aside0 (r01_Mul.l1 kq l0 l1 x5_2 m B z=some r)∧Aside0 (kq≤k1)∧Aside0 (Kd.R (Kd.int .u32) 65 w' w.heap.size (fun _=>True) am x5_2)∧Aside0 (Below w.heap.size w w'))
      case atStart=>exact⟨(ad),(0),(0),zz157,zz157,H',⟨Nat.le_refl _⟩,⟨(zR HO_5)⟩,⟨zz128⟩⟩
      case round =>
       clear H';(try clear c1);(try clear p2);(try clear c4);(try clear aN);(try clear aO);(try clear c5);(try clear aP);(try clear aQ);(try clear p6);(try clear c8);(try clear aR);(try clear p2);(try clear p6);obtain⟨x5_2,B,z,rfl,rfl,HA,HK2,HO_5,HB⟩:=hrel
       cases gk with
       |zero=>exact absurd HA.out (by simp[r01_Mul.l1])
       | succ k2=>
        have H:=HA.out;clear HA;simp only[r01_Mul.l1] at H
        by_cases c9:z<(l1.length:Int)
        ·rw [if_pos c9] at H;have a4:=dT c9;clear c9
         by_cases c10:0≤m
         ·rw [if_pos c10] at H;have bB:=dT c10;clear c10
          by_cases aB:m<(l0.length:Int)
          ·rw [if_pos aB] at H;have bC:=dT aB;clear aB
           by_cases aC:0≤z
           ·rw [if_pos aC] at H;have bD:=dT aC;clear aC;obtain⟨o,ae⟩:∃j_:Int,(wrap64 (m+z))=j_:=⟨_,rfl⟩;replace H:(if 0≤(o) then(if(o)<(x5_2.length:Int) then(r01_Mul.l1 k2 l0 l1 (x5_2.set ((o):Int).toNat ((Int.tmod (IntKind.u64.wrap ((IntKind.u64.wrap ((IntKind.u64.wrap ((IntKind.u64.wrap (rd l0 m))*(IntKind.u64.wrap (rd l1 z))))+(IntKind.u64.wrap (rd x5_2 (o)))))+B)) 4294967296)%4294967296)) m (IntKind.u64.wrap (Int.tdiv (IntKind.u64.wrap ((IntKind.u64.wrap ((IntKind.u64.wrap ((IntKind.u64.wrap (rd l0 m))*(IntKind.u64.wrap (rd l1 z))))+(IntKind.u64.wrap (rd x5_2 (o)))))+B)) 4294967296)) (wrap64 (z+1))) else(none)) else(none))=some r:=by first|(rw[ae] at H;exact H)|(simp only[ae] at H⊢;exact H)
            have bq:(IntKind.i64.wrap (m+z))=o:=(Zt _).trans ae
            by_cases aD:0≤(o)
            ·rw [if_pos aD] at H;have bE:=dT aD;clear aD
             by_cases aE:(o)<(x5_2.length:Int)
             ·rw[if_pos aE] at H;have bF:=dT aE;clear aE;obtain⟨aA,Y⟩:∃y_:List Int,y_=(x5_2.set ((o):Int).toNat ((Int.tmod (IntKind.u64.wrap ((IntKind.u64.wrap ((IntKind.u64.wrap ((IntKind.u64.wrap (rd l0 m))*(IntKind.u64.wrap (rd l1 z))))+(IntKind.u64.wrap (rd x5_2 (o)))))+B)) 4294967296)%4294967296)):=⟨_,rfl⟩;replace H:(r01_Mul.l1 k2 l0 l1 aA m (IntKind.u64.wrap (Int.tdiv (IntKind.u64.wrap ((IntKind.u64.wrap ((IntKind.u64.wrap ((IntKind.u64.wrap (rd l0 m))*(IntKind.u64.wrap (rd l1 z))))+(IntKind.u64.wrap (rd x5_2 (o)))))+B)) 4294967296)) (wrap64 (z+1)))=some r:=by first|(rw[Y];with_reducible exact H)|(have H2_:=(Option.bind_some _ _).symm.trans H;rw[Y];with_reducible exact H2_)|(have H2_:=(Option.bind_some _ _).symm.trans H;with_reducible exact H2_)|with_reducible exact H|(rw[Y];exact H)|exact H
              have aZ:=aM Y;clear Y;have H':=aM H;clear H;have au:0≤(m:Int):=oD zz156;have ax:m<(l0.length:Int):=oD zz156;obtain⟨bx,a6,P⟩:=Kd.at_int bv.out m au ax
              cases a6;replace P:=(HB.out.cell (wB w _ P)).trans P;replace au:=eq_true au;replace ax:=eq_true ax;have av:0≤(z:Int):=oD zz156;have ay:z<(l1.length:Int):=oD zz156;obtain⟨bz,a7,U⟩:=Kd.at_int bw.out z av ay
              cases a7;replace U:=(HB.out.cell (wB w _ U)).trans U;replace av:=eq_true av;replace ay:=eq_true ay;obtain⟨bK,a5,a9⟩:=Kd.R_slice HO_5.out;subst a9;have aw:0≤((o):Int):=oD zz156;have az:(o)<(x5_2.length:Int):=oD zz156;obtain⟨bA,a8,ar⟩:=Kd.at_int (Kd.R_reads' HO_5.out).2.2 (o) aw az
              cases a8;replace aw:=eq_true aw;replace az:=eq_true az;have aH:0≤((o):Int):=oD zz156;have aI:((o):Int)<((x5_2.length:Int):Int):=oD zz156;obtain⟨aq,bQ,aS,aU,bb,bO,aK⟩:=Kd.R_form HO_5.out (by omega)
              (first|cases aS|(injection aS with ea_ en_ ec_;(first|subst ea_|(injection ea_ with ea_;subst ea_));subst ec_;clear en_))
              have a3:=aM aU;have bM:=aM aK;clear aU bb aK
              (first|simp only[Z5] at ar|skip)
              obtain⟨bs,bo⟩:=Kd.R_celln 0 HO_5.out ((o):Int) aH aI;replace aH:=eq_true aH;replace aI:=eq_true aI;have af:=Kd.R_putg HO_5.out ((o):Int) ((Int.tmod (IntKind.u64.wrap ((IntKind.u64.wrap ((IntKind.u64.wrap ((IntKind.u64.wrap (rd l0 m))*(IntKind.u64.wrap (rd l1 z))))+(IntKind.u64.wrap (rd x5_2 (o)))))+B)) 4294967296)%4294967296);clear af
              go_upto_region 10 with(fail)
              go_quiet (fail)
              generalize hq_:World.drewN wr _=wq;have aa:=aM (Kd.R_at hq_ HO_5.out);have ab:=aM (below_at hq_ HB.out);clear hq_ HO_5 HB;have HO_5:=aa;have HB:=ab;clear aa ab;have af:=Kd.R_putg HO_5.out ((o):Int) ((Int.tmod (IntKind.u64.wrap ((IntKind.u64.wrap ((IntKind.u64.wrap ((IntKind.u64.wrap (rd l0 m))*(IntKind.u64.wrap (rd l1 z))))+(IntKind.u64.wrap (rd x5_2 (o)))))+B)) 4294967296)%4294967296);obtain⟨hxq_,hfq_⟩:=Kd.R_celln 0 HO_5.out ((o):Int) (of_eq_true aH) (of_eq_true aI)
              go_wp2_with (first|((with_reducible refine ZO (t:=65) (p:=56) rfl ?_);refine ZM (t:=65) (p:=56) (v:= ?vo_w19) (w1:=(wq.setCell ⟨aq,((o):Int).toNat,none⟩ (.int .u32 ((Int.tmod (IntKind.u64.wrap ((IntKind.u64.wrap ((IntKind.u64.wrap ((IntKind.u64.wrap (rd l0 m))*(IntKind.u64.wrap (rd l1 z))))+(IntKind.u64.wrap (rd x5_2 (o)))))+B)) 4294967296)%4294967296)))) ?hg ?ho ?hn ?hr ?_;(case ho=>rfl);(case hg=>rfl);(case hn=>rfl);(case hr=>first|(go_simp;done)|(go_simp;rfl));intro a2 hw;have hg:wq.grownBy a2 (some aq):=(by rw[hw];exact af.2);have hp_:Kd.R (Kd.int .u32) 65 a2 w.heap.size (fun _=>True) (.slice (some ⟨aq,0,none⟩) x5_2.length a5) aA:=(by rw[hw,aZ.out];exact af.1);clear af;replace HO_5:=aM (hp_);replace HB:=aM ((by rw[hw];exact Zi (HB.out) a3.out:Below w.heap.size w a2));clear hg hw hp_))
              go_roundg k2
              case measure=>have:=HK1.out;have:=HK2.out;omega
              case rel=>exact⟨(aA),(IntKind.u64.wrap (Int.tdiv (IntKind.u64.wrap ((IntKind.u64.wrap ((IntKind.u64.wrap ((IntKind.u64.wrap (rd l0 m))*(IntKind.u64.wrap (rd l1 z))))+(IntKind.u64.wrap (rd x5_2 (o)))))+B)) 4294967296)),(wrap64 (z+1)),(by first|rfl|(simp;done)|(simp only[←ae]<;>(first|rfl|simp))|(simp[*];done)),zz157,H',⟨zz159⟩,⟨(zR HO_5)⟩,⟨zz128⟩⟩
             rw[if_neg aE] at H
             exact absurd H (by simp)
            rw[if_neg aD] at H
            exact absurd H (by simp)
           rw[if_neg aC] at H
           exact absurd H (by simp)
          rw[if_neg aB] at H
          exact absurd H (by simp)
         rw[if_neg c10] at H
         exact absurd H (by simp)
        rw[if_neg c9] at H;have a4:=dF c9;clear c9;obtain⟨D,ak⟩:∃j_:Int,(wrap64 (m+(l1.length:Int)))=j_:=⟨_,rfl⟩;replace H:(if 0≤(D) then(if(D)<(x5_2.length:Int) then(r01_Mul.l0 k2 l0 l1 (x5_2.set ((D):Int).toNat ((B)%4294967296)) (wrap64 (m+1))) else(none)) else(none))=some r:=by first|(rw[ak] at H;exact H)|(simp only[ak] at H⊢;exact H)
        have br:(IntKind.i64.wrap (m+(l1.length:Int)))=D:=(Zt _).trans ak
        by_cases aF:0≤(D)
        ·rw [if_pos aF] at H;have bH:=dT aF;clear aF
         by_cases aG:(D)<(x5_2.length:Int)
         ·rw[if_pos aG] at H;have bI:=dT aG;clear aG;obtain⟨ag,Z⟩:∃y_:List Int,y_=(x5_2.set ((D):Int).toNat ((B)%4294967296)):=⟨_,rfl⟩;replace H:(r01_Mul.l0 k2 l0 l1 ag (wrap64 (m+1)))=some r:=by first|(rw[Z];with_reducible exact H)|(have H2_:=(Option.bind_some _ _).symm.trans H;rw[Z];with_reducible exact H2_)|(have H2_:=(Option.bind_some _ _).symm.trans H;with_reducible exact H2_)|with_reducible exact H|(rw[Z];exact H)|exact H
          have aj:=aM Z;clear Z;have H':=aM H;clear H;have a0:0≤((D):Int):=oD zz156;have a1:((D):Int)<((x5_2.length:Int):Int):=oD zz156;obtain⟨L,ao,aT,aV,bc,bP,aL⟩:=Kd.R_form HO_5.out (by omega)
          (first|cases aT|(injection aT with ea_ en_ ec_;(first|subst ea_|(injection ea_ with ea_;subst ea_));subst ec_;clear en_))
          have an:=aM aV;have bN:=aM aL;clear aV bc aL;obtain⟨bu,bp⟩:=Kd.R_celln 0 HO_5.out ((D):Int) a0 a1;replace a0:=eq_true a0;replace a1:=eq_true a1;have I:=Kd.R_putg HO_5.out ((D):Int) ((B)%4294967296)
          go_wp2_with (first|((with_reducible refine ZO (t:=65) (p:=66) rfl ?_);(try(rw[Yb wr];generalize hq_:World.drewN wr _=wr;have aa:=aM (Kd.R_at hq_ HO_5.out);have ab:=aM (below_at hq_ HB.out);clear hq_ HO_5 HB;have HO_5:=aa;have HB:=ab;clear aa ab;(try(have I:=Kd.R_putg HO_5.out ((D):Int) ((B)%4294967296)))));refine ZM (t:=65) (p:=66) (v:= ?vo_w25) (w1:=(wr.setCell ⟨L,((D):Int).toNat,none⟩ (.int .u32 ((B)%4294967296)))) ?hg ?ho ?hn ?hr ?_;(case ho=>rfl);(case hg=>rfl);(case hn=>rfl);(case hr=>first|(go_simp;done)|(go_simp;rfl));intro ac hw;have hg:wr.grownBy ac (some L):=(by rw[hw];exact I.2);have hp_:Kd.R (Kd.int .u32) 65 ac w.heap.size (fun _=>True) (.slice (some ⟨L,0,none⟩) x5_2.length ao) ag:=(by rw[hw,aj.out];exact I.1);clear I;replace HO_5:=aM (hp_);replace HB:=aM ((by rw[hw];exact Zi (HB.out) an.out:Below w.heap.size w ac));clear hg hw hp_))
          repeat(go_quiet (first|((with_reducible refine ZO (t:=65) (p:=66) rfl ?_);(try(rw[Yb wr];generalize hq_:World.drewN wr _=wr;have aa:=aM (Kd.R_at hq_ HO_5.out);have ab:=aM (below_at hq_ HB.out);clear hq_ HO_5 HB;have HO_5:=aa;have HB:=ab;clear aa ab;(try(have I:=Kd.R_putg HO_5.out ((D):Int) ((B)%4294967296)))));refine ZM (t:=65) (p:=66) (v:= ?vo_w25) (w1:=(wr.setCell ⟨L,((D):Int).toNat,none⟩ (.int .u32 ((B)%4294967296)))) ?hg ?ho ?hn ?hr ?_;(case ho=>rfl);(case hg=>rfl);(case hn=>rfl);(case hr=>first|(go_simp;done)|(go_simp;rfl));intro ac hw;have hg:wr.grownBy ac (some L):=(by rw[hw];exact I.2);have hp_:Kd.R (Kd.int .u32) 65 ac w.heap.size (fun _=>True) (.slice (some ⟨L,0,none⟩) x5_2.length ao) ag:=(by rw[hw,aj.out];exact I.1);clear I;replace HO_5:=aM (hp_);replace HB:=aM ((by rw[hw];exact Zi (HB.out) an.out:Below w.heap.size w ac));clear hg hw hp_));try go_wp2_with (first|((with_reducible refine ZO (t:=65) (p:=66) rfl ?_);(try(rw[Yb wr];generalize hq_:World.drewN wr _=wr;have aa:=aM (Kd.R_at hq_ HO_5.out);have ab:=aM (below_at hq_ HB.out);clear hq_ HO_5 HB;have HO_5:=aa;have HB:=ab;clear aa ab;(try(have I:=Kd.R_putg HO_5.out ((D):Int) ((B)%4294967296)))));refine ZM (t:=65) (p:=66) (v:= ?vo_w25) (w1:=(wr.setCell ⟨L,((D):Int).toNat,none⟩ (.int .u32 ((B)%4294967296)))) ?hg ?ho ?hn ?hr ?_;(case ho=>rfl);(case hg=>rfl);(case hn=>rfl);(case hr=>first|(go_simp;done)|(go_simp;rfl));intro ac hw;have hg:wr.grownBy ac (some L):=(by rw[hw];exact I.2);have hp_:Kd.R (Kd.int .u32) 65 ac w.heap.size (fun _=>True) (.slice (some ⟨L,0,none⟩) x5_2.length ao) ag:=(by rw[hw,aj.out];exact I.1);clear I;replace HO_5:=aM (hp_);replace HB:=aM ((by rw[hw];exact Zi (HB.out) an.out:Below w.heap.size w ac));clear hg hw hp_)))
          go_roundg k2
          case measure=>have:=HK1.out;have:=HK2.out;omega
          case rel=>exact⟨(ag),(wrap64 (m+1)),zz157,H',⟨zz159⟩,⟨(zR HO_5)⟩,⟨zz128⟩⟩
         rw[if_neg aG] at H
         exact absurd H (by simp)
        rw[if_neg aF] at H
        exact absurd H (by simp)
     rw[if_neg c8] at H;have aR:=dF c8;clear c8;replace H:=oB H;obtain⟨al,aJ,H⟩:=H;replace H:(some al)=some r:=H;have aY:=aM aJ;clear aJ;obtain rfl:=oI H;obtain⟨bL,bS,ba⟩:=Kd.R_slice HO_5.out;subst ba
     go_wp2_with (first|(go_at_call 42;(with_reducible refine(r01_Trim.calls _ _ ad al _ ?sa ?sb aY.out).mono ?_);(case sa=>exact zC ((Kd.R_reads' HO_5.out).2.2));(case sb=>exact(Kd.R_reads' HO_5.out).2.1);rintro e bn ⟨aW,rfl,ho0,hb⟩;have ai:=aM (Kd.R_lower (Kd.R_new' ho0 (Kd.R_lt (zR HO_5))) (Zc zz128));replace HO_5:=aM (Kd.R_elder' (zR HO_5) (Kd.R_base ho0) hb);replace HB:=aM (Zd zz128 hb);(try clear hb);(try clear bg);(try clear hk);(try clear hi);(try clear ho0)))
     repeat(go_quiet (first|(go_at_call 42;(with_reducible refine(r01_Trim.calls _ _ ad al _ ?sa ?sb aY.out).mono ?_);(case sa=>exact zC ((Kd.R_reads' HO_5.out).2.2));(case sb=>exact(Kd.R_reads' HO_5.out).2.1);rintro e bn ⟨aW,rfl,ho0,hb⟩;have ai:=aM (Kd.R_lower (Kd.R_new' ho0 (Kd.R_lt (zR HO_5))) (Zc zz128));replace HO_5:=aM (Kd.R_elder' (zR HO_5) (Kd.R_base ho0) hb);replace HB:=aM (Zd zz128 hb);(try clear hb);(try clear bg);(try clear hk);(try clear hi);(try clear ho0)));try go_wp2_with (first|(go_at_call 42;(with_reducible refine(r01_Trim.calls _ _ ad al _ ?sa ?sb aY.out).mono ?_);(case sa=>exact zC ((Kd.R_reads' HO_5.out).2.2));(case sb=>exact(Kd.R_reads' HO_5.out).2.1);rintro e bn ⟨aW,rfl,ho0,hb⟩;have ai:=aM (Kd.R_lower (Kd.R_new' ho0 (Kd.R_lt (zR HO_5))) (Zc zz128));replace HO_5:=aM (Kd.R_elder' (zR HO_5) (Kd.R_base ho0) hb);replace HB:=aM (Zd zz128 hb);(try clear hb);(try clear bg);(try clear hk);(try clear hi);(try clear ho0))))
     go_ret
     exact⟨_,by first|rfl|(simp[Zm,Zl]<;>rfl)|(simp only[←hji3];first|rfl|(simp[Zm,Zl]<;>rfl))|(simp[*,Zm,Zl]<;>rfl),by(with_reducible repeat(first|apply Kd.R_alloc|apply Kd.R_drewN|apply Kd.R_drew));exact Kd.R_mono ai.out (fun _ hk=>trivial),by repeat(first|(with_reducible first|exact HB.out|apply Zh|apply Zg|apply Zj)|exact HB.out)⟩
  rw[if_neg c5] at H
  exact absurd H (by simp)
 rw[if_neg c4] at H
 exact absurd H (by simp)
def r30_Size.l0:Nat→List Int→Int→Int→List (S56)→Option (List Int)
 |0,_,_,_,_=>none
 |k+1,x3,x4,x421000,x421001=>if x4<(x421001.length:Int) then(if 0≤x4 then((r01_Of.f (IntKind.u64.wrap ((((Ze x421001 x4).f1).length:Int)))).bind fun t425=>((r01_Mul.f k x3 t425).bind fun t428=>(r30_Size.l0 k t428 (wrap64 (x4+1)) x421000 x421001))) else(none)) else(some x3)
def r30_Size.f (k:Nat) (a0_0:Int) (l0_1:List (S56)):Option (List Int):=(r01_Of.f 1).bind fun t421=>(r30_Size.l0 k t421 0 a0_0 l0_1)
theorem r30_Size.calls (k:Nat) (z:Int) (L:Option Addr) (I:Nat) (l0_1:List (S56)) (r:List Int) (w:World) (ah:Kd.C k56 w L l0_1.length l0_1) (ag:l0_1.length≤I) (h:r30_Size.f k z l0_1=some r):
    Calls Tryz.prog 12 #[.agg #[.int .i64 z,.slice L l0_1.length I]] w fun e w'=>∃aK:Value,e= .returned (aK)∧Kd.R (Kd.int .u32) 65 w' w.heap.size (fun _=>True) aK r∧Below w.heap.size w w':=by
 have aX:=Tryz.underlying24
 have am:=aM ah
 have aV:=aM ag
 clear ah ag
 have HB:=aM (Below.refl w.heap.size w)
 have H:((r01_Of.f 1).bind fun ac=>(r30_Size.l0 k ac 0 z l0_1))=some r:=h
 clear h
 replace H:=oB H
 obtain⟨ac,an,H⟩:=H
 replace H:(r30_Size.l0 k ac 0 z l0_1)=some r:=H
 have A2:=aM an
 clear an
 have H':=aM H
 clear H
 go_enter Tryz.func12,Tryz.ntmps12
 go_wp2_with (first|((with_reducible refine Zq (N:=1) rfl ?_);refine Zx ?hg (N:=1) ?hd (cs:= #[.int .i64 z,.slice L l0_1.length I]) (t:=24) ?hr ?_;(case hd=>rfl);(case hg=>rfl);(case hr=>first|(go_simp;done)|(go_simp;rfl));intro B hg w3 hbox hb;have m:=aM (hbox);have aU:=aM ((by rw[hg];exact(Zc zz128):w.heap.size≤B));have GE420:=aM ((by rw[hg];exact(Zc zz128):w.heap.size≤B));replace HB:=aM (Zd zz128 hb);clear hb hbox hg)|((with_reducible refine Zr (f:=13) rfl ?_);refine ZI (some 5) rfl rfl Tryz.func13 (by kernel_rfl) rfl #[.int .u64 1] rfl zz127 ?_;(with_reducible refine(r01_Of.calls 1 ac _ A2.out).mono ?_);rintro e w4 ⟨aY,rfl,ho0,hb⟩;refine⟨_,rfl,?_⟩;have ak:=aM (Kd.R_lower ho0 (Zc zz107));replace m:=aM (Zf (g:=B) (o:= .cells #[.int .i64 z,.slice L l0_1.length I] 24 (0,0)) (zB m) hb);replace HB:=aM (Zd zz107 hb);(try clear hb);(try clear aF);(try clear hk);(try clear hi);(try clear ho0)))
 go_loopg [3,4] k (fun kq v3 v4 w'=>∃(X:List Int) (D:Int),v4= .int .i64 D∧Aside0 (r30_Size.l0 kq X D z l0_1=some r)∧Aside0 (kq≤k)∧Aside0 (Kd.R (Kd.int .u32) 65 w' w.heap.size (fun _=>True) v3 X)∧Aside0 (w'.heap[B]? =some (.cells #[.int .i64 z,(.slice L l0_1.length I)] 24 (0,0)))∧Aside0 (Below w.heap.size w w'))
 case atStart=>exact⟨(ac),(0),zz157,H',⟨Nat.le_refl _⟩,⟨(zR ak)⟩,⟨(zB m)⟩,⟨zz107⟩⟩
 case round=>
  clear H';(try clear c1);(try clear p2);obtain⟨X,D,rfl,HA,HK1,HO_3,m,HB⟩:=hrel
  cases gk with
  |zero=>exact absurd HA.out (by simp[r30_Size.l0])
  | succ k1=>
   have H:=HA.out;clear HA;simp only[r30_Size.l0] at H
   by_cases c5:D<(l0_1.length:Int)
   ·rw [if_pos c5] at H;have az:=dT c5;clear c5
    by_cases c6:0≤D
    ·rw[if_pos c6] at H;have aW:=dT c6;clear c6;replace H:=oB H;obtain⟨ae,ao,H⟩:=H;replace H:((r01_Mul.f k1 X ae).bind fun ad=>(r30_Size.l0 k1 ad (wrap64 (D+1)) z l0_1))=some r:=H;have A7:=aM ao;clear ao;replace H:=oB H;obtain⟨ad,aq,H⟩:=H;replace H:(r30_Size.l0 k1 ad (wrap64 (D+1)) z l0_1)=some r:=H;have A8:=aM aq;clear aq;have H':=aM H;clear H;have aQ:wr.cell? ⟨B,0,none⟩=some (.int .i64 z):=(Za m.out 0).trans rfl;have aR:wr.cell? ⟨B,1,none⟩=some (.slice L l0_1.length I):=(Za m.out 1).trans rfl;have aS:=Zb m.out 0;have aT:=Zb m.out 1;have ai:0≤(D:Int):=oD zz156;have aj:D<(l0_1.length:Int):=oD zz156;obtain⟨af,aL,aO,aN,aP,aC,O,P,U,aa,Y,ab,Z⟩:=Z4 am.out D ai aj
     cases aC;replace O:=(HB.out.cell (wB w _ O)).trans O;replace P:=(HB.out.cell (wB w _ P)).trans P;replace U:=(HB.out.cell (wB w _ U)).trans U;have ax:=aM Y;have av:=aM aa;clear Y aa;have ay:=aM Z;have aw:=aM ab;clear Z ab;replace ai:=eq_true ai;replace aj:=eq_true aj
     go_wp2_with (first|((with_reducible refine Zr (f:=13) rfl ?_);refine ZI (some 22) rfl rfl Tryz.func13 (by kernel_rfl) rfl #[.int .u64 (IntKind.u64.wrap ((((Ze l0_1 D).f1).length:Int)))] rfl zz127 ?_;(with_reducible refine(r01_Of.calls (IntKind.u64.wrap ((((Ze l0_1 D).f1).length:Int))) ae _ A7.out).mono ?_);rintro e a1 ⟨aZ,rfl,ho0,hb⟩;refine⟨_,rfl,?_⟩;have J:=aM (Kd.R_lower (Kd.R_new' ho0 (Kd.R_lt (zR HO_3))) (Zc zz107));replace HO_3:=aM (Kd.R_elder' (zR HO_3) (Kd.R_base ho0) hb);replace m:=aM (Zf (g:=B) (o:= .cells #[.int .i64 z,.slice (some af) l0_1.length I] 24 (0,0)) (zB m) hb);replace HB:=aM (Zd zz107 hb);(try clear hb);(try clear aF);(try clear hk);(try clear hi);(try clear ho0);obtain⟨ar,aA,aD⟩:=Kd.R_slice HO_3.out;subst aD;obtain⟨au,aB,aE⟩:=Kd.R_slice J.out;subst aE)|((with_reducible refine Zr (f:=41) rfl ?_);refine ZI (some 23) rfl rfl Tryz.func41 (by kernel_rfl) rfl #[.slice ar X.length aA,.slice au ae.length aB] rfl zz127 ?_;(with_reducible refine(r01_Mul.calls k1 _ _ X _ _ ae ad _ ?sa ?sb ?sc ?sd A8.out).mono ?_);(case sa=>exact zC ((Kd.R_reads' HO_3.out).2.2));(case sb=>exact(Kd.R_reads' HO_3.out).2.1);(case sc=>exact zC ((Kd.R_reads' J.out).2.2));(case sd=>exact(Kd.R_reads' J.out).2.1);rintro e a2 ⟨a0,rfl,ho0,hb⟩;refine⟨_,rfl,?_⟩;have al:=aM (Kd.R_lower (Kd.R_new' (Kd.R_new' ho0 (Kd.R_lt (zR HO_3))) (Kd.R_lt (zR J))) (Zc zz107));replace HO_3:=aM (Kd.R_elder' (zR HO_3) (Kd.R_base ho0) hb);replace J:=aM (Kd.R_elder' (zR J) (Kd.R_base ho0) hb);replace m:=aM (Zf (g:=B) (o:= .cells #[.int .i64 z,.slice (some af) l0_1.length I] 24 (0,0)) (zB m) hb);replace HB:=aM (Zd zz107 hb);(try clear hb);(try clear aF);(try clear hk);(try clear hi);(try clear ho0)))
     go_roundg k1
     case measure=>have:=HK1.out;omega
     case rel=>exact⟨(ad),(wrap64 (D+1)),zz157,H',⟨zz167⟩,⟨(by(with_reducible repeat(first|apply Kd.R_alloc|apply Kd.R_drewN|apply Kd.R_drew));exact Kd.R_mono al.out (fun _ hk=>trivial))⟩,⟨(zB m)⟩,⟨zz107⟩⟩
    rw[if_neg c6] at H
    exact absurd H (by simp)
   rw[if_neg c5] at H;have az:=dF c5;clear c5;obtain rfl:=oI H;have aG:wr.cell? ⟨B,0,none⟩=some (.int .i64 z):=(Za m.out 0).trans rfl;have aH:wr.cell? ⟨B,1,none⟩=some (.slice L l0_1.length I):=(Za m.out 1).trans rfl;have aI:=Zb m.out 0;have aJ:=Zb m.out 1;go_wp2;go_ret
   exact⟨_,by first|rfl|(simp[Zm,Zl]<;>rfl)|(simp[*,Zm,Zl]<;>rfl),by(with_reducible repeat(first|apply Kd.R_alloc|apply Kd.R_drewN|apply Kd.R_drew));exact HO_3.out,by repeat(first|(with_reducible first|exact HB.out|apply Zh|apply Zg|apply Zj|refine Zi ?_ GE420.out)|exact HB.out)⟩
def r01_Same.l0:Nat→List Int→List Int→Int→Option (Bool)
 |0,_,_,_=>none
 |k+1,x0,x1,x5=>if x5<(x0.length:Int) then(if 0≤x5 then(if x5<(x1.length:Int) then(if(rd x0 x5)=(rd x1 x5) then(r01_Same.l0 k x0 x1 (wrap64 (x5+1))) else(some false)) else(none)) else(none)) else(some true)
def r01_Same.f (k:Nat) (l0:List Int) (l1:List Int):Option (Bool):=if(l0.length:Int)=(l1.length:Int) then(r01_Same.l0 k l0 l1 0) else(some false)
theorem r01_Same.calls (k:Nat) (A0:Option Addr) (c0:Nat) (l0:List Int) (A1:Option Addr) (c1:Nat) (l1:List Int) (r:Bool) (w:World) (ah:Kd.C (Kd.int .u32) w A0 l0.length l0) (af:l0.length≤c0) (ai:Kd.C (Kd.int .u32) w A1 l1.length l1) (ag:l1.length≤c1) (h:r01_Same.f k l0 l1=some r):
    Calls Tryz.prog 11 #[.slice A0 l0.length c0,.slice A1 l1.length c1] w fun e w'=>e= .returned (.bool r)∧Drawn0 w w':=by
 have aa:=aM ah
 have al:=aM af
 clear ah af
 have ab:=aM ai
 have am:=aM ag
 clear ai ag
 have H:(if(l0.length:Int)=(l1.length:Int) then(r01_Same.l0 k l0 l1 0) else(some false))=some r:=h
 clear h
 by_cases c3:(l0.length:Int)=(l1.length:Int)
 ·rw [if_pos c3] at H
  have P:=beq_iff_eq.mpr c3;have U:=bne_eq_false_iff_eq.mpr c3;have X:(l0.length==l1.length)=true:=by first|simpa using c3|(simp at c3⊢;omega)
  clear c3;have H':=aM H;clear H
  go_enter Tryz.func11,Tryz.ntmps11
  go_wp2
  repeat(go_quiet (fail);try go_wp2)
  go_loopg [5] k (fun kq v5 w'=>∃(m:Int),v5= .int .i64 m∧Aside0 (r01_Same.l0 kq l0 l1 m=some r)∧Aside0 (kq≤k)∧Drawn0 w w')
  case atStart=>exact⟨(0),zz157,H',⟨Nat.le_refl _⟩,by repeat(first|exact Drawn0.refl _|apply Drawn0.step)⟩
  case round =>
   clear H';(try clear c1);(try clear p2);(try clear c3);(try clear P);(try clear U);(try clear X);obtain⟨m,rfl,HA,HK1,⟨m1,rfl⟩⟩:=hrel
   cases gk with
   |zero=>exact absurd HA.out (by simp[r01_Same.l0])
   | succ k1=>
    have H:=HA.out;clear HA;simp only[r01_Same.l0] at H
    by_cases c4:m<(l0.length:Int)
    ·rw [if_pos c4] at H;have ac:=dT c4;clear c4
     by_cases c5:0≤m
     ·rw [if_pos c5] at H;have aj:=dT c5;clear c5
      by_cases c6:m<(l1.length:Int)
      ·rw [if_pos c6] at H;have ak:=dT c6;clear c6
       by_cases c7:(rd l0 m)=(rd l1 m)
       ·rw[if_pos c7] at H;have ad:=beq_iff_eq.mpr c7;have ae:=bne_eq_false_iff_eq.mpr c7;clear c7;have H':=aM H;clear H;have o:0≤(m:Int):=oD zz156;have B:m<(l0.length:Int):=oD zz156;obtain⟨Y,I,L⟩:=Kd.at_int aa.out m o B
        cases I;replace o:=eq_true o;replace B:=eq_true B;have z:0≤(m:Int):=oD zz156;have D:m<(l1.length:Int):=oD zz156;obtain⟨Z,J,O⟩:=Kd.at_int ab.out m z D
        cases J;replace z:=eq_true z;replace D:=eq_true D;go_wp2
        repeat(go_quiet (fail);try go_wp2)
        go_roundg k1
        case measure=>have:=HK1.out;omega
        case rel=>exact⟨(wrap64 (m+1)),zz157,H',⟨zz167⟩,by repeat(first|exact Drawn0.refl _|apply Drawn0.step)⟩
       rw[if_neg c7] at H;have ad:=beq_eq_false_iff_ne.mpr c7;have ae:=bne_iff_ne.mpr c7;obtain rfl:=oI H;have o:0≤(m:Int):=oD zz156;have B:m<(l0.length:Int):=oD zz156;obtain⟨Y,I,L⟩:=Kd.at_int aa.out m o B
       cases I;replace o:=eq_true o;replace B:=eq_true B;have z:0≤(m:Int):=oD zz156;have D:m<(l1.length:Int):=oD zz156;obtain⟨Z,J,O⟩:=Kd.at_int ab.out m z D
       cases J;replace z:=eq_true z;replace D:=eq_true D;go_wp2
       repeat(go_quiet (fail);try go_wp2)
       go_ret
       exact⟨by first|rfl|(simp;done)|(simp[*];done),by repeat(first|exact Drawn0.refl _|apply Drawn0.step)⟩
      rw[if_neg c6] at H
      exact absurd H (by simp)
     rw[if_neg c5] at H
     exact absurd H (by simp)
    rw[if_neg c4] at H;have ac:=dF c4;clear c4;obtain rfl:=oI H;go_wp2
    repeat(go_quiet (fail);try go_wp2)
    go_ret
    exact⟨by first|rfl|(simp;done)|(simp[*];done),by repeat(first|exact Drawn0.refl _|apply Drawn0.step)⟩
 rw[if_neg c3] at H
 have P:=beq_eq_false_iff_ne.mpr c3
 have U:=bne_iff_ne.mpr c3
 have X:(l0.length==l1.length)=false:=by first|simpa using c3|(simp at c3⊢;omega)
 obtain rfl:=oI H
 go_enter Tryz.func11,Tryz.ntmps11
 go_wp2
 repeat(go_quiet (fail);try go_wp2)
 go_ret
 exact⟨by first|rfl|(simp;done)|(simp[*];done),by repeat(first|exact Drawn0.refl _|apply Drawn0.step)⟩
end
end Go.Proofs.YtjjlhbgpdncpcaaGreat.P
namespace Go.Proofs.YtjjlhbgpdncpcaaGreat.P.M
theorem u64w (n:Nat) (h:n<18446744073709551616):IntKind.u64.wrap (n:Int)=n:=by
 simp only[IntKind.wrap,IntKind.bits,IntKind.signed,Bool.false_and,Bool.false_eq_true,if_false];omega
theorem short2 (a:Nat) (h:1≤a):Z1 [(a:Int),0]= [(a:Int)]:=by
 have:((a:Int)==0)=false:=beq_eq_false_iff_ne.2 (by omega)
 simp[Z1,this]
theorem rmul1 (a b:Nat) (ha:1≤a) (hb:1≤b) (e:a<4294967296) (m:b<4294967296) (h:a*b<4294967296):Tells (fun k=>r01_Mul.f k [(a:Int)] [(b:Int)]) [((a*b:Nat):Int)]:=by
 have hpos:1≤a*b:=Nat.mul_pos ha hb
 have w2:wrap64 (((([(a:Int)]:List Int).length:Nat):Int)+((([(b:Int)]:List Int).length:Nat):Int))=2:=by simp[wrap64]
 have w0:wrap64 ((0:Int)+0)=0:=by simp[wrap64]
 have w1:wrap64 ((0:Int)+1)=1:=by simp[wrap64]
 have wl:wrap64 ((0:Int)+((([(b:Int)]:List Int).length:Nat):Int))=1:=by simp[wrap64]
 have v:IntKind.u64.wrap (IntKind.u64.wrap (IntKind.u64.wrap (IntKind.u64.wrap (a:Int)*IntKind.u64.wrap (b:Int))+IntKind.u64.wrap (0:Int))+0)=((a*b:Nat):Int):=by
  have z:IntKind.u64.wrap (0:Int)=0:=by decide
  rw[u64w a (by omega),u64w b (by omega),z,←Int.natCast_mul,u64w (a*b) (by omega)];simp only[Int.add_zero];rw[u64w (a*b) (by omega),u64w (a*b) (by omega)]
 unfold r01_Mul.f
 rw[w2]
 refine Tells.pos (by decide) (Tells.pos (by decide) ?_)
 have r2:List.replicate (2:Int).toNat (0:Int)= [0,0]:=rfl
 rw[r2]
 refine Tells.shift ?_
 simp only[r01_Mul.l0]
 refine Tells.pos (by simp) ?_
 have ra:rd [(a:Int)] 0=a:=rfl
 have rb:rd [(b:Int)] 0=b:=rfl
 have rz:rd [(0:Int),0] 0=0:=rfl
 refine Tells.shift ?_
 simp only[r01_Mul.l1,w0,ra,rb,rz,v]
 refine Tells.pos (by simp) (Tells.pos (by decide) (Tells.pos (by simp) (Tells.pos (by decide) (Tells.pos (by decide) (Tells.pos (by simp) ?_)))))
 have e1:Int.tmod (((a*b:Nat):Int)) 4294967296%4294967296=((a*b:Nat):Int):=by
  rw[show(4294967296:Int)=((4294967296:Nat):Int) from rfl,show Int.tmod ((a*b:Nat):Int) ((4294967296:Nat):Int)=((a*b%4294967296:Nat):Int) from rfl,Nat.mod_eq_of_lt h];omega
 have e2:IntKind.u64.wrap (Int.tdiv (((a*b:Nat):Int)) 4294967296)=0:=by
  rw[show(4294967296:Int)=((4294967296:Nat):Int) from rfl,show Int.tdiv ((a*b:Nat):Int) ((4294967296:Nat):Int)=((a*b/4294967296:Nat):Int) from rfl,Nat.div_eq_of_lt h]
  decide
 rw[e1,e2,w1]
 have s1:([(0:Int),0]).set (0:Int).toNat ((a*b:Nat):Int)= [((a*b:Nat):Int),0]:=rfl
 rw[s1]
 refine Tells.shift ?_
 simp only[r01_Mul.l1,wl]
 refine Tells.neg (by simp) (Tells.pos (by decide) (Tells.pos (by simp) ?_))
 have s2:([((a*b:Nat):Int),0]).set (1:Int).toNat ((0:Int)%4294967296)= [((a*b:Nat):Int),0]:=rfl
 rw[s2,w1]
 refine Tells.shift ?_
 simp only[r01_Mul.l0]
 refine Tells.neg (by simp) (Tells.bind (a:= [((a*b:Nat):Int)]) ⟨0,fun _ _=> ?_⟩ Tells.now)
 unfold r01_Trim.f
 rw[if_pos (by simp),short2 _ hpos]
theorem rof1 (a:Nat) (h:1≤a) (h2:a<4294967296):r01_Of.f (IntKind.u64.wrap (a:Int))=some [(a:Int)]:=by
 rw[u64w a (by omega)]
 unfold r01_Of.f r01_Trim.f
 have e1:Int.tmod (a:Int) 4294967296%4294967296=a:=by
  rw[show(4294967296:Int)=((4294967296:Nat):Int) from rfl,show Int.tmod (a:Int) ((4294967296:Nat):Int)=((a%4294967296:Nat):Int) from rfl,Nat.mod_eq_of_lt h2];omega
 have e2:IntKind.u64.wrap (Int.tdiv (a:Int) 4294967296)%4294967296=0:=by
  rw[show(4294967296:Int)=((4294967296:Nat):Int) from rfl,show Int.tdiv (a:Int) ((4294967296:Nat):Int)=((a/4294967296:Nat):Int) from rfl,Nat.div_eq_of_lt h2]
  decide
 rw[e1,e2,if_pos (by simp),short2 a h];rfl
def prodS (l:List S56):Nat:=(l.map (fun x=>x.f1.length)).foldl (· *·) 1
theorem prodS_take (l:List S56) (i:Nat) (h:i<l.length):prodS (l.take (i+1))=prodS (l.take i)*l[i].f1.length:=by
 rw[List.take_succ_eq_append_getElem h];simp only[prodS,List.map_append,List.foldl_append,List.map_cons,List.map_nil,List.foldl_cons,List.foldl_nil]
theorem prodS_le {l:List S56} (h:∀x∈l,1≤x.f1.length∧x.f1.length≤6):∀i:Nat,i≤l.length→1≤prodS (l.take i)∧prodS (l.take i)≤6^i
 |0,_=>by simp[prodS]
 | i+1,hi=>by
  have ih:=prodS_le h i (by omega);have hx:=h _ (List.getElem_mem (show i<l.length by omega));rw[prodS_take l i (by omega)]
  exact⟨Nat.mul_pos ih.1 hx.1,by rw[Nat.pow_succ];exact Nat.mul_le_mul ih.2 hx.2⟩
theorem prodS_small {l:List S56} (h:∀x∈l,1≤x.f1.length∧x.f1.length≤6) (hl:l.length≤6) (i:Nat) (hi:i≤l.length):1≤prodS (l.take i)∧prodS (l.take i)≤46656:=by
 have:=prodS_le h i hi
 refine⟨this.1,Nat.le_trans this.2 ?_⟩
 have:6^i≤6^6:=Nat.pow_le_pow_right (by decide) (by omega)
 have e:(6:Nat)^6=46656:=by decide
 omega
theorem rsize_loop (n:Int) {l:List S56} (h:∀x∈l,1≤x.f1.length∧x.f1.length≤6) (hl:l.length≤6):∀(m i:Nat),i+m=l.length→Tells (fun k=>r30_Size.l0 k [((prodS (l.take i):Nat):Int)] (i:Int) n l) [((prodS l:Nat):Int)]
 | 0,i,hi=>by
  refine Tells.shift ?_;simp only[r30_Size.l0]
  refine Tells.neg (by omega) (Tells.now' ?_);rw[List.take_of_length_le (by omega)]
 | m+1,i,hi=>by
  have hil:i<l.length:=by omega
  have hx:=h _ (List.getElem_mem hil);have hp:=prodS_small h hl i (by omega);have e:=prodS_small h hl (i+1) (by omega);rw[prodS_take l i hil] at e
  refine Tells.shift ?_;simp only[r30_Size.l0,rd74_at hil]
  refine Tells.pos (by omega) (Tells.pos (by omega) (Tells.bind (a:= [(l[i].f1.length:Int)]) ⟨0,fun _ _=>rof1 _ hx.1 (by omega)⟩ (Tells.bind (rmul1 _ _ hp.1 hx.1 (by omega) (by omega) (by omega)) ?_)));rw[w64 (n:=(i:Int)+1) (by omega) (by omega),←prodS_take l i hil]
  exact rsize_loop n h hl m (i+1) (by omega)
theorem rsame_loop (x y:List Int) (hxy:x.length=y.length) (hl:x.length≤4611686018427387904):∀(m i:Nat),i+m=x.length→x.take i=y.take i→Tells (fun k=>r01_Same.l0 k x y (i:Int)) (decide (x=y))
 | 0,i,hi,ht=>by
  refine Tells.shift ?_;simp only[r01_Same.l0]
  refine Tells.neg (by omega) (Tells.now' ?_);rw[List.take_of_length_le (by omega),List.take_of_length_le (by omega)] at ht
  exact(dT ht).symm
 | m +1,i,hi,ht=>by
  refine Tells.shift ?_;simp only[r01_Same.l0,rd_ap]
  refine Tells.pos (by omega) (Tells.pos (by omega) (Tells.pos (by omega) ?_))
  by_cases e:ap x i=ap y i
  ·refine Tells.pos e ?_;rw[w64 (n:=(i:Int)+1) (by omega) (by omega)]
   exact rsame_loop x y hxy hl m (i+1) (by omega) ((take_succ_ap (by omega) (by omega)).2 ⟨ht,e⟩)
  ·refine Tells.neg e (Tells.now' ?_)
   refine(dF (fun h=>e ?_)).symm;rw[h]
theorem RSize_tells {m:Nat} {G:List Int→Prop} (hG:IsG m G) (e:m≤6):Tells (fun k=>r30_Size.f k (m:Int) (ZR m G)) [((prodS (ZR m G):Nat):Int)]:=by
 have w1:(1:Int)=IntKind.u64.wrap ((1:Nat):Int):=by decide
 have hcs:=chainP_small (n:=m) (G:=G) (fun p hp=>hG.pm hp)
 have hb:∀x∈ZR m G,1≤x.f1.length∧x.f1.length≤6:=by
  intro x hx;have h1:=hcs.2 x hx;obtain⟨c,_,_,h2⟩:=Yd hx;omega
 have e0:((prodS ((ZR m G).take 0):Nat):Int)=1:=by simp[prodS]
 unfold r30_Size.f
 refine Tells.bind (a:= [(1:Int)]) ⟨0,fun _ _=> ?_⟩ ?_
 ·have:=rof1 1 (by omega) (by omega)
  rwa [←w1] at this
 ·have:=rsize_loop (m:Int) hb (by omega) (ZR m G).length 0 (by omega)
  rw[e0] at this
  exact this
theorem RSame_tells (a:Int):Tells (fun k=>r01_Same.f k [a] [a]) true:=by
 unfold r01_Same.f
 exact Tells.pos rfl ((rsame_loop _ _ rfl (by simp) 1 0 (by simp) rfl).eq (by simp))
end Go.Proofs.YtjjlhbgpdncpcaaGreat.P.M
namespace Go.Proofs.YtjjlhbgpdncpcaaGreat.P
open Go.Shelf in
def sortFRen:Ren where
 f:=fun|6=>33|15=>59|14=>58|28=>84|29=>85|20=>76|21=>77|22=>78|23=>79|24=>80|25=>81|26=>82|27=>83|46=>99|47=>100|48=>101|49=>102|50=>103|57=>108|n=>n
 t:=fun|22=>32|24=>3|25=>73|3=>3|39=>97|0=>0|53=>65|55=>41|4=>4|46=>112|45=>111|50=>116|5=>5|9=>9|66=>129|70=>133|76=>137|77=>138|n=>n
 g:=fun n=>n
theorem sortFLays:SlLaysF.n6 Tryz.prog sortFRen where
 mixed:=by kernel_rfl
 f6:=⟨ "slices.SortFunc[[]int,int]",oD (by kernel_rfl),Tryz.func33.trans (congrArg some (by kernel_rfl))⟩
 f14:=⟨ "slices.pdqsortCmpFunc[int]",oD (by kernel_rfl),Tryz.func58.trans (congrArg some (by kernel_rfl))⟩
 f15:=Tryz.func59.trans (congrArg some (by kernel_rfl))
 f20:=⟨ "slices.insertionSortCmpFunc[int]",oD (by kernel_rfl),Tryz.func76.trans (congrArg some (by kernel_rfl))⟩
 f21:=⟨ "slices.heapSortCmpFunc[int]",oD (by kernel_rfl),Tryz.func77.trans (congrArg some (by kernel_rfl))⟩
 f22:=⟨ "slices.breakPatternsCmpFunc[int]",oD (by kernel_rfl),Tryz.func78.trans (congrArg some (by kernel_rfl))⟩
 f23:=⟨ "slices.choosePivotCmpFunc[int]",oD (by kernel_rfl),Tryz.func79.trans (congrArg some (by kernel_rfl))⟩
 f24:=⟨ "slices.reverseRangeCmpFunc[int]",oD (by kernel_rfl),Tryz.func80.trans (congrArg some (by kernel_rfl))⟩
 f25:=⟨ "slices.partialInsertionSortCmpFunc[int]",oD (by kernel_rfl),Tryz.func81.trans (congrArg some (by kernel_rfl))⟩
 f26:=⟨ "slices.partitionEqualCmpFunc[int]",oD (by kernel_rfl),Tryz.func82.trans (congrArg some (by kernel_rfl))⟩
 f27:=⟨ "slices.partitionCmpFunc[int]",oD (by kernel_rfl),Tryz.func83.trans (congrArg some (by kernel_rfl))⟩
 f28:=Tryz.func84.trans (congrArg some (by kernel_rfl))
 f29:=Tryz.func85.trans (congrArg some (by kernel_rfl))
 f46:=⟨ "slices.siftDownCmpFunc[int]",oD (by kernel_rfl),Tryz.func99.trans (congrArg some (by kernel_rfl))⟩
 f47:=Tryz.func100.trans (congrArg some (by kernel_rfl))
 f48:=Tryz.func101.trans (congrArg some (by kernel_rfl))
 f49:=⟨ "slices.medianAdjacentCmpFunc[int]",oD (by kernel_rfl),Tryz.func102.trans (congrArg some (by kernel_rfl))⟩
 f50:=⟨ "slices.medianCmpFunc[int]",oD (by kernel_rfl),Tryz.func103.trans (congrArg some (by kernel_rfl))⟩
 f57:=⟨ "slices.order2CmpFunc[int]",oD (by kernel_rfl),Tryz.func108.trans (congrArg some (by kernel_rfl))⟩
 t0:=Tryz.underlying0
 a0:=Tryz.isAgg0
 z0:=Tryz.sizeOf0
 v0:=Tryz.zeroValue0
 t3:=Tryz.underlying3
 a3:=Tryz.isAgg3
 z3:=Tryz.sizeOf3
 v3:=Tryz.zeroValue3
 t4:=Tryz.underlying4
 a4:=Tryz.isAgg4
 z4:=Tryz.sizeOf4
 v4:=Tryz.zeroValue4
 t5:=Tryz.underlying5
 a5:=Tryz.isAgg5
 z5:=Tryz.sizeOf5
 v5:=Tryz.zeroValue5
 t9:=Tryz.underlying9
 a9:=Tryz.isAgg9
 z9:=Tryz.sizeOf9
 v9:=Tryz.zeroValue9
 t22:=Tryz.underlying32
 a22:=Tryz.isAgg32
 z22:=Tryz.sizeOf32
 v22:=Tryz.zeroValue32
 a24:=Tryz.isAgg3
 z24:=Tryz.sizeOf3
 t25:=Tryz.underlying73
 a25:=Tryz.isAgg73
 z25:=Tryz.sizeOf73
 v25:=Tryz.zeroValue73
 t39:=Tryz.underlying97
 a39:=Tryz.isAgg97
 z39:=Tryz.sizeOf97
 v39:=Tryz.zeroValue97
 t45:=Tryz.underlying111
 a45:=Tryz.isAgg111
 z45:=Tryz.sizeOf111
 v45:=Tryz.zeroValue111
 t46:=Tryz.underlying112
 a46:=Tryz.isAgg112
 z46:=Tryz.sizeOf112
 v46:=Tryz.zeroValue112
 t50:=Tryz.underlying116
 a50:=Tryz.isAgg116
 z50:=Tryz.sizeOf116
 v50:=Tryz.zeroValue116
 t53:=Tryz.underlying65
 a53:=Tryz.isAgg65
 z53:=Tryz.sizeOf65
 v53:=Tryz.zeroValue65
 t55:=Tryz.underlying41
 a55:=Tryz.isAgg41
 z55:=Tryz.sizeOf41
 v55:=Tryz.zeroValue41
 t66:=Tryz.underlying129
 a66:=Tryz.isAgg129
 z66:=Tryz.sizeOf129
 v66:=Tryz.zeroValue129
 t70:=Tryz.underlying133
 a70:=Tryz.isAgg133
 z70:=Tryz.sizeOf133
 v70:=Tryz.zeroValue133
 t76:=Tryz.underlying137
 a76:=Tryz.isAgg137
 z76:=Tryz.sizeOf137
 v76:=Tryz.zeroValue137
 t77:=Tryz.underlying138
 a77:=Tryz.isAgg138
 z77:=Tryz.sizeOf138
 v77:=Tryz.zeroValue138
def sortL (l:List Int):List Int:=l.mergeSort (fun a b=>decide (a≤b))
theorem sortL_perm (l:List Int):(sortL l).Perm l:=List.mergeSort_perm _ _
theorem sortL_sorted (l:List Int):(sortL l).Pairwise (· ≤·):=by
 have:=List.pairwise_mergeSort (le:=fun a b:Int=>decide (a≤b)) (by intro a b c;simp;omega) (by intro a b;simp;omega) l
 exact this.imp (by intro a b h;simpa using h)
theorem sortL_unique {l r:List Int} (hp:r.Perm l) (hs:r.Pairwise (· ≤·)):r=sortL l:=
 (hp.trans (sortL_perm l).symm).eq_of_pairwise (fun a b _ _ h1 h2=>by omega) hs (sortL_sorted l)
theorem sortL_eq_self {l:List Int} (hs:l.Pairwise (· ≤·)):sortL l=l:=(sortL_unique (List.Perm.refl l) hs).symm
def insOne (a:Int):List Int→List Int
 | []=> [a]
 |b::l=>if a≤b then a::b::l else b::insOne a l
def insL:List Int→List Int
 | []=> []
 |a::l=>insOne a (insL l)
theorem insOne_perm (a:Int):∀l,(insOne a l).Perm (a::l)
 | []=>List.Perm.refl _
 | b::l=>by
  unfold insOne
  split
  ·exact List.Perm.refl _
  ·exact((insOne_perm a l).cons b).trans (List.Perm.swap a b l)
theorem insOne_sorted (a:Int):∀ {l:List Int},l.Pairwise (· ≤·)→(insOne a l).Pairwise (· ≤·)
 | [],_=>by simp[insOne]
 | b ::l,h=>by
  have h':=List.pairwise_cons.1 h;unfold insOne
  split
  ·rename_i hab
   refine List.pairwise_cons.2 ⟨fun x hx=> ?_,h⟩
   rcases List.mem_cons.1 hx with rfl|hx
   ·exact hab
   ·have:=h'.1 x hx;omega
  ·refine List.pairwise_cons.2 ⟨fun x hx=> ?_,insOne_sorted a h'.2⟩
   rcases List.mem_cons.1 ((insOne_perm a l).mem_iff.1 hx) with rfl|hx
   ·omega
   ·exact h'.1 x hx
theorem insL_perm:∀l,(insL l).Perm l
 | []=>List.Perm.refl _
 |a::l=>(insOne_perm a _).trans ((insL_perm l).cons a)
theorem insL_sorted:∀l,(insL l).Pairwise (· ≤·)
 | []=>by simp[insL]
 |a::l=>insOne_sorted a (insL_sorted l)
theorem insL_eq (l:List Int):insL l=sortL l:=sortL_unique (insL_perm l) (insL_sorted l)
open Go.Shelf in
def sortRen:Ren where
 f:=fun|189=>45|125=>59|257=>67|128=>84|129=>85|294=>90|295=>91|296=>92|297=>93|298=>94|299=>95|216=>96|300=>97|301=>98|328=>104|329=>100|330=>101|331=>105|332=>106|215=>107|343=>109|n=>n
 t:=fun|28=>32|3=>3|46=>97|0=>0|51=>65|53=>41|4=>4|183=>112|182=>111|131=>116|5=>5|9=>9|218=>129|222=>133|228=>137|229=>138|n=>n
 g:=fun n=>n
theorem sortLays:Lays.n189 Tryz.prog sortRen where
 mixed:=by kernel_rfl
 f125:=Tryz.func59.trans (congrArg some (by kernel_rfl))
 f128:=Tryz.func84.trans (congrArg some (by kernel_rfl))
 f129:=Tryz.func85.trans (congrArg some (by kernel_rfl))
 f189:=Tryz.func45.trans (congrArg some (by kernel_rfl))
 f215:=Tryz.func107.trans (congrArg some (by kernel_rfl))
 f216:=Tryz.func96.trans (congrArg some (by kernel_rfl))
 f257:=Tryz.func67.trans (congrArg some (by kernel_rfl))
 f294:=Tryz.func90.trans (congrArg some (by kernel_rfl))
 f295:=Tryz.func91.trans (congrArg some (by kernel_rfl))
 f296:=Tryz.func92.trans (congrArg some (by kernel_rfl))
 f297:=Tryz.func93.trans (congrArg some (by kernel_rfl))
 f298:=Tryz.func94.trans (congrArg some (by kernel_rfl))
 f299:=Tryz.func95.trans (congrArg some (by kernel_rfl))
 f300:=Tryz.func97.trans (congrArg some (by kernel_rfl))
 f301:=Tryz.func98.trans (congrArg some (by kernel_rfl))
 f328:=Tryz.func104.trans (congrArg some (by kernel_rfl))
 f329:=Tryz.func100.trans (congrArg some (by kernel_rfl))
 f330:=Tryz.func101.trans (congrArg some (by kernel_rfl))
 f331:=Tryz.func105.trans (congrArg some (by kernel_rfl))
 f332:=Tryz.func106.trans (congrArg some (by kernel_rfl))
 f343:=Tryz.func109.trans (congrArg some (by kernel_rfl))
 t0:=Tryz.underlying0
 a0:=Tryz.isAgg0
 z0:=Tryz.sizeOf0
 v0:=Tryz.zeroValue0
 t3:=Tryz.underlying3
 a3:=Tryz.isAgg3
 z3:=Tryz.sizeOf3
 v3:=Tryz.zeroValue3
 t4:=Tryz.underlying4
 a4:=Tryz.isAgg4
 z4:=Tryz.sizeOf4
 v4:=Tryz.zeroValue4
 t5:=Tryz.underlying5
 a5:=Tryz.isAgg5
 z5:=Tryz.sizeOf5
 v5:=Tryz.zeroValue5
 t9:=Tryz.underlying9
 a9:=Tryz.isAgg9
 z9:=Tryz.sizeOf9
 v9:=Tryz.zeroValue9
 t28:=Tryz.underlying32
 a28:=Tryz.isAgg32
 z28:=Tryz.sizeOf32
 v28:=Tryz.zeroValue32
 t46:=Tryz.underlying97
 a46:=Tryz.isAgg97
 z46:=Tryz.sizeOf97
 v46:=Tryz.zeroValue97
 t51:=Tryz.underlying65
 a51:=Tryz.isAgg65
 z51:=Tryz.sizeOf65
 v51:=Tryz.zeroValue65
 t53:=Tryz.underlying41
 a53:=Tryz.isAgg41
 z53:=Tryz.sizeOf41
 v53:=Tryz.zeroValue41
 t131:=Tryz.underlying116
 a131:=Tryz.isAgg116
 z131:=Tryz.sizeOf116
 v131:=Tryz.zeroValue116
 t182:=Tryz.underlying111
 a182:=Tryz.isAgg111
 z182:=Tryz.sizeOf111
 v182:=Tryz.zeroValue111
 t183:=Tryz.underlying112
 a183:=Tryz.isAgg112
 z183:=Tryz.sizeOf112
 v183:=Tryz.zeroValue112
 t218:=Tryz.underlying129
 a218:=Tryz.isAgg129
 z218:=Tryz.sizeOf129
 v218:=Tryz.zeroValue129
 t222:=Tryz.underlying133
 a222:=Tryz.isAgg133
 z222:=Tryz.sizeOf133
 v222:=Tryz.zeroValue133
 t228:=Tryz.underlying137
 a228:=Tryz.isAgg137
 z228:=Tryz.sizeOf137
 v228:=Tryz.zeroValue137
 t229:=Tryz.underlying138
 a229:=Tryz.isAgg138
 z229:=Tryz.sizeOf138
 v229:=Tryz.zeroValue138
open Go.Sort
theorem sort_big (m:Nat→Prop) (u:Value) (l0:List Int) (w0 w:World) (hl:0<l0.length) (hsz:l0.length<4611686018427387904) (hB:Below w0.heap.size w0 w) (ho0:Kd.R (Kd.int .i64) 3 w w0.heap.size m u l0):
    Calls Tryz.prog 45 #[u] w fun e w'=>e= .returned (.tuple #[])∧Kd.R (Kd.int .i64) 3 w' w0.heap.size (fun k_=>(m k_∨w.heap.size≤k_)) u (sortL l0)∧Below w0.heap.size w0 w'∧Kept w w' (fun k_=>m k_):=by
 have hP:=ho0.1
 have ho:=Kd.own_of_R ho0
 obtain⟨hlen,h0|⟨g,cap,cur,rfl,hbg,hheap,hn,hcap,hsz',htake⟩⟩:=ho
 ·omega
 have hH:=Go.holds_of_blockI hheap (ss:=l0) (by rw[Nat.mul_one] at htake;exact htake)
 have hlt:g<w.heap.size:=(Array.getElem?_eq_some_iff.1 hheap).1
 refine(Any.slices_Sort_int sortLays g 0 cap l0 w hH hlt hsz).mono ?_
 rintro e w' ⟨rfl,n,os,rfl⟩
 have hln:(sortL l0).length=l0.length:=(sortL_perm l0).length_eq
 have hown:=Go.ownsRow_sortedI (n:=n) (os:=os) (ts:=sortL l0) (ss:=l0) hln hbg hheap hn hcap hsz'
 have hg:=Go.grownBy_sortedI (w:=w) (g:=g) (n:=n) (os:=os) (sortL l0).toArray
 have hPg:m g:=hP g rfl
 refine⟨rfl,Kd.R_of_own (by rw[hln];exact hown) (fun k hk=> .inl (hP k hk)),hB.grown hg hB.size (fun k hk=>by injection hk with hk;omega),⟨hg.size,fun i hi hs=>hg.block i hi (fun e_=>hs (by injection e_ with e_;rw[e_];exact hPg))⟩⟩
open Go.Shelf in
def lenRen:Ren where
 f:=fun|125=>59|128=>84|129=>85|n=>n
 t:=fun|46=>97|51=>65|53=>41|n=>n
 g:=fun n=>n
theorem lenLays:Lays.n125 Tryz.prog lenRen where
 mixed:=by kernel_rfl
 f125:=Tryz.func59.trans (congrArg some (by kernel_rfl))
 f128:=Tryz.func84.trans (congrArg some (by kernel_rfl))
 f129:=Tryz.func85.trans (congrArg some (by kernel_rfl))
 t3:=Tryz.underlying3
 a3:=Tryz.isAgg3
 z3:=Tryz.sizeOf3
 v3:=Tryz.zeroValue3
 t4:=Tryz.underlying4
 a4:=Tryz.isAgg4
 z4:=Tryz.sizeOf4
 v4:=Tryz.zeroValue4
 t5:=Tryz.underlying5
 a5:=Tryz.isAgg5
 z5:=Tryz.sizeOf5
 v5:=Tryz.zeroValue5
 t9:=Tryz.underlying9
 a9:=Tryz.isAgg9
 z9:=Tryz.sizeOf9
 v9:=Tryz.zeroValue9
 t46:=Tryz.underlying97
 a46:=Tryz.isAgg97
 z46:=Tryz.sizeOf97
 v46:=Tryz.zeroValue97
 t51:=Tryz.underlying65
 a51:=Tryz.isAgg65
 z51:=Tryz.sizeOf65
 v51:=Tryz.zeroValue65
 t53:=Tryz.underlying41
 a53:=Tryz.isAgg41
 z53:=Tryz.sizeOf41
 v53:=Tryz.zeroValue41
theorem bits_Len.calls (x:Int) (w:World) (h0:0≤x) (h1:x≤18446744073709551615):
    Calls Tryz.prog 59 #[.int .u64 x] w fun e w'=>e= .returned (.int .i64 (Lib.bitLen x.toNat))∧w'=w:=Any.bits_Len lenLays x w h0 h1
theorem ins0.calls (u:Value) (w:World):Calls Tryz.prog 90 #[u,.int .i64 0,.int .i64 0] w fun e w'=>e= .returned (.tuple #[])∧w'=w:=by
 go_enter Tryz.func90,Tryz.ntmps90
 go_wp2
 go_loopg [6] 1 (fun kq v6 w'=>v6= .int .i64 1∧w'=w)
 case atStart=>exact⟨rfl,rfl⟩
 case round=>
  obtain⟨rfl,rfl⟩:=hrel;go_wp2
  first|go_end0|((try simp only[Exit.inBlock,Exit.then]);refine bodyPost_ret (results_none rfl _ _ _) rfl ?_)
  exact⟨rfl,rfl⟩
theorem pdq0.calls (u:Value) (lim:Int) (w:World):Calls Tryz.prog 67 #[u,.int .i64 0,.int .i64 0,.int .i64 lim] w fun e w'=>e= .returned (.tuple #[])∧w'=w:=by
 go_enter Tryz.func67,Tryz.ntmps67
 go_wp2
 go_loopg [1,2,3,8,9] 1 (fun kq v1 v2 v3 v8 v9 w'=>v1= .int .i64 0∧v2= .int .i64 0∧v3= .int .i64 lim∧v8= .bool true∧v9= .bool true∧w'=w)
 case atStart=>exact⟨rfl,rfl,rfl,rfl,rfl,rfl⟩
 case round=>
  obtain⟨rfl,rfl,rfl,rfl,rfl,rfl⟩:=hrel
  go_wp2_with (first
   |(go_at_call 90;(with_reducible refine(ins0.calls u _).mono ?_);rintro e w1 ⟨rfl,rfl⟩))
  first|go_end0|((try simp only[Exit.inBlock,Exit.then]);refine bodyPost_ret (results_none rfl _ _ _) rfl ?_)
  exact⟨rfl,rfl⟩
def slSort.f (l0:List Int):Option (List Int):=if l0.length<4611686018427387904 then some (insL l0) else none
theorem slSort.calls (o:Nat→Prop) (m:Value) (l0:List Int) (r:List Int) (w0 w:World) (hB:Below w0.heap.size w0 w) (ho0:Kd.R (Kd.int .i64) 3 w w0.heap.size o m l0) (h:slSort.f l0=some r):
    Calls Tryz.prog 45 #[m] w fun e w'=>e= .returned (.tuple #[])∧Kd.R (Kd.int .i64) 3 w' w0.heap.size (fun k_=>(o k_∨w.heap.size≤k_)) m r∧Below w0.heap.size w0 w'∧Kept w w' (fun k_=>o k_):=by
 have hq:l0.length<4611686018427387904∧sortL l0=r:=by
  unfold slSort.f at h;rw[insL_eq] at h
  split at h
  ·exact⟨by assumption,oI h⟩
  ·cases h
 obtain⟨hl',rfl⟩:=hq
 by_cases hz:0<l0.length
 ·exact sort_big o m l0 w0 w hz hl' hB ho0
 have h0:l0= []:=by cases l0 with
  |nil=>rfl
  |cons a l=>simp at hz
 subst h0
 have hK:Kd.R (Kd.int .i64) 3 w w0.heap.size (fun k_=>(o k_∨w.heap.size≤k_)) m (sortL []):=by
  rw[sortL_eq_self List.Pairwise.nil]
  exact Kd.R_mono ho0 (fun k hk=> .inl hk)
 have HK:=aM hK
 have HB:=aM hB
 obtain⟨A,c,rfl⟩:=Kd.R_slice ho0
 clear ho0 hB h hK hz hl'
 go_enter Tryz.func45,Tryz.ntmps45
 go_wp2_with (first
  |(go_at_call 59;(with_reducible refine(bits_Len.calls _ _ ?s1 ?s2).mono ?_);(case s1=>decide);(case s2=>decide);rintro e w1 ⟨rfl,rfl⟩)
  |(go_at_call 67;(with_reducible refine(pdq0.calls _ _ _).mono ?_);rintro e w1 ⟨rfl,rfl⟩))
 go_end0
 exact⟨rfl,HK.out,HB.out,Kept.refl _ _⟩
open Go.Sort Go.Shelf
set_option maxHeartbeats 8000000 in
set_option maxRecDepth 100000 in
theorem cmp_calls (x y:Int) (bp bl:Nat) (A0:Option Addr) (c0:Nat) (p:List Int) (A1:Option Addr) (c1:Nat) (o:List Int) (w:World)
    (hp:w.cell? ⟨bp,0,none⟩=some (.slice A0 p.length c0)) (hl:w.cell? ⟨bl,1,none⟩=some (.slice A1 o.length c1))
    (m:Kd.C (Kd.int .i64) w A0 p.length p) (z:Kd.C (Kd.int .i64) w A1 o.length o)
    (x0:0≤x) (x1:x<(o.length:Int)) (y0:0≤y) (y1:y<(o.length:Int))
    (u0:0≤rd o x) (u1:rd o x<(p.length:Int)) (v0:0≤rd o y) (v1:rd o y<(p.length:Int)):
    Calls Tryz.prog 34 #[.int .i64 x,.int .i64 y,.pointer (some ⟨bp,0,none⟩),.pointer (some ⟨bl,0,none⟩)] w fun e w'=>e= .returned (.int .i64 (wrap64 (rd p (rd o x)-rd p (rd o y))))∧∃q,w'=w.drewN q:=by
 obtain⟨D,e1,J⟩:=Kd.at_int z x x0 x1
 obtain⟨ad1',e1',O⟩:=Kd.at_int z y y0 y1
 cases e1;cases e1'
 obtain⟨B,e0,I⟩:=Kd.at_int m (rd o x) u0 u1
 obtain⟨ad0',e0',L⟩:=Kd.at_int m (rd o y) v0 v1
 cases e0;cases e0'
 clear m z
 replace x0:=eq_true x0
 replace x1:=eq_true x1
 replace y0:=eq_true y0
 replace y1:=eq_true y1
 replace u0:=eq_true u0
 replace u1:=eq_true u1
 replace v0:=eq_true v0
 replace v1:=eq_true v1
 go_enter Tryz.func34,Tryz.ntmps34
 go_wp2
 go_quiet (fail)
 go_wp2
 go_ret
 exact⟨rfl,_,rfl⟩
def encF {K:Nat} (i:Fin K):Value:= .int .i64 (i.val:Int)
def valF {K:Nat} (i:Fin K):Int:=(i.val:Int)
theorem putRow_fin {K:Nat} [Inhabited (Fin K)] (w:World) (g:Nat) (d:Array (Fin K)):Go.Sort.putRow encF w g 0 d=Go.Sort.putRow (Value.int .i64) w g 0 (d.map valF):=by
 unfold Go.Sort.putRow Go.Sort.putCells
 congr 1
 funext c
 refine congrArg (fun f=>Array.mapIdx f c) (funext fun k=>funext fun x=> ?_)
 simp only[Array.size_map,Nat.zero_le,true_and,Nat.zero_add,Nat.sub_zero]
 by_cases h:k<d.size
 ·rw[if_pos h,if_pos h,getElem!_pos d k h,getElem!_pos _ k (by rw[Array.size_map];exact h),Array.getElem_map];rfl
 rw[if_neg h,if_neg h]
theorem fin_of {K:Nat} :∀ {l:List Int},(∀x∈l,0≤x∧x<(K:Int))→∃d:List (Fin K),d.map valF=l
 | [],_=>⟨[],rfl⟩
 | x::l,h=>by
  have hx:=h x (List.mem_cons_self ..);obtain⟨d,hd⟩:=fin_of (l:=l) (fun y hy=>h y (List.mem_cons_of_mem _ hy))
  refine⟨⟨x.toNat,by omega⟩::d,?_⟩;rw[List.map_cons,hd]
  exact congrArg (fun y=>y::l) (show((x.toNat:Nat):Int)=x by omega)
theorem rd_in {l:List Int} {i:Int} (h0:0≤i) (h1:i<(l.length:Int)):rd l i∈l:=by
 have h:i.toNat<l.length:=by omega
 have:rd l i=l[i.toNat]:=by show l.getD i.toNat 0=_;rw[List.getD_eq_getElem?_getD,List.getElem?_eq_getElem h];rfl
 rw[this];exact List.getElem_mem h
theorem sortF_calls (u:Value) (l0:List Int) (bp bl:Nat) (A0:Option Addr) (c0:Nat) (p:List Int) (A1:Option Addr) (c1:Nat) (o:List Int) (w0 w:World)
    (hl:0<l0.length) (X:l0.length≤12) (hB:Below w0.heap.size w0 w) (ho0:Kd.R (Kd.int .i64) 3 w w0.heap.size (fun k=>w0.heap.size≤k) u l0)
    (hin:∀x∈l0,0≤x∧x<(o.length:Int))
    (hp:w0.cell? ⟨bp,0,none⟩=some (.slice A0 p.length c0)) (hlv:w0.cell? ⟨bl,1,none⟩=some (.slice A1 o.length c1))
    (L:Kd.C (Kd.int .i64) w0 A0 p.length p) (O:Kd.C (Kd.int .i64) w0 A1 o.length o)
    (hor:∀x∈o,0≤x∧x<(p.length:Int)) (hpr:∀x∈p,0≤x∧x<4611686018427387904):
    Calls Tryz.prog 33 #[u,.func (.func 34) #[] #[.pointer (some ⟨bp,0,none⟩),.pointer (some ⟨bl,0,none⟩)]] w fun e w'=>e= .returned (.tuple #[])∧
     ∃l':List Int,l'.Perm l0∧l'.Pairwise (fun x y=>rd p (rd o x)≤rd p (rd o y))∧Kd.R (Kd.int .i64) 3 w' w0.heap.size (fun k=>w0.heap.size≤k) u l'∧Below w0.heap.size w0 w'∧Kept w w' (fun k=>w0.heap.size≤k):=by
 have hP:=ho0.1
 have ho:=Kd.own_of_R ho0
 obtain⟨hlen,h0|⟨g,cap,cur,rfl,hbg,hheap,hn,hcap,hsz',htake⟩⟩:=ho
 ·omega
 have hK:0<o.length:=by
  cases l0 with
  |nil=>simp at hl
  |cons x l=>have:=hin x (List.mem_cons_self ..);omega
 letI:Inhabited (Fin o.length):=⟨⟨0,hK⟩⟩
 obtain⟨d,hd⟩:=fin_of hin
 have hdl:d.length=l0.length:=by rw[←hd,List.length_map]
 have J:=Go.holds_of_blockI hheap (ss:=l0) (by rw[Nat.mul_one] at htake;exact htake)
 have hH:Go.Sort.Holds encF w g 0 d.toArray:=by
  intro j hj;have hj':j<d.length:=by simpa using hj
  have h1:=J j (by simpa[←hdl] using hj')
  have e:encF d.toArray[j]! =Value.int .i64 l0.toArray[j]! :=by
   rw[getElem!_pos d.toArray j hj,getElem!_pos l0.toArray j (by simpa[←hdl] using hj')];simp only[List.getElem_toArray];have:l0[j]'(by omega)=valF d[j]:=by simp only[←hd,List.getElem_map]
   rw[this];rfl
  rw[e];exact h1
 have hlt:g<w.heap.size:=(Array.getElem?_eq_some_iff.1 hheap).1
 have key:∀i:Fin o.length,0≤rd p (rd o (valF i))∧rd p (rd o (valF i))<4611686018427387904∧0≤rd o (valF i)∧rd o (valF i)<(p.length:Int)∧0≤valF i∧valF i<(o.length:Int):=fun i=>by
  have hi:0≤valF i∧valF i<(o.length:Int):=⟨by unfold valF;omega,by unfold valF;omega⟩;have h1:=hor _ (rd_in hi.1 hi.2);have h2:=hpr _ (rd_in h1.1 h1.2)
  exact⟨h2.1,h2.2,h1.1,h1.2,hi.1,hi.2⟩
 have hgr:∀(n:Nat) (dk:Array (Fin o.length)) (os:Array Obj),w.grownBy (sortWorld encF w g 0 n dk os) (some g):=fun n dk os=>by
  unfold sortWorld;rw[putRow_fin];exact Go.grownBy_sortedI _
 have B:∀ {a:Addr} {v:Value},w0.cell? a=some v→a.block<w0.heap.size:=fun h=>wB _ _ h
 have eg:∀args w,(callFunc 34 args).run Tryz.prog w= .ok (.enter 34 args) w:=enters_of Tryz.func34 (by kernel_rfl) rfl
 have hcf:∀x y:Fin o.length,ltOf (fun i j=>wrap64 (rd p (rd o (valF i))-rd p (rd o (valF j)))) x y=decide (rd p (rd o (valF x))<rd p (rd o (valF y))):=fun x y=>by
  have hx:=key x;have hy:=key y;have e:wrap64 (rd p (rd o (valF x))-rd p (rd o (valF y)))=rd p (rd o (valF x))-rd p (rd o (valF y)):=by unfold wrap64;omega
  show decide (wrap64 (rd p (rd o (valF x))-rd p (rd o (valF y)))<0)=_
  rw[e]
  exact decide_eq_decide.2 ⟨fun h=>by omega,fun h=>by omega⟩
 have hS:SWO (ltOf (fun i j:Fin o.length=>wrap64 (rd p (rd o (valF i))-rd p (rd o (valF j))))):=by
  refine⟨fun x=> ?_,fun x y z h1 h2=> ?_,fun x y z h1 h2=> ?_⟩
  ·rw[hcf];exact dF (by omega)
  ·rw[hcf] at h1 h2⊢;have h1:=oD h1;have h2:=oD h2
   exact dT (by omega)
  ·rw[hcf] at h1 h2⊢;have h1:=of_decide_eq_false h1;have h2:=of_decide_eq_false h2
   exact dF (by omega)
 have hcmp:CmpReads Tryz.prog 34 #[.pointer (some ⟨bp,0,none⟩),.pointer (some ⟨bl,0,none⟩)] encF (fun i j:Fin o.length=>wrap64 (rd p (rd o (valF i))-rd p (rd o (valF j)))) g 0 d.toArray.size w:=by
  intro m os dk hdk x y;have hg:=hgr m dk os;have hBW:=hB.grown hg hB.size (fun k hk=>by injection hk with hk;omega);have hx:=key x;have hy:=key y
  exact cmp_calls (valF x) (valF y) bp bl A0 c0 p A1 c1 o _ ((hBW.cell (B hp)).trans hp) ((hBW.cell (B hlv)).trans hlv) (Kd.C_below L hBW) (Kd.C_below O hBW) hx.2.2.2.2.1 hx.2.2.2.2.2 hy.2.2.2.2.1 hy.2.2.2.2.2 hx.2.2.1 hx.2.2.2.1 hy.2.2.1 hy.2.2.2.1
 have hds:d.toArray.size=l0.length:=by simp[hdl]
 have hcon:=Any.slices_SortFunc_small_sorted (P:=Tryz.prog) (ρ:=sortFRen) sortFLays encF (fun _=>rfl) (fun i j=>wrap64 (rd p (rd o (valF i))-rd p (rd o (valF j)))) hS 34 #[.pointer (some ⟨bp,0,none⟩),.pointer (some ⟨bl,0,none⟩)] g 0 cap d.toArray w eg hcmp hH (by omega) (fun n W hn=>(bits_Len.calls n W (by omega) (by omega)).mono fun _ _ ⟨he,hw⟩=>⟨⟨_,he⟩,hw⟩)
 rw[hds] at hcon
 refine Calls.mono hcon ?_
 rintro e w' ⟨rfl,d',n,I,U,rfl⟩
 have D:d'.size=l0.length:=by rw[I.1,hds]
 have hperm:(d'.toList.map valF).Perm l0:=by
  have h3:=I.2.2;rw[show d'.extract 0 l0.length=d' by rw[←D];simp,show d.toArray.extract 0 l0.length=d.toArray by rw[←hds];simp] at h3;rw[←hd]
  exact List.Perm.map valF h3
 have hsort:(d'.toList.map valF).Pairwise (fun x y=>rd p (rd o x)≤rd p (rd o y)):=by
  rw[List.pairwise_map,List.pairwise_iff_getElem];intro i j hi hj hij;have hj':j<d'.size:=by simpa using hj
  have hi':i<d'.size:=by omega
  have h4:=U i j (Nat.zero_le _) hij (by omega);rw[hcf,getElem!_pos d' i hi',getElem!_pos d' j hj'] at h4;have h5:=of_decide_eq_false h4;simp only[Array.getElem_toList];omega
 have hg:=hgr n d' #[]
 have hw:(Go.Sort.putRow encF w g 0 d').drewN n=sortWorld encF w g 0 n d' #[]:=(sortWorld_none encF w g 0 n d').symm
 rw[hw]
 have hln:(d'.toList.map valF).length=l0.length:=by simp[D]
 have hown:=Go.ownsRow_sortedI (n:=n) (os:= #[]) (ts:=d'.toList.map valF) (ss:=l0) hln hbg hheap hn hcap hsz'
 have hsw:sortWorld encF w g 0 n d' #[]=Go.Sort.grow (Go.Sort.putRow (Value.int .i64) (Go.Sort.ahead w n) g 0 (d'.toList.map valF).toArray) #[]:=by
  unfold sortWorld;rw[putRow_fin]
  congr 2
  apply Array.ext';simp
 rw[←hsw] at hown
 refine⟨rfl,d'.toList.map valF,hperm,hsort,Kd.R_of_own (by rw[hln];exact hown) (fun k hk=>hP k hk),hB.grown hg hB.size (fun k hk=>by injection hk with hk;omega),⟨hg.size,fun i hi hs=>hg.block i hi (fun e_=>hs (by injection e_ with e_;rw[e_];exact hbg))⟩⟩
end Go.Proofs.YtjjlhbgpdncpcaaGreat.P